/- Proved here: whetstonelaw12.LiftFrom returns true for every input, and each argument reads behind the call as it read before. Condition: the package variable math/bits.deBruijn32tab reads as the text lays it, which the card ties to the text. -/
import Derived.Test.YtjdckpeoinkafaaGreatDoorRows
import Derived.Test.YtjdckpeoinkafaaGreatDoorCards
import Derived.Test.YtjdckpeoinkafaaGreatDoorTie
import Derived.Test.YtjdckpeoinkafaaGreatDoorFwR
import Derived.ProofKit
import Derived.LaidMore
import Derived.OpenShut
import Derived.Carry
import Derived.Stop.Joined
import Derived.SevenTiedAt
import Derived.MakeChecks
set_option linter.all false
namespace Go.Proofs.YtjdckpeoinkafaaGreatDoor
open Go.ChangeShapes Go.WideShapes Go.ChangeAt Go.RowKit Wh
set_option maxRecDepth 100000
theorem own : ownKnob Tryz.prog.godebug = none := by kernel_rfl
theorem laidOut : laidOutB Tryz.prog = true := by kernel_rfl
theorem gTab : Tryz.prog.globalNamed "math/bits.deBruijn32tab" = some 0 := by kernel_rfl
theorem tTab : (Tryz.prog.globals[0]?).map (·.type) = some 173 := by kernel_rfl
theorem door_met (os : Os) (args : Array Value) : laidMetH Tryz.prog Rows.liftFromRow.laid ((World.doorLaid Tryz.prog 400 os).forCall (fun _ _ => 0) ⟨#[], args, []⟩).memory :=
  laidMetH_of_parts3 (fuel := 8) (laidMet_of_run' 8 (by kernel_rfl) (by kernel_rfl)) (by kernel_rfl) (by kernel_rfl)
theorem of_laid {W : World} (h : laidMetH Tryz.prog Rows.liftFromRow.laid W) : 0 < W.heap.size ∧ RowAt W ⟨0, 0, none⟩ tabV := by
  rw [MakeChecks.laidMetH_plain _ _ _ (by kernel_rfl)] at h
  obtain ⟨ps, ⟨g0, t0, cs0, f0, p0, q0, hg0, ht0, hv0, hd0, _, _⟩, _, _⟩ := h
  obtain rfl := Option.some.inj (gTab.symm.trans hg0)
  obtain rfl := Option.some.inj (tTab.symm.trans ht0)
  have hcs := laid_ints (k := .u8) (n := 32) (ds := (List.range 32).map WhS.tabN) Tryz.underlying173 Tryz.underlying5 (by kernel_rfl) (by kernel_rfl) hd0
  have hr : RowAt W ⟨0, 0, none⟩ tabV := by
    intro j u hj
    have := World.var?_cell hg0 hv0 j
    rw [add_of, Nat.zero_add, this, ← Array.getElem?_toList, hcs]
    simpa [tabV] using hj
  refine ⟨?_, hr⟩
  have h0 := hr 0 _ (tabV_at (i := 0) (by decide))
  rw [Addr.add_zero'] at h0
  unfold World.cell? at h0
  cases hh : W.heap[0]? with
  | none => rw [hh] at h0; simp at h0
  | some o => exact (Array.getElem?_eq_some_iff.1 hh).1
theorem rowL_of {W : World} {a : Option Addr} {l : List X} (h : l = [] ∨ ∃ a', a = some a' ∧ a'.block < W.heap.size ∧ RowAt W a' (rowOf X.val l)) : RowL W.heap.size W [] a l := by
  rcases h with h | ⟨a', h1, h2, h3⟩
  · exact .inl h
  · exact .inr ⟨a', h1, fun w' H' => RowAt.below h3 h2 H'⟩
theorem rowT_of {W : World} {a : Option Addr} {l : List T} (h : l = [] ∨ ∃ a', a = some a' ∧ a'.block < W.heap.size ∧ RowAt W a' (rowOf T.val l)) : RowT W.heap.size W [] a l := by
  rcases h with h | ⟨a', h1, h2, h3⟩
  · exact .inl h
  · exact .inr ⟨a', h1, fun w' H' => RowAt.below h3 h2 H'⟩
theorem lifted (os : Os) (started : os.Started) (H : Type) (enc : TypeId × Value → H) :
    ReturnsInHanded {} Tryz.checked os 4 .any (fun w args => (Rows.liftFromSpec.pre enc Tryz.prog Tryz.f4 [] false w args ∧ laidMetH Tryz.prog Rows.liftFromRow.laid w) ∧ sizedMet enc Tryz.prog Tryz.f4 (OpenSpec.ofChange Rows.liftFromSpec) false w args)
      (Rows.liftFromSpec.post enc Tryz.prog Tryz.f4 false true false false) := by
  refine returnsInHanded_of_change_and (C := Tryz.checked) (X := fun w _ => laidMetH Tryz.prog Rows.liftFromRow.laid w) (fun _ _ _ hh h => h.of_heap hh) own started (by kernel_rfl) Tryz.func4
    (ChangeSpec.witness_shaped (enc := enc) (C := Tryz.checked) (os := os) (X := fun w _ => laidMetH Tryz.prog Rows.liftFromRow.laid w) false (World.doorLaid Tryz.prog 400 os) #[.slice none 0 0, .agg (Array.replicate 32 (.int .i64 0)), .slice none 0 0] 8 rfl (World.shaped_of_RefB (by kernel_rfl) (by kernel_rfl)) (by kernel_rfl) (by kernel_rfl) (by kernel_rfl) (door_met os _)) ?_
  intro W base args ds gs before hval0 hW _ _ hL _
  have hval : ∀ (j : Nat) t v, Tryz.f4.params[j]? = some t → args[j]? = some v → Value.okWide Tryz.prog W .any base t v := hval0
  have hW' := hW
  obtain ⟨p, q, hA0, hV, rfl, hfz, hnd⟩ := hW
  have hA : DataW.TrodAll enc Tryz.prog W 0 (fun _ => true) true Tryz.f4.params.toList args.toList ds p := hA0
  rw [Tryz.params4] at hA hval
  obtain ⟨v0, vs0, d0, ds0, p0, q0, hargs, rfl, rfl, h0, r0⟩ := trodAll_cons hA
  obtain ⟨v1, vs1, d1, ds1, p1, q1, rfl, rfl, rfl, h1, r1⟩ := trodAll_cons r0
  obtain ⟨v2, vs2, d2, ds2, p2, q2, rfl, rfl, rfl, h2, r2⟩ := trodAll_cons r1
  obtain ⟨rfl, rfl, rfl⟩ := trodAll_nil r2
  obtain rfl : args = #[v0, v1, v2] := by cases args; simp_all
  obtain ⟨rfl, rfl⟩ := trodVars_none hV
  obtain ⟨hB, hG⟩ := of_laid hL
  clear hA0 hval0
  have k0 := h0
  have lt0 : ∀ x ∈ p0, x.block < W.heap.size := by obtain ⟨m, hm⟩ := k0; exact DataW.trod_lt m _ _ _ hm
  obtain ⟨a0, cap0, ls0, rfl, hcap0, hcm0, hkw0, hr0⟩ := open_slik (m := 3) (ks := [.i64, .u32, .i64, .i64, .i64]) Tryz.underlying22 (by kernel_rfl) (by kernel_rfl) (by decide) (hval 0 22 v0 rfl rfl) h0
  have k1 := h1
  have lt1 : ∀ x ∈ p1, x.block < W.heap.size := by obtain ⟨m, hm⟩ := k1; exact DataW.trod_lt m _ _ _ hm
  obtain ⟨ns1, rfl, hw1⟩ := open_ik (m := 4) (ks := (List.replicate 32 .i64)) (by kernel_rfl) (by kernel_rfl) (hval 1 32 v1 rfl rfl) h1
  have k2 := h2
  have lt2 : ∀ x ∈ p2, x.block < W.heap.size := by obtain ⟨m, hm⟩ := k2; exact DataW.trod_lt m _ _ _ hm
  obtain ⟨a2, cap2, ls2, rfl, hcap2, hcm2, hkw2, hr2⟩ := open_slik (m := 3) (ks := [.i64, .i64, .i64, .i64, .i64]) Tryz.underlying23 (by kernel_rfl) (by kernel_rfl) (by decide) (hval 2 23 v2 rfl rfl) h2
  obtain ⟨l0, hl0, hlk0⟩ := ops_of hkw0
  obtain rfl := hl0
  have hr0 := ops_row hr0
  rw [List.length_map] at hcap0 k0 hW' ⊢
  obtain ⟨l2, hl2, hlk2⟩ := insts_of hkw2
  obtain rfl := hl2
  have hr2 := insts_row hr2
  rw [List.length_map] at hcap2 k2 hW' ⊢
  have e1 : Value.agg (iv (List.replicate 32 .i64) ns1).toArray = .agg (vI ns1) := by rw [iv_rep _ _ _ (by simpa using hw1.len)]; rfl
  rw [e1] at k1 hW' ⊢
  have hcall := from_law (cap := cap0) (xs := ns1) hB hG (rowT_of hr0) (ops_v hlk0) (rowL_of hr2) hcap2 hcm2 (by have := hw1.len; simpa using this) (Hp.refl W)
  refine (hcall).mono fun e W' ⟨he, hH⟩ => ?_
  subst he
  have bel := hH.bel
  exact ⟨_, rfl, _, _, _, [], _, [], hW', trodAll_mk1 (shut_bool Tryz.underlying4 _), (trodAll_cons_mk (Below.trod laidOut (by kernel_rfl) (of_decide_eq_true (by kernel_rfl)) k0 bel lt0) (trodAll_cons_mk (Below.trod laidOut (by kernel_rfl) (of_decide_eq_true (by kernel_rfl)) k1 bel lt1) (trodAll_cons_mk (Below.trod laidOut (by kernel_rfl) (of_decide_eq_true (by kernel_rfl)) k2 bel lt2) trodAll_mk0))), rfl, bel.frame _, fun h => by cases h⟩
theorem liftFrom_row : Rows.LiftFromSaid :=
  OpenClaim.holds_of_wide 4 Tryz.f4 rfl rfl rfl rfl rfl rfl rfl ⟨rfl, rfl, rfl, rfl, rfl⟩ rfl rfl rfl rfl rfl (by kernel_rfl) Tryz.func4 (by kernel_rfl)
    (of_decide_eq_true (by kernel_rfl)) (by unfold Func.isWrapper; first | (rw [if_pos (by decide +kernel)]; kernel_rfl) | (rw [if_neg (by decide +kernel)]; exact ⟨rfl, rfl⟩))
    (fun os started H enc _ => lifted os started H enc)
/-- the card -/
theorem liftFrom_holds : Rows.LiftFromCardSaid :=
  Claim7.holds_tied_plain_at .later [] [.data] true (true, Rows.liftFromCard.stood.harness.2) Rows.liftFromCard.stood.looks
    liftFrom_row (fun _ h => by cases h) (by kernel_rfl) (fun _ h => by cases h) liftFrom_row_tie rfl ⟨rfl, rfl⟩ (by kernel_rfl) rfl
    (fun f fn hf hfn => by
      obtain rfl : f = 4 := Option.some.inj ((show Tryz.prog.funcNamed "whetstone/whetstonelaw12.LiftFrom" = some 4 by kernel_rfl).symm.trans hf) |>.symm
      obtain rfl : fn = Tryz.f4 := (Option.some.inj (Tryz.func4.symm.trans hfn)).symm
      exact ⟨by kernel_rfl, fun j t ht => by
        rw [Tryz.params4] at ht
        have hm : t ∈ [22, 32, 23] := by simpa using Array.mem_of_getElem? ht
        have hall : ([22, 32, 23].all fun u => !Tryz.prog.wantsStandIn u) = true := by kernel_rfl
        exact (show Tryz.prog.wantsStandIn t = false by simpa using List.all_eq_true.1 hall t hm)⟩)
    (by kernel_rfl)
#print axioms liftFrom_holds
end Go.Proofs.YtjdckpeoinkafaaGreatDoor
