/- A part of the walk through the code: contracts of functions, printed by a program of the prover. -/
import Derived.Test.YtjdckpeoinkafaaGreatDoorSp
import Derived.Test.YtjdckpeoinkafaaGreatDoorTerm
set_option linter.all false
namespace Wh
open Go Go.Proofs
set_option maxRecDepth 100000
theorem rowAt_blk {B : Nat} {w0 w : World} {L : List Ck} {g : Nat} {bt : TypeId} {cs : Array Value} {mk : Array Value → List Ck} (H : Hp B w0 w L) (hb : HasB L g bt cs mk := by infer_instance) : RowAt w ⟨g, 0, none⟩ cs.toList := by
  intro j u hj
  rw [add_of, Nat.zero_add, cell_of_blk (H.getB (h := hb))]
  simpa using hj
theorem among_spec (w : World) (a : Addr) (cap : Nat) (op : Int) (l : List Int) (hr : RowAt w a (rowOf i64v l)) (hl : l.length < 1073741824) : Calls Tryz.prog 98 #[.int .i64 op, .slice (some a) l.length cap] w fun e w' => e = .returned (.bool (WhS.among op l)) ∧ w' = w := by
  refine calls_go Tryz.func98 Tryz.ntmps98 rfl rfl ?_
  refine TW.seq ?_
  refine TW.region ?_
  refine LW.v (r_as) ?_
  refine LW.nil ?_
  refine TW.seq <| TW.seq ?_
  refine TW.region ?_
  refine LW.v (r_mv) ?_
  refine LW.v (r_len) ?_
  refine LW.v (r_mv) ?_
  refine LW.nil ?_
  refine TW.block ?_
  refine TW.lp (σ := Nat) (fun i w' => w' = w ∧ i ≤ l.length ∧ ∀ j, j < i → l[j]? ≠ some op) (fun i => [(9, .int .i64 (i : Int)), (7, .slice (some a) l.length cap), (8, .int .i64 l.length), (0, .int .i64 op)]) (fun i => l.length - i) (0) (⟨rfl, by omega, fun j hj => absurd hj (by omega)⟩) (⟨rfl, rfl, rfl, rfl, trivial⟩) ?_
  rintro i f w ⟨rfl, hi, hn⟩ again
  refine TW.seq ?_
  refine TW.region ?_
  refine LW.v (r_bin) ?_
  refine LW.nil ?_
  refine TW.seq ?_
  refine TW.c rfl (fun hb => ?_) (fun hb => ?_)
  · have hi2 : i < l.length := by simpa using hb
    have hg : l[i]? = some l[i] := List.getElem?_eq_getElem hi2
    refine TW.skip <| TW.seq <| TW.block <| TW.seq ?_
    refine TW.region ?_
    refine LW.v (r_iaS (h0 := by omega) (h1 := by omega)) ?_
    refine LW.v (r_ldR1 (i := i) (enc := i64v) hr hg (fun _ => rfl)) ?_
    refine LW.v (r_as) ?_
    refine LW.nil ?_
    refine TW.seq ?_
    refine TW.region ?_
    refine LW.v (r_mv) ?_
    refine LW.v (r_mv) ?_
    refine LW.v (r_bin) ?_
    refine LW.nil ?_
    refine TW.c rfl (fun hb => ?_) (fun hb => ?_)
    · refine TW.seq ?_
      refine TW.region ?_
      refine LW.v (r_as) ?_
      refine LW.nil ?_
      refine TW.ret (ret1 (by rfl) rT ?_)
      have he : l[i] = op := by simpa using hb
      have : WhS.among op l = true := by simp [WhS.among]; exact he ▸ List.getElem_mem hi2
      exact ⟨by rw [this], rfl⟩
    · refine TW.skip <| TW.inBlock ?_
      refine TW.region ?_
      first | refine LW.v (r_add (hk := w64 (by omega) (by omega))) ?_ | refine LW.v (r_bin) ?_
      refine LW.v (r_mv) ?_
      refine LW.nil ?_
      have he : ¬ l[i] = op := by simpa using hb
      exact again (i + 1) _ _ ⟨rfl, by omega, fun j hj => by
        by_cases e : j = i
        · subst e; rw [hg]; simpa using he
        · exact hn j (by omega)⟩ ⟨rfl, rfl, rfl, rfl, trivial⟩ (by omega)
  · refine TW.exit rfl <| TW.seq ?_
    refine TW.region ?_
    refine LW.v (r_as) ?_
    refine LW.nil ?_
    refine TW.ret (ret1 (by rfl) rT ?_)
    have hi2 : i = l.length := by have : ¬ i < l.length := by simpa using hb
                                  omega
    have : WhS.among op l = false := by
      simp only [WhS.among, List.contains_eq_mem, decide_eq_false_iff_not]
      intro hm
      obtain ⟨j, hj, e⟩ := List.getElem_of_mem hm
      exact hn j (by omega) (by rw [List.getElem?_eq_getElem hj, e])
    exact ⟨by rw [this], rfl⟩
theorem known_spec (B : Nat) (w0 w : World) (L : List Ck) (p : Nat) (D : List T) (c : Ck) (hc : DagC p D c) (n : Int) (H : Hp B w0 w (c :: L)) : Calls Tryz.prog 97 #[.pointer (some ⟨p, 0, none⟩), .int .i64 n] w fun e w' => e = .returned (.tuple #[.int .u32 (WhS.known D n).1, .bool (WhS.known D n).2]) ∧ Hp B w0 w' (c :: L) := by
  refine calls_go Tryz.func97 Tryz.ntmps97 rfl rfl ?_
  refine TW.seq ?_
  refine TW.region ?_
  refine LW.v (r_as) ?_
  refine LW.v (r_as) ?_
  refine LW.nil ?_
  refine TW.seq ?_
  refine TW.region ?_
  refine LW.v (r_mv) ?_
  refine LW.v (r_mv) ?_
  refine LW.c r_c2 ((node_at p D n hc H).mono ?_)
  rintro _ w ⟨rfl, H⟩
  refine ⟨_, rfl, ?_⟩
  refine LW.v (r_mv) ?_
  refine LW.v (r_ext) ?_
  refine LW.v (r_ext) ?_
  refine LW.new (r_al H) ?_; intro g6 w H
  refine LW.sto (r_stW H) ?_; intro w H
  refine LW.v (r_as) ?_
  refine LW.nil ?_
  refine TW.seq ?_
  refine TW.draw [(0, some 0), (1, some 0), (2, some 0), (3, some 0), (4, some 0), (5, some 0), (6, some 0)] [] hmix (by kernel_rfl) (fun _ _ _ _ _ h => h) H (fun m w => (m = 0 → Hp _ _ w _)) (fun _ h _ => h) ?_
  intro w H
  refine DW.v (by rfl) (Quiet.y (fun _ _ => r_fa)) ?_
  refine DW.hm (by rfl) (Quiet.y (fun _ h => r_ld (h rfl))) ?_
  refine DW.v (by rfl) (Quiet.y (fun _ _ => r_fa)) ?_
  refine DW.hm (by rfl) (Quiet.y (fun _ h => r_ld (h rfl))) ?_
  refine DW.v (by rfl) (Quiet.y (fun _ _ => r_bin)) ?_
  refine DW.v (by rfl) (Quiet.y (fun _ _ => r_as)) ?_
  refine DW.v (by rfl) (Quiet.y (fun _ _ => r_as)) ?_
  refine DW.nil (fun _ => ?_)
  refine TW.ret (ret2 (by rfl) rT rT ?_)
  exact ⟨by first | rfl | (simp [WhS.known]; done) | (exfalso; omega), by first | exact H | exact H.drop | exact H.drop.drop⟩
theorem known_at {B : Nat} {w0 w : World} {Ls : List Ck} {c : Ck} {mk : Ck → List Ck} (p : Nat) (D : List T) (n : Int) (hc : DagC p D c) (H : Hp B w0 w Ls) (hb : HasC Ls c mk := by infer_instance) :
    Calls Tryz.prog 97 #[.pointer (some ⟨p, 0, none⟩), .int .i64 n] w fun e w' => e = .returned (.tuple #[.int .u32 (WhS.known D n).1, .bool (WhS.known D n).2]) ∧ Hp B w0 w' (mk c) := by
  obtain ⟨R, H1, back⟩ := H.pick (h := hb)
  exact (known_spec _ _ _ _ p D c hc n H1).mono fun e w' ⟨h1, h3⟩ => ⟨h1, back _ _ h3⟩
theorem shift_spec (B : Nat) (w0 w : World) (L : List Ck) (op : Int) (H : Hp B w0 w L) : Calls Tryz.prog 110 #[.int .i64 op] w fun e w' => e = .returned (.bool (WhS.shift op)) ∧ Hp B w0 w' L := by
  refine calls_go Tryz.func110 Tryz.ntmps110 rfl rfl ?_
  refine TW.seq ?_
  refine TW.region ?_
  refine LW.v (r_as) ?_
  refine LW.nil ?_
  refine TW.seq ?_
  refine TW.region ?_
  refine LW.v (r_mv) ?_
  refine LW.new (r_bsl H [.int .i64 29, .int .i64 33, .int .i64 34] [.int .i64 29, .int .i64 33, .int .i64 34] rfl rfl (hv := by simp [Value.cells])) ?_; intro gb w H
  refine LW.c r_c2 ((among_spec _ _ _ _ [29, 33, 34] (rowAt_blk H) (by decide)).mono ?_)
  rintro _ w ⟨rfl, rfl⟩
  refine ⟨_, rfl, ?_⟩
  have H := H.drop
  refine LW.v (r_as) ?_
  refine LW.nil ?_
  refine TW.ret (ret1 (by rfl) rT ?_)
  exact ⟨by first | rfl | (simp [IntKind.bits, WhS.shift]; done) | (exfalso; omega), by first | exact H | exact H.drop | exact H.drop.drop⟩
def tabV : List Value := (List.range 32).map fun i => .int .u8 (WhS.tabN i)
theorem tabV_at {i : Nat} (h : i < 32) : tabV[i]? = some (.int .u8 (WhS.tabN i)) := by simp [tabV, h]
theorem tz_spec (B : Nat) (w0 w : World) (L : List Ck) (v : Int) (hB : 0 < B) (hG : RowAt w0 ⟨0, 0, none⟩ tabV) (H : Hp B w0 w L) : Calls Tryz.prog 109 #[.int .u32 v] w fun e w' => e = .returned (.int .i64 (WhS.tz v)) ∧ Hp B w0 w' L := by
  refine calls_go Tryz.func109 Tryz.ntmps109 rfl rfl ?_
  refine TW.seq ?_
  refine TW.region ?_
  refine LW.v (r_as) ?_
  refine LW.nil ?_
  refine TW.seq <| TW.seq ?_
  refine TW.region ?_
  refine LW.v (r_mv) ?_
  refine LW.v (r_bin) ?_
  refine LW.nil ?_
  refine TW.c rfl (fun hb => ?_) (fun hb => ?_)
  · refine TW.seq ?_
    refine TW.region ?_
    refine LW.v (r_as) ?_
    refine LW.nil ?_
    refine TW.ret (ret1 (by rfl) rT ?_)
    have : v = 0 := by simpa using hb
    exact ⟨by simp [WhS.tz, this], H⟩
  · refine TW.skip <| TW.seq ?_
    refine TW.region ?_
    refine LW.v (r_mv) ?_
    refine LW.v (r_mv) ?_
    refine LW.v (r_neg) ?_
    refine LW.v (r_bin) ?_
    refine LW.v (r_bin) ?_
    refine LW.v (r_shr (hb := by first | omega | exact WhI.bits_nn _ _ _ | exact WhI.u32_nn _)) ?_
    have hz := WhS.tzi_rng v
    have hG' := (RowAt.below hG hB H) (WhS.tzi v).toNat _ (tabV_at (by omega))
    rw [add_of, Nat.zero_add] at hG'
    refine LW.v (r_iaA (k := .u32) (i := WhS.tzi v) (hy := by rfl) (h0 := hz.1) (h1 := hz.2)) ?_
    refine LW.v (r_ldc (a := ⟨0, 0 + (WhS.tzi v).toNat * 1, none⟩) (by rw [Nat.zero_add, Nat.mul_one]; exact hG')) ?_
    refine LW.v (r_cv) ?_
    refine LW.v (r_as) ?_
    refine LW.nil ?_
    refine TW.ret (ret1 (by rfl) rT ?_)
    have hv : ¬ v = 0 := by simpa using hb
    have ht : ∀ i, i < 32 → IntKind.i64.wrap (WhS.tabN i) = WhS.tabN i := by decide
    exact ⟨by rw [ht _ (by omega)]; simp [WhS.tz, hv], H⟩
end Wh
