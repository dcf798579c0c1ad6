/- A part of the walk through the code: contracts of functions, printed by a program of the prover. -/
import Derived.Test.YtjdckpeoinkafaaDoorEval
import Derived.Test.YtjdckpeoinkafaaDoorFix
import Derived.Test.YtjdckpeoinkafaaDoorZp
import Derived.Test.YtjdckpeoinkafaaDoorBt
set_option linter.all false
namespace Wh
open Go Go.Proofs WhS WhL WhX
set_option maxRecDepth 100000
theorem RowL.take {B : Nat} {w0 : World} {L : List Ck} {a : Option Addr} {l : List X} (h : RowL B w0 L a l) (k : Nat) : RowL B w0 L a (l.take k) := by
  rcases h with rfl | ⟨a', h1, h2⟩
  · exact .inl (by simp)
  · exact .inr ⟨a', h1, fun w' H' => rowAt_take (h2 w' H') k⟩
theorem zeroth : (startN [] 32).1[0]? = some 0 ∧ (WhD.node (startN [] 32).2 0).1 = ⟨0, 0, 0, 0, 0⟩ := ⟨by kernel_rfl, by kernel_rfl⟩
theorem eval0 {D : List T} {x ss : List Int} (h : (WhD.node D 0).1 = ⟨0, 0, 0, 0, 0⟩) (hp : ss.Perm ((seenG D ((0 : Int).toNat + 1) [(0, true)]).map (·.1))) : mg (evalF D x (ss.mergeSort (fun x y => decide (x ≤ y)))) 0 = 0 := by
  have h1 : seenG D ((0 : Int).toNat + 1) [(0, true)] = [(0, true)] := by
    show seenG D 0 (seenStep D ((0 : Nat) : Int) [(0, true)]) = _
    have : seenStep D ((0 : Nat) : Int) [(0, true)] = [(0, true)] := by
      unfold seenStep
      rw [if_neg]
      rintro ⟨_, h2⟩
      have h3 : (WhD.node D ((0 : Nat) : Int)).1 = ⟨0, 0, 0, 0, 0⟩ := h
      rw [h3] at h2
      cases h2
    rw [this]
    rfl
  rw [h1] at hp
  obtain rfl : ss = [0] := List.perm_singleton.1 hp
  simp [evalF, evStep, evVal, h, mg, aput, alook]
theorem zero_spec {B : Nat} {w0 w : World} {L : List Ck} {l : List X} {a : Option Addr} {cap : Nat} {x : List Int} (hB : 0 < B) (hG : RowAt w0 ⟨0, 0, none⟩ tabV) (hr : RowL B w0 L a l) (hcap : l.length ≤ cap) (hcm : cap ≤ 9223372036854775807) (hxl : x.length = 32) (hx : ∀ v ∈ x, 0 ≤ v ∧ v < 4294967296) (H : Hp B w0 w L) :
    Calls Tryd.prog 3 #[.slice a l.length cap, .agg (vU x)] w fun e w' => e = .returned (.bool true) ∧ Hp B w0 w' L := by
  refine calls_go Tryd.func3 Tryd.ntmps3 rfl rfl ?_
  refine TW.seq ?_
  refine TW.region ?_
  refine LW.new (r_box H) ?_; intro g3 w H
  have H : Hp B w0 w (Blk g3 24 (vU x) :: L) := H
  refine LW.v (r_as) ?_
  refine LW.nil ?_
  refine TW.seq ?_
  refine TW.region ?_
  refine LW.c r_c0 ((new_spec _ _ _ _ H).mono ?_)
  rintro _ w ⟨p, c, rfl, hc, H⟩
  refine ⟨_, rfl, ?_⟩
  refine LW.v (r_as) ?_
  refine LW.nil ?_
  refine TW.seq <| TW.seq ?_
  refine TW.region ?_
  refine LW.v (r_mv) ?_
  refine LW.v (r_eqn) ?_
  refine LW.nil ?_
  refine TW.c rfl (fun h => by cases h) (fun _ => ?_)
  refine TW.skip <| TW.seq ?_
  refine TW.region ?_
  refine LW.v (r_mv) ?_
  refine LW.v (r_mv) ?_
  refine LW.v (r_len) ?_
  refine LW.v (r_min) ?_
  have hlen : (l.take 30).length = min l.length 30 := by rw [List.length_take, Nat.min_comm]
  have hrt := hr.take 30
  generalize l.take 30 = lt at *
  refine LW.v (r_slk (a := a) (len := l.length) (cap := cap) (h := if 30 < (l.length : Int) then 30 else (l.length : Int)) (k := lt.length) (by split <;> omega) (by split <;> omega) (by split <;> omega)) ?_
  refine LW.v (r_as) ?_
  refine LW.nil ?_
  refine TW.seq ?_
  refine TW.region ?_
  refine LW.v (r_mv) ?_
  refine LW.v (r_mv) ?_
  refine LW.c r_c3 ((block_spec (M := 0) (l := lt) (pc := 0) (cap := cap) (a := a) hB hG (by omega) hc wf0 rng0 (ch0 0) (by decide) (hrt.cons _) H).mono ?_)
  rintro _ w ⟨rfl, c, hc, H⟩
  refine ⟨_, rfl, ?_⟩
  have hbl : (blockF [] lt 0).1.length = 32 := by
    unfold blockF
    split
    · rfl
    · rename_i hp
      have hp' : lt.all WhI.lplain = true := by simpa using hp
      have hk := start_ok wf0 rng0 (ch0 0)
      unfold fromF
      have hall : (startN [] 32).1.all (WhD.is (startN [] 32).2) = true := by rw [List.all_eq_true]; exact fun n hn => (hk.inn n hn).is
      simp only [hall, hp', Bool.not_true, Bool.false_eq_true, if_false]
      exact (runF_ok lt _ _ 0 (by omega) hk hp').1.len
  refine LW.v (r_mv) ?_
  refine LW.v (r_ext) ?_
  refine LW.v (r_ext) ?_
  refine LW.new (r_al H) ?_; intro g6 w H
  refine LW.sto (r_stW H (vs := vI (blockF [] lt 0).1) (hy := rfl) (h1 := vI_one _) (hs := by rw [vI_size, hbl])) ?_; intro w H
  refine LW.v (r_as) ?_
  refine LW.nil ?_
  refine TW.seq <| TW.seq ?_
  refine TW.region ?_
  refine LW.v (r_mv) ?_
  refine LW.v (r_bin) ?_
  refine LW.nil ?_
  refine TW.c rfl (fun hb => ?_) (fun hb => ?_)
  · refine TW.seq ?_
    refine TW.region ?_
    refine LW.c r_c0 ((fixed_spec hB hG H).mono ?_)
    rintro _ w ⟨rfl, H⟩
    refine ⟨_, rfl, ?_⟩
    refine LW.v (r_as) ?_
    refine LW.nil ?_
    refine TW.ret (ret1 (by rfl) rT ?_)
    exact ⟨rfl, H.drop.drop.drop⟩
  · have he : (blockF [] lt 0).2.1 = 0 := by simpa using hb
    have hk := start_ok wf0 rng0 (ch0 0)
    obtain ⟨hall2, hbf⟩ : lt.all WhI.lplain = true ∧ blockF [] lt 0 = ((runF lt (startN [] 32).2 (startN [] 32).1 0).2.1, 0, (runF lt (startN [] 32).2 (startN [] 32).1 0).1) := by
      unfold blockF at he ⊢
      split at he
      · cases he
      · rename_i hp
        have hp' : lt.all WhI.lplain = true := by simpa using hp
        have hall : (startN [] 32).1.all (WhD.is (startN [] 32).2) = true := by rw [List.all_eq_true]; exact fun n hn => (hk.inn n hn).is
        refine ⟨hp', ?_⟩
        rw [if_neg hp]
        unfold fromF
        simp only [hall, hp', Bool.not_true, Bool.false_eq_true, if_false]
    obtain ⟨hok, hdl, hext⟩ := runF_ok lt (startN [] 32).2 (startN [] 32).1 0 (M := 0) (by omega) hk hall2
    rw [hbf] at H hc hbl
    simp only at H hc hbl
    generalize hR : runF lt (startN [] 32).2 (startN [] 32).1 0 = R at *
    have h0g : R.2.1[0]? = some 0 := by
      rw [← hR, runF_get lt _ _ 0 (fun i hi => by
        have := (lplain_regs ((List.all_eq_true.1 hall2) i hi)).1
        omega)]
      exact zeroth.1
    refine TW.skip <| TW.seq ?_
    refine TW.region ?_
    refine LW.v (r_mv) ?_
    refine LW.v (r_iaA (h0 := by omega) (h1 := by omega)) ?_
    refine LW.v (r_ldc (cellI (g := g6) (k := 0) H h0g)) ?_
    refine LW.v (r_ldW H (hp := by simp [vU, hxl])) ?_
    have hin0 : In R.1 0 := hok.inn 0 (List.mem_of_getElem? h0g)
    have hn0 : (WhD.node R.1 0).1 = ⟨0, 0, 0, 0, 0⟩ := by
      have h0s : In (startN [] 32).2 0 := hk.inn 0 (List.mem_of_getElem? zeroth.1)
      rw [node_ext hext h0s]
      exact zeroth.2
    have hsl := startN_dlen [] 32
    simp only [List.length_nil] at hsl
    refine LW.c r_c3 ((eval_spec hc hok.wf hok.rng hin0 (by omega) hxl hx H.swap).mono ?_)
    rintro _ w ⟨ss, hp, rfl, H⟩
    refine ⟨_, rfl, ?_⟩
    have hev0 := eval0 (x := x) hn0 hp
    refine LW.v (r_mv) ?_
    refine LW.v (r_ext) ?_
    refine LW.v (r_ext) ?_
    refine LW.v (r_as) ?_
    refine LW.v (r_as) ?_
    refine LW.nil ?_
    refine TW.seq ?_
    refine TW.region ?_
    refine LW.v (r_as) ?_
    refine LW.nil ?_
    refine TW.seq <| TW.seq ?_
    refine TW.region ?_
    refine LW.v (r_as) ?_
    refine LW.nil ?_
    refine TW.block ?_
    refine TW.lp (σ := Nat × Nat) (fun s w' => s.1 ≤ lt.length ∧ s.2 < 4294967296 ∧ s.2.testBit 0 = true ∧ (∀ i ∈ lt.take s.1, s.2.testBit i.rd.toNat = true) ∧ Hp B w0 w' (c :: Blk g6 27 (vI R.2.1) :: Blk g3 24 (vU x) :: L)) (fun s => [(0, .slice a lt.length cap), (5, .pointer (some ⟨p, 0, none⟩)), (6, .pointer (some ⟨g6, 0, none⟩)), (8, .int .u32 0), (9, .int .i64 0), (10, .int .u32 (s.2 : Int)), (11, .int .i64 (s.1 : Int))]) (fun s => lt.length - s.1) ((0, 1)) (⟨Nat.zero_le _, by decide, by decide, by simp, H⟩) (⟨rfl, rfl, rfl, congrArg (Value.int .u32) hev0, rfl, rfl, rfl, trivial⟩) ?_
    rintro ⟨j, sb⟩ f w ⟨hj, hsb, hb0, hbits, H⟩ again
    simp only at hj hsb hb0 hbits H again ⊢
    refine TW.seq <| TW.seq ?_
    refine TW.region ?_
    refine LW.v (r_mv) ?_
    refine LW.v (r_mv) ?_
    refine LW.v (r_len) ?_
    refine LW.v (r_bin) ?_
    refine LW.nil ?_
    refine TW.c rfl (fun hb => ?_) (fun hb => ?_)
    · have hj2 : j < lt.length := by simpa using hb
      have hgl : lt[j]? = some lt[j] := List.getElem?_eq_getElem hj2
      have hrd := (lplain_regs ((List.all_eq_true.1 hall2) _ (List.getElem_mem hj2))).1
      obtain ⟨a', rfl, hrow⟩ := hrt.resolve_left (fun e => by subst e; simp at hj2)
      have hra := hrow _ H.drop.drop.drop
      refine TW.skip <| TW.seq <| TW.block ?_
      refine TW.region ?_
      refine LW.v (r_mv) ?_
      refine LW.v (r_mv) ?_
      refine LW.v (r_mv) ?_
      refine LW.v (r_iaS (h0 := by omega) (h1 := by omega)) ?_
      refine LW.v (r_faG) ?_
      refine LW.v (r_ldc (rowAt_cell (size := 5) (k := 1) (i := j) hra hgl (fun _ => rfl) rfl)) ?_
      refine LW.v (r_bin) ?_
      refine LW.v (r_shl (hb := by first | omega | exact WhB.and31_nn hrd.1 hrd.2)) ?_
      refine LW.v (r_bin) ?_
      refine LW.v (r_as) ?_
      refine LW.nil ?_
      refine TW.inBlock ?_
      refine TW.region ?_
      refine LW.v (r_mv) ?_
      first | refine LW.v (r_add (hk := w64 (by omega) (by omega))) ?_ | refine LW.v (r_bin) ?_
      refine LW.v (r_as) ?_
      refine LW.nil ?_
      refine again (j + 1, sb ||| 2 ^ lt[j].rd.toNat) _ _ ⟨by show j + 1 ≤ _; omega, Nat.or_lt_two_pow hsb (Nat.pow_lt_pow_right (by decide) (m := lt[j].rd.toNat) (n := 32) (by omega)), by show (sb ||| 2 ^ lt[j].rd.toNat).testBit 0 = true; rw [Nat.testBit_or, hb0]; rfl, ?_, H⟩ ⟨rfl, rfl, rfl, rfl, rfl, ?_, rfl, trivial⟩ (by show lt.length - (j + 1) < lt.length - j; omega)
      · intro i hi
        simp only at hi
        rw [List.take_add_one, hgl] at hi
        simp only [Option.toList_some, List.mem_append, List.mem_singleton] at hi
        rcases hi with hi | rfl
        · show (sb ||| 2 ^ lt[j].rd.toNat).testBit i.rd.toNat = true
          rw [Nat.testBit_or, hbits i hi]
          rfl
        · show (sb ||| 2 ^ lt[j].rd.toNat).testBit lt[j].rd.toNat = true
          rw [Nat.testBit_or, Nat.testBit_two_pow_self, Bool.or_true]
      · refine congrArg (Value.int .u32) ?_
        have := WhB.setStep_nat hsb (k := lt[j].rd.toNat) (by omega)
        rw [show ((lt[j].rd.toNat : Nat) : Int) = lt[j].rd by omega] at this
        exact this
    · have hj2 : ¬ j < lt.length := by simpa using hb
      have ej : lt.take j = lt := List.take_of_length_le (by omega)
      rw [ej] at hbits
      obtain ⟨E, hE⟩ := hext
      have hRl : R.1.length ≤ 20000 := by omega
      have hsa : startN R.1 32 = (WhZ.x32, R.1) := by
        rw [hE]
        have := WhZ.start_again E 32 (Nat.le_refl _)
        have e32 : WhZ.x32.take 32 = WhZ.x32 := List.take_of_length_le (by rw [WhZ.x32_len]; omega)
        rw [e32] at this
        exact this
      have hst := start_spec hc (by omega) H
      rw [hsa] at hst
      clear hc
      refine TW.exit rfl <| TW.seq ?_
      refine TW.region ?_
      refine LW.v (r_mv) ?_
      refine LW.c r_c1 ((hst).mono ?_)
      rintro _ w ⟨rfl, c, hc, H⟩
      refine ⟨_, rfl, ?_⟩
      refine LW.new (r_al H) ?_; intro g12 w H
      refine LW.sto (r_stW H (vs := vI WhZ.x32) (hy := rfl) (h1 := vI_one _) (hs := by rw [vI_size, WhZ.x32_len])) ?_; intro w H
      refine LW.nil ?_
      refine TW.seq <| TW.seq ?_
      refine TW.region ?_
      refine LW.v (r_as) ?_
      refine LW.nil ?_
      refine TW.block ?_
      refine TW.lp (σ := Nat) (fun r w' => r ≤ 32 ∧ Hp B w0 w' (Blk g12 27 (vI WhZ.x32) :: c :: Blk g6 27 (vI R.2.1) :: Blk g3 24 (vU x) :: L)) (fun r => [(6, .pointer (some ⟨g6, 0, none⟩)), (8, .int .u32 0), (9, .int .i64 0), (10, .int .u32 (sb : Int)), (12, .pointer (some ⟨g12, 0, none⟩)), (13, .int .i64 (r : Int))]) (fun r => 32 - r) (0) (⟨by omega, H⟩) (⟨rfl, rfl, rfl, rfl, rfl, rfl, trivial⟩) ?_
      rintro r f w ⟨hr32, H⟩ again
      refine TW.seq <| TW.seq ?_
      refine TW.region ?_
      refine LW.v (r_mv) ?_
      refine LW.v (r_bin) ?_
      refine LW.nil ?_
      refine TW.c rfl (fun hb => ?_) (fun hb => ?_)
      · have hr3 : (r : Int) < 32 := by simpa using hb
        have hr2 : r < 32 := by omega
        have hbit := WhB.bit_nat hsb hr2
        obtain ⟨v, hv1⟩ : ∃ v, R.2.1[r]? = some v := ⟨R.2.1[r]'(by rw [hok.len]; omega), List.getElem?_eq_getElem _⟩
        obtain ⟨u, hu1⟩ : ∃ u, WhZ.x32[r]? = some u := ⟨WhZ.x32[r]'(by rw [WhZ.x32_len]; omega), List.getElem?_eq_getElem _⟩
        refine TW.skip <| TW.seq <| TW.block <| TW.seq ?_
        refine TW.draw [(0, some 0), (1, some 0), (2, some 0), (3, some 0), (4, some 0), (5, some 0), (6, some 0), (7, some 0), (8, some 0), (9, some 0), (10, some 0), (11, some 0), (12, some 0), (13, some 0)] [] hmix (by kernel_rfl) (fun _ _ _ _ _ h => h) H (fun m w => (m = 0 → Hp _ _ w _)) (fun _ h _ => h) ?_
        intro w H
        refine DW.v (by rfl) (Quiet.y (fun _ _ => r_mv)) ?_
        refine DW.v (by rfl) (Quiet.y (fun _ _ => r_mv)) ?_
        refine DW.v (by rfl) (Quiet.y (fun _ _ => r_shr (hb := by first | omega | exact WhI.bits_nn _ _ _ | exact WhI.u32_nn _))) ?_
        refine DW.v (by rfl) (Quiet.y (fun _ _ => r_bin)) ?_
        refine DW.v (by rfl) (Quiet.y (fun _ _ => r_bin)) ?_
        refine DW.v (by rfl) (Quiet.y (fun _ _ => r_mv)) ?_
        refine DW.gen fun b hb => ?_; cases b
        · refine DW.v (by rfl) (Quiet.gn (by rfl) (by rfl) (by rfl) (by rfl) (by rfl)) ?_
          refine DW.v (by rfl) (Quiet.gn (by rfl) (by rfl) (by rfl) (by rfl) (by rfl)) ?_
          refine DW.v (by rfl) (Quiet.gn (by rfl) (by rfl) (by rfl) (by rfl) (by rfl)) ?_
          refine DW.v (by rfl) (Quiet.gn (by rfl) (by rfl) (by rfl) (by rfl) (by rfl)) ?_
          refine DW.v (by rfl) (Quiet.gn (by rfl) (by rfl) (by rfl) (by rfl) (by rfl)) ?_
          refine DW.v (by rfl) (Quiet.gn (by rfl) (by rfl) (by rfl) (by rfl) (by rfl)) ?_
          refine DW.v (by rfl) (Quiet.gn (by rfl) (by rfl) (by rfl) (by rfl) (by rfl)) ?_
          refine DW.v (by rfl) (Quiet.y (fun _ _ => r_pick)) ?_
          refine DW.nil (fun _ => ?_)
          refine TW.c rfl (fun h => by cases h) (fun _ => ?_)
          refine TW.skip <| TW.inBlock ?_
          refine TW.region ?_
          refine LW.v (r_mv) ?_
          first | refine LW.v (r_add (hk := w64 (by omega) (by omega))) ?_ | refine LW.v (r_bin) ?_
          refine LW.v (r_as) ?_
          refine LW.nil ?_
          exact again (r + 1) _ _ ⟨by omega, H⟩ ⟨rfl, rfl, rfl, rfl, rfl, rfl, trivial⟩ (by omega)
        · have hbf : sb.testBit r = false := by
            cases ht : sb.testBit r with
            | false => rfl
            | true =>
              rw [ht, if_pos rfl] at hbit
              rw [show IntKind.u32.bits = 32 from rfl, hbit] at hb
              cases hb
          have huv : u = v := by
            have hg := runF_get (r := r) lt (startN [] 32).2 (startN [] 32).1 0 (fun i hi => by
              refine .inr (fun e => ?_)
              have := hbits i hi
              rw [e, hbf] at this
              cases this)
            rw [hR, hv1] at hg
            have : (startN [] 32).1[r]? = some u := hu1
            rw [this] at hg
            exact (Option.some.inj hg).symm
          subst huv
          refine DW.v (by rfl) (Quiet.gy (by rfl) (by rfl) (by rfl) (by rfl) (by rfl) (fun _ _ => r_mv)) ?_
          refine DW.v (by rfl) (Quiet.gy (by rfl) (by rfl) (by rfl) (by rfl) (by rfl) (fun _ _ => r_iaA (h0 := by omega) (h1 := by omega))) ?_
          refine DW.hm (by rfl) (Quiet.gy (by rfl) (by rfl) (by rfl) (by rfl) (by rfl) (fun _ h => r_ldc (cellI (g := g6) (h rfl) hv1))) ?_
          refine DW.v (by rfl) (Quiet.gy (by rfl) (by rfl) (by rfl) (by rfl) (by rfl) (fun _ _ => r_mv)) ?_
          refine DW.v (by rfl) (Quiet.gy (by rfl) (by rfl) (by rfl) (by rfl) (by rfl) (fun _ _ => r_iaA (h0 := by omega) (h1 := by omega))) ?_
          refine DW.hm (by rfl) (Quiet.gy (by rfl) (by rfl) (by rfl) (by rfl) (by rfl) (fun _ h => r_ldc (cellI (g := g12) (h rfl) hu1))) ?_
          refine DW.v (by rfl) (Quiet.gy (by rfl) (by rfl) (by rfl) (by rfl) (by rfl) (fun _ _ => r_bin)) ?_
          refine DW.v (by rfl) (Quiet.y (fun _ _ => r_pick)) ?_
          refine DW.nil (fun _ => ?_)
          refine TW.c rfl (fun h => absurd h (by simp)) (fun _ => ?_)
          refine TW.skip <| TW.inBlock ?_
          refine TW.region ?_
          refine LW.v (r_mv) ?_
          first | refine LW.v (r_add (hk := w64 (by omega) (by omega))) ?_ | refine LW.v (r_bin) ?_
          refine LW.v (r_as) ?_
          refine LW.nil ?_
          exact again (r + 1) _ _ ⟨by omega, H⟩ ⟨rfl, rfl, rfl, rfl, rfl, rfl, trivial⟩ (by omega)
      · refine TW.exit rfl <| TW.seq ?_
        refine TW.region ?_
        refine LW.v (r_mv) ?_
        refine LW.v (r_bin) ?_
        refine LW.v (r_mv) ?_
        refine LW.yes (by rfl) (by rfl) (by rfl) (by rfl) (by rfl) ?_
        refine LW.v (r_mv) ?_
        refine LW.yes (by rfl) (by rfl) (by rfl) (by rfl) (by rfl) ?_
        refine LW.v (r_bin) ?_
        refine LW.v (r_pick) ?_
        refine LW.v (r_mv) ?_
        refine LW.yes (by rfl) (by rfl) (by rfl) (by rfl) (by rfl) ?_
        refine LW.c r_c0 ((fixed_spec hB hG H).mono ?_)
        rintro _ w ⟨rfl, H⟩
        refine ⟨_, rfl, ?_⟩
        refine LW.v (r_pick) ?_
        refine LW.v (r_as) ?_
        refine LW.nil ?_
        refine TW.ret (ret1 (by rfl) rT ?_)
        exact ⟨rfl, H.drop.drop.drop.drop⟩
end Wh
