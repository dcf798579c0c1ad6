/- A part of the walk through the code: contracts of functions, printed by a program of the prover. -/
import Derived.Test.YtjdckpeoinkafaaGreatDoorLift
import Derived.Test.YtjdckpeoinkafaaGreatDoorKeys
set_option linter.all false
namespace Wh
open Go Go.Proofs Go.Maps WhS WhL
set_option maxRecDepth 100000
theorem cellT {B : Nat} {w0 w : World} {L : List Ck} {g k : Nat} {bt : TypeId} {cs : Array Value} {v : Value} {mk : Array Value → List Ck} (H : Hp B w0 w L) (hk : cs[k]? = some v) (hb : HasB L g bt cs mk := by infer_instance) : w.cell? ⟨g, 0 + k, none⟩ = some v := by
  rw [cell_of_blk (H.getB (h := hb)), Nat.zero_add]; exact hk
theorem seenStep_none {D : List T} {k : Int} {l : List (Int × Bool)} (h : alook k l ≠ some true) : seenStep D k l = l := by unfold seenStep; rw [if_neg (fun h2 => h h2.1)]
theorem needed_spec {B : Nat} {w0 w : World} {L : List Ck} {p : Nat} {D : List T} {c : Ck} {n : Int} (hc : DagC p D c) (hD : Wf D) (hn : In D n) (hlen : D.length < 1000000) (H : Hp B w0 w (c :: L)) :
    Calls Tryz.prog 41 #[.pointer (some ⟨p, 0, none⟩), .int .i64 n] w fun e w' => ∃ (v : Value) (ss : List Int), e = .returned v ∧ ss.Perm ((seenG D (n.toNat + 1) [(n, true)]).map (·.1)) ∧ Hp B w0 w' (Row 3 1 v ss.length ((ss.mergeSort (fun x y => decide (x ≤ y))).map encZ) :: c :: L) := by
  have K := keyT_int (P := Tryz.prog) (t := 3) (k := .i64) Tryz.underlying3
  refine calls_go Tryz.func41 Tryz.ntmps41 rfl rfl ?_
  refine TW.seq ?_
  refine TW.region ?_
  refine LW.v (r_as) ?_
  refine LW.nil ?_
  refine TW.seq ?_
  refine TW.region ?_
  refine LW.new (r_mm (fun n : Int => Value.int .i64 n) boolv H) ?_; intro r w H
  refine LW.v (r_mv) ?_
  refine LW.sto (r_ins H K (a := n) (b := true)) ?_; intro w H
  refine LW.v (r_mv) ?_
  refine LW.v (r_as) ?_
  refine LW.nil ?_
  refine TW.seq <| TW.seq ?_
  refine TW.region ?_
  refine LW.v (r_mv) ?_
  refine LW.v (r_as) ?_
  refine LW.nil ?_
  refine TW.block ?_
  have hn1 := hn.1
  have hn2 := hn.2
  refine TW.lp (σ := Nat × List (Int × Bool)) (fun s w' => s.1 ≤ n.toNat + 1 ∧ seenG D s.1 s.2 = seenG D (n.toNat + 1) [(n, true)] ∧ (∀ q ∈ s.2, 0 ≤ q.1 ∧ q.1 < D.length) ∧ s.2.length + 2 * s.1 ≤ 2 * n.toNat + 3 ∧ Hp B w0 w' (MapC (fun n : Int => Value.int .i64 n) boolv r s.2 :: c :: L)) (fun s => [(0, .pointer (some ⟨p, 0, none⟩)), (5, .map (some r)), (6, .int .i64 ((s.1 : Int) - 1))]) (fun s => s.1) ((n.toNat + 1, [(n, true)])) (⟨Nat.le_refl _, rfl, by intro q hq; simp at hq; subst hq; exact hn, by simp; omega, H⟩) (⟨rfl, rfl, congrArg (Value.int .i64) (by simp; omega), trivial⟩) ?_
  rintro ⟨m, l⟩ f w ⟨hm, hse, hks, hll, H⟩ again
  simp only at hm hse hks hll H again ⊢
  refine TW.seq <| TW.seq ?_
  refine TW.region ?_
  refine LW.v (r_mv) ?_
  refine LW.v (r_bin) ?_
  refine LW.nil ?_
  refine TW.c rfl (fun hb => ?_) (fun hb => ?_)
  · have hm1 : (0 : Int) ≤ (m : Int) - 1 := by simpa using hb
    obtain ⟨j, rfl⟩ : ∃ j, m = j + 1 := ⟨m - 1, by omega⟩
    have hjn : (((j + 1 : Nat) : Int) - 1).toNat = j := by omega
    have hji : (((j + 1 : Nat) : Int) - 1) = (j : Int) := by omega
    have hjD : In D (((j + 1 : Nat) : Int) - 1) := ⟨by omega, by omega⟩
    have hlt : (((j + 1 : Nat) : Int) - 1).toNat < D.length := by omega
    have hg : D[(((j + 1 : Nat) : Int) - 1).toNat]? = some D[(((j + 1 : Nat) : Int) - 1).toNat] := List.getElem?_eq_getElem hlt
    have hnd : (WhD.node D (j : Int)).1 = D[(((j + 1 : Nat) : Int) - 1).toNat] := by
      have e5 : WhD.node D (((j + 1 : Nat) : Int) - 1) = (D[(((j + 1 : Nat) : Int) - 1).toNat], 0) := by
        unfold WhD.node
        rw [if_pos hjD.is, hg]
        rfl
      rw [← congrArg (WhD.node D) hji, e5]
    obtain ⟨v, x1, x2, x3, x4, x5, Y, H, back⟩ := dag_open hc H.swap
    obtain ⟨a, cap, rfl, hrow, hlr⟩ := H.row (v := v)
    obtain ⟨g, rfl, _, hr⟩ : ∃ g, a = some ⟨g, 0, none⟩ ∧ B ≤ g ∧ RowAt _ ⟨g, 0, none⟩ (rowOf T.val D) := hrow.resolve_left (by omega)
    refine TW.skip <| TW.seq <| TW.block <| TW.seq ?_
    refine TW.region ?_
    refine LW.v (r_mv) ?_
    refine LW.v (r_nil) ?_
    refine LW.v (r_fa) ?_
    refine LW.v (r_ld H) ?_
    refine LW.v (r_mv) ?_
    refine LW.v (r_iaS (h0 := by omega) (h1 := by omega)) ?_
    refine LW.v (r_ldR hr hg (size := 5) (fun _ => rfl)) ?_
    refine LW.new (r_al H) ?_; intro g7 w H
    refine LW.sto (r_stW H) ?_; intro w H
    refine LW.nil ?_
    refine TW.seq ?_
    refine TW.region ?_
    refine LW.v (r_mv) ?_
    refine LW.v (r_mv) ?_
    have ht := hD.node hjD
    rw [hji, hnd] at ht
    generalize htt : D[(((j + 1 : Nat) : Int) - 1).toNat] = t at *
    cases hl : alook (((j + 1 : Nat) : Int) - 1) l with
    | none =>
      refine LW.v (r_lkn H K hl rfl) ?_
      refine LW.v (r_mv) ?_
      refine LW.gen fun b hb => ?_; cases b
      · refine LW.no (by rfl) (by rfl) (by rfl) (by rfl) (by rfl) (by rfl) ?_
        refine LW.no (by rfl) (by rfl) (by rfl) (by rfl) (by rfl) (by rfl) ?_
        refine LW.no (by rfl) (by rfl) (by rfl) (by rfl) (by rfl) (by rfl) ?_
        refine LW.v (r_pick) ?_
        refine LW.nil ?_
        refine TW.c rfl (fun h => by cases h) (fun _ => ?_)
        refine TW.skip <| TW.inBlock ?_
        refine TW.region ?_
        refine LW.v (r_mv) ?_
        first | refine LW.v (r_sub (hk := w64 (by omega) (by omega))) ?_ | refine LW.v (r_bin) ?_
        refine LW.v (r_as) ?_
        refine LW.nil ?_
        have H := (back _ _ (H.dropAt 0)).swap
        refine again (j, l) _ _ ⟨by show j ≤ _; omega, ?_, hks, by show l.length + 2 * j ≤ _; omega, H⟩ ⟨rfl, rfl, congrArg (Value.int .i64) (by show ((j + 1 : Nat) : Int) - 1 - 1 = (j : Int) - 1; omega), trivial⟩ (by show j < j + 1; omega)
        rw [← hse]
        simp only [seenG]
        rw [seenStep_none (by rw [← hji, hl]; simp)]
      · cases hb
    | some b =>
      cases b
      · refine LW.v (r_lks H K hl rfl) ?_
        refine LW.v (r_mv) ?_
        refine LW.gen fun b hb => ?_; cases b
        · refine LW.no (by rfl) (by rfl) (by rfl) (by rfl) (by rfl) (by rfl) ?_
          refine LW.no (by rfl) (by rfl) (by rfl) (by rfl) (by rfl) (by rfl) ?_
          refine LW.no (by rfl) (by rfl) (by rfl) (by rfl) (by rfl) (by rfl) ?_
          refine LW.v (r_pick) ?_
          refine LW.nil ?_
          refine TW.c rfl (fun h => by cases h) (fun _ => ?_)
          refine TW.skip <| TW.inBlock ?_
          refine TW.region ?_
          refine LW.v (r_mv) ?_
          first | refine LW.v (r_sub (hk := w64 (by omega) (by omega))) ?_ | refine LW.v (r_bin) ?_
          refine LW.v (r_as) ?_
          refine LW.nil ?_
          have H := (back _ _ (H.dropAt 0)).swap
          refine again (j, l) _ _ ⟨by show j ≤ _; omega, ?_, hks, by show l.length + 2 * j ≤ _; omega, H⟩ ⟨rfl, rfl, congrArg (Value.int .i64) (by show ((j + 1 : Nat) : Int) - 1 - 1 = (j : Int) - 1; omega), trivial⟩ (by show j < j + 1; omega)
          rw [← hse]
          simp only [seenG]
          rw [seenStep_none (by rw [← hji, hl]; simp)]
        · cases hb
      · refine LW.v (r_lks H K hl rfl) ?_
        refine LW.v (r_mv) ?_
        refine LW.gen fun b hb => ?_; cases b
        · cases hb
        · refine LW.yes (by rfl) (by rfl) (by rfl) (by rfl) (by rfl) ?_
          refine LW.v (r_fa) ?_
          refine LW.yes (by rfl) (by rfl) (by rfl) (by rfl) (by rfl) ?_
          refine LW.v (r_ld H) ?_
          refine LW.yes (by rfl) (by rfl) (by rfl) (by rfl) (by rfl) ?_
          refine LW.v (r_bin) ?_
          refine LW.v (r_pick) ?_
          refine LW.nil ?_
          refine TW.c rfl (fun hb => ?_) (fun hb => ?_)
          · have hk2 : t.kind = 2 := by simpa using hb
            obtain ⟨_, hA0, hA1, hB0, hB1⟩ : WhP.isOp t.op = true ∧ 0 ≤ t.a ∧ t.a < _ ∧ 0 ≤ t.b ∧ t.b < _ := by
              rcases ht with h | ⟨h, _⟩ | ⟨_, h⟩
              · omega
              · omega
              · exact h
            refine TW.draw [(0, some 0), (1, some 0), (2, some 0), (3, some 1), (4, some 1), (5, some 1), (6, none), (7, none)] [6, 7] hmix (by kernel_rfl) (fun _ _ _ _ _ h => h) H (fun m w => (m = 0 → Hp _ _ w _) ∧ (m ≤ 1 → w.cell? ⟨g7, 0 + 4, none⟩ = some (.int .i64 t.b))) (fun _ h => ⟨fun _ => h, fun _ => cellT h rfl⟩) ?_
            intro w H
            refine DW.v (by rfl) (Quiet.y (fun _ _ => r_mv)) ?_
            refine DW.v (by rfl) (Quiet.y (fun _ _ => r_fa)) ?_
            refine DW.hm (by rfl) (Quiet.y (fun _ h => r_ld (h.1 rfl))) ?_
            refine DW.v (by rfl) (Quiet.y (fun _ _ => r_mv)) ?_
            refine DW.v (by rfl) (Quiet.y (fun _ _ => r_fa)) ?_
            refine DW.mb (by rfl) (fun _ _ _ h2 h => h.2 (by omega)) (Quiet.y (fun _ h => r_ldc h)) ?_
            refine DW.l (by rfl) ?_
            refine LW.sto (r_mu H K (a := t.a) (b := true)) ?_; intro w H
            refine LW.nil ⟨⟨(fun h => nomatch h), fun _ => cellT H rfl⟩, ?_⟩
            refine DW.l (by rfl) ?_
            refine LW.sto (r_mu H K (a := t.b) (b := true)) ?_; intro w H
            refine LW.nil ⟨⟨(fun h => nomatch h), fun h => absurd h (by decide)⟩, ?_⟩
            refine DW.nil (fun _ => ?_)
            refine TW.inBlock ?_
            refine TW.region ?_
            refine LW.v (r_mv) ?_
            first | refine LW.v (r_sub (hk := w64 (by omega) (by omega))) ?_ | refine LW.v (r_bin) ?_
            refine LW.v (r_as) ?_
            refine LW.nil ?_
            have H := (back _ _ (H.dropAt 0)).swap
            have hss : seenStep D (j : Int) l = aput t.b true (aput t.a true l) := by
              unfold seenStep
              rw [hnd, if_pos ⟨by rw [← hji]; exact hl, hk2⟩]
            have h8 := aput_len (a := t.a) (b := true) l
            have h9 := aput_len (a := t.b) (b := true) (aput t.a true l)
            refine again (j, aput t.b true (aput t.a true l)) _ _ ⟨by show j ≤ _; omega, ?_, aput_all (P := fun k => 0 ≤ k ∧ k < D.length) (aput_all (P := fun k => 0 ≤ k ∧ k < D.length) hks ⟨hA0, by omega⟩) ⟨hB0, by omega⟩, by show (aput t.b true (aput t.a true l)).length + 2 * j ≤ _; omega, H⟩ ⟨rfl, rfl, congrArg (Value.int .i64) (by show ((j + 1 : Nat) : Int) - 1 - 1 = (j : Int) - 1; omega), trivial⟩ (by show j < j + 1; omega)
            rw [← hse]
            simp only [seenG]
            rw [hss]
          · have hk2 : ¬ t.kind = 2 := by simpa using hb
            refine TW.skip <| TW.inBlock ?_
            refine TW.region ?_
            refine LW.v (r_mv) ?_
            first | refine LW.v (r_sub (hk := w64 (by omega) (by omega))) ?_ | refine LW.v (r_bin) ?_
            refine LW.v (r_as) ?_
            refine LW.nil ?_
            have H := (back _ _ (H.dropAt 0)).swap
            refine again (j, l) _ _ ⟨by show j ≤ _; omega, ?_, hks, by show l.length + 2 * j ≤ _; omega, H⟩ ⟨rfl, rfl, congrArg (Value.int .i64) (by show ((j + 1 : Nat) : Int) - 1 - 1 = (j : Int) - 1; omega), trivial⟩ (by show j < j + 1; omega)
            rw [← hse]
            simp only [seenG]
            have hss : seenStep D (j : Int) l = l := by unfold seenStep; rw [if_neg]; rw [hnd]; exact fun h => hk2 h.2
            rw [hss]
  · have hm0 : ¬ (0 : Int) ≤ (m : Int) - 1 := by simpa using hb
    obtain rfl : m = 0 := by omega
    have hse' : l = seenG D (n.toNat + 1) [(n, true)] := hse
    refine TW.exit rfl <| TW.seq ?_
    refine TW.region ?_
    refine LW.v (r_mv) ?_
    refine LW.c r_c1 ((Tryz.keysSaid (some r) _).mono ?_)
    rintro _ w ⟨rfl, rfl⟩
    refine ⟨_, rfl, ?_⟩
    have H2 := H.alloc 128 #[.map (some r)]
    obtain ⟨D0, hown, hperm, hsz⟩ := owns_of_map (H := Unit) (P := Tryz.prog) (k := 3) (e := 4) Tryz.underlying3 Tryz.underlying4 (H2.holdsM (r := r)) (fun q hq => wf_small (by have := hks q hq; omega)) (by simp only [maxLen]; omega)
    refine LW.c r_c1 ((Tryz.sortedSaid _ r _ D0 _ _ (by simp) (cellB H2) hown (by rw [hsz]; simp only [maxLen]; omega) (by rw [hsz]; omega)).mono ?_)
    rintro _ w ⟨v, ss, rfl, hp, hrow, _, hbel⟩
    refine ⟨_, rfl, ?_⟩
    refine LW.v (r_as) ?_
    refine LW.nil ?_
    refine TW.ret (ret1 (by rfl) rT ?_)
    refine ⟨v, ss, rfl, ?_, ?_⟩
    · rw [← hse']; exact hp.trans hperm
    · exact (((H2.newRow hbel hrow).dropAt 1).dropAt 1)
theorem evalF_rng {D : List T} {x : List Int} (hg : Rng D) (hx : ∀ v ∈ x, 0 ≤ v ∧ v < 4294967296) : ∀ (ks : List Int) (l : List (Int × Int)), (∀ a, 0 ≤ mg l a ∧ mg l a < 4294967296) → ∀ a, 0 ≤ mg (ks.foldl (evStep D x) l) a ∧ mg (ks.foldl (evStep D x) l) a < 4294967296
  | [], l, h, a => h a
  | k :: ks, l, h, a => by
    refine evalF_rng hg hx ks (evStep D x l k) (fun b => ?_) a
    unfold evStep
    rw [mg_put]
    split
    · unfold evVal
      split
      · exact hg.node k
      · split
        · cases hq : x[(WhD.node D k).1.v.toNat]? with
          | none => simp
          | some v => simpa using hx v (List.mem_of_getElem? hq)
        · exact wdo_rng (h _) (h _)
    · exact h b
theorem alook_mem {a : Int} {b : Bool} : ∀ {l : List (Int × Bool)}, alook a l = some b → (a, b) ∈ l
  | [], h => by cases h
  | (k, v) :: l, h => by
    simp only [alook] at h
    split at h
    · rename_i e
      cases h
      rw [e]
      exact List.mem_cons_self
    · exact List.mem_cons_of_mem _ (alook_mem h)
theorem seenG_in {D : List T} (hD : Wf D) : ∀ (m : Nat) (l : List (Int × Bool)), (∀ q ∈ l, In D q.1) → ∀ q ∈ seenG D m l, In D q.1
  | 0, l, h => h
  | m + 1, l, h => by
    refine seenG_in hD m _ ?_
    unfold seenStep
    split
    · rename_i hc
      have hm : In D (m : Int) := h _ (alook_mem hc.1)
      have := hm.2
      rcases hD.node hm with h1 | ⟨h1, _⟩ | ⟨_, _, h1, h2, h3, h4⟩
      · omega
      · omega
      · exact aput_all (P := In D) (aput_all (P := In D) h ⟨h1, by omega⟩) ⟨h3, by omega⟩
    · exact h
theorem seenG_len {D : List T} : ∀ (m : Nat) (l : List (Int × Bool)), (seenG D m l).length ≤ l.length + 2 * m
  | 0, l => by simp [seenG]
  | m + 1, l => by
    have h1 := seenG_len (D := D) m (seenStep D m l)
    have h2 : (seenStep D (m : Int) l).length ≤ l.length + 2 := by
      unfold seenStep
      split
      · have a1 := aput_len (a := (WhD.node D m).1.a) (b := true) l
        have a2 := aput_len (a := (WhD.node D m).1.b) (b := true) (aput (WhD.node D m).1.a true l)
        omega
      · omega
    simp only [seenG]
    omega
theorem eval_spec {B : Nat} {w0 w : World} {L : List Ck} {p : Nat} {D : List T} {c : Ck} {n : Int} {x : List Int} (hc : DagC p D c) (hD : Wf D) (hgr : Rng D) (hn : In D n) (hlen : D.length < 1000000) (hxl : x.length = 32) (hx : ∀ v ∈ x, 0 ≤ v ∧ v < 4294967296) (H : Hp B w0 w (c :: L)) :
    Calls Tryz.prog 17 #[.pointer (some ⟨p, 0, none⟩), .int .i64 n, .agg (vU x)] w fun e w' => ∃ ss : List Int, ss.Perm ((seenG D (n.toNat + 1) [(n, true)]).map (·.1)) ∧ e = .returned (.tuple #[.int .u32 (mg (evalF D x (ss.mergeSort (fun x y => decide (x ≤ y)))) n), .int .i64 0]) ∧ Hp B w0 w' (c :: L) := by
  have K := keyT_int (P := Tryz.prog) (t := 3) (k := .i64) Tryz.underlying3
  refine calls_go Tryz.func17 Tryz.ntmps17 rfl rfl ?_
  refine TW.seq ?_
  refine TW.region ?_
  refine LW.new (r_box H) ?_; intro g5 w H
  refine LW.v (r_as) ?_
  refine LW.v (r_as) ?_
  refine LW.nil ?_
  refine TW.seq <| TW.seq ?_
  refine TW.region ?_
  refine LW.v (r_mv) ?_
  refine LW.v (r_mv) ?_
  have H : Hp B w0 w (Blk g5 43 (vU x) :: c :: L) := H
  refine LW.c r_c2 ((is_at p D n hc H).mono ?_)
  rintro _ w ⟨rfl, H⟩
  refine ⟨_, rfl, ?_⟩
  refine LW.v (r_not) ?_
  refine LW.nil ?_
  refine TW.c rfl (fun hb => ?_) (fun hb => ?_)
  · simp [hn.is] at hb
  · refine TW.skip <| TW.seq ?_
    refine TW.region ?_
    refine LW.new (r_mm (fun n : Int => Value.int .i64 n) u32v H) ?_; intro r w H
    refine LW.v (r_as) ?_
    refine LW.nil ?_
    refine TW.seq <| TW.seq ?_
    refine TW.region ?_
    refine LW.v (r_mv) ?_
    refine LW.v (r_mv) ?_
    have H := H.perm (perm_front _ 2 _ rfl)
    simp only [List.eraseIdx] at H
    refine LW.c r_c2 ((needed_spec hc hD hn hlen H).mono ?_)
    rintro _ w ⟨v, ss, rfl, hperm, H⟩
    refine ⟨_, rfl, ?_⟩
    obtain ⟨a, cap, rfl, hrow, hlr⟩ := H.row (v := v)
    generalize hks : ss.mergeSort (fun x y => decide (x ≤ y)) = ks at *
    have hkl : ss.length = ks.length := by rw [← hks]; simp
    rw [hkl] at H hrow
    have hkb : ks.length ≤ 2 * D.length + 3 := by
      have h1 := hperm.length_eq
      have h2 := seenG_len (D := D) (n.toNat + 1) [(n, true)]
      have h3 := hn.2
      have h4 := hn.1
      simp only [List.length_map, List.length_cons, List.length_nil] at h1 h2
      omega
    have hkD : ∀ k ∈ ks, In D k := by
      intro k hk
      rw [← hks] at hk
      have h1 : k ∈ (seenG D (n.toNat + 1) [(n, true)]).map (·.1) := hperm.mem_iff.1 (List.mem_mergeSort.1 hk)
      obtain ⟨q, hq, rfl⟩ := List.mem_map.1 h1
      exact seenG_in hD _ _ (by intro q hq; simp at hq; subst hq; exact hn) q hq
    refine LW.v (r_len) ?_
    refine LW.v (r_mv) ?_
    refine LW.nil ?_
    refine TW.block ?_
    refine TW.lp (σ := Nat) (fun j w' => j ≤ ks.length ∧ Hp B w0 w' (Row 3 1 (.slice a ks.length cap) ks.length (ks.map encZ) :: c :: MapC (fun n : Int => Value.int .i64 n) u32v r (evalF D x (ks.take j)) :: Blk g5 43 (vU x) :: L)) (fun j => [(0, .pointer (some ⟨p, 0, none⟩)), (1, .int .i64 n), (5, .pointer (some ⟨g5, 0, none⟩)), (8, .map (some r)), (19, .slice a ks.length cap), (20, .int .i64 ks.length), (21, .int .i64 (j : Int))]) (fun j => ks.length - j) (0) (⟨Nat.zero_le _, H⟩) (⟨rfl, rfl, rfl, rfl, by rw [← hkl]; rfl, by rw [← hkl]; rfl, rfl, trivial⟩) ?_
    rintro j f w ⟨hj, H⟩ again
    refine TW.seq ?_
    refine TW.region ?_
    refine LW.v (r_bin) ?_
    refine LW.nil ?_
    refine TW.seq ?_
    refine TW.c rfl (fun hb => ?_) (fun hb => ?_)
    · have hj2 : j < ks.length := by simpa using hb
      have hgk : ks[j]? = some ks[j] := List.getElem?_eq_getElem hj2
      have hkin : In D ks[j] := hkD _ (List.getElem_mem hj2)
      have h0k := hkin.1
      have h1k := hkin.2
      obtain ⟨a2, cap2, e2, hrow2, _⟩ := H.row (v := .slice a ks.length cap)
      cases e2
      obtain ⟨ga, rfl, _, hra⟩ : ∃ g, a = some ⟨g, 0, none⟩ ∧ B ≤ g ∧ RowAt w ⟨g, 0, none⟩ (ks.map encZ) := hrow2.resolve_left (by omega)
      rw [← rowOf_i64] at hra
      refine TW.skip <| TW.seq <| TW.block <| TW.seq ?_
      refine TW.region ?_
      refine LW.v (r_iaS (h0 := by omega) (h1 := by omega)) ?_
      refine LW.v (r_ldR1 (i := j) (enc := i64v) hra hgk (fun _ => rfl)) ?_
      refine LW.v (r_as) ?_
      refine LW.nil ?_
      refine TW.seq ?_
      refine TW.region ?_
      refine LW.v (r_mv) ?_
      refine LW.v (r_nil) ?_
      refine LW.v (r_fa) ?_
      have H := H.swap
      obtain ⟨v, x1, x2, x3, x4, x5, Y, H, back⟩ := dag_open hc H
      obtain ⟨a3, cap3, rfl, hrow3, _⟩ := H.row (v := v)
      obtain ⟨gd, rfl, _, hrd⟩ : ∃ g, a3 = some ⟨g, 0, none⟩ ∧ B ≤ g ∧ RowAt w ⟨g, 0, none⟩ (rowOf T.val D) := hrow3.resolve_left (by omega)
      have hlt : ks[j].toNat < D.length := by omega
      have hgt : D[ks[j].toNat]? = some D[ks[j].toNat] := List.getElem?_eq_getElem hlt
      have hnd : (WhD.node D ks[j]).1 = D[ks[j].toNat] := by simp [WhD.node, hkin.is, hgt]
      have hev := evalF_take D x ks hgk
      have ht := hD.node hkin
      have hv := hgr.node ks[j]
      rw [hnd] at ht hv
      generalize htt : D[ks[j].toNat] = t at *
      refine LW.v (r_ld H) ?_
      refine LW.v (r_mv) ?_
      refine LW.v (r_iaS (h0 := by omega) (h1 := by omega)) ?_
      refine LW.v (r_ldR hrd hgt (size := 5) (fun _ => rfl)) ?_
      refine LW.new (r_al H) ?_; intro g11 w H
      refine LW.sto (r_stW H) ?_; intro w H
      refine LW.nil ?_
      refine TW.seq ?_
      refine TW.region ?_
      refine LW.v (r_fa) ?_
      refine LW.v (r_ld H) ?_
      refine LW.nil ?_
      refine TW.block <| TW.seq ?_
      refine TW.region ?_
      refine LW.v (r_bin) ?_
      refine LW.v (r_as) ?_
      refine LW.nil ?_
      refine TW.c rfl (fun hb => ?_) (fun hb => ?_)
      · have hk0 : t.kind = 0 := by simpa using hb
        refine TW.region ?_
        refine LW.v (r_mv) ?_
        refine LW.v (r_mv) ?_
        refine LW.v (r_fa) ?_
        refine LW.v (r_ld H) ?_
        refine LW.sto (r_mu H K (a := ks[j]) (b := t.v)) ?_; intro w H
        refine LW.nil ?_
        refine TW.inBlock <| TW.inBlock ?_
        refine TW.region ?_
        first | refine LW.v (r_add (hk := w64 (by omega) (by omega))) ?_ | refine LW.v (r_bin) ?_
        refine LW.v (r_mv) ?_
        refine LW.nil ?_
        have H := (back _ _ H.drop).swap
        rw [show aput ks[j] t.v (evalF D x (ks.take j)) = evalF D x (ks.take (j + 1)) by rw [hev]; simp only [evStep, evVal, hnd, if_pos hk0]] at H
        exact again (j + 1) _ _ ⟨by omega, H⟩ ⟨rfl, rfl, rfl, rfl, rfl, rfl, rfl, trivial⟩ (by omega)
      · have hk0 : ¬ t.kind = 0 := by simpa using hb
        refine TW.seq ?_
        refine TW.region ?_
        refine LW.v (r_bin) ?_
        refine LW.v (r_as) ?_
        refine LW.nil ?_
        refine TW.c rfl (fun hb => ?_) (fun hb => ?_)
        · have hk1 : t.kind = 1 := by simpa using hb
          have hv32 : t.v < 32 := by
            rcases ht with h | ⟨_, h⟩ | ⟨h, _⟩
            · omega
            · exact h
            · omega
          have hxg : x[t.v.toNat]? = some x[t.v.toNat] := List.getElem?_eq_getElem (by omega)
          refine TW.region ?_
          refine LW.v (r_mv) ?_
          refine LW.v (r_mv) ?_
          refine LW.v (r_fa) ?_
          refine LW.v (r_ld H) ?_
          refine LW.v (r_iaA (h0 := hv.1) (h1 := by omega)) ?_
          refine LW.v (r_ldc (cellU (g := g5) H hxg)) ?_
          refine LW.sto (r_mu H K (a := ks[j]) (b := x[t.v.toNat])) ?_; intro w H
          refine LW.nil ?_
          refine TW.inBlock <| TW.inBlock ?_
          refine TW.region ?_
          first | refine LW.v (r_add (hk := w64 (by omega) (by omega))) ?_ | refine LW.v (r_bin) ?_
          refine LW.v (r_mv) ?_
          refine LW.nil ?_
          have H := (back _ _ H.drop).swap
          rw [show aput ks[j] x[t.v.toNat] (evalF D x (ks.take j)) = evalF D x (ks.take (j + 1)) by rw [hev]; simp only [evStep, evVal, hnd, if_neg hk0, if_pos hk1, hxg, Option.getD_some]] at H
          exact again (j + 1) _ _ ⟨by omega, H⟩ ⟨rfl, rfl, rfl, rfl, rfl, rfl, rfl, trivial⟩ (by omega)
        · have hk1 : ¬ t.kind = 1 := by simpa using hb
          have hr1 := evalF_rng hgr hx (ks.take j) [] (fun a => by simp [mg, alook]) t.b
          refine TW.region ?_
          refine LW.v (r_mv) ?_
          refine LW.v (r_mv) ?_
          refine LW.v (r_fa) ?_
          refine LW.v (r_ld H) ?_
          refine LW.v (r_mv) ?_
          refine LW.v (r_fa) ?_
          refine LW.v (r_ld H) ?_
          refine LW.v (r_lku H K) ?_
          refine LW.v (r_mv) ?_
          refine LW.v (r_fa) ?_
          refine LW.v (r_ld H) ?_
          refine LW.v (r_lku H K) ?_
          refine LW.c r_c3 ((wdo_spec _ _ _ _ t.op (mg (evalF D x (ks.take j)) t.a) (mg (evalF D x (ks.take j)) t.b) hr1.1 hr1.2 H).mono ?_)
          rintro _ w ⟨rfl, H⟩
          refine ⟨_, rfl, ?_⟩
          refine LW.v (r_mv) ?_
          refine LW.v (r_ext) ?_
          refine LW.v (r_ext) ?_
          refine LW.sto (r_mu H K (a := ks[j]) (b := (WhI.wdo t.op (mg (evalF D x (ks.take j)) t.a) (mg (evalF D x (ks.take j)) t.b)).1)) ?_; intro w H
          refine LW.nil ?_
          refine TW.inBlock <| TW.inBlock ?_
          refine TW.region ?_
          first | refine LW.v (r_add (hk := w64 (by omega) (by omega))) ?_ | refine LW.v (r_bin) ?_
          refine LW.v (r_mv) ?_
          refine LW.nil ?_
          have H := (back _ _ H.drop).swap
          rw [show aput ks[j] (WhI.wdo t.op (mg (evalF D x (ks.take j)) t.a) (mg (evalF D x (ks.take j)) t.b)).1 (evalF D x (ks.take j)) = evalF D x (ks.take (j + 1)) by rw [hev]; simp only [evStep, evVal, hnd, if_neg hk0, if_neg hk1]] at H
          exact again (j + 1) _ _ ⟨by omega, H⟩ ⟨rfl, rfl, rfl, rfl, rfl, rfl, rfl, trivial⟩ (by omega)
    · have hj2 : ¬ j < ks.length := by simpa using hb
      have e3 : ks.take j = ks := List.take_of_length_le (by omega)
      rw [e3] at H
      refine TW.exit rfl <| TW.seq ?_
      refine TW.region ?_
      refine LW.v (r_mv) ?_
      refine LW.v (r_mv) ?_
      refine LW.v (r_lku H K) ?_
      refine LW.v (r_as) ?_
      refine LW.v (r_as) ?_
      refine LW.nil ?_
      refine TW.ret (ret2 (by rfl) rT rT ?_)
      exact ⟨ss, hperm, by rw [hks], (H.drop.dropAt 1).dropAt 1⟩
end Wh
