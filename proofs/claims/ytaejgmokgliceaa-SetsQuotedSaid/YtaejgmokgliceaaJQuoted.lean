/- PROVED: pontoonlaw07.SetsQuoted returns true whatever comes in, and what comes in reads behind the call as it did before. No conditions. -/
import Derived.Test.YtaejgmokgliceaaJ6
import Derived.Test.YtaejgmokgliceaaJ4
import Derived.Test.YtaejgmokgliceaaRows
import Derived.WalkKit
import Derived.ProofKit
import Derived.OpenShut
import Derived.ShutString
import Derived.ChangeOld
import Derived.Below
import Derived.SizedLaws
/- The sets' layer: SetsReads, SetsQuoted: what the machine tells of them. -/

set_option linter.unusedSimpArgs false
set_option linter.unusedVariables false
namespace Go.Proofs
open Go.Vam
theorem writes_text {l : List Tok} (hs : Small l) : ∀ (n : Nat) (i : Int) (out : List (List UInt8)), (∀ y ∈ out, y.length ≤ 3000000) → ∀ y ∈ writesR l n i out, y.length ≤ 3000000 := by
  intro n
  induction n with
  | zero => intro i out h; exact h
  | succ n ih =>
    intro i out h
    unfold writesR
    refine ih _ _ ?_
    have hf := from_text hs (l.length + 1) (i + 1)
    have hf1 : ∀ y ∈ (namesAt l (i + 1)).take 1, y.length ≤ 3000000 := fun y hy => hf y (List.mem_of_mem_take hy)
    unfold wStep
    cases moreAt l i <;> cases oneAt l i <;> simp only [if_true, Bool.false_eq_true, if_false]
    · exact h
    · exact putS_text _ _ h hf1
    · exact putS_text _ _ h hf
    · exact putS_text _ _ (putS_text _ _ h hf) hf1
/-- What sets.Parse tells. -/
theorem parse_cases (s : List UInt8) : (∃ l, Small l ∧ parseL s = (ofS l, 0)) ∨ ∃ e, e ≠ 0 ∧ parseL s = (zeroS, e) := by
  unfold parseL
  have hpc := fun x => piece_small (s := s) (x := x)
  split
  · cases hpl : splitL (scanL s).1 with
    | nil => exact .inl ⟨[], small_nil, rfl⟩
    | cons x ls =>
      cases ls with
      | nil => exact .inl ⟨x, hpc x (by rw [hpl]; simp), rfl⟩
      | cons y ls => exact .inr ⟨4, by decide, rfl⟩
  · rename_i h
    exact .inr ⟨_, h, rfl⟩
theorem rises_at {w : List (List UInt8)} (h : Rises w) {i : Nat} (hi : i + 1 < w.length) : Op.bytesLess (strAt w i) (strAt w (i + 1)) = true := by
  rw [strAt_lt (by omega), strAt_lt hi]
  exact List.pairwise_iff_getElem.1 h i (i + 1) (by omega) hi (by omega)
theorem strAt_mem {w : List (List UInt8)} {i : Nat} (h : i < w.length) : strAt w i ∈ w := by
  rw [strAt_lt h]
  exact List.getElem_mem h
theorem law_reads (s : List UInt8) : PV 5 [.str s] = some (.bool true) := by
  refine PV_start k5 rfl (Nat.le_of_ble_eq_true rfl) ?_
  have h9 := p_known
  by_cases c1 : (2100 : Int) < (s.length : Int)
  · simp only [go_sem, Nat.reduceEqDiff, reduceCtorEq, Nat.reduceAdd, Nat.reduceSub, Nat.reduceLT, Nat.reduceLeDiff, Int.reduceAdd, Int.reduceSub, Int.reduceNeg, Int.reduceEq, Int.reduceLT, Int.reduceLE, bx, K5, c1, call_pure pure_9, h9]
  have p1 := p_parse s (by omega)
  rcases parse_cases s with ⟨l, hs, hpl⟩ | ⟨e, he, hpl⟩
  · rw [hpl] at p1
    have hR : Rises (ofS l).reads := by
      unfold ofS
      simp only
      split
      · exact (readsS l).2
      · exact List.Pairwise.nil
    have hW : Rises (ofS l).writes := by
      unfold ofS
      simp only
      split
      · exact (writesS l).2
      · exact List.Pairwise.nil
    have tR : ∀ y ∈ (ofS l).reads, y.length ≤ 3000000 := by
      unfold ofS
      simp only
      split
      · exact reads_text hs _ _ _ (by simp) (by simp)
      · simp
    have tW : ∀ y ∈ (ofS l).writes, y.length ≤ 3000000 := by
      unfold ofS
      simp only
      split
      · exact writes_text hs _ _ _ (by simp)
      · simp
    have hm := of_max hs
    have hc1 : (ofS l).cls ≠ 1 ∨ (ofS l).writes = [] := by
      unfold ofS
      simp only
      by_cases h : classOf l = 1
      · right; rw [if_neg (by omega)]
      · left; exact h
    have hc2 : ((ofS l).cls = 1 ∨ (ofS l).cls = 2 ∨ (ofS l).cls = 7) ∨ ((ofS l).reads = [] ∧ (ofS l).writes = []) := by
      unfold ofS
      simp only
      by_cases h : classOf l = 1 ∨ classOf l = 2 ∨ classOf l = 7
      · exact .inl h
      · right; rw [if_neg h, if_neg (by omega)]; exact ⟨rfl, rfl⟩
    generalize ofS l = S at *
    obtain ⟨cls, R, W, nm⟩ := S
    simp only [parseR, stm] at *
    have st1 := new30 cls (.sl (strs R)) (.sl (strs W)) nm rfl rfl []
    simp only [go_sem, Nat.reduceEqDiff, reduceCtorEq, Nat.reduceAdd, Nat.reduceSub, Nat.reduceLT, Nat.reduceLeDiff, Int.reduceAdd, Int.reduceSub, Int.reduceNeg, Int.reduceEq, Int.reduceLT, Int.reduceLE, bx] at st1
    simp only [go_sem, Nat.reduceEqDiff, reduceCtorEq, Nat.reduceAdd, Nat.reduceSub, Nat.reduceLT, Nat.reduceLeDiff, Int.reduceAdd, Int.reduceSub, Int.reduceNeg, Int.reduceEq, Int.reduceLT, Int.reduceLE, bx, K5, c1, call_pure pure_19, p1, PC_still, st1]
    refine C_for (R.length - 1) (fun i st H => st 3 = .ptr 0 0 0 ∧ st 5 = .int .i64 ((i + 1 : Nat) : Int) ∧ H = [.arr 30 true 0 [[.int .i64 cls, .sl (strs R), .sl (strs W), .str nm]]]) ⟨by simp only [go_sem, Nat.reduceEqDiff, reduceCtorEq, Nat.reduceAdd, Nat.reduceSub, Nat.reduceLT, Nat.reduceLeDiff, Int.reduceAdd, Int.reduceSub, Int.reduceNeg, Int.reduceEq, Int.reduceLT, Int.reduceLE, bx], by simp only [go_sem, Nat.reduceEqDiff, reduceCtorEq, Nat.reduceAdd, Nat.reduceSub, Nat.reduceLT, Nat.reduceLeDiff, Int.reduceAdd, Int.reduceSub, Int.reduceNeg, Int.reduceEq, Int.reduceLT, Int.reduceLE, bx]; rfl, rfl⟩ ?_ ?_
    · rintro i st H hi ⟨q3, q5, rfl⟩
      have hd : (((i + 1 : Nat) : Int) < (R.length : Int)) := by omega
      have hw : IntKind.i64.wrap (((i + 1 : Nat) : Int) - 1) = (i : Int) := by rw [wrap_ok (by omega) (by omega)]; omega
      have hw2 : IntKind.i64.wrap (((i + 1 : Nat) : Int) + 1) = ((i + 1 + 1 : Nat) : Int) := wrap_succ (by simp only [maxL]; omega)
      have g1 := strs_at' (H := [.arr 30 true 0 [[.int .i64 cls, .sl (strs R), .sl (strs W), .str nm]]]) (w := R) (i := i) (by omega)
      have g2 := strs_at' (H := [.arr 30 true 0 [[.int .i64 cls, .sl (strs R), .sl (strs W), .str nm]]]) (w := R) (i := i + 1) (by omega)
      have hls := p_less (strAt R i) (strAt R (i + 1)) (by have := tR _ (strAt_mem (i := i) (by omega)); simp only [maxL]; omega) (by have := tR _ (strAt_mem (i := i + 1) (by omega)); simp only [maxL]; omega)
      rw [rises_at hR (by omega)] at hls
      simp only [go_sem, Nat.reduceEqDiff, reduceCtorEq, Nat.reduceAdd, Nat.reduceSub, Nat.reduceLT, Nat.reduceLeDiff, Int.reduceAdd, Int.reduceSub, Int.reduceNeg, Int.reduceEq, Int.reduceLT, Int.reduceLE, bx, L5_0, D5_9, q3, q5, strs_len, hd, hw, g1, g2, call_pure pure_23, hls, hw2]
    · rintro st H ⟨q3, q5, rfl⟩
      have hd : ¬ (((R.length - 1 + 1 : Nat) : Int) < (R.length : Int)) := by omega
      simp only [go_sem, Nat.reduceEqDiff, reduceCtorEq, Nat.reduceAdd, Nat.reduceSub, Nat.reduceLT, Nat.reduceLeDiff, Int.reduceAdd, Int.reduceSub, Int.reduceNeg, Int.reduceEq, Int.reduceLT, Int.reduceLE, bx, L5_0, q3, q5, strs_len, hd]
      refine C_for (W.length - 1) (fun i st H => st 3 = .ptr 0 0 0 ∧ st 6 = .int .i64 ((i + 1 : Nat) : Int) ∧ H = [.arr 30 true 0 [[.int .i64 cls, .sl (strs R), .sl (strs W), .str nm]]]) ⟨by simp only [go_sem, Nat.reduceEqDiff, reduceCtorEq, Nat.reduceAdd, Nat.reduceSub, Nat.reduceLT, Nat.reduceLeDiff, Int.reduceAdd, Int.reduceSub, Int.reduceNeg, Int.reduceEq, Int.reduceLT, Int.reduceLE, bx, q3], by simp only [go_sem, Nat.reduceEqDiff, reduceCtorEq, Nat.reduceAdd, Nat.reduceSub, Nat.reduceLT, Nat.reduceLeDiff, Int.reduceAdd, Int.reduceSub, Int.reduceNeg, Int.reduceEq, Int.reduceLT, Int.reduceLE, bx]; rfl, rfl⟩ ?_ ?_
      · clear q3 q5 hd st
        rintro i st H hi ⟨q3, q6, rfl⟩
        have hd : (((i + 1 : Nat) : Int) < (W.length : Int)) := by omega
        have hw : IntKind.i64.wrap (((i + 1 : Nat) : Int) - 1) = (i : Int) := by rw [wrap_ok (by omega) (by omega)]; omega
        have hw2 : IntKind.i64.wrap (((i + 1 : Nat) : Int) + 1) = ((i + 1 + 1 : Nat) : Int) := wrap_succ (by simp only [maxL]; omega)
        have g1 := strs_at' (H := [.arr 30 true 0 [[.int .i64 cls, .sl (strs R), .sl (strs W), .str nm]]]) (w := W) (i := i) (by omega)
        have g2 := strs_at' (H := [.arr 30 true 0 [[.int .i64 cls, .sl (strs R), .sl (strs W), .str nm]]]) (w := W) (i := i + 1) (by omega)
        have hls := p_less (strAt W i) (strAt W (i + 1)) (by have := tW _ (strAt_mem (i := i) (by omega)); simp only [maxL]; omega) (by have := tW _ (strAt_mem (i := i + 1) (by omega)); simp only [maxL]; omega)
        rw [rises_at hW (by omega)] at hls
        simp only [go_sem, Nat.reduceEqDiff, reduceCtorEq, Nat.reduceAdd, Nat.reduceSub, Nat.reduceLT, Nat.reduceLeDiff, Int.reduceAdd, Int.reduceSub, Int.reduceNeg, Int.reduceEq, Int.reduceLT, Int.reduceLE, bx, L5_1, D5_14, q3, q6, strs_len, hd, hw, g1, g2, call_pure pure_23, hls, hw2]
      · clear q3 q5 hd st
        rintro st H ⟨q3, q6, rfl⟩
        have hd : ¬ (((W.length - 1 + 1 : Nat) : Int) < (W.length : Int)) := by omega
        rcases hc2 with (e | e | e) | ⟨e1, e2⟩
        · subst e
          rcases hc1 with h | h
          · exact absurd rfl h
          · have hwl : (W.length : Int) = 0 := by rw [h]; rfl
            have hd2 : ¬ (((W.length - 1 + 1 : Nat) : Int) < 0) := by omega
            simp only [go_sem, Nat.reduceEqDiff, reduceCtorEq, Nat.reduceAdd, Nat.reduceSub, Nat.reduceLT, Nat.reduceLeDiff, Int.reduceAdd, Int.reduceSub, Int.reduceNeg, Int.reduceEq, Int.reduceLT, Int.reduceLE, bx, L5_1, q3, q6, strs_len, hd2, hwl, call_pure pure_9, h9]
        · subst e
          simp only [go_sem, Nat.reduceEqDiff, reduceCtorEq, Nat.reduceAdd, Nat.reduceSub, Nat.reduceLT, Nat.reduceLeDiff, Int.reduceAdd, Int.reduceSub, Int.reduceNeg, Int.reduceEq, Int.reduceLT, Int.reduceLE, bx, L5_1, q3, q6, strs_len, hd, call_pure pure_9, h9]
        · subst e
          simp only [go_sem, Nat.reduceEqDiff, reduceCtorEq, Nat.reduceAdd, Nat.reduceSub, Nat.reduceLT, Nat.reduceLeDiff, Int.reduceAdd, Int.reduceSub, Int.reduceNeg, Int.reduceEq, Int.reduceLT, Int.reduceLE, bx, L5_1, q3, q6, strs_len, hd, call_pure pure_9, h9]
        · have hwl : (W.length : Int) = 0 := by rw [e2]; rfl
          have hrl : (R.length : Int) = 0 := by rw [e1]; rfl
          have hd2 : ¬ (((W.length - 1 + 1 : Nat) : Int) < 0) := by omega
          have hadd : IntKind.i64.wrap 0 = 0 := by decide
          by_cases k1 : cls = 1
          · simp only [go_sem, Nat.reduceEqDiff, reduceCtorEq, Nat.reduceAdd, Nat.reduceSub, Nat.reduceLT, Nat.reduceLeDiff, Int.reduceAdd, Int.reduceSub, Int.reduceNeg, Int.reduceEq, Int.reduceLT, Int.reduceLE, bx, L5_1, q3, q6, strs_len, hd2, hwl, k1, call_pure pure_9, h9]
          · by_cases k2 : cls = 2
            · simp only [go_sem, Nat.reduceEqDiff, reduceCtorEq, Nat.reduceAdd, Nat.reduceSub, Nat.reduceLT, Nat.reduceLeDiff, Int.reduceAdd, Int.reduceSub, Int.reduceNeg, Int.reduceEq, Int.reduceLT, Int.reduceLE, bx, L5_1, q3, q6, strs_len, hd2, hwl, k2, call_pure pure_9, h9]
            · by_cases k3 : cls = 7
              · simp only [go_sem, Nat.reduceEqDiff, reduceCtorEq, Nat.reduceAdd, Nat.reduceSub, Nat.reduceLT, Nat.reduceLeDiff, Int.reduceAdd, Int.reduceSub, Int.reduceNeg, Int.reduceEq, Int.reduceLT, Int.reduceLE, bx, L5_1, q3, q6, strs_len, hd2, hwl, k3, call_pure pure_9, h9]
              · simp only [go_sem, Nat.reduceEqDiff, reduceCtorEq, Nat.reduceAdd, Nat.reduceSub, Nat.reduceLT, Nat.reduceLeDiff, Int.reduceAdd, Int.reduceSub, Int.reduceNeg, Int.reduceEq, Int.reduceLT, Int.reduceLE, bx, L5_1, q3, q6, strs_len, hd2, hwl, hrl, k1, k2, k3, hadd, Int.add_zero, call_pure pure_9, h9]
  · rw [hpl] at p1
    simp only [parseR, stm, zeroS] at p1
    have st1 := new30 0 (.sl (strs [])) (.sl (strs [])) [] rfl rfl []
    simp only [go_sem, Nat.reduceEqDiff, reduceCtorEq, Nat.reduceAdd, Nat.reduceSub, Nat.reduceLT, Nat.reduceLeDiff, Int.reduceAdd, Int.reduceSub, Int.reduceNeg, Int.reduceEq, Int.reduceLT, Int.reduceLE, bx] at st1
    have hz : ((0 : Nat) : Int) = 0 := rfl
    have hs0 : (([] : List UInt8) == []) = true := rfl
    have hadd : IntKind.i64.wrap 0 = 0 := by decide
    simp only [go_sem, Nat.reduceEqDiff, reduceCtorEq, Nat.reduceAdd, Nat.reduceSub, Nat.reduceLT, Nat.reduceLeDiff, Int.reduceAdd, Int.reduceSub, Int.reduceNeg, Int.reduceEq, Int.reduceLT, Int.reduceLE, bx, K5, c1, call_pure pure_19, p1, PC_still, st1, he, strs_len, hz, hs0, hadd, Int.add_zero, call_pure pure_9, h9]
end Go.Proofs
/- The sets' layer: SetsQuoted: what the machine tells of it. -/

set_option linter.unusedSimpArgs false
set_option linter.unusedVariables false
namespace Go.Proofs
open Go.Vam
theorem bs_toks (n : Nat) (parts : List (Nat × AV)) (H : AHeap) (hn : n ≤ 1000) (h : isIdx (fun x => decide (x.cells.length = 3) && x.cells.all AV.isCell) 0 n parts = true) : abuildSlice Try.prog 22 n parts H = some (.hs H.length 0 n, H ++ [.arr 40 true 0 (parts.map fun p => p.2.cells)]) :=
  bs_gen (t := 22) (e := 40) (z := [.int .i64 0, .str [], .int .i64 0]) (n := n) (parts := parts) sliceT_22 zeroT_40 (fun x hx => by
    simp only [Bool.and_eq_true, decide_eq_true_eq] at hx
    exact ⟨hx.1, hx.2⟩) H (by simp; omega) h
/-- A slice of tokens that has just been laid goes into a call: it is as it was, but settled. -/
theorem call_new (H : AHeap) (l : List Tok) (x : List (List UInt8)) : ∃ fz, PC [.hs H.length 0 l.length] (H ++ [.arr 40 true 0 (toks l)]) (some (.sl (strs x))) = some (.sl (strs x), H ++ [.arr 40 true fz (toks l)]) := by
  have hH : (H ++ [AO.arr 40 true 0 (toks l)])[H.length]? = some (.arr 40 true 0 (toks l)) := by rw [List.getElem?_append_right (Nat.le_refl _)]; simp
  rw [PC_some]
  cases hl : leads depth (.sl (strs x)) with
  | false => exact ⟨0, rfl⟩
  | true =>
    have hr : [AV.hs H.length 0 l.length].flatMap (reach depth (H ++ [AO.arr 40 true 0 (toks l)])) = [H.length] := by
      simp only [List.flatMap_cons, List.flatMap_nil, List.append_nil]
      show H.length :: (match (H ++ [AO.arr 40 true 0 (toks l)])[H.length]? with
        | some (.arr _ _ _ es) => es.flatMap fun e => e.flatMap (reach 7 (H ++ [AO.arr 40 true 0 (toks l)]))
        | _ => []) = [H.length]
      rw [hH]
      simp only
      rw [reach_tok]
    rw [hr]
    refine ⟨max 0 (toks l).length, ?_⟩
    simp only [if_true, List.foldl_cons, List.foldl_nil, settle1, hH]
    rw [List.set_append_right _ _ (Nat.le_refl _)]
    simp
theorem frz_new (H : AHeap) (l : List Tok) (fz : Nat) : frz depth (H ++ [.arr 40 true fz (toks l)]) (.hs H.length 0 l.length) = some (.sl (toks l)) :=
  OwnF.frz ⟨H.length, fz, rfl, by rw [List.getElem?_append_right (Nat.le_refl _)]; simp⟩
def kw (x : List UInt8) : Tok := ⟨1, x, 0⟩
def qd (x : List UInt8) : Tok := ⟨2, x, 0⟩
theorem q_from (s : List UInt8) : readsR [kw [102, 114, 111, 109], qd s] 2 0 [] = [s] := by kernel_rfl
theorem q_into (s : List UInt8) : writesR [kw [105, 110, 116, 111], qd s] 2 0 [] = [s] := by kernel_rfl
theorem q_delw (s : List UInt8) : writesR [kw [100, 101, 108, 101, 116, 101], kw [102, 114, 111, 109], qd s] 3 0 [] = [s] := by kernel_rfl
theorem q_delr (s : List UInt8) : readsR [kw [100, 101, 108, 101, 116, 101], kw [102, 114, 111, 109], qd s] 3 0 [] = [] := by kernel_rfl
theorem new40 (k p : Int) (s : List UInt8) (H : AHeap) : astore Try.prog 40 (.ptr H.length 0 0) (.agg [.int .i64 k, .str s, .int .i64 p]) (H ++ [.arr 40 true 0 [[.int .i64 0, .str [], .int .i64 0]]]) = some (H ++ [.arr 40 true 0 [[.int .i64 k, .str s, .int .i64 p]]]) :=
  store_agg (c := [.int .i64 k, .str s, .int .i64 p]) (z := [.int .i64 0, .str [], .int .i64 0]) szOf_40 rfl rfl H
theorem law_quoted (s : List UInt8) : PV 7 [.str s] = some (.bool true) := by
  refine PV_start k7 rfl (Nat.le_of_ble_eq_true rfl) ?_
  have h9 := p_known
  by_cases c1 : (300 : Int) < (s.length : Int)
  · simp only [go_sem, Nat.reduceEqDiff, reduceCtorEq, Nat.reduceAdd, Nat.reduceSub, Nat.reduceLT, Nat.reduceLeDiff, Int.reduceAdd, Int.reduceSub, Int.reduceNeg, Int.reduceEq, Int.reduceLT, Int.reduceLE, bx, K7, c1, call_pure pure_9, h9]
  have hsm : ∀ l : List Tok, l.length ≤ 3 → (∀ t ∈ l, t = kw [102, 114, 111, 109] ∨ t = kw [105, 110, 116, 111] ∨ t = kw [100, 101, 108, 101, 116, 101] ∨ t = qd s) → Small l := fun l h1 h2 => ⟨by omega, fun t ht => by
    rcases h2 t ht with rfl | rfl | rfl | rfl
    · simp [kw]
    · simp [kw]
    · simp [kw]
    · simp only [qd]; omega⟩
  have r1 := p_reads [kw [102, 114, 111, 109], qd s] (hsm _ (by simp) (by simp))
  have r2 := p_writes' [kw [105, 110, 116, 111], qd s] (hsm _ (by simp) (by simp))
  have r3 := p_writes' [kw [100, 101, 108, 101, 116, 101], kw [102, 114, 111, 109], qd s] (hsm _ (by simp) (by simp))
  have r4 := p_reads [kw [100, 101, 108, 101, 116, 101], kw [102, 114, 111, 109], qd s] (hsm _ (by simp) (by simp))
  simp only [List.length_cons, List.length_nil, Nat.reduceAdd, q_from, q_into, q_delw, q_delr] at r1 r2 r3 r4
  have tx := p_texts [s] [s] (Nat.le_of_ble_eq_true rfl)
  rw [decide_eq_true rfl] at tx
  have st := new40 2 0 s []
  generalize hoq : AO.arr 40 true 0 [[.int .i64 2, .str s, .int .i64 0]] = oq at *
  have lq : ∀ T : AHeap, aload Try.prog 40 (.ptr 0 0 0) (oq :: T) = some (.agg [.int .i64 2, .str s, .int .i64 0]) := fun T => by
    rw [load_ptr, ← hoq]
    simp only [go_sem, Nat.reduceEqDiff, reduceCtorEq, Nat.reduceAdd, Nat.reduceSub, Nat.reduceLT, Nat.reduceLeDiff, Int.reduceAdd, Int.reduceSub, Int.reduceNeg, Int.reduceEq, Int.reduceLT, Int.reduceLE, bx, Nat.le_refl]
  obtain ⟨z1, cn1⟩ := call_new [oq] [kw [102, 114, 111, 109], qd s] [s]
  have fr1 := frz_new [oq] [kw [102, 114, 111, 109], qd s] 0
  have bs1 := bs_toks 2 [(0, .agg [.int .i64 1, .str [102, 114, 111, 109], .int .i64 0]), (1, .agg [.int .i64 2, .str s, .int .i64 0])] [oq] (by decide) rfl
  have e1 : ([(0, AV.agg [.int .i64 1, .str [102, 114, 111, 109], .int .i64 0]), (1, .agg [.int .i64 2, .str s, .int .i64 0])] : List (Nat × AV)).map (fun p => p.2.cells) = toks [kw [102, 114, 111, 109], qd s] := rfl
  rw [e1] at bs1
  generalize toks [kw [102, 114, 111, 109], qd s] = T1 at *
  generalize ho1 : AO.arr 40 true z1 T1 = o1 at *
  obtain ⟨z2, cn2⟩ := call_new [oq, o1] [kw [105, 110, 116, 111], qd s] [s]
  have fr2 := frz_new [oq, o1] [kw [105, 110, 116, 111], qd s] 0
  have bs2 := bs_toks 2 [(0, .agg [.int .i64 1, .str [105, 110, 116, 111], .int .i64 0]), (1, .agg [.int .i64 2, .str s, .int .i64 0])] [oq, o1] (by decide) rfl
  have e2 : ([(0, AV.agg [.int .i64 1, .str [105, 110, 116, 111], .int .i64 0]), (1, .agg [.int .i64 2, .str s, .int .i64 0])] : List (Nat × AV)).map (fun p => p.2.cells) = toks [kw [105, 110, 116, 111], qd s] := rfl
  rw [e2] at bs2
  generalize toks [kw [105, 110, 116, 111], qd s] = T2 at *
  generalize ho2 : AO.arr 40 true z2 T2 = o2 at *
  have bs3 := bs_toks 3 [(0, .agg [.int .i64 1, .str [100, 101, 108, 101, 116, 101], .int .i64 0]), (1, .agg [.int .i64 1, .str [102, 114, 111, 109], .int .i64 0]), (2, .agg [.int .i64 2, .str s, .int .i64 0])] [oq, o1, o2] (by decide) rfl
  have e3 : ([(0, AV.agg [.int .i64 1, .str [100, 101, 108, 101, 116, 101], .int .i64 0]), (1, .agg [.int .i64 1, .str [102, 114, 111, 109], .int .i64 0]), (2, .agg [.int .i64 2, .str s, .int .i64 0])] : List (Nat × AV)).map (fun p => p.2.cells) = toks [kw [100, 101, 108, 101, 116, 101], kw [102, 114, 111, 109], qd s] := rfl
  rw [e3] at bs3
  have own3 : OwnF [oq, o1, o2, .arr 40 true 0 (toks [kw [100, 101, 108, 101, 116, 101], kw [102, 114, 111, 109], qd s])] (.hs 3 0 3) [kw [100, 101, 108, 101, 116, 101], kw [102, 114, 111, 109], qd s] := ⟨3, 0, rfl, rfl⟩
  generalize ho3 : AO.arr 40 true 0 (toks [kw [100, 101, 108, 101, 116, 101], kw [102, 114, 111, 109], qd s]) = o3 at *
  have bs4 := bs_str 1 [(0, .str s)] [oq, o1, o2, o3] (by decide) rfl
  simp only [List.length_cons, List.length_nil, Nat.reduceAdd, List.cons_append, List.nil_append, List.map_cons, List.map_nil, strOf_str] at st cn1 fr1 bs1 cn2 fr2 bs2 bs3 bs4
  have own4 : OwnF [oq, o1, o2, o3, .arr 9 true 0 (strs [s])] (.hs 3 0 3) [kw [100, 101, 108, 101, 116, 101], kw [102, 114, 111, 109], qd s] := ⟨3, 0, rfl, by rw [← ho3]; rfl⟩
  have fr4 := frz_last [oq, o1, o2, o3] [s] 1 rfl
  simp only [List.length_cons, List.length_nil, Nat.reduceAdd, List.cons_append, List.nil_append] at fr4
  generalize [oq, o1, o2, o3, AO.arr 9 true 0 (strs [s])] = H4 at *
  obtain ⟨H5, cn5, own5⟩ := own4.call (.sl (strs [s]))
  have fr5 := own4.frz
  obtain ⟨H6, cn6, own6⟩ := own5.call (.sl (strs []))
  have fr6 := own5.frz
  generalize hT3 : toks [kw [100, 101, 108, 101, 116, 101], kw [102, 114, 111, 109], qd s] = T3 at *
  have hz : ((0 : Nat) : Int) = 0 := rfl
  simp only [go_sem, Nat.reduceEqDiff, reduceCtorEq, Nat.reduceAdd, Nat.reduceSub, Nat.reduceLT, Nat.reduceLeDiff, Int.reduceAdd, Int.reduceSub, Int.reduceNeg, Int.reduceEq, Int.reduceLT, Int.reduceLE, bx, K7, c1, build40, hz, List.length_nil, st, lq, bs1, call_pure pure_11, fr1, r1, cn1, bs2, call_pure pure_13, fr2, r2, cn2, bs3, bs4, call_pure pure_10, fr4, tx, fr5, r3, cn5, fr6, r4, cn6, strs_len, call_pure pure_9, h9]
end Go.Proofs
/- The sets' layer: from what the machine tells to calls. -/

namespace Go.Proofs
open Go.Vam Go.RowKit
theorem frz_true {n : Nat} {H : AHeap} {r : AV} (h : frz n H r = some (.bool true)) : r = .bool true := by
  cases r with
  | bool b => cases n <;> (simp only [frz, Option.some.injEq] at h; exact h)
  | agg xs => cases n with
    | zero => simp [frz] at h
    | succ n =>
      simp only [frz] at h
      cases hm : mapO (frz n H) xs <;> rw [hm] at h <;> cases h
  | tup xs => cases n with
    | zero => simp [frz] at h
    | succ n =>
      simp only [frz] at h
      cases hm : mapO (frz n H) xs <;> rw [hm] at h <;> cases h
  | hs id i m => cases n with
    | zero => simp [frz] at h
    | succ n =>
      simp only [frz] at h
      split at h
      · split at h
        · rename_i es _ _
          cases hm : mapO (fun e => mapO (frz n H) e) (List.take m (List.drop i es)) <;> rw [hm] at h <;> cases h
        · cases h
      · cases h
  | mp id => cases n with
    | zero => simp [frz] at h
    | succ n =>
      simp only [frz] at h
      split at h
      · rename_i es _
        cases hm : mapO (fun e => (frz n H e.1).bind fun a => (frz n H e.2).map fun b => (a, b)) es <;> rw [hm] at h <;> cases h
      · cases h
  | fn f xs => cases xs <;> cases n <;> simp [frz] at h
  | _ => cases n <;> simp [frz] at h
/-- A law that the machine tells true, of arguments that are so: the call returns true, and what was there stands. -/
theorem law_walk {f : FuncId} {xs : List AV} {vs : List Value} {W : World} {ok0 : Nat → Nat → Prop} (h : PV f xs = some (.bool true)) (hlen : vs.length = xs.length)
    (hargs : ∀ i x, xs[i]? = some x → VR Try.prog (okS W.heap.size ok0 [] []) W [] x (vs.getD i undef)) :
    Calls Try.prog f vs.toArray W fun e W' => e = .returned (.bool true) ∧ Below W.heap.size W W' := by
  unfold PV at h
  cases hc : callV E f xs [] with
  | none => rw [hc] at h; cases h
  | some y =>
    obtain ⟨r, H1⟩ := y
    rw [hc] at h
    simp only at h
    have hr := frz_true h
    subst hr
    refine ((Proofs.told hc).2 W.heap.size ok0 [] W vs (St.empty _ _ _) (Nat.le_refl _) hlen hargs).mono fun e W' he => ?_
    cases e with
    | returned v =>
      obtain ⟨ρ', _, he2, he3⟩ := he
      cases he3
      exact ⟨rfl, he2.below⟩
    | _ => exact he.elim
end Go.Proofs
/- SetsQuoted: the row. -/










namespace Go.Proofs.Ytaejgmokgliceaa.setsQuoted
open Go.ChangeShapes Go.WideShapes Go.ChangeAt Go.RowKit
open Go.ChangeMaps (open_string shut_string)
set_option linter.unusedVariables false
theorem own : ownKnob Try.prog.godebug = none := by kernel_rfl
theorem walk (a0 : ByteArray) (W : World) : Calls Try.prog 7 #[.string a0] W fun e W' => e = .returned (.bool true) ∧ Below W.heap.size W W' :=
  law_walk (xs := [.str a0.data.toList]) (vs := [.string a0]) (ok0 := fun _ _ => False) (law_quoted _) rfl fun i x hx => by
    cases i with
    | zero => simp at hx; subst hx; exact .str _ _
    | succ i => simp at hx
set_option maxRecDepth 100000 in
theorem lifted (os : Os) (started : os.Started) (H : Type) (enc : TypeId × Value → H) :
    ReturnsInHanded {} Try.checked os 7 .any (Rows.setsQuotedSpec.pre6 enc Try.prog Try.f7 Rows.setsQuotedRow.domain false) (Rows.setsQuotedSpec.post enc Try.prog Try.f7 false true false false) := by
  refine returnsInHanded_of_change_sized (C := Try.checked) own started (by kernel_rfl) Try.func7
    (ChangeSpec.witness6 (enc := enc) (C := Try.checked) false ⟨#[], #[.string ByteArray.empty], []⟩ 8 (by kernel_rfl) (by kernel_rfl) (by kernel_rfl) (by kernel_rfl)) ?_
  intro W base args ds gs before hval0 hW hcnd hsz0 _
  have hsz : (DataW.weightsEach Try.prog (Try.f7.params.toList ++ Rows.setsQuotedSpec.plain.varTypes Try.prog) (ds ++ gs)).all (· ≤ reachBytes) = true := hsz0
  have hval : ∀ (j : Nat) t v, Try.f7.params[j]? = some t → args[j]? = some v → Value.okWide Try.prog W .any base t v := hval0
  have hW' := hW
  obtain ⟨p, q, hA0, hV, rfl, hfz, hnd⟩ := hW
  have hA : DataW.TrodAll enc Try.prog W 0 (fun _ => true) true Try.f7.params.toList args.toList ds p := hA0
  rw [Try.params7] at hA hval hsz
  obtain ⟨v0, vs0, d0, ds0, p0, q0, hargs, rfl, rfl, h0, r0⟩ := trodAll_cons hA
  obtain ⟨rfl, rfl, rfl⟩ := trodAll_nil r0
  obtain rfl : args = #[v0] := by cases args; simp_all
  obtain ⟨rfl, rfl⟩ := trodVars_none hV
  obtain ⟨a0, rfl, rfl, rfl, y0⟩ := open_string Try.underlying9 (hval 0 9 v0 rfl rfl) h0
  clear hA0 hval0 hsz0 hsz
  refine (walk a0 W).mono fun e W' ⟨he, bel⟩ => ?_
  subst he
  exact ⟨_, rfl, _, _, _, [], _, [], hW', trodAll_mk1 (shut_bool Try.underlying4 _), (trodAll_cons_mk (shut_string Try.underlying9 y0) trodAll_mk0), rfl, bel.frame _, fun h => by cases h⟩
theorem over : Rows.setsQuotedRow.holds Try.pinned (OpenSpec.ofChange Rows.setsQuotedSpec) :=
  OpenClaim.holds_of_wide 7 Try.f7 rfl rfl rfl rfl rfl rfl rfl ⟨rfl, rfl, rfl, rfl, rfl⟩ rfl rfl rfl rfl rfl (by kernel_rfl) Try.func7 (by kernel_rfl)
    (of_decide_eq_true (by kernel_rfl)) (by unfold Func.isWrapper; first | (rw [if_pos (by decide +kernel)]; kernel_rfl) | (rw [if_neg (by decide +kernel)]; exact ⟨rfl, rfl⟩))
    (fun os started H enc _ => lifted os started H enc)
theorem proved : Rows.SetsQuotedSaid := over
#print axioms proved
end Go.Proofs.Ytaejgmokgliceaa.setsQuoted
