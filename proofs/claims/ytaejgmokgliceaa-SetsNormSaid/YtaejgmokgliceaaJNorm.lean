/- PROVED: pontoonlaw07.SetsNorm returns true for every text, and the text reads behind the call as it did before. No conditions. -/
import Derived.Test.YtaejgmokgliceaaJ5
import Derived.Test.YtaejgmokgliceaaJ4
import Derived.Test.YtaejgmokgliceaaRows
import Derived.WalkKit
import Derived.ProofKit
import Derived.OpenShut
import Derived.ShutString
import Derived.ChangeOld
import Derived.Below
import Derived.SizedLaws
/- The sets' layer: SetsReads, SetsQuoted: what the machine tells of them. -/

set_option linter.unusedSimpArgs false
set_option linter.unusedVariables false
namespace Go.Proofs
open Go.Vam
theorem writes_text {l : List Tok} (hs : Small l) : ∀ (n : Nat) (i : Int) (out : List (List UInt8)), (∀ y ∈ out, y.length ≤ 3000000) → ∀ y ∈ writesR l n i out, y.length ≤ 3000000 := by
  intro n
  induction n with
  | zero => intro i out h; exact h
  | succ n ih =>
    intro i out h
    unfold writesR
    refine ih _ _ ?_
    have hf := from_text hs (l.length + 1) (i + 1)
    have hf1 : ∀ y ∈ (namesAt l (i + 1)).take 1, y.length ≤ 3000000 := fun y hy => hf y (List.mem_of_mem_take hy)
    unfold wStep
    cases moreAt l i <;> cases oneAt l i <;> simp only [if_true, Bool.false_eq_true, if_false]
    · exact h
    · exact putS_text _ _ h hf1
    · exact putS_text _ _ h hf
    · exact putS_text _ _ (putS_text _ _ h hf) hf1
/-- What sets.Parse tells. -/
theorem parse_cases (s : List UInt8) : (∃ l, Small l ∧ parseL s = (ofS l, 0)) ∨ ∃ e, e ≠ 0 ∧ parseL s = (zeroS, e) := by
  unfold parseL
  have hpc := fun x => piece_small (s := s) (x := x)
  split
  · cases hpl : splitL (scanL s).1 with
    | nil => exact .inl ⟨[], small_nil, rfl⟩
    | cons x ls =>
      cases ls with
      | nil => exact .inl ⟨x, hpc x (by rw [hpl]; simp), rfl⟩
      | cons y ls => exact .inr ⟨4, by decide, rfl⟩
  · rename_i h
    exact .inr ⟨_, h, rfl⟩
theorem rises_at {w : List (List UInt8)} (h : Rises w) {i : Nat} (hi : i + 1 < w.length) : Op.bytesLess (strAt w i) (strAt w (i + 1)) = true := by
  rw [strAt_lt (by omega), strAt_lt hi]
  exact List.pairwise_iff_getElem.1 h i (i + 1) (by omega) hi (by omega)
theorem strAt_mem {w : List (List UInt8)} {i : Nat} (h : i < w.length) : strAt w i ∈ w := by
  rw [strAt_lt h]
  exact List.getElem_mem h
theorem law_reads (s : List UInt8) : PV 5 [.str s] = some (.bool true) := by
  refine PV_start k5 rfl (Nat.le_of_ble_eq_true rfl) ?_
  have h9 := p_known
  by_cases c1 : (2100 : Int) < (s.length : Int)
  · simp only [go_sem, bx, K5, c1, call_pure pure_9, h9]
  have p1 := p_parse s (by omega)
  rcases parse_cases s with ⟨l, hs, hpl⟩ | ⟨e, he, hpl⟩
  · rw [hpl] at p1
    have hR : Rises (ofS l).reads := by
      unfold ofS
      simp only
      split
      · exact (readsS l).2
      · exact List.Pairwise.nil
    have hW : Rises (ofS l).writes := by
      unfold ofS
      simp only
      split
      · exact (writesS l).2
      · exact List.Pairwise.nil
    have tR : ∀ y ∈ (ofS l).reads, y.length ≤ 3000000 := by
      unfold ofS
      simp only
      split
      · exact reads_text hs _ _ _ (by simp) (by simp)
      · simp
    have tW : ∀ y ∈ (ofS l).writes, y.length ≤ 3000000 := by
      unfold ofS
      simp only
      split
      · exact writes_text hs _ _ _ (by simp)
      · simp
    have hm := of_max hs
    have hc1 : (ofS l).cls ≠ 1 ∨ (ofS l).writes = [] := by
      unfold ofS
      simp only
      by_cases h : classOf l = 1
      · right; rw [if_neg (by omega)]
      · left; exact h
    have hc2 : ((ofS l).cls = 1 ∨ (ofS l).cls = 2 ∨ (ofS l).cls = 7) ∨ ((ofS l).reads = [] ∧ (ofS l).writes = []) := by
      unfold ofS
      simp only
      by_cases h : classOf l = 1 ∨ classOf l = 2 ∨ classOf l = 7
      · exact .inl h
      · right; rw [if_neg h, if_neg (by omega)]; exact ⟨rfl, rfl⟩
    generalize ofS l = S at *
    obtain ⟨cls, R, W, nm⟩ := S
    simp only [parseR, stm] at *
    have st1 := new30 cls (.sl (strs R)) (.sl (strs W)) nm rfl rfl []
    simp only [go_sem, bx] at st1
    simp only [go_sem, bx, K5, c1, call_pure pure_19, p1, PC_still, st1]
    refine C_for (R.length - 1) (fun i st H => st 3 = .ptr 0 0 0 ∧ st 5 = .int .i64 ((i + 1 : Nat) : Int) ∧ H = [.arr 30 true 0 [[.int .i64 cls, .sl (strs R), .sl (strs W), .str nm]]]) ⟨by simp only [go_sem, bx], by simp only [go_sem, bx]; rfl, rfl⟩ ?_ ?_
    · rintro i st H hi ⟨q3, q5, rfl⟩
      have hd : (((i + 1 : Nat) : Int) < (R.length : Int)) := by omega
      have hw : IntKind.i64.wrap (((i + 1 : Nat) : Int) - 1) = (i : Int) := by rw [wrap_ok (by omega) (by omega)]; omega
      have hw2 : IntKind.i64.wrap (((i + 1 : Nat) : Int) + 1) = ((i + 1 + 1 : Nat) : Int) := wrap_succ (by simp only [maxL]; omega)
      have g1 := strs_at' (H := [.arr 30 true 0 [[.int .i64 cls, .sl (strs R), .sl (strs W), .str nm]]]) (w := R) (i := i) (by omega)
      have g2 := strs_at' (H := [.arr 30 true 0 [[.int .i64 cls, .sl (strs R), .sl (strs W), .str nm]]]) (w := R) (i := i + 1) (by omega)
      have hls := p_less (strAt R i) (strAt R (i + 1)) (by have := tR _ (strAt_mem (i := i) (by omega)); simp only [maxL]; omega) (by have := tR _ (strAt_mem (i := i + 1) (by omega)); simp only [maxL]; omega)
      rw [rises_at hR (by omega)] at hls
      simp only [go_sem, bx, L5_0, D5_9, q3, q5, strs_len, hd, hw, g1, g2, call_pure pure_23, hls, hw2]
    · rintro st H ⟨q3, q5, rfl⟩
      have hd : ¬ (((R.length - 1 + 1 : Nat) : Int) < (R.length : Int)) := by omega
      simp only [go_sem, bx, L5_0, q3, q5, strs_len, hd]
      refine C_for (W.length - 1) (fun i st H => st 3 = .ptr 0 0 0 ∧ st 6 = .int .i64 ((i + 1 : Nat) : Int) ∧ H = [.arr 30 true 0 [[.int .i64 cls, .sl (strs R), .sl (strs W), .str nm]]]) ⟨by simp only [go_sem, bx, q3], by simp only [go_sem, bx]; rfl, rfl⟩ ?_ ?_
      · clear q3 q5 hd st
        rintro i st H hi ⟨q3, q6, rfl⟩
        have hd : (((i + 1 : Nat) : Int) < (W.length : Int)) := by omega
        have hw : IntKind.i64.wrap (((i + 1 : Nat) : Int) - 1) = (i : Int) := by rw [wrap_ok (by omega) (by omega)]; omega
        have hw2 : IntKind.i64.wrap (((i + 1 : Nat) : Int) + 1) = ((i + 1 + 1 : Nat) : Int) := wrap_succ (by simp only [maxL]; omega)
        have g1 := strs_at' (H := [.arr 30 true 0 [[.int .i64 cls, .sl (strs R), .sl (strs W), .str nm]]]) (w := W) (i := i) (by omega)
        have g2 := strs_at' (H := [.arr 30 true 0 [[.int .i64 cls, .sl (strs R), .sl (strs W), .str nm]]]) (w := W) (i := i + 1) (by omega)
        have hls := p_less (strAt W i) (strAt W (i + 1)) (by have := tW _ (strAt_mem (i := i) (by omega)); simp only [maxL]; omega) (by have := tW _ (strAt_mem (i := i + 1) (by omega)); simp only [maxL]; omega)
        rw [rises_at hW (by omega)] at hls
        simp only [go_sem, bx, L5_1, D5_14, q3, q6, strs_len, hd, hw, g1, g2, call_pure pure_23, hls, hw2]
      · clear q3 q5 hd st
        rintro st H ⟨q3, q6, rfl⟩
        have hd : ¬ (((W.length - 1 + 1 : Nat) : Int) < (W.length : Int)) := by omega
        rcases hc2 with (e | e | e) | ⟨e1, e2⟩
        · subst e
          rcases hc1 with h | h
          · exact absurd rfl h
          · have hwl : (W.length : Int) = 0 := by rw [h]; rfl
            have hd2 : ¬ (((W.length - 1 + 1 : Nat) : Int) < 0) := by omega
            simp only [go_sem, bx, L5_1, q3, q6, strs_len, hd2, hwl, call_pure pure_9, h9]
        · subst e
          simp only [go_sem, bx, L5_1, q3, q6, strs_len, hd, call_pure pure_9, h9]
        · subst e
          simp only [go_sem, bx, L5_1, q3, q6, strs_len, hd, call_pure pure_9, h9]
        · have hwl : (W.length : Int) = 0 := by rw [e2]; rfl
          have hrl : (R.length : Int) = 0 := by rw [e1]; rfl
          have hd2 : ¬ (((W.length - 1 + 1 : Nat) : Int) < 0) := by omega
          have hadd : IntKind.i64.wrap 0 = 0 := by decide
          by_cases k1 : cls = 1
          · simp only [go_sem, bx, L5_1, q3, q6, strs_len, hd2, hwl, k1, call_pure pure_9, h9]
          · by_cases k2 : cls = 2
            · simp only [go_sem, bx, L5_1, q3, q6, strs_len, hd2, hwl, k2, call_pure pure_9, h9]
            · by_cases k3 : cls = 7
              · simp only [go_sem, bx, L5_1, q3, q6, strs_len, hd2, hwl, k3, call_pure pure_9, h9]
              · simp only [go_sem, bx, L5_1, q3, q6, strs_len, hd2, hwl, hrl, k1, k2, k3, hadd, Int.add_zero, call_pure pure_9, h9]
  · rw [hpl] at p1
    simp only [parseR, stm, zeroS] at p1
    have st1 := new30 0 (.sl (strs [])) (.sl (strs [])) [] rfl rfl []
    simp only [go_sem, bx] at st1
    have hz : ((0 : Nat) : Int) = 0 := rfl
    have hs0 : (([] : List UInt8) == []) = true := rfl
    have hadd : IntKind.i64.wrap 0 = 0 := by decide
    simp only [go_sem, bx, K5, c1, call_pure pure_19, p1, PC_still, st1, he, strs_len, hz, hs0, hadd, Int.add_zero, call_pure pure_9, h9]
end Go.Proofs
/- The sets' layer, plain: what is read of a text, told without places; what stands in a text reads the same behind a semicolon and ahead of one. -/

set_option linter.unusedSimpArgs false
set_option linter.unusedVariables false
namespace Go.Proofs
open Go.Vam
abbrev KT := Int × List UInt8
def kt (l : List Tok) : List KT := l.map fun t => (t.kind, t.text)
/-- These bytes read as these tokens. -/
inductive Lex : List UInt8 → List KT → Prop where
  | nil : Lex [] []
  | space {c : UInt8} {r : List UInt8} {l : List KT} (h : spaceB c = true) (g : Lex r l) : Lex (c :: r) l
  | line {r : List UInt8} {l : List KT} (h : [45, 45].isPrefixOf r = true) (g : Lex (r.drop (runL notLf r)) l) : Lex r l
  | rem {r : List UInt8} {l : List KT} {k : Nat} (h : [47, 42].isPrefixOf r = true) (hk : remL r = some k) (g : Lex (r.drop k) l) : Lex r l
  | tok {r : List UInt8} {l : List KT} {k : Int} {t : List UInt8} {m : Nat} (hne : r ≠ []) (h0 : spaceB (byteAt r 0) = false) (h1 : [45, 45].isPrefixOf r = false) (h2 : [47, 42].isPrefixOf r = false) (ho : oneL r = (k, t, (m : Int))) (hm : 0 < m)
      (g : Lex (r.drop m) l) : Lex r ((k, t) :: l)
theorem no_space45 {r : List UInt8} (h : [45, 45].isPrefixOf r = true) : r.length ≠ 0 ∧ spaceB (byteAt r 0) = false := by
  obtain ⟨h1, h2, _⟩ := pre2 h
  exact ⟨by omega, by rw [h2]; rfl⟩
theorem no_space47 {r : List UInt8} (h : [47, 42].isPrefixOf r = true) : r.length ≠ 0 ∧ spaceB (byteAt r 0) = false ∧ [45, 45].isPrefixOf r = false := by
  obtain ⟨h1, h2, _⟩ := pre2 h
  refine ⟨by omega, by rw [h2]; rfl, ?_⟩
  cases hb : [45, 45].isPrefixOf r with
  | false => rfl
  | true =>
    obtain ⟨_, g2, _⟩ := pre2 hb
    rw [h2] at g2
    cases g2
theorem lex_scan {r : List UInt8} {l : List KT} (h : Lex r l) : ∀ (a : Nat) (out : List Tok), (scanF r a out).2.1 = 0 ∧ kt (scanF r a out).1 = kt out ++ l := by
  induction h with
  | nil => intro a out; rw [scanF_eq]; simp
  | space h g ih =>
    intro a out
    rw [scanF_eq, if_neg (by simp), if_pos (by simpa [byteAt] using h)]
    exact ih _ _
  | line h g ih =>
    intro a out
    obtain ⟨h1, h2⟩ := no_space45 h
    rw [scanF_eq, if_neg h1, h2, if_neg (by simp), if_pos h]
    exact ih _ _
  | rem h hk g ih =>
    intro a out
    obtain ⟨h1, h2, h3⟩ := no_space47 h
    rw [scanF_eq, if_neg h1, h2, if_neg (by simp), h3, if_neg (by simp), if_pos h, hk]
    exact ih _ _
  | @tok r l k t m hne h0 h1 h2 ho hm g ih =>
    intro a out
    rw [scanF_eq, if_neg (by simpa using hne), h0, if_neg (by simp), h1, if_neg (by simp), h2, if_neg (by simp), ho]
    simp only
    rw [if_neg (by omega), if_neg (by omega)]
    have := ih (a + (m : Int).toNat) (out ++ [⟨k, t, a⟩])
    simp only [Int.toNat_natCast] at this ⊢
    refine ⟨this.1, ?_⟩
    rw [this.2]
    simp [kt]
theorem scan_lex : ∀ (n : Nat) (r : List UInt8) (a : Nat) (out : List Tok), r.length ≤ n → (scanF r a out).2.1 = 0 → ∃ l, Lex r l
  | n, r, a, out, hn, h => by
    rw [scanF_eq] at h
    by_cases h0 : r.length = 0
    · have : r = [] := List.eq_nil_of_length_eq_zero h0
      subst this
      exact ⟨[], .nil⟩
    · rw [if_neg h0] at h
      obtain ⟨m, rfl⟩ : ∃ m, n = m + 1 := ⟨n - 1, by omega⟩
      by_cases h1 : spaceB (byteAt r 0) = true
      · rw [if_pos h1] at h
        obtain ⟨l, hl⟩ := scan_lex m _ _ _ (by simp only [List.length_drop]; omega) h
        match r, h0, h1, hl with
        | c :: r, _, h1, hl => exact ⟨l, .space (by simpa [byteAt] using h1) (by simpa using hl)⟩
      · rw [if_neg h1] at h
        by_cases h2 : [45, 45].isPrefixOf r = true
        · rw [if_pos h2] at h
          have := run_pos h2
          obtain ⟨l, hl⟩ := scan_lex m _ _ _ (by simp only [List.length_drop]; omega) h
          exact ⟨l, .line h2 hl⟩
        · rw [if_neg h2] at h
          by_cases h3 : [47, 42].isPrefixOf r = true
          · rw [if_pos h3] at h
            cases hk : remL r with
            | none => rw [hk] at h; simp at h
            | some k =>
              rw [hk] at h
              have := rem_pos hk
              obtain ⟨l, hl⟩ := scan_lex m _ _ _ (by simp only [List.length_drop]; omega) h
              exact ⟨l, .rem h3 hk hl⟩
          · rw [if_neg h3] at h
            by_cases h4 : (oneL r).2.2 = -1
            · rw [if_pos h4] at h; simp at h
            · rw [if_neg h4] at h
              by_cases h5 : (oneL r).2.2 = 0
              · rw [if_pos h5] at h; simp at h
              · rw [if_neg h5] at h
                have hp := one_len (r := r) (by omega)
                obtain ⟨k, ht⟩ : ∃ k : Nat, (oneL r).2.2 = (k : Int) := ⟨(oneL r).2.2.toNat, by omega⟩
                rw [ht] at h h5
                simp only [Int.toNat_natCast] at h
                obtain ⟨l, hl⟩ := scan_lex m _ _ _ (by simp only [List.length_drop]; omega) h
                exact ⟨_, .tok (by intro e; subst e; simp at h0) (by simpa using h1) (Bool.eq_false_iff.2 h2) (Bool.eq_false_iff.2 h3) (show oneL r = ((oneL r).1, (oneL r).2.1, (k : Int)) by rw [← ht]) (by omega) hl⟩
end Go.Proofs
/- The sets' layer, plain: a text reads the same behind a semicolon, and ahead of one on a new line. -/

set_option linter.unusedSimpArgs false
set_option linter.unusedVariables false
namespace Go.Proofs
open Go.Vam
theorem byteAt0 (c : UInt8) (r : List UInt8) : byteAt (c :: r) 0 = c := rfl
/-! ### a rest that begins with a byte that ends all runs -/
/-- Bytes that end a word, a number, a tag. -/
def endB (c : UInt8) : Bool := c == 10 || c == 32
/-- A text that is empty, or begins so. -/
def Ends (t : List UInt8) : Prop := ∀ c r, t = c :: r → endB c = true
theorem endB_cases {c : UInt8} (h : endB c = true) : c = 10 ∨ c = 32 := by
  unfold endB at h
  simpa using h
theorem tw_ends {q : UInt8 → Bool} (h10 : q 10 = false) (h32 : q 32 = false) {t : List UInt8} (ht : Ends t) : ∀ r : List UInt8, (r ++ t).takeWhile q = r.takeWhile q
  | [] => by
    cases t with
    | nil => rfl
    | cons c t =>
      rcases endB_cases (ht c t rfl) with rfl | rfl
      · simp [h10]
      · simp [h32]
  | c :: r => by
    rw [List.cons_append, List.takeWhile_cons, List.takeWhile_cons, tw_ends h10 h32 ht r]
theorem run_ends {q : UInt8 → Bool} (h10 : q 10 = false) (h32 : q 32 = false) {t : List UInt8} (ht : Ends t) (r : List UInt8) : runL q (r ++ t) = runL q r := by
  unfold runL
  rw [tw_ends h10 h32 ht]
theorem pre_ends {x y : UInt8} (h10 : y ≠ 10) (h32 : y ≠ 32) {t : List UInt8} (ht : Ends t) {r : List UInt8} (hne : r ≠ []) : [x, y].isPrefixOf (r ++ t) = [x, y].isPrefixOf r := by
  match r, hne with
  | [c], _ =>
    cases t with
    | nil => rfl
    | cons d t =>
      have : (y == d) = false := by
        rcases endB_cases (ht d t rfl) with rfl | rfl
        · simpa using h10
        · simpa using h32
      simp only [List.singleton_append, List.isPrefixOf_cons_cons, this, Bool.false_and, Bool.and_false]
      simp [List.isPrefixOf]
  | c :: d :: r, _ => simp [List.isPrefixOf]
theorem quo_ends {q : UInt8} (h10 : q ≠ 10) (h32 : q ≠ 32) {t : List UInt8} (ht : Ends t) : ∀ {r : List UInt8} {x : List UInt8 × Nat}, quoL q r = some x → quoL q (r ++ t) = some x
  | [], x, h => by cases h
  | [c], x, h => by
    unfold quoL at h
    split at h
    · rename_i hc
      cases h
      cases t with
      | nil => simp [quoL, hc]
      | cons d t =>
        have : (d == q) = false := by
          rcases endB_cases (ht d t rfl) with rfl | rfl
          · simpa using Ne.symm h10
          · simpa using Ne.symm h32
        simp [quoL, hc, this]
    · cases h
  | c :: c2 :: r, x, h => by
    rw [List.cons_append, List.cons_append]
    unfold quoL at h ⊢
    cases hc : (c == q) with
    | false =>
      simp only [hc, Bool.false_eq_true, if_false] at h ⊢
      cases hq : quoL q (c2 :: r) with
      | none => rw [hq] at h; cases h
      | some y =>
        rw [hq] at h
        have := quo_ends h10 h32 ht hq
        rw [List.cons_append] at this
        rw [this]
        exact h
    | true =>
      simp only [hc, if_true] at h ⊢
      cases hc2 : (c2 == q) with
      | false => simpa only [hc2, Bool.false_eq_true, if_false] using h
      | true =>
        simp only [hc2, if_true] at h ⊢
        cases hq : quoL q r with
        | none => rw [hq] at h; cases h
        | some y =>
          rw [hq] at h
          rw [quo_ends h10 h32 ht hq]
          exact h
theorem pre_app {h r t : List UInt8} (hp : h.isPrefixOf r = true) : h.isPrefixOf (r ++ t) = true := by
  rw [List.isPrefixOf_iff_prefix] at hp ⊢
  exact hp.trans (List.prefix_append _ _)
theorem pre_le {h r t : List UInt8} (hl : h.length ≤ r.length) : h.isPrefixOf (r ++ t) = h.isPrefixOf r := by
  rw [prefix_take, prefix_take, List.take_append_of_le_length hl, List.length_append, decide_eq_true hl, decide_eq_true (by omega)]
theorem dol_ge {g : List UInt8} : ∀ {r : List UInt8} {x : List UInt8 × Nat}, dolL g r = some x → g.length ≤ r.length
  | [], x, h => by cases h
  | c :: r, x, h => by
    unfold dolL at h
    split at h
    · rename_i hp
      exact pre_len hp
    · cases hd : dolL g r with
      | none => rw [hd] at h; cases h
      | some y => have := dol_ge hd; simp only [List.length_cons]; omega
theorem dol_app {g t : List UInt8} : ∀ {r : List UInt8} {x : List UInt8 × Nat}, dolL g r = some x → dolL g (r ++ t) = some x
  | [], x, h => by cases h
  | c :: r, x, h => by
    have hg := dol_ge h
    rw [List.cons_append]
    unfold dolL at h ⊢
    rw [show g.isPrefixOf (c :: (r ++ t)) = g.isPrefixOf (c :: r) from pre_le (r := c :: r) hg]
    split at h
    · rename_i hp
      rw [if_pos hp]
      exact h
    · rename_i hp
      rw [if_neg hp]
      cases hd : dolL g r with
      | none => rw [hd] at h; cases h
      | some y => rw [hd] at h; rw [dol_app hd]; exact h
theorem rem_ends {t : List UInt8} (ht : Ends t) : ∀ (n m : Nat) (r : List UInt8) (d : Int) (k : Nat), n ≤ m → remN n r d = some k → remN m (r ++ t) d = some k
  | 0, m, r, d, k, _, h => by cases h
  | n + 1, m, r, d, k, hm, h => by
    obtain ⟨m, rfl⟩ : ∃ j, m = j + 1 := ⟨m - 1, by omega⟩
    unfold remN at h ⊢
    by_cases h0 : r.length = 0
    · rw [if_pos h0] at h; cases h
    · have hne : r ≠ [] := fun e => h0 (by rw [e]; rfl)
      rw [if_neg h0] at h
      rw [if_neg (by simp only [List.length_append]; omega), pre_ends (by decide) (by decide) ht hne, pre_ends (by decide) (by decide) ht hne]
      have go : ∀ (j : Nat) (d' : Int) (k' : Nat), j ≤ r.length → remN n (r.drop j) d' = some k' → remN m ((r ++ t).drop j) d' = some k' := fun j d' k' hj h' => by
        rw [List.drop_append_of_le_length hj]
        exact rem_ends ht n m _ _ _ (by omega) h'
      have one : ∀ (j : Nat) (d' : Int), j ≤ r.length → (remN n (r.drop j) d').map (· + j) = some k → (remN m ((r ++ t).drop j) d').map (· + j) = some k := fun j d' hj h' => by
        cases hr : remN n (r.drop j) d' with
        | none => rw [hr] at h'; cases h'
        | some y => rw [hr] at h'; rw [go j d' y hj hr]; exact h'
      split at h
      · rename_i hp
        rw [if_pos hp]
        exact one 2 _ (pre_len hp) h
      · rename_i hp
        rw [if_neg hp]
        split at h
        · rename_i hq
          rw [if_pos hq]
          split at h
          · rename_i hd
            rw [if_pos hd]
            exact h
          · rename_i hd
            rw [if_neg hd]
            exact one 2 _ (pre_len hq) h
        · rename_i hq
          rw [if_neg hq]
          exact one 1 _ (by omega) h
theorem remL_ends {t r : List UInt8} {k : Nat} (ht : Ends t) (h : remL r = some k) : remL (r ++ t) = some k :=
  rem_ends ht _ _ _ _ _ (by simp) h
theorem byteAt_app {r t : List UInt8} {i : Nat} (h : i < r.length) : byteAt (r ++ t) i = byteAt r i := by
  unfold byteAt
  rw [List.getElem?_append_left h]
theorem byteAt_ends {r t : List UInt8} (ht : Ends t) {c : UInt8} (h0 : c ≠ 0) (h10 : c ≠ 10) (h32 : c ≠ 32) : byteAt (r ++ t) r.length ≠ c := by
  unfold byteAt
  rw [List.getElem?_append_right (Nat.le_refl _), Nat.sub_self]
  cases t with
  | nil => simpa using Ne.symm h0
  | cons d t =>
    rcases endB_cases (ht d t rfl) with rfl | rfl
    · simpa using Ne.symm h10
    · simpa using Ne.symm h32
theorem tagK_ends {t r : List UInt8} (ht : Ends t) (hne : r ≠ []) : tagK (r ++ t) = tagK r := by
  have hl : 1 ≤ r.length := by
    cases r with
    | nil => exact absurd rfl hne
    | cons c r => simp
  unfold tagK
  rw [List.drop_append_of_le_length hl, run_ends (q := tagB) (by decide) (by decide) ht]
  by_cases h1 : 1 < r.length
  · rw [byteAt_app h1, List.length_append]
    simp [h1, show 1 < r.length + t.length from by omega]
  · have e1 : r.length = 1 := by omega
    have hn : letterB (byteAt (r ++ t) 1) = false := by
      have h2 : byteAt (r ++ t) 1 = (t[0]?).getD 0 := by
        unfold byteAt
        rw [List.getElem?_append_right (by omega), e1]
      rw [h2]
      cases t with
      | nil => rfl
      | cons d t =>
        rcases endB_cases (ht d t rfl) with rfl | rfl <;> rfl
    rw [hn, if_neg (by simp), if_neg (by omega)]
theorem tagK_len {r : List UInt8} (hne : r ≠ []) : tagK r ≤ r.length := by
  have hl : 1 ≤ r.length := by
    cases r with
    | nil => exact absurd rfl hne
    | cons c r => simp
  unfold tagK
  split
  · have := runL_le tagB (r.drop 1)
    simp only [List.length_drop] at this
    omega
  · omega
theorem tagL_ends {t r : List UInt8} (ht : Ends t) (hne : r ≠ []) : tagL (r ++ t) = tagL r := by
  have hk := tagK_len hne
  unfold tagL
  rw [tagK_ends ht hne]
  by_cases h : tagK r < r.length
  · rw [byteAt_app h, List.length_append]
    simp [h, show tagK r < r.length + t.length from by omega]
  · have e : tagK r = r.length := by omega
    have := byteAt_ends (r := r) ht (c := 36) (by decide) (by decide) (by decide)
    rw [if_neg (by rw [e]; simp [this]), if_neg (by omega)]
theorem signL_ends {t r : List UInt8} (ht : Ends t) (hne : r ≠ []) : signL (r ++ t) = signL r := by
  have hl : 1 ≤ r.length := by
    cases r with
    | nil => exact absurd rfl hne
    | cons c r => simp
  unfold signL
  rw [byteAt_app (by omega), List.drop_append_of_le_length hl, run_ends (q := digitB) (by decide) (by decide) ht]
/-- What is read first stays so. -/
theorem one_ends {t r : List UInt8} (ht : Ends t) (hne : r ≠ []) (h : (oneL r).2.2 ≠ -1) : oneL (r ++ t) = oneL r := by
  have hl : 1 ≤ r.length := by
    cases r with
    | nil => exact absurd rfl hne
    | cons c r => simp
  unfold oneL at h ⊢
  rw [byteAt_app (show 0 < r.length by omega)]
  by_cases b1 : letterB (byteAt r 0) = true
  · rw [if_pos b1, if_pos b1, run_ends (q := wordB) (by decide) (by decide) ht, tw_ends (q := wordB) (by decide) (by decide) ht]
  rw [if_neg b1] at h
  rw [if_neg b1, if_neg b1]
  by_cases b2 : digitB (byteAt r 0) = true
  · rw [if_pos b2, if_pos b2, run_ends (q := numB) (by decide) (by decide) ht, tw_ends (q := numB) (by decide) (by decide) ht]
  rw [if_neg b2] at h
  rw [if_neg b2, if_neg b2, List.drop_append_of_le_length hl]
  have quo : ∀ k q, q ≠ 10 → q ≠ 32 → (quo1 k (addQ [] 1 (quoL q (r.drop 1)))).2.2 ≠ -1 → quo1 k (addQ [] 1 (quoL q (r.drop 1 ++ t))) = quo1 k (addQ [] 1 (quoL q (r.drop 1))) := fun k q q1 q2 hh => by
    cases hq : quoL q (r.drop 1) with
    | none => rw [hq] at hh; exact absurd rfl hh
    | some x => rw [quo_ends q1 q2 ht hq]
  by_cases b3 : (byteAt r 0 == 34) = true
  · rw [if_pos b3] at h
    rw [if_pos b3, if_pos b3]
    have e : byteAt r 0 = 34 := by simpa using b3
    rw [e] at h ⊢
    exact quo _ _ (by decide) (by decide) h
  rw [if_neg b3] at h
  rw [if_neg b3, if_neg b3]
  by_cases b4 : (byteAt r 0 == 39) = true
  · rw [if_pos b4] at h
    rw [if_pos b4, if_pos b4]
    have e : byteAt r 0 = 39 := by simpa using b4
    rw [e] at h ⊢
    exact quo _ _ (by decide) (by decide) h
  rw [if_neg b4] at h
  rw [if_neg b4, if_neg b4, tagL_ends ht hne]
  cases hm : (if byteAt r 0 == 36 then tagL r else none) with
  | none =>
    simp only [signL_ends ht hne]
    rw [List.take_append_of_le_length (signL_le r hl)]
  | some n =>
    rw [hm] at h
    simp only at h ⊢
    have hn : n ≤ r.length := by
      split at hm
      · exact (tagL_le hm).2
      · cases hm
    rw [List.take_append_of_le_length hn, List.drop_append_of_le_length hn]
    cases hd : dolL (r.take n) (r.drop n) with
    | none => rw [hd] at h; exact absurd rfl h
    | some x => rw [dol_app hd]
/-- A text reads the same, whatever stands behind it on a new line. -/
theorem lex_app {t : List UInt8} {l2 : List KT} (h10 : ∃ t', t = 10 :: t') (h2 : Lex t l2) {r : List UInt8} {l : List KT} (h : Lex r l) : Lex (r ++ t) (l ++ l2) := by
  have ht : Ends t := by
    obtain ⟨t', rfl⟩ := h10
    intro c r e
    cases e
    rfl
  induction h with
  | nil => exact h2
  | space h g ih => exact .space h ih
  | @line r l h g ih =>
    have e : runL notLf (r ++ t) = runL notLf r := by
      obtain ⟨t', rfl⟩ := h10
      unfold runL
      have : ∀ r : List UInt8, (r ++ 10 :: t').takeWhile notLf = r.takeWhile notLf := by
        intro r
        induction r with
        | nil => rfl
        | cons c r ih => rw [List.cons_append, List.takeWhile_cons, List.takeWhile_cons, ih]
      rw [this]
    refine .line (pre_app h) ?_
    rw [e, List.drop_append_of_le_length (runL_le _ _)]
    exact ih
  | @rem r l k h hk g ih =>
    refine .rem (pre_app h) (remL_ends ht hk) ?_
    rw [List.drop_append_of_le_length (rem_pos hk).2]
    exact ih
  | @tok r l k x m hne h0 h1 h2' ho hm g ih =>
    have hl : 1 ≤ r.length := by
      cases r with
      | nil => exact absurd rfl hne
      | cons c r => simp
    have hml : m ≤ r.length := by
      have := one_len (r := r) hl
      rw [ho] at this
      simp only at this
      omega
    refine .tok (by simp [hne]) (by rw [byteAt_app (by omega)]; exact h0) (by rw [pre_ends (by decide) (by decide) ht hne]; exact h1) (by rw [pre_ends (by decide) (by decide) ht hne]; exact h2') (m := m) ?_ hm ?_
    · rw [one_ends ht hne (by rw [ho]; simp only; omega)]
      exact ho
    · rw [List.drop_append_of_le_length hml]
      exact ih
end Go.Proofs
/- The sets' layer, plain: what is shown of tokens reads as them again. -/

set_option linter.unusedSimpArgs false
set_option linter.unusedVariables false
namespace Go.Proofs
open Go.Vam
/-- What a token of a kind may be. -/
def KtOk (x : KT) : Prop :=
  (x.1 = 1 ∧ ∃ c l, x.2 = c :: l ∧ letterB c = true ∧ (∀ b ∈ c :: l, wordB b = true ∧ smallB b = b)) ∨
  (x.1 = 4 ∧ ∃ c l, x.2 = c :: l ∧ digitB c = true ∧ ∀ b ∈ c :: l, numB b = true) ∨ x.1 = 2 ∨ x.1 = 3 ∨
  (x.1 = 5 ∧ ((∃ c, x.2 = [c] ∧ signB c = true) ∨ ∃ c l, x.2 = 36 :: c :: l ∧ ∀ b ∈ c :: l, digitB b = true))
def showK (x : KT) : List UInt8 := if x.1 = 2 then dbl 34 x.2 else if x.1 = 3 then dbl 39 x.2 else x.2
theorem all_u8 (q : UInt8 → Bool) (h : ∀ n : Fin 256, q (UInt8.ofNat n.val) = true) (b : UInt8) : q b = true := by
  have := h ⟨b.toNat, b.toNat_lt⟩
  simpa using this
theorem small_idem (b : UInt8) : smallB (smallB b) = smallB b := by
  have := all_u8 (fun b => smallB (smallB b) == smallB b) (by decide +kernel) b
  simpa using this
theorem small_word (b : UInt8) : wordB (smallB b) = wordB b := by
  have := all_u8 (fun b => wordB (smallB b) == wordB b) (by decide +kernel) b
  simpa using this
theorem small_letter (b : UInt8) : letterB (smallB b) = letterB b := by
  have := all_u8 (fun b => letterB (smallB b) == letterB b) (by decide +kernel) b
  simpa using this
theorem letter_word {b : UInt8} (h : letterB b = true) : wordB b = true := by simp [wordB, h]
theorem digit_num {b : UInt8} (h : digitB b = true) : numB b = true := by simp [numB, h]
theorem digit_facts {b : UInt8} (h : digitB b = true) : letterB b = false ∧ spaceB b = false ∧ b ≠ 45 ∧ b ≠ 47 ∧ b ≠ 36 := by
  have := all_u8 (fun b => !digitB b || (!letterB b && !spaceB b && b != 45 && b != 47 && b != 36)) (by decide +kernel) b
  simp only [h, Bool.not_true, Bool.false_or, Bool.and_eq_true, Bool.not_eq_true', bne_iff_ne, ne_eq] at this
  exact ⟨this.1.1.1.1, this.1.1.1.2, this.1.1.2, this.1.2, this.2⟩
theorem letter_facts {b : UInt8} (h : letterB b = true) : spaceB b = false ∧ b ≠ 45 ∧ b ≠ 47 := by
  have := all_u8 (fun b => !letterB b || (!spaceB b && b != 45 && b != 47)) (by decide +kernel) b
  simp only [h, Bool.not_true, Bool.false_or, Bool.and_eq_true, Bool.not_eq_true', bne_iff_ne, ne_eq] at this
  exact ⟨this.1.1, this.1.2, this.2⟩
theorem sign_facts {b : UInt8} (h : signB b = true) : letterB b = false ∧ digitB b = false ∧ spaceB b = false ∧ b ≠ 34 ∧ b ≠ 39 ∧ b ≠ 36 := by
  have := all_u8 (fun b => !signB b || (!letterB b && !digitB b && !spaceB b && b != 34 && b != 39 && b != 36)) (by decide +kernel) b
  simp only [h, Bool.not_true, Bool.false_or, Bool.and_eq_true, Bool.not_eq_true', bne_iff_ne, ne_eq] at this
  exact ⟨this.1.1.1.1.1, this.1.1.1.1.2, this.1.1.1.2, this.1.1.2, this.1.2, this.2⟩
theorem mem_tw {q : UInt8 → Bool} {r : List UInt8} {b : UInt8} (h : b ∈ r.takeWhile q) : q b = true := by
  induction r with
  | nil => cases h
  | cons c r ih =>
    rw [List.takeWhile_cons] at h
    split at h
    · rename_i hc
      rcases List.mem_cons.1 h with rfl | h
      · exact hc
      · exact ih h
    · cases h
theorem tw_cons {q : UInt8 → Bool} {r : List UInt8} (hl : 1 ≤ r.length) (h : q (byteAt r 0) = true) : ∃ l, r.takeWhile q = byteAt r 0 :: l := by
  match r, hl, h with
  | c :: r, _, h =>
    rw [List.takeWhile_cons, if_pos (by simpa [byteAt] using h)]
    exact ⟨_, rfl⟩
theorem tw_all {q : UInt8 → Bool} {l : List UInt8} (h : ∀ b ∈ l, q b = true) : l.takeWhile q = l := by
  induction l with
  | nil => rfl
  | cons c l ih => rw [List.takeWhile_cons, if_pos (h c List.mem_cons_self), ih fun b hb => h b (List.mem_cons_of_mem _ hb)]
/-- What is read is so. -/
theorem one_ok {r : List UInt8} {k : Int} {t : List UInt8} {m : Nat} (hl : 1 ≤ r.length) (h : oneL r = (k, t, (m : Int))) (hm : 0 < m) : KtOk (k, t) := by
  unfold oneL at h
  split at h
  · rename_i b1
    simp only [Prod.mk.injEq] at h
    obtain ⟨rfl, rfl, _⟩ := h
    obtain ⟨l, e⟩ := tw_cons hl (letter_word b1)
    refine .inl ⟨rfl, smallB (byteAt r 0), smallL l, by rw [e]; rfl, by rw [small_letter]; exact b1, fun b hb => ?_⟩
    have hb' : b ∈ smallL (r.takeWhile wordB) := by rw [e]; exact hb
    obtain ⟨c, hc, rfl⟩ := List.mem_map.1 hb'
    exact ⟨by rw [small_word]; exact mem_tw hc, small_idem c⟩
  split at h
  · rename_i b1 b2
    simp only [Prod.mk.injEq] at h
    obtain ⟨rfl, rfl, _⟩ := h
    obtain ⟨l, e⟩ := tw_cons hl (digit_num b2)
    refine .inr (.inl ⟨rfl, byteAt r 0, l, e, b2, fun b hb => ?_⟩)
    rw [← e] at hb
    exact mem_tw hb
  have quo : ∀ (k' : Int) (o : Option (List UInt8 × Nat)), quo1 k' o = (k, t, (m : Int)) → k = k' := fun k' o hh => by
    cases o <;> simp only [quo1, Prod.mk.injEq] at hh <;> exact hh.1.symm
  split at h
  · exact .inr (.inr (.inl (quo 2 _ h)))
  split at h
  · exact .inr (.inr (.inr (.inl (quo 3 _ h))))
  split at h
  · exact .inr (.inr (.inr (.inl (quo 3 _ h))))
  · simp only [Prod.mk.injEq] at h
    obtain ⟨rfl, rfl, h3⟩ := h
    have hp : 0 < signL r := by omega
    refine .inr (.inr (.inr (.inr ⟨rfl, ?_⟩)))
    match r, hl with
    | c :: r, _ =>
      have hsig : signL (c :: r) = if (c == 36) = true then (if 0 < runL digitB r then runL digitB r + 1 else 0) else if signB c = true then 1 else 0 := rfl
      rw [hsig] at hp ⊢
      by_cases hc : (c == 36) = true
      · rw [if_pos hc] at hp ⊢
        have e : c = 36 := by simpa using hc
        subst e
        by_cases hd : 0 < runL digitB r
        · rw [if_pos hd]
          right
          have ht : r.take (runL digitB r) = r.takeWhile digitB := by
            unfold runL
            exact (List.prefix_iff_eq_take.1 (List.takeWhile_prefix _)).symm
          rw [List.take_succ_cons, ht]
          cases hw : r.takeWhile digitB with
          | nil => unfold runL at hd; rw [hw] at hd; simp at hd
          | cons d l => exact ⟨d, l, rfl, fun b hb => mem_tw (hw ▸ hb)⟩
        · rw [if_neg hd] at hp; omega
      · rw [if_neg hc] at hp ⊢
        split at hp
        · rename_i hs
          rw [if_pos hs]
          exact .inl ⟨c, by simp, hs⟩
        · omega
theorem lex_ok {r : List UInt8} {l : List KT} (h : Lex r l) : ∀ x ∈ l, KtOk x := by
  induction h with
  | nil => simp
  | space h g ih => exact ih
  | line h g ih => exact ih
  | rem h hk g ih => exact ih
  | @tok r l k t m hne h0 h1 h2 ho hm g ih =>
    intro x hx
    rcases List.mem_cons.1 hx with rfl | hx
    · exact one_ok (by cases r with
        | nil => exact absurd rfl hne
        | cons c r => simp) ho hm
    · exact ih x hx
theorem quo_dbl {q : UInt8} {t : List UInt8} (h10 : q ≠ 10) (h32 : q ≠ 32) (ht : Ends t) : ∀ x : List UInt8, quoL q (dblB q x ++ q :: t) = some (x, (dblB q x).length + 1)
  | [] => by
    show quoL q (q :: t) = _
    cases t with
    | nil => simp [quoL, dblB]
    | cons d t =>
      have : (d == q) = false := by
        rcases endB_cases (ht d t rfl) with rfl | rfl
        · simpa using Ne.symm h10
        · simpa using Ne.symm h32
      simp [quoL, dblB, this]
  | c :: x => by
    have ih := quo_dbl h10 h32 ht x
    have hd : dblB q (c :: x) = (if c == q then [q, c] else [c]) ++ dblB q x := rfl
    rw [hd]
    cases hc : (c == q) with
    | true =>
      have e : c = q := by simpa using hc
      subst e
      simp only [if_true, List.cons_append, List.nil_append]
      unfold quoL
      simp only [beq_self_eq_true, if_true]
      rw [ih]
      simp
    | false =>
      simp only [Bool.false_eq_true, if_false, List.cons_append, List.nil_append]
      cases hr : dblB q x ++ q :: t with
      | nil => simp at hr
      | cons d r =>
        rw [hr] at ih
        unfold quoL
        simp only [hc, Bool.false_eq_true, if_false]
        rw [ih]
        simp
/-- A token that is shown reads as it. -/
theorem one_show {x : KT} (h : KtOk x) {t : List UInt8} (ht : Ends t) : showK x ≠ [] ∧ spaceB (byteAt (showK x ++ t) 0) = false ∧ [45, 45].isPrefixOf (showK x ++ t) = false ∧ [47, 42].isPrefixOf (showK x ++ t) = false ∧
    oneL (showK x ++ t) = (x.1, x.2, ((showK x).length : Int)) := by
  have np : ∀ {a b c : UInt8} {l : List UInt8}, c ≠ a → [a, b].isPrefixOf (c :: l) = false := by
    intro a b c l hc
    have : (a == c) = false := by simpa using Ne.symm hc
    cases l <;> simp [List.isPrefixOf, this]
  obtain ⟨k, s⟩ := x
  rcases h with ⟨rfl, c, l, e, hc, ha⟩ | ⟨rfl, c, l, e, hc, ha⟩ | e | e | ⟨rfl, ⟨c, e, hc⟩ | ⟨c, l, e, ha⟩⟩ <;> simp only at e
  · subst e
    obtain ⟨f1, f2, f3⟩ := letter_facts hc
    have es : showK (1, c :: l) = c :: l := rfl
    rw [es]
    refine ⟨by simp, f1, np f2, np f3, ?_⟩
    have hw : ((c :: l) ++ t).takeWhile wordB = c :: l := by rw [tw_ends (by decide) (by decide) ht, tw_all fun b hb => (ha b hb).1]
    unfold oneL
    rw [show byteAt ((c :: l) ++ t) 0 = c from rfl, if_pos hc]
    unfold runL
    rw [hw]
    have : smallL (c :: l) = c :: l := by
      unfold smallL
      conv => rhs; rw [← List.map_id (c :: l)]
      exact List.map_congr_left fun b hb => (ha b hb).2
    rw [this]
  · subst e
    obtain ⟨f0, f1, f2, f3, f4⟩ := digit_facts hc
    have es : showK (4, c :: l) = c :: l := rfl
    rw [es]
    refine ⟨by simp, f1, np f2, np f3, ?_⟩
    have hw : ((c :: l) ++ t).takeWhile numB = c :: l := by rw [tw_ends (by decide) (by decide) ht, tw_all ha]
    unfold oneL
    rw [show byteAt ((c :: l) ++ t) 0 = c from rfl, f0, if_neg (by simp), if_pos hc]
    unfold runL
    rw [hw]
  · subst e
    have es : showK (2, s) ++ t = 34 :: (dblB 34 s ++ 34 :: t) := by simp [showK, dbl]
    have el : ((showK (2, s)).length : Int) = ((dblB 34 s).length + 1 + 1 : Nat) := by simp [showK, dbl]
    rw [es, el]
    refine ⟨by simp [showK, dbl], rfl, np (by decide), np (by decide), ?_⟩
    unfold oneL
    simp only [byteAt0, List.drop_one, List.tail_cons]
    rw [if_neg (by decide), if_neg (by decide), if_pos (by decide), quo_dbl (by decide) (by decide) ht]
    rfl
  · subst e
    have es : showK (3, s) ++ t = 39 :: (dblB 39 s ++ 39 :: t) := by simp [showK, dbl]
    have el : ((showK (3, s)).length : Int) = ((dblB 39 s).length + 1 + 1 : Nat) := by simp [showK, dbl]
    rw [es, el]
    refine ⟨by simp [showK, dbl], rfl, np (by decide), np (by decide), ?_⟩
    unfold oneL
    simp only [byteAt0, List.drop_one, List.tail_cons]
    rw [if_neg (by decide), if_neg (by decide), if_neg (by decide), if_pos (by decide), quo_dbl (by decide) (by decide) ht]
    rfl
  · subst e
    obtain ⟨f0, f1, f2, f3, f4, f5⟩ := sign_facts hc
    have es : showK (5, [c]) = [c] := rfl
    rw [es]
    refine ⟨by simp, f2, ?_, ?_, ?_⟩
    · rw [pre_ends (by decide) (by decide) ht (by simp)]
      simp [List.isPrefixOf]
    · rw [pre_ends (by decide) (by decide) ht (by simp)]
      simp [List.isPrefixOf]
    · have h34 : (c == 34) = false := by simpa using f3
      have h39 : (c == 39) = false := by simpa using f4
      have h36 : (c == 36) = false := by simpa using f5
      unfold oneL signL
      simp only [List.singleton_append, byteAt0, f0, f1, h34, h39, h36, hc, Bool.false_eq_true, if_false, if_true]
      rfl
  · subst e
    have hd := ha c List.mem_cons_self
    obtain ⟨f0, f1, f2, f3, f4⟩ := digit_facts hd
    have es : showK (5, 36 :: c :: l) = 36 :: c :: l := rfl
    rw [es]
    refine ⟨by simp, rfl, np (by decide), np (by decide), ?_⟩
    have htk : tagK (36 :: c :: l ++ t) = 1 := by
      unfold tagK
      rw [show byteAt (36 :: c :: l ++ t) 1 = c from rfl, f0, if_neg (by simp)]
    have htl : tagL (36 :: c :: l ++ t) = none := by
      unfold tagL
      rw [htk, show byteAt (36 :: c :: l ++ t) 1 = c from rfl, if_neg (by simp [f4])]
    have hw : runL digitB (c :: l ++ t) = (c :: l).length := by
      unfold runL
      rw [tw_ends (by decide) (by decide) ht, tw_all ha]
    have hs : signL (36 :: c :: l ++ t) = (36 :: c :: l).length := by
      unfold signL
      rw [show byteAt (36 :: c :: l ++ t) 0 = 36 from rfl, if_pos (by decide), show (36 :: c :: l ++ t).drop 1 = c :: l ++ t from rfl, hw, if_pos (by simp)]
      rfl
    unfold oneL
    rw [show byteAt (36 :: c :: l ++ t) 0 = 36 from rfl, if_neg (by decide), if_neg (by decide), if_neg (by decide), if_neg (by decide), if_pos (by decide), htl]
    simp only [hs, List.take_left]
/-- Tokens, one blank between each two. -/
def joinK : List KT → List UInt8
  | [] => []
  | [x] => showK x
  | x :: y :: l => showK x ++ 32 :: joinK (y :: l)
theorem lex_join : ∀ {l : List KT}, (∀ x ∈ l, KtOk x) → Lex (joinK l) l
  | [], _ => .nil
  | [x], h => by
    obtain ⟨h0, h1, h2, h3, h4⟩ := one_show (h x List.mem_cons_self) (t := []) (fun c r e => by cases e)
    rw [List.append_nil] at h1 h2 h3 h4
    have hl : 0 < (showK x).length := List.length_pos_iff.2 h0
    refine .tok (k := x.1) (t := x.2) h0 h1 h2 h3 h4 hl ?_
    rw [show joinK [x] = showK x from rfl, List.drop_length]
    exact .nil
  | x :: y :: l, h => by
    have ht : Ends (32 :: joinK (y :: l)) := fun c r e => by cases e; rfl
    obtain ⟨h0, h1, h2, h3, h4⟩ := one_show (h x List.mem_cons_self) ht
    have hl : 0 < (showK x).length := List.length_pos_iff.2 h0
    refine .tok (k := x.1) (t := x.2) (r := showK x ++ 32 :: joinK (y :: l)) (by simp) h1 h2 h3 h4 hl ?_
    rw [List.drop_left]
    exact .space rfl (lex_join fun z hz => h z (List.mem_cons_of_mem _ hz))
end Go.Proofs
/- The sets' layer, plain: numbers' normal forms; normal forms are what is shown. -/

set_option linter.unusedSimpArgs false
set_option linter.unusedVariables false
namespace Go.Proofs
open Go.Vam
/-! ### shown -/
theorem joinK_app : ∀ (l : List KT) (x : KT), joinK (l ++ [x]) = joinK l ++ (if l = [] then [] else [32]) ++ showK x
  | [], x => rfl
  | [y], x => by simp [joinK]
  | y :: z :: l, x => by
    have ih := joinK_app (z :: l) x
    simp only [List.cons_append, joinK] at ih ⊢
    rw [ih]
    simp
theorem showT_K (t : Tok) : showT t = showK (t.kind, t.text) := rfl
theorem showL_join (l : List Tok) : showL l = joinK (kt l) := by
  have key : ∀ i, i ≤ l.length → showUpto l i = joinK (kt (l.take i)) := by
    intro i
    induction i with
    | zero => intro _; rfl
    | succ i ih =>
      intro hi
      unfold showUpto
      rw [ih (by omega), List.take_add_one, List.getElem?_eq_getElem (by omega)]
      simp only [Option.toList_some, kt, List.map_append, List.map_cons, List.map_nil]
      rw [joinK_app, showT_K, tokAt_nat (by omega)]
      congr 2
      by_cases h0 : 0 < i
      · rw [if_pos h0, if_neg]
        intro e
        have hl : (kt (l.take i)).length = i := by simp [kt]; omega
        have e' : kt (l.take i) = [] := e
        rw [e'] at hl
        simp at hl
        omega
      · obtain rfl : i = 0 := by omega
        rfl
  unfold showL
  rw [key _ (Nat.le_refl _), List.take_length]
/-! ### numbers -/
theorem stripR_mid (A B : List UInt8) : stripR (A ++ 46 :: B) = A ++ 46 :: stripR B := by
  unfold stripR
  rw [List.reverse_append, List.reverse_cons, List.append_assoc, List.singleton_append, List.dropWhile_append]
  split
  · rename_i h
    rw [List.isEmpty_iff] at h
    rw [h]
    simp
  · simp
theorem stripR_sub {B : List UInt8} {b : UInt8} (h : b ∈ stripR B) : b ∈ B := by
  unfold stripR at h
  rw [List.mem_reverse] at h
  exact List.mem_reverse.1 ((List.dropWhile_sublist _).mem h)
theorem stripR_idem (B : List UInt8) : stripR (stripR B) = stripR B := by
  unfold stripR
  rw [List.reverse_reverse]
  congr 1
  generalize B.reverse = l
  induction l with
  | nil => rfl
  | cons c l ih =>
    rw [List.dropWhile_cons]
    split
    · exact ih
    · rename_i h
      rw [List.dropWhile_cons, if_neg h]
theorem lastIs_app (A : List UInt8) (c : UInt8) : lastIs (A ++ [c]) 46 = (c == 46) := by
  unfold lastIs byteAt
  rw [List.length_append, List.length_singleton, Nat.add_sub_cancel, List.getElem?_append_right (Nat.le_refl _), Nat.sub_self]
  rfl
theorem lastIs_mid {A C : List UInt8} (h : 46 ∉ C) (hne : C ≠ []) : lastIs (A ++ 46 :: C) 46 = false := by
  obtain ⟨D, c, rfl⟩ : ∃ D c, C = D ++ [c] := ⟨C.dropLast, C.getLast hne, (List.dropLast_concat_getLast hne).symm⟩
  rw [show A ++ 46 :: (D ++ [c]) = (A ++ 46 :: D) ++ [c] by simp, lastIs_app]
  have : c ≠ 46 := fun e => h (by simp [e])
  simpa using this
theorem dot_parts {z : List UInt8} (h : z.count 46 = 1) : ∃ A B, z = A ++ 46 :: B ∧ 46 ∉ A ∧ 46 ∉ B := by
  have hm : (46 : UInt8) ∈ z := List.count_pos_iff.1 (by omega)
  obtain ⟨A, B, rfl⟩ := List.append_of_mem hm
  rw [List.count_append, List.count_cons_self] at h
  exact ⟨A, B, rfl, fun hh => by have := List.count_pos_iff.2 hh; omega, fun hh => by have := List.count_pos_iff.2 hh; omega⟩
/-- The number that is made of what is stripped in front. -/
theorem num_parts {s A B : List UInt8} (hz : stripZ s = A ++ 46 :: B) (hA : 46 ∉ A) (hB : 46 ∉ B) : numOf s = if stripR B = [] then A else A ++ 46 :: stripR B := by
  have hc : (stripZ s).count 46 = 1 := by
    rw [hz, List.count_append, List.count_cons_self, List.count_eq_zero.2 hA, List.count_eq_zero.2 hB]
  unfold numOf
  rw [if_pos hc, hz, stripR_mid]
  by_cases he : stripR B = []
  · rw [if_pos he, he, lastIs_app]
    simp
  · rw [if_neg he, lastIs_mid (fun h => hB (stripR_sub h)) he]
    simp
theorem num_no {s : List UInt8} (h : (stripZ s).count 46 ≠ 1) : numOf s = stripZ s := by
  unfold numOf
  rw [if_neg h]
theorem zrest_stripZ : ∀ s : List UInt8, zrest (stripZ s) = false
  | [] => rfl
  | c :: s => by
    unfold stripZ
    split
    · exact zrest_stripZ s
    · rename_i h
      simpa using h
theorem stripZ_fix {s : List UInt8} (h : zrest s = false) : stripZ s = s := by
  cases s with
  | nil => rfl
  | cons c s => unfold stripZ; rw [h]; rfl
theorem stripZ_sub : ∀ {s : List UInt8} {b : UInt8}, b ∈ stripZ s → b ∈ s
  | [], b, h => h
  | c :: s, b, h => by
    unfold stripZ at h
    split at h
    · exact List.mem_cons_of_mem _ (stripZ_sub h)
    · exact h
theorem num_digit {b : UInt8} (h : numB b = true) (hn : b ≠ 46) : digitB b = true := by
  unfold numB at h
  have : (b == 46) = false := by simpa using hn
  rw [this, Bool.or_false] at h
  exact h
theorem stripZ_head : ∀ {c : UInt8} {s : List UInt8}, digitB c = true → (∀ b ∈ c :: s, numB b = true) → ∃ d t, stripZ (c :: s) = d :: t ∧ digitB d = true
  | c, [], hc, _ => ⟨c, [], rfl, hc⟩
  | c, e :: s, hc, ha => by
    unfold stripZ
    split
    · rename_i h
      unfold zrest at h
      simp only [Bool.and_eq_true, Bool.not_eq_true', beq_eq_false_iff_ne] at h
      have he : e ≠ 46 := h.2.2
      exact stripZ_head (num_digit (ha e (by simp)) he) fun b hb => ha b (List.mem_cons_of_mem _ hb)
    · exact ⟨c, e :: s, rfl, hc⟩
/-- Ahead of the dot, what is stripped in front stays so. -/
theorem zrest_front {A R S : List UInt8} (hA : A ≠ []) (hR : R = [] ∨ ∃ R', R = 46 :: R') (h : zrest (A ++ 46 :: S) = false) : zrest (A ++ R) = false := by
  match A, hA with
  | [a], _ =>
    rcases hR with rfl | ⟨R', rfl⟩
    · rfl
    · unfold zrest
      simp [byteAt]
  | a :: b :: A, _ =>
    have e : ∀ T : List UInt8, zrest (a :: b :: A ++ T) = ((a == 48) && !(b == 46)) := fun T => by
      unfold zrest
      simp [byteAt]
      intro _ _
      omega
    rw [e] at h ⊢
    exact h
theorem num_idem {s : List UInt8} (hd : ∃ c t, stripZ s = c :: t ∧ digitB c = true) : numOf (numOf s) = numOf s := by
  by_cases hc : (stripZ s).count 46 = 1
  · obtain ⟨A, B, hz, hA, hB⟩ := dot_parts hc
    have hne : A ≠ [] := by
      intro e
      subst e
      obtain ⟨c, t, e, h⟩ := hd
      rw [hz] at e
      simp only [List.nil_append, List.cons.injEq] at e
      rw [← e.1] at h
      cases h
    have hzr : zrest (A ++ 46 :: B) = false := by rw [← hz]; exact zrest_stripZ s
    rw [num_parts hz hA hB]
    by_cases he : stripR B = []
    · rw [if_pos he]
      have hs : stripZ A = A := stripZ_fix (by have := zrest_front hne (.inl rfl) hzr; rwa [List.append_nil] at this)
      rw [num_no (by rw [hs, List.count_eq_zero.2 hA]; decide), hs]
    · rw [if_neg he]
      have hs : stripZ (A ++ 46 :: stripR B) = A ++ 46 :: stripR B := stripZ_fix (zrest_front hne (.inr ⟨_, rfl⟩) hzr)
      rw [num_parts hs hA (fun h => hB (stripR_sub h)), stripR_idem, if_neg he]
  · rw [num_no hc]
    have hs : stripZ (stripZ s) = stripZ s := stripZ_fix (zrest_stripZ s)
    rw [num_no (by rw [hs]; exact hc), hs]
theorem num_ok {c : UInt8} {l : List UInt8} (hc : digitB c = true) (ha : ∀ b ∈ c :: l, numB b = true) : ∃ d t, numOf (c :: l) = d :: t ∧ digitB d = true ∧ ∀ b ∈ d :: t, numB b = true := by
  obtain ⟨d, t, e, hd⟩ := stripZ_head hc ha
  have hsub : ∀ b ∈ stripZ (c :: l), numB b = true := fun b hb => ha b (stripZ_sub hb)
  by_cases hk : (stripZ (c :: l)).count 46 = 1
  · obtain ⟨A, B, hz, hA, hB⟩ := dot_parts hk
    rw [num_parts hz hA hB]
    cases A with
    | nil =>
      rw [hz] at e
      simp only [List.nil_append, List.cons.injEq] at e
      rw [← e.1] at hd
      cases hd
    | cons a A =>
      have ea : a = d := by rw [hz] at e; simp at e; exact e.1
      subst ea
      have h1 : ∀ b ∈ a :: A, numB b = true := fun b hb => hsub b (by rw [hz]; exact List.mem_append_left _ hb)
      split
      · exact ⟨a, A, rfl, hd, h1⟩
      · refine ⟨a, A ++ 46 :: stripR B, rfl, hd, fun b hb => ?_⟩
        rw [← List.cons_append] at hb
        rcases List.mem_append.1 hb with hb | hb
        · exact h1 b hb
        · rcases List.mem_cons.1 hb with rfl | hb
          · rfl
          · exact hsub b (by rw [hz]; exact List.mem_append_right _ (List.mem_cons_of_mem _ (stripR_sub hb)))
  · rw [num_no hk, e]
    rw [e] at hsub
    exact ⟨d, t, rfl, hd, hsub⟩
/-- A token's normal form, told so. -/
def okT (t : Tok) : Prop := KtOk (t.kind, t.text)
theorem normT_kind (t : Tok) : (normT t).kind = t.kind := by
  unfold normT
  split <;> rfl
theorem normT_text {t : Tok} (h : t.kind ≠ 4) : (normT t).text = t.text := by
  unfold normT numT
  rw [if_neg (by simp [h])]
theorem num4 {t : Tok} (h : okT t) (h4 : t.kind = 4) : ∃ c l, t.text = c :: l ∧ digitB c = true ∧ ∀ b ∈ c :: l, numB b = true := by
  rcases h with ⟨e, _⟩ | ⟨_, h⟩ | e | e | ⟨e, _⟩
  · rw [h4] at e; cases e
  · exact h
  · rw [h4] at e; cases e
  · rw [h4] at e; cases e
  · rw [h4] at e; cases e
theorem normT_num {t : Tok} (h : okT t) (h4 : t.kind = 4) : normT t = { t with text := numOf t.text } := by
  obtain ⟨c, l, e, _⟩ := num4 h h4
  unfold normT numT
  rw [if_pos (by simp [h4, e])]
theorem normT_ok {t : Tok} (h : okT t) : okT (normT t) := by
  by_cases h4 : t.kind = 4
  · obtain ⟨c, l, e, h1, h2⟩ := num4 h h4
    rw [normT_num h h4]
    obtain ⟨d, t', e', h3, h5⟩ := num_ok h1 h2
    exact .inr (.inl ⟨h4, d, t', by rw [e]; exact e', h3, h5⟩)
  · unfold okT
    rw [normT_kind, normT_text h4]
    exact h
theorem normT_idem {t : Tok} (h : okT t) : normT (normT t) = normT t := by
  by_cases h4 : t.kind = 4
  · obtain ⟨c, l, e, h1, h2⟩ := num4 h h4
    have h' := normT_ok h
    rw [normT_num h' (by rw [normT_kind]; exact h4), normT_num h h4]
    simp only [Tok.mk.injEq, true_and, and_true]
    refine num_idem ?_
    rw [e]
    exact stripZ_head h1 h2
  · have : normT t = t := by
      unfold normT numT
      rw [if_neg (by simp [h4])]
    rw [this, this]
end Go.Proofs
/- The sets' layer, plain: what is known of tokens hangs on their kinds and normal texts alone. -/

set_option linter.unusedSimpArgs false
set_option linter.unusedVariables false
namespace Go.Proofs
open Go.Vam
/-- A token without its place, its number in its normal form. -/
def canT (t : Tok) : Tok := { normT t with pos := 0 }
theorem can_kind (t : Tok) : (canT t).kind = t.kind := normT_kind t
theorem can_text {t : Tok} (h : t.kind ≠ 4) : (canT t).text = t.text := normT_text h
section
variable (l : List Tok)
theorem can_at (i : Int) : tokAt (l.map canT) i = canT (tokAt l i) := by
  unfold tokAt
  rw [List.getElem?_map]
  cases l[i.toNat]? <;> rfl
theorem can_is (i k : Int) (x : List UInt8) (h : k ≠ 4) : isAt (l.map canT) i k x = isAt l i k x := by
  unfold isAt
  rw [can_at, can_kind, List.length_map]
  by_cases hk : (tokAt l i).kind = k
  · rw [can_text (by rw [hk]; exact h)]
  · simp [hk]
theorem can_part (i : Int) : partAt (l.map canT) i = partAt l i := by
  unfold partAt
  rw [can_at, can_kind, List.length_map]
  by_cases hk : (tokAt l i).kind = 1
  · rw [can_text (by rw [hk]; decide)]
  · simp [hk]
theorem part_kind {i : Int} (h : partAt l i = true) : (tokAt l i).kind ≠ 4 := by
  unfold partAt at h
  simp only [Bool.and_eq_true, Bool.or_eq_true, decide_eq_true_eq] at h
  rcases h.2 with h | h
  · rw [h]; decide
  · rw [h.1]; decide
theorem can_name (i : Int) : nameAt (l.map canT) i = nameAt l i := by
  unfold nameAt
  rw [can_part, can_part, can_is _ _ _ _ (by decide), can_at, can_at]
  by_cases h1 : partAt l i = true
  · rw [if_pos h1, if_pos h1, can_text (part_kind l h1)]
    by_cases h2 : (isAt l (i + 1) 5 [46] && partAt l (i + 2)) = true
    · rw [if_pos h2, if_pos h2, can_text (part_kind l (by simp only [Bool.and_eq_true] at h2; exact h2.2))]
    · rw [if_neg h2, if_neg h2]
  · rw [if_neg h1, if_neg h1]
theorem can_skip1 (i : Int) : skip1 (l.map canT) i = skip1 l i := by
  unfold skip1
  rw [can_is _ _ _ _ (by decide), can_is _ _ _ _ (by decide)]
theorem can_skip2 (i : Int) : skip2 (l.map canT) i = skip2 l i := by
  unfold skip2
  simp only [can_is _ _ 1 _ (by decide), can_part]
theorem can_from : ∀ (n : Nat) (i : Int), fromAt (l.map canT) n i = fromAt l n i
  | 0, i => rfl
  | n + 1, i => by
    unfold fromAt
    simp only [can_part, can_skip1, can_skip2, can_name, can_is _ _ 5 _ (by decide), can_from n]
theorem can_names (i : Int) : namesAt (l.map canT) i = namesAt l i := by
  unfold namesAt
  rw [can_from, List.length_map]
theorem can_readsAt (i : Int) : readsAt (l.map canT) i = readsAt l i := by
  unfold readsAt
  simp only [can_is _ _ 1 _ (by decide)]
theorem can_readsR : ∀ (n : Nat) (i : Int) (out : List (List UInt8)), readsR (l.map canT) n i out = readsR l n i out
  | 0, i, out => rfl
  | n + 1, i, out => by
    unfold readsR
    rw [can_readsAt, can_names, can_readsR n]
theorem can_wStep (i : Int) (out : List (List UInt8)) : wStep (l.map canT) i out = wStep l i out := by
  unfold wStep moreAt oneAt
  simp only [can_is _ _ 1 _ (by decide), can_names]
theorem can_writesR : ∀ (n : Nat) (i : Int) (out : List (List UInt8)), writesR (l.map canT) n i out = writesR l n i out
  | 0, i, out => rfl
  | n + 1, i, out => by
    unfold writesR
    rw [can_wStep, can_writesR n]
theorem can_words : (l.map canT).map wordOf = l.map wordOf := by
  rw [List.map_map]
  refine List.map_congr_left fun t _ => ?_
  show wordOf (canT t) = wordOf t
  unfold wordOf
  rw [can_kind]
  by_cases h : t.kind = 1
  · rw [if_pos h, if_pos h, can_text (by rw [h]; decide)]
  · rw [if_neg h, if_neg h]
theorem can_called (i : Nat) : callP (l.map canT) i = callP l i := by
  unfold callP calledAt
  rw [can_is _ _ _ _ (by decide), can_at, can_kind]
  by_cases h : (tokAt l i).kind = 1
  · rw [can_text (by rw [h]; decide)]
  · simp [h]
theorem can_class : classOf (l.map canT) = classOf l := by
  unfold classOf
  have hq : queryOf (l.map canT) = queryOf l := by
    unfold queryOf writesB locksB callsB
    rw [can_words, List.length_map, show callP (l.map canT) = callP l from funext (can_called l)]
  rw [can_words, hq]
end
theorem can_semi (t : Tok) : semi (canT t) = semi t := by
  unfold semi
  rw [can_kind]
  by_cases h : t.kind = 5
  · rw [can_text (by rw [h]; decide)]
  · simp [h]
theorem no_semiN {l : List Tok} (h : ∀ t ∈ l, semi t = false) : semiN l l.length = l.length := by
  cases hn : l.length with
  | zero => rfl
  | succ n =>
    unfold semiN
    rw [if_neg]
    rw [tokAt_nat (by omega), h _ (List.getElem_mem _)]
    simp
theorem normL_no {l : List Tok} (h : ∀ t ∈ l, semi t = false) : normL l = joinK (kt (l.map normT)) := by
  unfold normL normToks
  rw [no_semiN h, List.take_length, showL_join]
theorem can_norm {l : List Tok} (h : ∀ t ∈ l, semi t = false) (ho : ∀ t ∈ l, okT t) : normL (l.map canT) = normL l := by
  rw [normL_no h, normL_no (fun t ht => by
    obtain ⟨t', h', rfl⟩ := List.mem_map.1 ht
    rw [can_semi]
    exact h t' h')]
  congr 1
  unfold kt
  rw [List.map_map, List.map_map, List.map_map]
  refine List.map_congr_left fun t ht => ?_
  have hk : (normT (canT t)).text = (normT t).text := by
    have h1 : (normT (canT t)).text = (normT (normT t)).text := by
      unfold canT
      generalize normT t = u
      unfold normT numT
      simp only
      split <;> rfl
    rw [h1, normT_idem (ho t ht)]
  simp only [Function.comp_apply, normT_kind, can_kind, hk]
theorem can_of {l : List Tok} (h : ∀ t ∈ l, semi t = false) (ho : ∀ t ∈ l, okT t) : ofS (l.map canT) = ofS l := by
  unfold ofS
  rw [can_class, can_norm h ho, List.length_map, can_readsR, can_writesR]
/-- Tokens of the same kinds and normal texts: the same is known of them. -/
theorem of_alike {l l' : List Tok} (h : ∀ t ∈ l, semi t = false) (ho : ∀ t ∈ l, okT t) (h' : ∀ t ∈ l', semi t = false) (ho' : ∀ t ∈ l', okT t) (e : kt (l.map normT) = kt (l'.map normT)) : ofS l = ofS l' := by
  rw [← can_of h ho, ← can_of h' ho']
  congr 1
  have key : ∀ l : List Tok, l.map canT = (kt (l.map normT)).map fun x => (⟨x.1, x.2, 0⟩ : Tok) := fun l => by
    unfold kt
    rw [List.map_map, List.map_map]
    rfl
  rw [key, key, e]
/-! ### statements -/
def semiK (x : KT) : Bool := decide (x.1 = 5) && (x.2 == [59])
def splitK : List KT → List KT → List (List KT) → List (List KT)
  | [], cur, done => if cur = [] then done else done ++ [cur]
  | t :: l, cur, done => if semiK t then splitK l [] (if cur = [] then done else done ++ [cur]) else splitK l (cur ++ [t]) done
theorem kt_nil {l : List Tok} : kt l = [] ↔ l = [] := List.map_eq_nil_iff
theorem split_kt : ∀ (l cur : List Tok) (done : List (List Tok)), (splitS l cur done).map kt = splitK (kt l) (kt cur) (done.map kt)
  | [], cur, done => by
    simp only [splitS, kt, splitK, List.map_nil]
    by_cases h : cur = []
    · subst h; rfl
    · simp [h]
      rfl
  | t :: l, cur, done => by
    have hs : semi t = semiK (t.kind, t.text) := rfl
    show (splitS (t :: l) cur done).map kt = splitK ((t.kind, t.text) :: kt l) (kt cur) (done.map kt)
    unfold splitS splitK
    rw [hs]
    split
    · rw [split_kt l]
      congr 1
      by_cases h : cur = []
      · subst h; rfl
      · rw [if_neg h, if_neg (fun e => h (kt_nil.1 e))]
        simp
    · rw [split_kt l]
      congr 1
      simp [kt]
theorem splitK_no : ∀ (l cur : List KT) (done : List (List KT)), (∀ x ∈ l, semiK x = false) → splitK l cur done = if cur ++ l = [] then done else done ++ [cur ++ l]
  | [], cur, done, _ => by simp [splitK]
  | t :: l, cur, done, h => by
    unfold splitK
    rw [h t List.mem_cons_self, if_neg (by simp), splitK_no l _ _ fun x hx => h x (List.mem_cons_of_mem _ hx)]
    simp
theorem splitK_last {s : KT} (hs : semiK s = true) : ∀ (l cur : List KT) (done : List (List KT)), splitK (l ++ [s]) cur done = splitK l cur done
  | [], cur, done => by
    simp only [List.nil_append, splitK, hs, if_true]
  | t :: l, cur, done => by
    rw [List.cons_append]
    unfold splitK
    rw [splitK_last hs l, splitK_last hs l]
theorem splitK_semi {s : KT} (hs : semiK s = true) (l : List KT) : splitK (s :: l) [] [] = splitK l [] [] := by
  conv => lhs; unfold splitK
  rw [if_pos hs]
  rfl
theorem split_no : ∀ (l cur : List Tok) (done : List (List Tok)), (∀ t ∈ cur, semi t = false) → (∀ x ∈ done, ∀ t ∈ x, semi t = false) → ∀ x ∈ splitS l cur done, ∀ t ∈ x, semi t = false
  | [], cur, done, h1, h2 => by
    unfold splitS
    split
    · exact h2
    · intro x hx
      rcases List.mem_append.1 hx with hx | hx
      · exact h2 x hx
      · rw [List.mem_singleton.1 hx]; exact h1
  | t :: l, cur, done, h1, h2 => by
    unfold splitS
    split
    · refine split_no l _ _ (by simp) ?_
      split
      · exact h2
      · intro x hx
        rcases List.mem_append.1 hx with hx | hx
        · exact h2 x hx
        · rw [List.mem_singleton.1 hx]; exact h1
    · rename_i hs
      refine split_no l _ _ (fun u hu => ?_) h2
      rcases List.mem_append.1 hu with hu | hu
      · exact h1 u hu
      · rw [List.mem_singleton.1 hu]; simpa using hs
theorem split_all {p : Tok → Prop} : ∀ (l cur : List Tok) (done : List (List Tok)), (∀ t ∈ l, p t) → (∀ t ∈ cur, p t) → (∀ x ∈ done, ∀ t ∈ x, p t) → ∀ x ∈ splitS l cur done, ∀ t ∈ x, p t
  | [], cur, done, _, h1, h2 => by
    unfold splitS
    split
    · exact h2
    · intro x hx
      rcases List.mem_append.1 hx with hx | hx
      · exact h2 x hx
      · rw [List.mem_singleton.1 hx]; exact h1
  | t :: l, cur, done, h0, h1, h2 => by
    have h0' : ∀ u ∈ l, p u := fun u hu => h0 u (List.mem_cons_of_mem _ hu)
    unfold splitS
    split
    · refine split_all l _ _ h0' (by simp) ?_
      split
      · exact h2
      · intro x hx
        rcases List.mem_append.1 hx with hx | hx
        · exact h2 x hx
        · rw [List.mem_singleton.1 hx]; exact h1
    · refine split_all l _ _ h0' (fun u hu => ?_) h2
      rcases List.mem_append.1 hu with hu | hu
      · exact h1 u hu
      · rw [List.mem_singleton.1 hu]; exact h0 t List.mem_cons_self
theorem split_ne : ∀ (l cur : List Tok) (done : List (List Tok)), (∀ x ∈ done, x ≠ []) → ∀ x ∈ splitS l cur done, x ≠ []
  | [], cur, done, h => by
    unfold splitS
    split
    · exact h
    · rename_i hc
      intro x hx
      rcases List.mem_append.1 hx with hx | hx
      · exact h x hx
      · rw [List.mem_singleton.1 hx]; exact hc
  | t :: l, cur, done, h => by
    unfold splitS
    split
    · refine split_ne l _ _ ?_
      split
      · exact h
      · rename_i hc
        intro x hx
        rcases List.mem_append.1 hx with hx | hx
        · exact h x hx
        · rw [List.mem_singleton.1 hx]; exact hc
    · exact split_ne l _ _ h
end Go.Proofs
/- The sets' layer, plain: a statement and its normal form are known alike; so is it among semicolons. -/

set_option linter.unusedSimpArgs false
set_option linter.unusedVariables false
namespace Go.Proofs
open Go.Vam
/-- What is read of a text that is short. -/
theorem scanL_lex {s : List UInt8} (hl : s.length ≤ 2000) (h : (scanL s).2.1 = 0) : Lex s (kt (scanL s).1) := by
  have e : scanL s = scanF s 0 [] := by
    unfold scanL
    rw [if_neg (by omega)]
  rw [e] at h ⊢
  obtain ⟨l, hx⟩ := scan_lex s.length s 0 [] (Nat.le_refl _) h
  have := (lex_scan hx 0 []).2
  rw [this]
  exact hx
theorem lex_scanL {s : List UInt8} {l : List KT} (hl : s.length ≤ 2000) (h : Lex s l) : (scanL s).2.1 = 0 ∧ kt (scanL s).1 = l := by
  have e : scanL s = scanF s 0 [] := by
    unfold scanL
    rw [if_neg (by omega)]
  rw [e]
  exact lex_scan h 0 []
theorem kt_ok {l : List Tok} {k : List KT} (h : kt l = k) (hk : ∀ x ∈ k, KtOk x) : ∀ t ∈ l, okT t := fun t ht => hk _ (h ▸ List.mem_map_of_mem ht)
theorem normT_kt {t u : Tok} (h : (t.kind, t.text) = (u.kind, u.text)) : ((normT t).kind, (normT t).text) = ((normT u).kind, (normT u).text) := by
  simp only [Prod.mk.injEq] at h
  unfold normT numT
  rw [h.1, h.2]
  split <;> simp [h.1, h.2]
theorem norm_kt : ∀ {l l' : List Tok}, kt l = kt l' → kt (l.map normT) = kt (l'.map normT)
  | [], [], _ => rfl
  | [], _ :: _, h => by simp [kt] at h
  | _ :: _, [], h => by simp [kt] at h
  | t :: l, u :: l', h => by
    simp only [kt, List.map_cons, List.cons.injEq] at h ⊢
    exact ⟨normT_kt h.1, norm_kt h.2⟩
theorem norm_semi (t : Tok) : semi (normT t) = semi t := by
  unfold semi
  rw [normT_kind]
  by_cases h : t.kind = 5
  · rw [normT_text (by rw [h]; decide)]
  · simp [h]
/-- A text whose one statement is alike p's: the same is known of it. -/
theorem parse_alike {v : List UInt8} {k k' : List KT} {p : List Tok} (hl : v.length ≤ 2000) (hx : Lex v k) (hp : ∀ t ∈ p, semi t = false) (ho : ∀ t ∈ p, okT t)
    (hk : splitK k [] [] = if k' = [] then [] else [k']) (hn : ∀ p' : List Tok, kt p' = k' → kt (p'.map normT) = kt (p.map normT)) : parseL v = (ofS p, 0) := by
  obtain ⟨h1, h2⟩ := lex_scanL hl hx
  have hs := split_kt (scanL v).1 [] []
  rw [h2, show kt [] = [] from rfl, List.map_nil, hk] at hs
  have hno := split_no (scanL v).1 [] [] (by simp) (by simp)
  have hok := split_all (p := okT) (scanL v).1 [] [] (kt_ok h2 (lex_ok hx)) (by simp) (by simp)
  unfold parseL
  rw [if_pos h1]
  have he : splitL (scanL v).1 = splitS (scanL v).1 [] [] := rfl
  rw [he]
  by_cases h0 : k' = []
  · rw [if_pos h0, List.map_eq_nil_iff] at hs
    rw [hs]
    simp only
    rw [of_alike (l := []) (l' := p) (by simp) (by simp) hp ho (hn [] (by rw [h0]; rfl))]
  · rw [if_neg h0] at hs
    generalize splitS (scanL v).1 [] [] = S at *
    match S, hs, hno, hok with
    | [q], hs, hno, hok =>
      simp only [List.map_cons, List.map_nil, List.cons.injEq, and_true] at hs
      simp only
      rw [of_alike (l := q) (l' := p) (hno q (by simp)) (hok q (by simp)) hp ho (hn q hs)]
theorem parse_parts {s : List UInt8} {x : Stm} (hl : s.length ≤ 2000) (h : parseL s = (x, 0)) : ∃ (p : List Tok) (k : List KT), x = ofS p ∧ (∀ t ∈ p, semi t = false) ∧ (∀ t ∈ p, okT t) ∧ Lex s k ∧ splitK k [] [] = if kt p = [] then [] else [kt p] := by
  unfold parseL at h
  by_cases h1 : (scanL s).2.1 = 0
  · rw [if_pos h1] at h
    have hx := scanL_lex hl h1
    have hs := split_kt (scanL s).1 [] []
    have hno := split_no (scanL s).1 [] [] (by simp) (by simp)
    have hok := split_all (p := okT) (scanL s).1 [] [] (kt_ok rfl (lex_ok hx)) (by simp) (by simp)
    have hns := split_ne (scanL s).1 [] [] (by simp)
    have he : splitL (scanL s).1 = splitS (scanL s).1 [] [] := rfl
    rw [he] at h
    rw [show kt [] = [] from rfl, List.map_nil] at hs
    generalize splitS (scanL s).1 [] [] = S at *
    match S, h, hs, hno, hok, hns with
    | [], h, hs, _, _, _ =>
      simp only [Prod.mk.injEq, and_true] at h
      exact ⟨[], _, h.symm, by simp, by simp, hx, by rw [← hs]; rfl⟩
    | [q], h, hs, hno, hok, hns =>
      simp only [Prod.mk.injEq, and_true] at h
      refine ⟨q, _, h.symm, hno q (by simp), hok q (by simp), hx, ?_⟩
      rw [← hs, if_neg (fun e => hns q (by simp) (kt_nil.1 e))]
      rfl
    | _ :: _ :: _, h, _, _, _, _ =>
      simp at h
  · rw [if_neg h1] at h
    simp only [Prod.mk.injEq] at h
    exact absurd h.2 h1
/-- THE NORMAL FORM IS KNOWN ALIKE. -/
theorem parse_norm {s : List UInt8} {x : Stm} (hl : s.length ≤ 2000) (h : parseL s = (x, 0)) (hn : x.norm.length ≤ 2000) : parseL x.norm = (x, 0) := by
  obtain ⟨p, k, rfl, hp, ho, _, _⟩ := parse_parts hl h
  have e : (ofS p).norm = joinK (kt (p.map normT)) := normL_no hp
  rw [e] at hn ⊢
  have hk : ∀ y ∈ kt (p.map normT), KtOk y := by
    intro y hy
    obtain ⟨t, ht, rfl⟩ := List.mem_map.1 hy
    obtain ⟨u, hu, rfl⟩ := List.mem_map.1 ht
    exact normT_ok (ho u hu)
  refine parse_alike hn (lex_join hk) hp ho (k' := kt (p.map normT)) ?_ ?_
  · rw [splitK_no _ [] [] (fun y hy => by
      obtain ⟨t, ht, rfl⟩ := List.mem_map.1 hy
      obtain ⟨u, hu, rfl⟩ := List.mem_map.1 ht
      show semi (normT u) = false
      rw [norm_semi]
      exact hp u hu)]
    simp
  · intro p' hp'
    rw [norm_kt hp', List.map_map]
    unfold kt
    rw [List.map_map, List.map_map]
    refine List.map_congr_left fun t ht => ?_
    simp only [Function.comp_apply, normT_idem (ho t ht)]
/-- AMONG SEMICOLONS THE SAME IS KNOWN. -/
theorem parse_semis {s : List UInt8} {x : Stm} (hl : s.length ≤ 1900) (h : parseL s = (x, 0)) : parseL ([32, 59, 32] ++ s ++ [10, 32, 59, 32]) = (x, 0) := by
  obtain ⟨p, k, rfl, hp, ho, hx, hk⟩ := parse_parts (by omega) h
  have ok5 : KtOk (5, [59]) := .inr (.inr (.inr (.inr ⟨rfl, .inl ⟨59, rfl, rfl⟩⟩)))
  have semi1 : ∀ {r : List UInt8} {l : List KT}, Lex r l → Lex ([32, 59, 32] ++ r) ((5, [59]) :: l) := fun {r l} hr => by
    have ht : Ends (32 :: r) := fun c r' e => by cases e; rfl
    obtain ⟨h0, h1, h2, h3, h4⟩ := one_show ok5 ht
    refine .space rfl (.tok (k := 5) (t := [59]) (m := 1) (r := 59 :: 32 :: r) (by simp) h1 h2 h3 h4 (by omega) ?_)
    exact .space rfl hr
  have tail : Lex [10, 32, 59, 32] [(5, [59])] := .space rfl (semi1 .nil)
  have hlex : Lex ([32, 59, 32] ++ s ++ [10, 32, 59, 32]) ((5, [59]) :: (k ++ [(5, [59])])) := by
    rw [List.append_assoc]
    exact semi1 (lex_app ⟨_, rfl⟩ tail hx)
  have hs5 : semiK (5, [59]) = true := rfl
  refine parse_alike (by simp only [List.length_append, List.length_cons, List.length_nil]; omega) hlex hp ho (k' := kt p) ?_ fun p' hp' => norm_kt hp'
  rw [splitK_semi hs5, splitK_last hs5, hk]
end Go.Proofs
/- The sets' layer: SetsNorm: what the machine tells of it. -/


set_option linter.unusedSimpArgs false
set_option linter.unusedVariables false
namespace Go.Proofs
open Go.Vam
theorem law_norm (s : List UInt8) : PV 6 [.str s] = some (.bool true) := by
  refine PV_start k6 rfl (Nat.le_of_ble_eq_true rfl) ?_
  have h9 := p_known
  by_cases c1 : (900 : Int) < (s.length : Int)
  · simp only [go_sem, bx, K6, c1, call_pure pure_9, h9]
  have p1 := p_parse s (by omega)
  rcases parse_cases s with ⟨l, hs, hpl⟩ | ⟨e, he, hpl⟩
  · have hm := of_max hs
    have hnorm := fun h => parse_norm (s := s) (x := ofS l) (by omega) hpl h
    have hsemi := parse_semis (s := s) (x := ofS l) (by omega) hpl
    rw [hpl] at p1
    have t3 := p_same (ofS l) (ofS l) (by simp only [maxL]; omega) (by simp only [maxL]; omega)
    rw [decide_eq_true rfl] at t3
    generalize ofS l = S at *
    by_cases c2 : (2000 : Int) < (S.norm.length : Int)
    · have st1 := new30 S.cls (.sl (strs S.reads)) (.sl (strs S.writes)) S.norm rfl rfl []
      simp only [go_sem, bx] at st1
      simp only [parseR, stm] at p1
      simp only [go_sem, bx, K6, c1, call_pure pure_19, p1, PC_still, st1, c2, call_pure pure_9, h9]
    · have p2 := p_parse S.norm (by omega)
      rw [hnorm (by omega)] at p2
      have p3 := p_parse ([32, 59, 32] ++ s ++ [10, 32, 59, 32]) (by simp only [List.length_append, List.length_cons, List.length_nil]; omega)
      rw [hsemi] at p3
      have a1 : abin Try.prog .add 9 (.str [32, 59, 32]) (.str s) = some (.str ([32, 59, 32] ++ s)) := b_sadd _ _ _ _ (by simp only [List.length_cons, List.length_nil]; omega)
      have a2 : abin Try.prog .add 9 (.str ([32, 59, 32] ++ s)) (.str [10, 32, 59, 32]) = some (.str ([32, 59, 32] ++ s ++ [10, 32, 59, 32])) := b_sadd _ _ _ _ (by simp only [List.length_append, List.length_cons, List.length_nil]; omega)
      generalize [32, 59, 32] ++ s ++ [10, 32, 59, 32] = v at *
      generalize [32, 59, 32] ++ s = u at *
      simp only [parseR, stm] at p1 p2 p3 t3
      have st1 := new30 S.cls (.sl (strs S.reads)) (.sl (strs S.writes)) S.norm rfl rfl []
      simp only [go_sem, bx] at st1
      generalize ho : AO.arr 30 true 0 [[.int .i64 S.cls, .sl (strs S.reads), .sl (strs S.writes), .str S.norm]] = o at *
      have st2 := new30 S.cls (.sl (strs S.reads)) (.sl (strs S.writes)) S.norm rfl rfl [o]
      have st3 := new30 S.cls (.sl (strs S.reads)) (.sl (strs S.writes)) S.norm rfl rfl [o, o]
      simp only [go_sem, bx] at st2 st3
      rw [ho] at st2 st3
      have f3 : ∀ T : AHeap, aload Try.prog 9 (.ptr 0 0 3) (o :: T) = some (.str S.norm) := fun T => by
        rw [load_ptr, ← ho]
        simp only [go_sem, bx, Nat.le_refl]
      have l0 : aload Try.prog 30 (.ptr 0 0 0) [o, o, o] = some (.agg [.int .i64 S.cls, .sl (strs S.reads), .sl (strs S.writes), .str S.norm]) := by
        rw [load_ptr, ← ho]
        simp only [go_sem, bx, Nat.le_refl]
      have l1 : aload Try.prog 30 (.ptr 1 0 0) [o, o, o] = some (.agg [.int .i64 S.cls, .sl (strs S.reads), .sl (strs S.writes), .str S.norm]) := by
        rw [load_ptr, ← ho]
        simp only [go_sem, bx, Nat.le_refl]
      have l2 : aload Try.prog 30 (.ptr 2 0 0) [o, o, o] = some (.agg [.int .i64 S.cls, .sl (strs S.reads), .sl (strs S.writes), .str S.norm]) := by
        rw [load_ptr, ← ho]
        simp only [go_sem, bx, Nat.le_refl]
      simp only [go_sem, bx, K6, c1, call_pure pure_19, p1, PC_still, st1, f3, c2, p2, st2, a1, a2, p3, st3, l0, l1, l2, frz_agg, call_pure pure_15, t3, decide_true, call_pure pure_9, h9]
  · rw [hpl] at p1
    simp only [parseR, stm, zeroS] at p1
    have st1 := new30 0 (.sl (strs [])) (.sl (strs [])) [] rfl rfl []
    simp only [go_sem, bx] at st1
    simp only [go_sem, bx, K6, c1, call_pure pure_19, p1, PC_still, st1, he, call_pure pure_9, h9]
end Go.Proofs
/- The sets' layer: from what the machine tells to calls. -/

namespace Go.Proofs
open Go.Vam Go.RowKit
theorem frz_true {n : Nat} {H : AHeap} {r : AV} (h : frz n H r = some (.bool true)) : r = .bool true := by
  cases r with
  | bool b => cases n <;> (simp only [frz, Option.some.injEq] at h; exact h)
  | agg xs => cases n with
    | zero => simp [frz] at h
    | succ n =>
      simp only [frz] at h
      cases hm : mapO (frz n H) xs <;> rw [hm] at h <;> cases h
  | tup xs => cases n with
    | zero => simp [frz] at h
    | succ n =>
      simp only [frz] at h
      cases hm : mapO (frz n H) xs <;> rw [hm] at h <;> cases h
  | hs id i m => cases n with
    | zero => simp [frz] at h
    | succ n =>
      simp only [frz] at h
      split at h
      · split at h
        · rename_i es _ _
          cases hm : mapO (fun e => mapO (frz n H) e) (List.take m (List.drop i es)) <;> rw [hm] at h <;> cases h
        · cases h
      · cases h
  | mp id => cases n with
    | zero => simp [frz] at h
    | succ n =>
      simp only [frz] at h
      split at h
      · rename_i es _
        cases hm : mapO (fun e => (frz n H e.1).bind fun a => (frz n H e.2).map fun b => (a, b)) es <;> rw [hm] at h <;> cases h
      · cases h
  | fn f xs => cases xs <;> cases n <;> simp [frz] at h
  | _ => cases n <;> simp [frz] at h
/-- A law that the machine tells true, of arguments that are so: the call returns true, and what was there stands. -/
theorem law_walk {f : FuncId} {xs : List AV} {vs : List Value} {W : World} {ok0 : Nat → Nat → Prop} (h : PV f xs = some (.bool true)) (hlen : vs.length = xs.length)
    (hargs : ∀ i x, xs[i]? = some x → VR Try.prog (okS W.heap.size ok0 [] []) W [] x (vs.getD i undef)) :
    Calls Try.prog f vs.toArray W fun e W' => e = .returned (.bool true) ∧ Below W.heap.size W W' := by
  unfold PV at h
  cases hc : callV E f xs [] with
  | none => rw [hc] at h; cases h
  | some y =>
    obtain ⟨r, H1⟩ := y
    rw [hc] at h
    simp only at h
    have hr := frz_true h
    subst hr
    refine ((Proofs.told hc).2 W.heap.size ok0 [] W vs (St.empty _ _ _) (Nat.le_refl _) hlen hargs).mono fun e W' he => ?_
    cases e with
    | returned v =>
      obtain ⟨ρ', _, he2, he3⟩ := he
      cases he3
      exact ⟨rfl, he2.below⟩
    | _ => exact he.elim
end Go.Proofs
/- SetsNorm: the row. -/










namespace Go.Proofs.Ytaejgmokgliceaa.setsNorm
open Go.ChangeShapes Go.WideShapes Go.ChangeAt Go.RowKit
open Go.ChangeMaps (open_string shut_string)
set_option linter.unusedVariables false
theorem own : ownKnob Try.prog.godebug = none := by kernel_rfl
theorem walk (a0 : ByteArray) (W : World) : Calls Try.prog 6 #[.string a0] W fun e W' => e = .returned (.bool true) ∧ Below W.heap.size W W' :=
  law_walk (xs := [.str a0.data.toList]) (vs := [.string a0]) (ok0 := fun _ _ => False) (law_norm _) rfl fun i x hx => by
    cases i with
    | zero => simp at hx; subst hx; exact .str _ _
    | succ i => simp at hx
set_option maxRecDepth 100000 in
theorem lifted (os : Os) (started : os.Started) (H : Type) (enc : TypeId × Value → H) :
    ReturnsInHanded {} Try.checked os 6 .any (Rows.setsNormSpec.pre6 enc Try.prog Try.f6 Rows.setsNormRow.domain false) (Rows.setsNormSpec.post enc Try.prog Try.f6 false true false false) := by
  refine returnsInHanded_of_change_sized (C := Try.checked) own started (by kernel_rfl) Try.func6
    (ChangeSpec.witness6 (enc := enc) (C := Try.checked) false ⟨#[], #[.string ByteArray.empty], []⟩ 8 (by kernel_rfl) (by kernel_rfl) (by kernel_rfl) (by kernel_rfl)) ?_
  intro W base args ds gs before hval0 hW hcnd hsz0 _
  have hsz : (DataW.weightsEach Try.prog (Try.f6.params.toList ++ Rows.setsNormSpec.plain.varTypes Try.prog) (ds ++ gs)).all (· ≤ reachBytes) = true := hsz0
  have hval : ∀ (j : Nat) t v, Try.f6.params[j]? = some t → args[j]? = some v → Value.okWide Try.prog W .any base t v := hval0
  have hW' := hW
  obtain ⟨p, q, hA0, hV, rfl, hfz, hnd⟩ := hW
  have hA : DataW.TrodAll enc Try.prog W 0 (fun _ => true) true Try.f6.params.toList args.toList ds p := hA0
  rw [Try.params6] at hA hval hsz
  obtain ⟨v0, vs0, d0, ds0, p0, q0, hargs, rfl, rfl, h0, r0⟩ := trodAll_cons hA
  obtain ⟨rfl, rfl, rfl⟩ := trodAll_nil r0
  obtain rfl : args = #[v0] := by cases args; simp_all
  obtain ⟨rfl, rfl⟩ := trodVars_none hV
  obtain ⟨a0, rfl, rfl, rfl, y0⟩ := open_string Try.underlying9 (hval 0 9 v0 rfl rfl) h0
  clear hA0 hval0 hsz0 hsz
  refine (walk a0 W).mono fun e W' ⟨he, bel⟩ => ?_
  subst he
  exact ⟨_, rfl, _, _, _, [], _, [], hW', trodAll_mk1 (shut_bool Try.underlying4 _), (trodAll_cons_mk (shut_string Try.underlying9 y0) trodAll_mk0), rfl, bel.frame _, fun h => by cases h⟩
theorem over : Rows.setsNormRow.holds Try.pinned (OpenSpec.ofChange Rows.setsNormSpec) :=
  OpenClaim.holds_of_wide 6 Try.f6 rfl rfl rfl rfl rfl rfl rfl ⟨rfl, rfl, rfl, rfl, rfl⟩ rfl rfl rfl rfl rfl (by kernel_rfl) Try.func6 (by kernel_rfl)
    (of_decide_eq_true (by kernel_rfl)) (by unfold Func.isWrapper; first | (rw [if_pos (by decide +kernel)]; kernel_rfl) | (rw [if_neg (by decide +kernel)]; exact ⟨rfl, rfl⟩))
    (fun os started H enc _ => lifted os started H enc)
theorem proved : Rows.SetsNormSaid := over
#print axioms proved
end Go.Proofs.Ytaejgmokgliceaa.setsNorm
