/- What several laws of this seat need, part 5: an abstract machine for the program's code, that it is sound, and what it tells of the layer's functions. -/
import Derived.Test.YtaejgmokgliceaaJ4
import Derived.Laws.RangeString
import Derived.KernelRfl
/- The sets' layer: the lexer's classes of bytes, runs, begins. -/

set_option linter.unusedSimpArgs false
set_option linter.unusedVariables false
namespace Go.Proofs
open Go.Vam
/-! ### classes of bytes -/
def letterI (n : Int) : Bool := decide (97 ≤ n) && decide (n ≤ 122) || (decide (65 ≤ n) && decide (n ≤ 90)) || decide (n = 95) || decide (127 < n)
def digitI (n : Int) : Bool := decide (48 ≤ n) && decide (n ≤ 57)
def letterB (b : UInt8) : Bool := letterI b.toNat
def digitB (b : UInt8) : Bool := digitI b.toNat
def wordB (b : UInt8) : Bool := letterB b || digitB b || b == 36
def numB (b : UInt8) : Bool := digitB b || b == 46
def tagB (b : UInt8) : Bool := letterB b || digitB b
theorem p_letter (n : Int) : PV 85 [.int .i32 n] = some (.bool (letterI n)) := by
  refine PV_start k85 rfl (Nat.le_of_ble_eq_true rfl) ?_
  unfold letterI
  cases a1 : decide (97 ≤ n)
  · cases a3 : decide (65 ≤ n)
    · cases a5 : decide (n = 95)
      · simp only [go_sem, bx, K85, a1, a3, a5, Bool.true_and, Bool.false_and, Bool.and_true, Bool.and_false, Bool.or_true, Bool.or_false, Bool.true_or, Bool.false_or]
      · simp only [go_sem, bx, K85, a1, a3, a5, Bool.true_and, Bool.false_and, Bool.and_true, Bool.and_false, Bool.or_true, Bool.or_false, Bool.true_or, Bool.false_or]
    · cases a4 : decide (n ≤ 90)
      · cases a5 : decide (n = 95)
        · simp only [go_sem, bx, K85, a1, a3, a4, a5, Bool.true_and, Bool.false_and, Bool.and_true, Bool.and_false, Bool.or_true, Bool.or_false, Bool.true_or, Bool.false_or]
        · simp only [go_sem, bx, K85, a1, a3, a4, a5, Bool.true_and, Bool.false_and, Bool.and_true, Bool.and_false, Bool.or_true, Bool.or_false, Bool.true_or, Bool.false_or]
      · simp only [go_sem, bx, K85, a1, a3, a4, Bool.true_and, Bool.false_and, Bool.and_true, Bool.and_false, Bool.or_true, Bool.or_false, Bool.true_or, Bool.false_or]
  · cases a2 : decide (n ≤ 122)
    · cases a3 : decide (65 ≤ n)
      · cases a5 : decide (n = 95)
        · simp only [go_sem, bx, K85, a1, a2, a3, a5, Bool.true_and, Bool.false_and, Bool.and_true, Bool.and_false, Bool.or_true, Bool.or_false, Bool.true_or, Bool.false_or]
        · simp only [go_sem, bx, K85, a1, a2, a3, a5, Bool.true_and, Bool.false_and, Bool.and_true, Bool.and_false, Bool.or_true, Bool.or_false, Bool.true_or, Bool.false_or]
      · cases a4 : decide (n ≤ 90)
        · cases a5 : decide (n = 95)
          · simp only [go_sem, bx, K85, a1, a2, a3, a4, a5, Bool.true_and, Bool.false_and, Bool.and_true, Bool.and_false, Bool.or_true, Bool.or_false, Bool.true_or, Bool.false_or]
          · simp only [go_sem, bx, K85, a1, a2, a3, a4, a5, Bool.true_and, Bool.false_and, Bool.and_true, Bool.and_false, Bool.or_true, Bool.or_false, Bool.true_or, Bool.false_or]
        · simp only [go_sem, bx, K85, a1, a2, a3, a4, Bool.true_and, Bool.false_and, Bool.and_true, Bool.and_false, Bool.or_true, Bool.or_false, Bool.true_or, Bool.false_or]
    · simp only [go_sem, bx, K85, a1, a2, Bool.true_and, Bool.false_and, Bool.and_true, Bool.and_false, Bool.or_true, Bool.or_false, Bool.true_or, Bool.false_or]
theorem p_letter4 (n : Int) : PV 96 [.int .u8 n] = some (.bool (letterI n)) := by
  refine PV_start k96 rfl (Nat.le_of_ble_eq_true rfl) ?_
  unfold letterI
  cases a1 : decide (97 ≤ n)
  · cases a3 : decide (65 ≤ n)
    · cases a5 : decide (n = 95)
      · simp only [go_sem, bx, K96, a1, a3, a5, Bool.true_and, Bool.false_and, Bool.and_true, Bool.and_false, Bool.or_true, Bool.or_false, Bool.true_or, Bool.false_or]
      · simp only [go_sem, bx, K96, a1, a3, a5, Bool.true_and, Bool.false_and, Bool.and_true, Bool.and_false, Bool.or_true, Bool.or_false, Bool.true_or, Bool.false_or]
    · cases a4 : decide (n ≤ 90)
      · cases a5 : decide (n = 95)
        · simp only [go_sem, bx, K96, a1, a3, a4, a5, Bool.true_and, Bool.false_and, Bool.and_true, Bool.and_false, Bool.or_true, Bool.or_false, Bool.true_or, Bool.false_or]
        · simp only [go_sem, bx, K96, a1, a3, a4, a5, Bool.true_and, Bool.false_and, Bool.and_true, Bool.and_false, Bool.or_true, Bool.or_false, Bool.true_or, Bool.false_or]
      · simp only [go_sem, bx, K96, a1, a3, a4, Bool.true_and, Bool.false_and, Bool.and_true, Bool.and_false, Bool.or_true, Bool.or_false, Bool.true_or, Bool.false_or]
  · cases a2 : decide (n ≤ 122)
    · cases a3 : decide (65 ≤ n)
      · cases a5 : decide (n = 95)
        · simp only [go_sem, bx, K96, a1, a2, a3, a5, Bool.true_and, Bool.false_and, Bool.and_true, Bool.and_false, Bool.or_true, Bool.or_false, Bool.true_or, Bool.false_or]
        · simp only [go_sem, bx, K96, a1, a2, a3, a5, Bool.true_and, Bool.false_and, Bool.and_true, Bool.and_false, Bool.or_true, Bool.or_false, Bool.true_or, Bool.false_or]
      · cases a4 : decide (n ≤ 90)
        · cases a5 : decide (n = 95)
          · simp only [go_sem, bx, K96, a1, a2, a3, a4, a5, Bool.true_and, Bool.false_and, Bool.and_true, Bool.and_false, Bool.or_true, Bool.or_false, Bool.true_or, Bool.false_or]
          · simp only [go_sem, bx, K96, a1, a2, a3, a4, a5, Bool.true_and, Bool.false_and, Bool.and_true, Bool.and_false, Bool.or_true, Bool.or_false, Bool.true_or, Bool.false_or]
        · simp only [go_sem, bx, K96, a1, a2, a3, a4, Bool.true_and, Bool.false_and, Bool.and_true, Bool.and_false, Bool.or_true, Bool.or_false, Bool.true_or, Bool.false_or]
    · simp only [go_sem, bx, K96, a1, a2, Bool.true_and, Bool.false_and, Bool.and_true, Bool.and_false, Bool.or_true, Bool.or_false, Bool.true_or, Bool.false_or]
theorem p_digit (n : Int) : PV 87 [.int .i32 n] = some (.bool (digitI n)) := by
  refine PV_start k87 rfl (Nat.le_of_ble_eq_true rfl) ?_
  unfold digitI
  cases a1 : decide (48 ≤ n) <;> cases a2 : decide (n ≤ 57) <;>
    simp only [go_sem, bx, K87, a1, a2, Bool.true_and, Bool.false_and, Bool.and_true, Bool.and_false]
theorem p_digit4 (n : Int) : PV 99 [.int .u8 n] = some (.bool (digitI n)) := by
  refine PV_start k99 rfl (Nat.le_of_ble_eq_true rfl) ?_
  unfold digitI
  cases a1 : decide (48 ≤ n) <;> cases a2 : decide (n ≤ 57) <;>
    simp only [go_sem, bx, K99, a1, a2, Bool.true_and, Bool.false_and, Bool.and_true, Bool.and_false]
theorem u8_lit (a : UInt8) (k : Nat) (h : k < 256) : decide ((a.toNat : Int) = (k : Int)) = (a == UInt8.ofNat k) := by
  have := u8_eq a (UInt8.ofNat k)
  rw [UInt8.toNat_ofNat_of_lt' h] at this
  exact this
theorem p_wordB (b : UInt8) : PV 86 [.int .i32 (b.toNat : Int)] = some (.bool (wordB b)) := by
  refine PV_start k86 rfl (Nat.le_of_ble_eq_true rfl) ?_
  have h1 := p_letter (b.toNat : Int)
  have h2 := p_digit (b.toNat : Int)
  have h3 := u8_lit b 36 (by decide)
  unfold wordB letterB digitB
  cases a1 : letterI (b.toNat : Int) <;> cases a2 : digitI (b.toNat : Int) <;> cases a3 : (b == UInt8.ofNat 36) <;> rw [a3] at h3 <;> simp only [Int.cast_ofNat_Int] at h3 <;>
    simp only [go_sem, bx, K86, call_pure pure_85, call_pure pure_87, h1, h2, h3, a1, a2, Bool.true_or, Bool.false_or] <;> exact a3.symm ▸ rfl
theorem p_numB (b : UInt8) : PV 89 [.int .i32 (b.toNat : Int)] = some (.bool (numB b)) := by
  refine PV_start k89 rfl (Nat.le_of_ble_eq_true rfl) ?_
  have h2 := p_digit (b.toNat : Int)
  have h3 := u8_lit b 46 (by decide)
  unfold numB digitB
  cases a2 : digitI (b.toNat : Int) <;> cases a3 : (b == UInt8.ofNat 46) <;> rw [a3] at h3 <;> simp only [Int.cast_ofNat_Int] at h3 <;>
    simp only [go_sem, bx, K89, call_pure pure_87, h2, h3, a2, Bool.true_or, Bool.false_or] <;> exact a3.symm ▸ rfl
theorem p_tagB (b : UInt8) : PV 104 [.int .i32 (b.toNat : Int)] = some (.bool (tagB b)) := by
  refine PV_start k104 rfl (Nat.le_of_ble_eq_true rfl) ?_
  have h1 := p_letter (b.toNat : Int)
  have h2 := p_digit (b.toNat : Int)
  unfold tagB letterB digitB
  cases a1 : letterI (b.toNat : Int) <;>
    simp only [go_sem, bx, K104, call_pure pure_85, call_pure pure_87, h1, h2, a1, Bool.true_or, Bool.false_or]
def notLf (b : UInt8) : Bool := !(b == 10)
theorem p_notLf (b : UInt8) : PV 63 [.int .i32 (b.toNat : Int)] = some (.bool (notLf b)) := by
  refine PV_start k63 rfl (Nat.le_of_ble_eq_true rfl) ?_
  have h3 := u8_lit b 10 (by decide)
  simp only [Int.cast_ofNat_Int] at h3
  unfold notLf
  simp only [go_sem, bx, K63, h3]
  rfl
/-! ### the first of some -/
theorem C_first {b : AC} {Q : QT} (n : Nat) (p : Nat → Bool) (I : Nat → Slots → AHeap → Prop) {s : Slots} {H : AHeap} (start : I 0 s H)
    (go : ∀ i s H, i < n → p i = false → I i s H → C (cxV E) b s H (nrmQ (I (i + 1))))
    (hit : ∀ i s H, i < n → (∀ j, j < i → p j = false) → p i = true → I i s H → C (cxV E) b s H (exQ Q))
    (no : ∀ s H, (∀ j, j < n → p j = false) → I n s H → C (cxV E) b s H (exQ Q)) : C (cxV E) (.loop b) s H Q := by
  have out : ∀ {c : AC} {s : Slots} {H : AHeap} {R : Nat → Slots → AHeap → Prop} {n : Nat}, C (cxV E) c s H (exQ Q) → C (cxV E) c s H (fun x s' H' => match x with
      | .nrm => ∃ m, m < n ∧ R m s' H'
      | x => Q x s' H') := by
    intro c s H R n h
    exact C_mono h fun e s H h => by cases e <;> first | exact h.elim | exact h
  refine C_while (fun k s H => ∃ i, i + k = n ∧ (∀ j, j < i → p j = false) ∧ I i s H) ?_ n s H ⟨0, by omega, fun j h => absurd h (Nat.not_lt_zero _), start⟩
  rintro k s H ⟨i, hk, hno, hI⟩
  by_cases hlt : i < n
  · cases hp : p i
    · refine C_mono (go i s H hlt hp hI) fun e s' H' h => ?_
      cases e with
      | nrm =>
        refine ⟨k - 1, by omega, i + 1, by omega, fun j hj => ?_, h⟩
        by_cases e : j = i
        · subst e; exact hp
        · exact hno j (by omega)
      | ext j => exact h.elim
      | ret => exact h.elim
    · exact out (hit i s H hlt hno hp hI)
  · obtain rfl : i = n := by omega
    exact out (no s H hno hI)
theorem tw_len {q : UInt8 → Bool} {r : List UInt8} {i : Nat} (h : ∀ j, j < i → q (byteAt r j) = true) (hi : i = r.length ∨ i < r.length ∧ q (byteAt r i) = false) : r.takeWhile q = r.take i ∧ r.dropWhile q = r.drop i := by
  refine span_at ?_ ?_
  · rw [List.all_eq_true]
    intro x hx
    obtain ⟨j, hj, rfl⟩ := List.getElem_of_mem hx
    have hj' : j < i ∧ j < r.length := by simp only [List.length_take] at hj; omega
    rw [List.getElem_take]
    have := h j hj'.1
    rwa [byteAt_lt hj'.2] at this
  · rcases hi with h | ⟨h1, h2⟩
    · exact .inl h
    · exact .inr ⟨h1, by rwa [byteAt_lt h1] at h2⟩
def runL (q : UInt8 → Bool) (r : List UInt8) : Nat := (r.takeWhile q).length
theorem runL_at {q : UInt8 → Bool} {r : List UInt8} {i : Nat} (h : ∀ j, j < i → q (byteAt r j) = true) (hi : i = r.length ∨ i < r.length ∧ q (byteAt r i) = false) : runL q r = i := by
  unfold runL
  rw [(tw_len h hi).1, List.length_take]
  rcases hi with h | ⟨h, _⟩ <;> omega
theorem runL_le (q : UInt8 → Bool) (r : List UInt8) : runL q r ≤ r.length := (List.takeWhile_sublist _).length_le
theorem take_runL (q : UInt8 → Bool) (r : List UInt8) : r.take (runL q r) = r.takeWhile q := by
  unfold runL
  conv => lhs; arg 2; rw [← List.takeWhile_append_dropWhile (p := q) (l := r)]
  exact List.take_left' rfl
theorem conv_rune (b : UInt8) (H : AHeap) : aconvert Try.prog 5 21 (.int .u8 (b.toNat : Int)) H = some (.int .i32 (b.toNat : Int), H) := by
  unfold aconvert
  rw [intT_5, intT_21]
  have : IntKind.i32.wrap (b.toNat : Int) = (b.toNat : Int) := by
    have := b.toNat_lt
    rw [IntKind.wrap_i32]
    omega
  simp only [this]
theorem p_run {g : Nat} {q : UInt8 → Bool} (hp : E.pure g = true) (hg : ∀ b : UInt8, PV g [.int .i32 (b.toNat : Int)] = some (.bool (q b))) (r : List UInt8) (hr : r.length ≤ 100000000) : PV 62 [.str r, .fn g []] = some (.int .i64 ((runL q r : Nat) : Int)) := by
  refine PV_start k62 rfl (Nat.le_of_ble_eq_true rfl) ?_
  simp only [go_sem, bx, K62]
  refine C_first r.length (fun i => !(q (byteAt r i))) (fun i s H => s 0 = .str r ∧ s 1 = .fn g [] ∧ s 7 = .int .i64 (r.length : Int) ∧ s 8 = .int .i64 (i : Int)) ⟨by simp only [go_sem, bx], by simp only [go_sem, bx], by simp only [go_sem, bx], by simp only [go_sem, bx]; rfl⟩ ?_ ?_ ?_
  · rintro i s H hi hq ⟨h0, h1, h7, h8⟩
    have hd : ((i : Int) < (r.length : Int)) := by omega
    have hw : IntKind.i64.wrap ((i : Int) + 1) = ((i + 1 : Nat) : Int) := wrap_succ (by simp only [maxL]; omega)
    have hix := idx9 hi
    have hq' : q (byteAt r i) = true := by simpa using hq
    simp only [go_sem, bx, L62_0, h0, h1, h7, h8, hd, hix, conv_rune, call_pure hp, hg, hq', hw]
  · rintro i s H hi hno hq ⟨h0, h1, h7, h8⟩
    have hd : ((i : Int) < (r.length : Int)) := by omega
    have hix := idx9 hi
    have hq' : q (byteAt r i) = false := by simpa using hq
    have hrun : runL q r = i := runL_at (fun j hj => by simpa using hno j hj) (.inr ⟨hi, hq'⟩)
    simp only [go_sem, bx, L62_0, h0, h1, h7, h8, hd, hix, conv_rune, call_pure hp, hg, hq', hrun]
  · rintro s H hno ⟨h0, h1, h7, h8⟩
    have hd : ¬ ((r.length : Int) < (r.length : Int)) := by omega
    have hrun : runL q r = r.length := runL_at (fun j hj => by simpa using hno j hj) (.inl rfl)
    simp only [go_sem, bx, L62_0, h0, h7, h8, hd, hrun]
/-! ### begins, starts -/
theorem prefix_take (h r : List UInt8) : h.isPrefixOf r = (decide (h.length ≤ r.length) && (r.take h.length == h)) := by
  induction h generalizing r with
  | nil => simp
  | cons a h ih =>
    cases r with
    | nil => simp
    | cons b r =>
      rw [List.isPrefixOf_cons_cons, ih]
      simp only [List.length_cons, List.take_succ_cons, Nat.add_le_add_iff_right]
      have : ((b :: r.take h.length) == (a :: h)) = ((b == a) && (r.take h.length == h)) := rfl
      rw [this]
      have hab : (a == b) = (b == a) := by rw [Bool.eq_iff_iff, beq_iff_eq, beq_iff_eq]; exact eq_comm
      rw [hab]
      cases (b == a) <;> simp
theorem p_begins (r h : List UInt8) : PV 61 [.str r, .str h] = some (.bool (h.isPrefixOf r)) := by
  refine PV_start k61 rfl (Nat.le_of_ble_eq_true rfl) ?_
  rw [prefix_take]
  by_cases hl : ((h.length : Int) ≤ (r.length : Int))
  · have hsl := slice_str r h.length (by omega) []
    have : decide (h.length ≤ r.length) = true := decide_eq_true (by omega)
    rw [this]
    simp only [go_sem, bx, K61, hl, hsl, Bool.true_and]
  · have : decide (h.length ≤ r.length) = false := decide_eq_false (by omega)
    rw [this]
    simp only [go_sem, bx, K61, hl, Bool.false_and]
theorem slice_mid {s : List UInt8} {i j : Nat} (h1 : i ≤ j) (h2 : j ≤ s.length) (H : AHeap) : aslice Try.prog 9 (.str s) (some (.int .i64 (i : Int))) (some (.int .i64 (j : Int))) H = some (.str ((s.take j).drop i)) := by
  unfold aslice
  simp [strT_9, asBound, h1, h2]
theorem take_drop_mid (s : List UInt8) (i n : Nat) : (s.take (i + n)).drop i = (s.drop i).take n := by
  rw [List.take_drop, Nat.add_comm]
theorem p_starts (s h : List UInt8) (i : Nat) (hi : i ≤ s.length) (hs : s.length ≤ 100000000) (hh : h.length ≤ 100000000) : PV 94 [.str s, .int .i64 (i : Int), .str h] = some (.bool (h.isPrefixOf (s.drop i))) := by
  refine PV_start k94 rfl (Nat.le_of_ble_eq_true rfl) ?_
  rw [prefix_take]
  have hw : IntKind.i64.wrap ((i : Int) + (h.length : Int)) = ((i + h.length : Nat) : Int) := by rw [wrap_ok] <;> omega
  by_cases hl : ((i + h.length : Nat) : Int) ≤ (s.length : Int)
  · have hsl := slice_mid (s := s) (i := i) (j := i + h.length) (by omega) (by omega) []
    rw [take_drop_mid] at hsl
    have : decide (h.length ≤ (s.drop i).length) = true := decide_eq_true (by simp only [List.length_drop]; omega)
    rw [this]
    simp only [go_sem, bx, K94, hw, hl, hsl, Bool.true_and]
  · have : decide (h.length ≤ (s.drop i).length) = false := decide_eq_false (by simp only [List.length_drop]; omega)
    rw [this]
    simp only [go_sem, bx, K94, hw, hl, Bool.false_and]
end Go.Proofs
/- The sets' layer: remarks, quotes. -/

set_option linter.unusedSimpArgs false
set_option linter.unusedVariables false
namespace Go.Proofs
open Go.Vam
def optI : Option Nat → Int
  | some k => k
  | none => -1
theorem drop_byte {s : List UInt8} {i : Nat} (h : i < s.length) : s.drop i = byteAt s i :: s.drop (i + 1) := by
  rw [byteAt_lt h]
  exact List.drop_eq_getElem_cons h
theorem pre_len {h r : List UInt8} (hp : h.isPrefixOf r = true) : h.length ≤ r.length := by
  rw [prefix_take, Bool.and_eq_true, decide_eq_true_eq] at hp
  exact hp.1
/-! ### remarks -/
def remN : Nat → List UInt8 → Int → Option Nat
  | 0, _, _ => none
  | n + 1, r, d =>
    if r.length = 0 then none else
    if [47, 42].isPrefixOf r then (remN n (r.drop 2) (d + 1)).map (· + 2) else
    if [42, 47].isPrefixOf r then (if d - 1 = 0 then some 2 else (remN n (r.drop 2) (d - 1)).map (· + 2)) else
    (remN n (r.drop 1) d).map (· + 1)
def remL (r : List UInt8) : Option Nat := remN r.length r 0
theorem remN_none : ∀ (n : Nat) (d : Int), remN n [] d = none
  | 0, _ => rfl
  | n + 1, _ => rfl
theorem map_map_add (o : Option Nat) (a b : Nat) : (o.map (· + a)).map (· + b) = o.map (· + (b + a)) := by
  cases o with
  | none => rfl
  | some x => simp only [Option.map_some]; congr 1; omega
theorem p_remark (r : List UInt8) (hr : r.length ≤ 100000000) : PV 64 [.str r] = some (.int .i64 (optI (remL r))) := by
  refine PV_start k64 rfl (Nat.le_of_ble_eq_true rfl) ?_
  generalize hR : remL r = R
  simp only [go_sem, bx, K64]
  refine C_while (fun n s H => ∃ (i : Nat) (d : Int), i ≤ r.length ∧ r.length ≤ i + n ∧ -(i : Int) ≤ d ∧ d ≤ i ∧ (remN n (r.drop i) d).map (· + i) = R ∧ s 0 = .str r ∧ s 3 = .int .i64 d ∧ s 4 = .int .i64 (i : Int)) ?_ r.length _ _
    ⟨0, 0, Nat.zero_le _, by omega, by omega, by omega, by rw [← hR]; unfold remL; simp, by simp only [go_sem, bx], by simp only [go_sem, bx], by simp only [go_sem, bx]; rfl⟩
  clear hR
  rintro n s H ⟨i, d, hi, hn, hd1, hd2, hR, h0, h3, h4⟩
  by_cases hlt : i < r.length
  · have hd : ((i : Int) < (r.length : Int)) := by omega
    have w1 : IntKind.i64.wrap ((i : Int) + 1) = ((i + 1 : Nat) : Int) := wrap_succ (by simp only [maxL]; omega)
    have w2 : IntKind.i64.wrap (((i + 1 : Nat) : Int) + 1) = ((i + 2 : Nat) : Int) := wrap_succ (by simp only [maxL]; omega)
    have wd : IntKind.i64.wrap (d + 1) = d + 1 := wrap_ok (by omega) (by omega)
    have we : IntKind.i64.wrap (d - 1) = d - 1 := wrap_ok (by omega) (by omega)
    have hsl := slice_from r i (by omega) H
    have hb := fun h => p_begins (r.drop i) h
    obtain ⟨m, rfl⟩ : ∃ m, n = m + 1 := ⟨n - 1, by omega⟩
    unfold remN at hR
    rw [if_neg (by simp only [List.length_drop]; omega)] at hR
    cases b1 : [47, 42].isPrefixOf (r.drop i)
    · rw [b1] at hR
      simp only [Bool.false_eq_true, if_false] at hR
      cases b2 : [42, 47].isPrefixOf (r.drop i)
      · rw [b2] at hR
        simp only [Bool.false_eq_true, if_false] at hR
        rw [map_map_add, List.drop_drop] at hR
        simp only [go_sem, bx, L64_0, h0, h3, h4, hd, hsl, call_pure pure_61, hb, b1, b2, w1]
        exact ⟨m, Nat.lt_succ_self m, i + 1, d, by omega, by omega, by omega, by omega, hR, rfl, rfl⟩
      · rw [b2] at hR
        simp only [if_true] at hR
        have hl := pre_len b2
        simp only [List.length_cons, List.length_nil, List.length_drop] at hl
        by_cases he : d - 1 = 0
        · rw [if_pos he] at hR
          rw [← hR]
          simp only [go_sem, bx, L64_0, h0, h3, h4, hd, hsl, call_pure pure_61, hb, b1, b2, w1, w2, we, decide_eq_true he]
          simp only [Option.map_some, optI]
          rw [Nat.add_comm]
        · rw [if_neg he, map_map_add, List.drop_drop] at hR
          simp only [go_sem, bx, L64_0, h0, h3, h4, hd, hsl, call_pure pure_61, hb, b1, b2, w1, w2, we, decide_eq_false he]
          exact ⟨m, Nat.lt_succ_self m, i + 2, d - 1, by omega, by omega, by omega, by omega, hR, rfl, rfl⟩
    · rw [b1] at hR
      simp only [if_true] at hR
      have hl := pre_len b1
      simp only [List.length_cons, List.length_nil, List.length_drop] at hl
      rw [map_map_add, List.drop_drop] at hR
      simp only [go_sem, bx, L64_0, h0, h3, h4, hd, hsl, call_pure pure_61, hb, b1, w1, w2, wd]
      exact ⟨m, Nat.lt_succ_self m, i + 2, d + 1, by omega, by omega, by omega, by omega, hR, rfl, rfl⟩
  · have hd : ¬ ((i : Int) < (r.length : Int)) := by omega
    rw [List.drop_of_length_le (by omega), remN_none] at hR
    rw [← hR]
    simp only [go_sem, bx, L64_0, h0, h4, hd]
    rfl
theorem p_remark4 (s : List UInt8) (a : Nat) (ha : a ≤ s.length) (hs : s.length ≤ 100000000) : PV 95 [.str s, .int .i64 (a : Int)] = some (.int .i64 (optI ((remL (s.drop a)).map (· + a)))) := by
  refine PV_start k95 rfl (Nat.le_of_ble_eq_true rfl) ?_
  generalize hR : (remL (s.drop a)).map (· + a) = R
  simp only [go_sem, bx, K95]
  refine C_while (fun n st H => ∃ (i : Nat) (d : Int), i ≤ s.length ∧ s.length ≤ i + n ∧ -(i : Int) ≤ d ∧ d ≤ i ∧ (remN n (s.drop i) d).map (· + i) = R ∧ st 0 = .str s ∧ st 5 = .int .i64 d ∧ st 1 = .int .i64 (i : Int)) ?_ (s.length - a) _ _
    ⟨a, 0, ha, by omega, by omega, by omega, by rw [← hR]; unfold remL; rw [List.length_drop], by simp only [go_sem, bx], by simp only [go_sem, bx], by simp only [go_sem, bx]⟩
  clear hR
  rintro n st H ⟨i, d, hi, hn, hd1, hd2, hR, h0, h5, h1⟩
  by_cases hlt : i < s.length
  · have hd : ((i : Int) < (s.length : Int)) := by omega
    have w1 : IntKind.i64.wrap ((i : Int) + 1) = ((i + 1 : Nat) : Int) := wrap_succ (by simp only [maxL]; omega)
    have w2 : IntKind.i64.wrap ((i : Int) + 2) = ((i + 2 : Nat) : Int) := by rw [wrap_ok] <;> omega
    have wd : IntKind.i64.wrap (d + 1) = d + 1 := wrap_ok (by omega) (by omega)
    have we : IntKind.i64.wrap (d - 1) = d - 1 := wrap_ok (by omega) (by omega)
    have hb1 := p_starts s [47, 42] i hi hs (by decide)
    have hb2 := p_starts s [42, 47] i hi hs (by decide)
    obtain ⟨m, rfl⟩ : ∃ m, n = m + 1 := ⟨n - 1, by omega⟩
    unfold remN at hR
    rw [if_neg (by simp only [List.length_drop]; omega)] at hR
    cases b1 : [47, 42].isPrefixOf (s.drop i)
    · rw [b1] at hR
      simp only [Bool.false_eq_true, if_false] at hR
      cases b2 : [42, 47].isPrefixOf (s.drop i)
      · rw [b2] at hR
        simp only [Bool.false_eq_true, if_false] at hR
        rw [map_map_add, List.drop_drop] at hR
        simp only [go_sem, bx, L95_0, h0, h5, h1, hd, call_pure pure_94, hb1, hb2, b1, b2, w1]
        exact ⟨m, Nat.lt_succ_self m, i + 1, d, by omega, by omega, by omega, by omega, hR, rfl, rfl⟩
      · rw [b2] at hR
        simp only [if_true] at hR
        have hl := pre_len b2
        simp only [List.length_cons, List.length_nil, List.length_drop] at hl
        by_cases he : d - 1 = 0
        · rw [if_pos he] at hR
          rw [← hR]
          simp only [go_sem, bx, L95_0, h0, h5, h1, hd, call_pure pure_94, hb1, hb2, b1, b2, w2, we, decide_eq_true he]
          simp only [Option.map_some, optI]
          rw [Nat.add_comm]
        · rw [if_neg he, map_map_add, List.drop_drop] at hR
          simp only [go_sem, bx, L95_0, h0, h5, h1, hd, call_pure pure_94, hb1, hb2, b1, b2, w2, we, decide_eq_false he]
          exact ⟨m, Nat.lt_succ_self m, i + 2, d - 1, by omega, by omega, by omega, by omega, hR, rfl, rfl⟩
    · rw [b1] at hR
      simp only [if_true] at hR
      have hl := pre_len b1
      simp only [List.length_cons, List.length_nil, List.length_drop] at hl
      rw [map_map_add, List.drop_drop] at hR
      simp only [go_sem, bx, L95_0, h0, h5, h1, hd, call_pure pure_94, hb1, b1, w2, wd]
      exact ⟨m, Nat.lt_succ_self m, i + 2, d + 1, by omega, by omega, by omega, by omega, hR, rfl, rfl⟩
  · have hd : ¬ ((i : Int) < (s.length : Int)) := by omega
    rw [List.drop_of_length_le (by omega), remN_none] at hR
    rw [← hR]
    simp only [go_sem, bx, L95_0, h0, h1, hd]
    rfl
/-! ### quotes -/
def quoL (q : UInt8) : List UInt8 → Option (List UInt8 × Nat)
  | [] => none
  | [c] => if c == q then some ([], 1) else none
  | c :: c2 :: r =>
    if c == q then (if c2 == q then (quoL q r).map fun x => (q :: x.1, x.2 + 2) else some ([], 1))
    else (quoL q (c2 :: r)).map fun x => (c :: x.1, x.2 + 1)
def quoR : Option (List UInt8 × Nat) → AV
  | some x => .tup [.str x.1, .int .i64 (x.2 : Int)]
  | none => .tup [.str [], .int .i64 (-1)]
def addQ (t : List UInt8) (i : Nat) (o : Option (List UInt8 × Nat)) : Option (List UInt8 × Nat) := o.map fun x => (t ++ x.1, x.2 + i)
/-- At a place: what comes of the rest. -/
theorem quo_at {q : UInt8} {r t : List UInt8} {i : Nat} (hi : i < r.length) : addQ t i (quoL q (r.drop i)) =
    if byteAt r i == q then (if i + 1 < r.length then (if byteAt r (i + 1) == q then addQ (t ++ [q]) (i + 2) (quoL q (r.drop (i + 2))) else some (t, i + 1)) else some (t, i + 1))
    else addQ (t ++ [byteAt r i]) (i + 1) (quoL q (r.drop (i + 1))) := by
  have add1 : ∀ (o : Option (List UInt8 × Nat)) (c : UInt8) (k : Nat), addQ t i (o.map fun x => (c :: x.1, x.2 + k)) = addQ (t ++ [c]) (i + k) o := fun o c k => by
    cases o with
    | none => rfl
    | some x => simp only [addQ, Option.map_some, List.append_assoc, List.singleton_append]; congr 2; omega
  rw [drop_byte hi]
  by_cases h1 : i + 1 < r.length
  · rw [if_pos h1, drop_byte h1, quoL]
    cases (byteAt r i == q)
    · simp only [Bool.false_eq_true, if_false]
      exact add1 _ _ _
    · simp only [if_true]
      cases (byteAt r (i + 1) == q)
      · simp only [Bool.false_eq_true, if_false, addQ, Option.map_some, List.append_nil, Nat.add_comm]
      · simp only [if_true]
        exact add1 _ _ _
  · rw [if_neg h1, List.drop_of_length_le (by omega)]
    show addQ t i (if (byteAt r i == q) = true then some ([], 1) else none) = _
    cases (byteAt r i == q)
    · rfl
    · simp [addQ, Nat.add_comm]
theorem p_quoted (r : List UInt8) (h1 : 1 ≤ r.length) (hr : r.length ≤ 10000000) : PV 90 [.str r] = some (quoR (addQ [] 1 (quoL (byteAt r 0) (r.drop 1)))) := by
  refine PV_start k90 rfl (Nat.le_of_ble_eq_true rfl) ?_
  generalize hR : addQ [] 1 (quoL (byteAt r 0) (r.drop 1)) = R
  simp only [go_sem, bx, K90]
  refine C_while (fun n s H => ∃ (i : Nat) (t : List UInt8), n = r.length - i ∧ t.length ≤ i ∧ i ≤ r.length ∧ addQ t i (quoL (byteAt r 0) (r.drop i)) = R ∧ s 0 = .str r ∧ s 5 = .int .i64 (i : Int) ∧ Own 5 H (s 4) (bys t)) ?_ (r.length - 1) _ _
    ⟨1, [], rfl, by simp, h1, hR, by simp only [go_sem, bx], by simp only [go_sem, bx]; rfl, .inl ⟨by simp only [go_sem, bx], rfl⟩⟩
  clear hR
  rintro n s H ⟨i, t, rfl, ht, hi, hR, s0, s5, ho⟩
  generalize hv : s 4 = v at ho
  by_cases hlt : i < r.length
  · have hd : ((i : Int) < (r.length : Int)) := by omega
    have w1 : IntKind.i64.wrap ((i : Int) + 1) = ((i + 1 : Nat) : Int) := wrap_succ (by simp only [maxL]; omega)
    have w2 : IntKind.i64.wrap (((i + 1 : Nat) : Int) + 1) = ((i + 2 : Nat) : Int) := wrap_succ (by simp only [maxL]; omega)
    have i0 := idx9 (s := r) (i := 0) (by omega)
    have ii := idx9 hlt
    simp only [Int.cast_ofNat_Int] at i0
    rw [quo_at hlt] at hR
    cases b1 : (byteAt r i == byteAt r 0)
    · rw [b1] at hR
      simp only [Bool.false_eq_true, if_false] at hR
      obtain ⟨v1, H1, e1, o1, -⟩ := append_byte (byteAt r i) ho (by omega)
      simp only [go_sem, bx, L90_0, D90_5, D90_6, s0, s5, hv, hd, i0, ii, u8_eq, b1, bs_byte1, bi_append, e1, w1]
      exact ⟨r.length - (i + 1), by omega, i + 1, t ++ [byteAt r i], rfl, by simp only [List.length_append, List.length_cons, List.length_nil]; omega, by omega, hR, rfl, o1⟩
    · rw [b1] at hR
      simp only [if_true] at hR
      have hc := conv_own ho
      by_cases h2 : i + 1 < r.length
      · have hd2 : decide (((i + 1 : Nat) : Int) = (r.length : Int)) = false := decide_eq_false (by omega)
        have ii2 := idx9 h2
        rw [if_pos h2] at hR
        cases b2 : (byteAt r (i + 1) == byteAt r 0)
        · rw [b2] at hR
          simp only [Bool.false_eq_true, if_false] at hR
          rw [← hR]
          simp only [go_sem, bx, L90_0, D90_5, D90_6, s0, s5, hv, hd, i0, ii, ii2, u8_eq, b1, b2, w1, hd2, hc]
          rfl
        · rw [b2] at hR
          simp only [if_true] at hR
          obtain ⟨v1, H1, e1, o1, -⟩ := append_byte (byteAt r (i + 1)) ho (by omega)
          rw [eq_of_beq b2] at o1
          simp only [go_sem, bx, L90_0, D90_5, D90_6, s0, s5, hv, hd, i0, ii, ii2, u8_eq, b1, b2, w1, w2, hd2, bs_byte1, bi_append, e1]
          exact ⟨r.length - (i + 2), by omega, i + 2, t ++ [byteAt r 0], rfl, by simp only [List.length_append, List.length_cons, List.length_nil]; omega, by omega, hR, rfl, o1⟩
      · have hd2 : decide (((i + 1 : Nat) : Int) = (r.length : Int)) = true := decide_eq_true (by omega)
        rw [if_neg h2] at hR
        rw [← hR]
        simp only [go_sem, bx, L90_0, D90_5, D90_6, s0, s5, hv, hd, i0, ii, u8_eq, b1, w1, hd2, hc]
        rfl
  · have hd : ¬ ((i : Int) < (r.length : Int)) := by omega
    rw [List.drop_of_length_le (by omega)] at hR
    rw [← hR]
    simp only [go_sem, bx, L90_0, s0, s5, hd]
    rfl
theorem p_quoted4 (s : List UInt8) (a : Nat) (h1 : a < s.length) (hs : s.length ≤ 10000000) : PV 100 [.str s, .int .i64 (a : Int)] = some (quoR (addQ [] (a + 1) (quoL (byteAt s a) (s.drop (a + 1))))) := by
  refine PV_start k100 rfl (Nat.le_of_ble_eq_true rfl) ?_
  generalize hR : addQ [] (a + 1) (quoL (byteAt s a) (s.drop (a + 1))) = R
  have ia := idx9 h1
  have wa : IntKind.i64.wrap ((a : Int) + 1) = ((a + 1 : Nat) : Int) := wrap_succ (by simp only [maxL]; omega)
  simp only [go_sem, bx, K100, ia, wa]
  generalize byteAt s a = q at *
  refine C_while (fun n st H => ∃ (i : Nat) (t : List UInt8), n = s.length - i ∧ t.length ≤ i ∧ i ≤ s.length ∧ addQ t i (quoL q (s.drop i)) = R ∧ st 0 = .str s ∧ st 6 = .int .u8 (q.toNat : Int) ∧ st 8 = .int .i64 (i : Int) ∧ st 7 = .str t) ?_ (s.length - (a + 1)) _ _
    ⟨a + 1, [], rfl, by simp, by omega, hR, by simp only [go_sem, bx], by simp only [go_sem, bx], by simp only [go_sem, bx], by simp only [go_sem, bx]⟩
  clear hR ia wa
  rintro n st H ⟨i, t, rfl, ht, hi, hR, s0, s6, s8, s7⟩
  by_cases hlt : i < s.length
  · have hd : ((i : Int) < (s.length : Int)) := by omega
    have w1 : IntKind.i64.wrap ((i : Int) + 1) = ((i + 1 : Nat) : Int) := wrap_succ (by simp only [maxL]; omega)
    have w2 : IntKind.i64.wrap (((i + 1 : Nat) : Int) + 1) = ((i + 2 : Nat) : Int) := wrap_succ (by simp only [maxL]; omega)
    have ii := idx9 hlt
    have hsl := slice_one hlt H
    have ha := b_sadd Try.prog 9 t [byteAt s i] (by simp only [List.length_cons, List.length_nil]; omega)
    rw [quo_at hlt] at hR
    cases b1 : (byteAt s i == q)
    · rw [b1] at hR
      simp only [Bool.false_eq_true, if_false] at hR
      simp only [go_sem, bx, L100_0, s0, s6, s7, s8, hd, ii, u8_eq, b1, w1, hsl, ha]
      exact ⟨s.length - (i + 1), by omega, i + 1, t ++ [byteAt s i], rfl, by simp only [List.length_append, List.length_cons, List.length_nil]; omega, by omega, hR, rfl, rfl⟩
    · rw [b1] at hR
      simp only [if_true] at hR
      by_cases h2 : i + 1 < s.length
      · have hd2 : (((i + 1 : Nat) : Int) < (s.length : Int)) := by omega
        have ii2 := idx9 h2
        rw [if_pos h2] at hR
        cases b2 : (byteAt s (i + 1) == q)
        · rw [b2] at hR
          simp only [Bool.false_eq_true, if_false] at hR
          rw [← hR]
          simp only [go_sem, bx, L100_0, s0, s6, s7, s8, hd, ii, ii2, u8_eq, b1, b2, w1, hd2]
          rfl
        · rw [b2] at hR
          simp only [if_true] at hR
          rw [← eq_of_beq b1] at hR
          simp only [go_sem, bx, L100_0, s0, s6, s7, s8, hd, ii, ii2, u8_eq, b1, b2, w1, w2, hd2, hsl, ha]
          exact ⟨s.length - (i + 2), by omega, i + 2, t ++ [byteAt s i], rfl, by simp only [List.length_append, List.length_cons, List.length_nil]; omega, by omega, by rw [← eq_of_beq b1]; exact hR, rfl, rfl⟩
      · have hd2 : ¬ (((i + 1 : Nat) : Int) < (s.length : Int)) := by omega
        rw [if_neg h2] at hR
        rw [← hR]
        simp only [go_sem, bx, L100_0, s0, s6, s7, s8, hd, ii, u8_eq, b1, w1, hd2]
        rfl
  · have hd : ¬ ((i : Int) < (s.length : Int)) := by omega
    rw [List.drop_of_length_le (by omega)] at hR
    rw [← hR]
    simp only [go_sem, bx, L100_0, s0, s8, hd]
    rfl
end Go.Proofs
/- The sets' layer: tags, dollar texts, rows, small letters, signs. -/

set_option linter.unusedSimpArgs false
set_option linter.unusedVariables false
namespace Go.Proofs
open Go.Vam
theorem byteAt_drop (s : List UInt8) (i j : Nat) : byteAt (s.drop i) j = byteAt s (i + j) := by
  unfold byteAt
  rw [List.getElem?_drop]
/-! ### tags -/
def tagK (r : List UInt8) : Nat := 1 + (if 1 < r.length ∧ letterB (byteAt r 1) = true then runL tagB (r.drop 1) else 0)
def tagL (r : List UInt8) : Option Nat := if tagK r < r.length ∧ (byteAt r (tagK r) == 36) = true then some (tagK r + 1) else none
theorem tagK_le (r : List UInt8) : tagK r ≤ r.length + 1 := by
  unfold tagK
  split
  · have := runL_le tagB (r.drop 1)
    simp only [List.length_drop] at this
    omega
  · omega
theorem p_tag (r : List UInt8) (hr : r.length ≤ 10000000) : PV 91 [.str r] = some (.int .i64 (optI (tagL r))) := by
  refine PV_start k91 rfl (Nat.le_of_ble_eq_true rfl) ?_
  rw [K91]
  have e36 := fun b => u8_lit b 36 (by decide)
  simp only [Int.cast_ofNat_Int] at e36
  refine C_then (fun s H => s 0 = .str r) (by simp only [go_sem, bx]) ?_
  rintro sa Ha h0
  refine C_then (fun s H => s 0 = .str r ∧ s 3 = .int .i64 1) (by simp only [go_sem, bx, h0]) ?_
  rintro sb Hb ⟨h0, h3⟩
  refine C_then (fun s H => s 0 = .str r ∧ s 3 = .int .i64 ((tagK r : Nat) : Int)) ?_ ?_
  · unfold tagK
    by_cases h1 : 1 < r.length
    · have hd : ((1 : Int) < (r.length : Int)) := by omega
      have i1 := idx9 h1
      have hlt := p_letter ((byteAt r 1).toNat : Int)
      have hsl := fun H => slice_from r 1 (by omega) H
      have hrun := p_run (g := 104) (q := tagB) rfl p_tagB (r.drop 1) (by simp only [List.length_drop]; omega)
      have hle := runL_le tagB (r.drop 1)
      simp only [List.length_drop] at hle
      have w1 : IntKind.i64.wrap (1 + ((runL tagB (r.drop 1) : Nat) : Int)) = ((1 + runL tagB (r.drop 1) : Nat) : Int) := by rw [wrap_ok] <;> omega
      simp only [Int.cast_ofNat_Int] at i1 hsl
      cases b : letterI ((byteAt r 1).toNat : Int)
      · have b' : letterB (byteAt r 1) = false := b
        simp only [go_sem, bx, h0, h3, hd, i1, conv_rune, call_pure pure_85, hlt, b, b', h1]
        simp
      · have b' : letterB (byteAt r 1) = true := b
        simp only [go_sem, bx, h0, h3, hd, i1, conv_rune, call_pure pure_85, hlt, b, b', h1, hsl, call_pure pure_62, hrun, w1]
    · have hd : ¬ ((1 : Int) < (r.length : Int)) := by omega
      simp only [go_sem, bx, h0, h3, hd, h1, false_and, if_false]
      simp
  · rintro sc Hc ⟨h0, h3⟩
    unfold tagL
    have hk := tagK_le r
    generalize tagK r = k at *
    by_cases h1 : k < r.length
    · have hd : ((k : Int) < (r.length : Int)) := by omega
      have ik := idx9 h1
      have w1 : IntKind.i64.wrap ((k : Int) + 1) = ((k + 1 : Nat) : Int) := wrap_succ (by simp only [maxL]; omega)
      cases b : (byteAt r k == 36)
      · have b' : (byteAt r k == UInt8.ofNat 36) = false := b
        simp only [go_sem, bx, h0, h3, hd, ik, e36, b', h1]
        rfl
      · have b' : (byteAt r k == UInt8.ofNat 36) = true := b
        simp only [go_sem, bx, h0, h3, hd, ik, e36, b', h1, w1]
        rfl
    · have hd : ¬ ((k : Int) < (r.length : Int)) := by omega
      simp only [go_sem, bx, h0, h3, hd, h1, false_and]
      rfl
theorem tagK_at {r : List UInt8} {k : Nat} (h : ∀ j, j < k → (letterB (byteAt r (1 + j)) || decide (0 < j) && digitB (byteAt r (1 + j))) = true) (hk : 1 + k = r.length ∨ 1 + k < r.length ∧ (letterB (byteAt r (1 + k)) || decide (0 < k) && digitB (byteAt r (1 + k))) = false) : tagK r = 1 + k := by
  unfold tagK
  congr 1
  cases k with
  | zero =>
    rw [if_neg]
    rintro ⟨h1, h2⟩
    rcases hk with hk | ⟨_, hk⟩
    · omega
    · simp only [Nat.lt_irrefl, decide_false, Bool.false_and, Bool.or_false, Nat.add_zero] at hk
      rw [h2] at hk
      cases hk
  | succ k =>
    have h0 := h 0 (Nat.succ_pos _)
    simp only [Nat.lt_irrefl, decide_false, Bool.false_and, Bool.or_false, Nat.add_zero] at h0
    rw [if_pos ⟨by omega, h0⟩]
    refine runL_at (fun j hj => ?_) ?_
    · rw [byteAt_drop]
      have := h j hj
      unfold tagB
      revert this
      cases letterB (byteAt r (1 + j)) <;> cases decide (0 < j) <;> simp
    · simp only [List.length_drop, byteAt_drop]
      rcases hk with hk | ⟨h1, hk⟩
      · left; omega
      · refine .inr ⟨by omega, ?_⟩
        simp only [Nat.zero_lt_succ, decide_true, Bool.true_and] at hk
        exact hk
theorem p_tag4 (s : List UInt8) (a : Nat) (ha : a < s.length) (hs : s.length ≤ 10000000) : PV 101 [.str s, .int .i64 (a : Int)] = some (.int .i64 (optI ((tagL (s.drop a)).map (· + a)))) := by
  refine PV_start k101 rfl (Nat.le_of_ble_eq_true rfl) ?_
  rw [K101]
  have e36 := fun b => u8_lit b 36 (by decide)
  simp only [Int.cast_ofNat_Int] at e36
  have wa : IntKind.i64.wrap ((a : Int) + 1) = ((a + 1 : Nat) : Int) := wrap_succ (by simp only [maxL]; omega)
  refine C_then (fun st H => st 0 = .str s ∧ st 1 = .int .i64 (a : Int)) (by simp only [go_sem, bx]) ?_
  rintro sa Ha ⟨h0, h1⟩
  refine C_then (fun st H => st 0 = .str s ∧ st 1 = .int .i64 (a : Int) ∧ st 5 = .int .i64 ((a + 1 : Nat) : Int)) (by simp only [go_sem, bx, h0, h1, wa]) ?_
  rintro sb Hb ⟨h0, h1, h5⟩
  refine C_then (fun st H => st 0 = .str s ∧ st 5 = .int .i64 ((a + tagK (s.drop a) : Nat) : Int)) ?_ ?_
  · rw [C_block]
    refine C_first (s.length - (a + 1)) (fun j => !(letterB (byteAt (s.drop a) (1 + j)) || decide (0 < j) && digitB (byteAt (s.drop a) (1 + j)))) (fun j st H => st 0 = .str s ∧ st 1 = .int .i64 (a : Int) ∧ st 5 = .int .i64 ((a + 1 + j : Nat) : Int)) ⟨h0, h1, h5⟩ ?_ ?_ ?_
    · clear h0 h1 h5
      rintro j st H hj hp ⟨h0, h1, h5⟩
      have hd : (((a + 1 + j : Nat) : Int) < (s.length : Int)) := by omega
      have ij := idx9 (s := s) (i := a + 1 + j) (by omega)
      have w1 : IntKind.i64.wrap (((a + 1 + j : Nat) : Int) + 1) = ((a + 1 + (j + 1) : Nat) : Int) := wrap_succ (by simp only [maxL]; omega)
      rw [byteAt_drop, ← Nat.add_assoc] at hp
      generalize byteAt s (a + 1 + j) = c at *
      have hl := p_letter4 (c.toNat : Int)
      have hg := p_digit4 (c.toNat : Int)
      unfold letterB digitB at hp
      cases b1 : letterI (c.toNat : Int)
      · rw [b1] at hp
        simp only [Bool.false_or, Bool.not_eq_false', Bool.and_eq_true, decide_eq_true_eq] at hp
        obtain ⟨hj0, b2⟩ := hp
        have hd2 : (((a + 1 : Nat) : Int) < ((a + 1 + j : Nat) : Int)) := by omega
        simp only [go_sem, bx, L101_0, h0, h1, h5, hd, ij, call_pure pure_96, hl, b1, wa, hd2, call_pure pure_99, hg, b2, w1]
      · simp only [go_sem, bx, L101_0, h0, h1, h5, hd, ij, call_pure pure_96, hl, b1, w1]
    · clear h0 h1 h5
      rintro j st H hj hno hp ⟨h0, h1, h5⟩
      have hd : (((a + 1 + j : Nat) : Int) < (s.length : Int)) := by omega
      have ij := idx9 (s := s) (i := a + 1 + j) (by omega)
      have hk : tagK (s.drop a) = 1 + j := tagK_at (fun i hi => by simpa only [Bool.not_eq_false'] using hno i hi) (.inr ⟨by simp only [List.length_drop]; omega, by simpa only [Bool.not_eq_true'] using hp⟩)
      rw [hk, ← Nat.add_assoc]
      rw [byteAt_drop, ← Nat.add_assoc] at hp
      generalize byteAt s (a + 1 + j) = c at *
      have hl := p_letter4 (c.toNat : Int)
      have hg := p_digit4 (c.toNat : Int)
      unfold letterB digitB at hp
      simp only [Bool.not_eq_true', Bool.or_eq_false_iff] at hp
      obtain ⟨b1, hp⟩ := hp
      by_cases hj0 : 0 < j
      · have hd2 : (((a + 1 : Nat) : Int) < ((a + 1 + j : Nat) : Int)) := by omega
        rw [decide_eq_true hj0, Bool.true_and] at hp
        simp only [go_sem, bx, L101_0, h0, h1, h5, hd, ij, call_pure pure_96, hl, b1, wa, hd2, call_pure pure_99, hg, hp]
      · have hd2 : ¬ (((a + 1 : Nat) : Int) < ((a + 1 + j : Nat) : Int)) := by omega
        simp only [go_sem, bx, L101_0, h0, h1, h5, hd, ij, call_pure pure_96, hl, b1, wa, hd2]
    · clear h0 h1 h5
      rintro st H hno ⟨h0, h1, h5⟩
      have hd : ¬ (((a + 1 + (s.length - (a + 1)) : Nat) : Int) < (s.length : Int)) := by omega
      have hk : tagK (s.drop a) = 1 + (s.length - (a + 1)) := tagK_at (fun i hi => by simpa only [Bool.not_eq_false'] using hno i hi) (.inl (by simp only [List.length_drop]; omega))
      rw [hk, ← Nat.add_assoc]
      simp only [go_sem, bx, L101_0, h0, h5, hd]
  · clear h0 h1 h5
    rintro sc Hc ⟨h0, h5⟩
    unfold tagL
    have hk := tagK_le (s.drop a)
    simp only [List.length_drop] at hk ⊢
    rw [byteAt_drop]
    generalize tagK (s.drop a) = k at *
    by_cases h1 : k < s.length - a
    · have hd : (((a + k : Nat) : Int) < (s.length : Int)) := by omega
      have ik := idx9 (s := s) (i := a + k) (by omega)
      have w1 : IntKind.i64.wrap (((a + k : Nat) : Int) + 1) = ((a + k + 1 : Nat) : Int) := wrap_succ (by simp only [maxL]; omega)
      cases b : (byteAt s (a + k) == 36)
      · have b' : (byteAt s (a + k) == UInt8.ofNat 36) = false := b
        simp only [go_sem, bx, h0, h5, hd, ik, e36, b', h1]
        rfl
      · have b' : (byteAt s (a + k) == UInt8.ofNat 36) = true := b
        have e : a + k + 1 = k + 1 + a := by omega
        simp only [go_sem, bx, h0, h5, hd, ik, e36, b', h1, w1, e]
        rfl
    · have hd : ¬ (((a + k : Nat) : Int) < (s.length : Int)) := by omega
      simp only [go_sem, bx, h0, h5, hd, h1, false_and]
      rfl
/-! ### dollar texts -/
def dolL (t : List UInt8) : List UInt8 → Option (List UInt8 × Nat)
  | [] => none
  | c :: r => if t.isPrefixOf (c :: r) then some ([], t.length) else (dolL t r).map fun x => (c :: x.1, x.2 + 1)
theorem dolL_hit {t : List UInt8} : ∀ {r : List UInt8} {k : Nat}, k < r.length → (∀ j, j < k → t.isPrefixOf (r.drop j) = false) → t.isPrefixOf (r.drop k) = true → dolL t r = some (r.take k, k + t.length)
  | [], k, h, _, _ => absurd h (Nat.not_lt_zero _)
  | c :: r, 0, _, _, h => by
    simp only [List.drop_zero] at h
    rw [dolL, if_pos h]
    simp
  | c :: r, k + 1, h, hno, hp => by
    have h0 := hno 0 (Nat.succ_pos _)
    simp only [List.drop_zero] at h0
    rw [dolL, if_neg (by rw [h0]; simp), dolL_hit (k := k) (by simpa using h) (fun j hj => by have := hno (j + 1) (by omega); simpa using this) (by simpa using hp)]
    simp only [Option.map_some, List.take_succ_cons]
    congr 2
    omega
theorem dolL_no {t : List UInt8} : ∀ {r : List UInt8}, (∀ j, j < r.length → t.isPrefixOf (r.drop j) = false) → dolL t r = none
  | [], _ => rfl
  | c :: r, hno => by
    have h0 := hno 0 (Nat.succ_pos _)
    simp only [List.drop_zero] at h0
    rw [dolL, if_neg (by rw [h0]; simp), dolL_no fun j hj => by have := hno (j + 1) (by simp only [List.length_cons]; omega); simpa using this]
    rfl
theorem pre_short {h r : List UInt8} (hl : r.length < h.length) : h.isPrefixOf r = false := by
  cases hb : h.isPrefixOf r with
  | false => rfl
  | true => exact absurd (pre_len hb) (by omega)
theorem p_dollar (r : List UInt8) (n : Nat) (h1 : 1 ≤ n) (hn : n ≤ r.length) (hr : r.length ≤ 10000000) : PV 92 [.str r, .int .i64 (n : Int)] = some (quoR (addQ [] n (dolL (r.take n) (r.drop n)))) := by
  refine PV_start k92 rfl (Nat.le_of_ble_eq_true rfl) ?_
  simp only [go_sem, bx, K92]
  have htl : (r.take n).length = n := by simp only [List.length_take]; omega
  have key : ∀ j, n + j + n ≤ r.length → ((r.take (n + j + n)).drop (n + j) == r.take n) = (r.take n).isPrefixOf ((r.drop n).drop j) := by
    intro j hj
    rw [prefix_take, htl, List.drop_drop, List.length_drop, decide_eq_true (by omega), Bool.true_and, take_drop_mid]
  refine C_first (r.length + 1 - (n + n)) (fun j => (r.take n).isPrefixOf ((r.drop n).drop j)) (fun j s H => s 0 = .str r ∧ s 1 = .int .i64 (n : Int) ∧ s 6 = .int .i64 ((n + j : Nat) : Int)) ⟨by simp only [go_sem, bx], by simp only [go_sem, bx], by simp only [go_sem, bx]; rfl⟩ ?_ ?_ ?_
  · rintro j s H hj hp ⟨h0, h1', h6⟩
    have w0 : IntKind.i64.wrap (((n + j : Nat) : Int) + (n : Int)) = ((n + j + n : Nat) : Int) := by rw [wrap_ok] <;> omega
    have w1 : IntKind.i64.wrap (((n + j : Nat) : Int) + 1) = ((n + (j + 1) : Nat) : Int) := wrap_succ (by simp only [maxL]; omega)
    have hd : (((n + j + n : Nat) : Int) ≤ (r.length : Int)) := by omega
    have sl1 := slice_mid (s := r) (i := n + j) (j := n + j + n) (by omega) (by omega) H
    have sl2 := slice_str r n hn H
    have hk := key j (by omega)
    rw [hp] at hk
    simp only [go_sem, bx, L92_0, D92_4, h0, h1', h6, w0, w1, hd, sl1, sl2, hk]
  · rintro j s H hj hno hp ⟨h0, h1', h6⟩
    have w0 : IntKind.i64.wrap (((n + j : Nat) : Int) + (n : Int)) = ((n + j + n : Nat) : Int) := by rw [wrap_ok] <;> omega
    have hd : (((n + j + n : Nat) : Int) ≤ (r.length : Int)) := by omega
    have sl1 := slice_mid (s := r) (i := n + j) (j := n + j + n) (by omega) (by omega) H
    have sl2 := slice_str r n hn H
    have sl3 := slice_mid (s := r) (i := n) (j := n + j) (by omega) (by omega) H
    rw [take_drop_mid] at sl3
    have hk := key j (by omega)
    rw [hp] at hk
    have hdol := dolL_hit (t := r.take n) (r := r.drop n) (k := j) (by simp only [List.length_drop]; omega) hno hp
    rw [hdol, htl]
    simp only [go_sem, bx, L92_0, D92_4, h0, h1', h6, w0, hd, sl1, sl2, sl3, hk]
    rw [show n + j + n = j + n + n by omega]
    rfl
  · rintro s H hno ⟨h0, h1', h6⟩
    have hdol : dolL (r.take n) (r.drop n) = none := dolL_no fun j hj => by
      by_cases h : j < r.length + 1 - (n + n)
      · exact hno j h
      · exact pre_short (by rw [htl]; simp only [List.length_drop]; omega)
    rw [hdol]
    by_cases hbig : n + n ≤ r.length + 1
    · have w0 : IntKind.i64.wrap (((n + (r.length + 1 - (n + n)) : Nat) : Int) + (n : Int)) = ((r.length + 1 : Nat) : Int) := by rw [wrap_ok] <;> omega
      have hd : ¬ (((r.length + 1 : Nat) : Int) ≤ (r.length : Int)) := by omega
      simp only [go_sem, bx, L92_0, h0, h1', h6, w0, hd]
      rfl
    · have w0 : IntKind.i64.wrap (((n + (r.length + 1 - (n + n)) : Nat) : Int) + (n : Int)) = ((n + n : Nat) : Int) := by rw [wrap_ok] <;> omega
      have hd : ¬ (((n + n : Nat) : Int) ≤ (r.length : Int)) := by omega
      simp only [go_sem, bx, L92_0, h0, h1', h6, w0, hd]
      rfl
theorem p_dollar4 (s : List UInt8) (a n : Nat) (h1 : 1 ≤ n) (hn : a + n ≤ s.length) (hs : s.length ≤ 10000000) : PV 102 [.str s, .int .i64 (a : Int), .int .i64 ((a + n : Nat) : Int)] = some (quoR (addQ [] (a + n) (dolL ((s.drop a).take n) (s.drop (a + n))))) := by
  refine PV_start k102 rfl (Nat.le_of_ble_eq_true rfl) ?_
  simp only [go_sem, bx, K102]
  have htl : ((s.drop a).take n).length = n := by simp only [List.length_take, List.length_drop]; omega
  have sl0 := fun H => slice_mid (s := s) (i := a) (j := a + n) (by omega) hn H
  rw [take_drop_mid] at sl0
  have hst := fun j (hj : a + n + j ≤ s.length) => p_starts s ((s.drop a).take n) (a + n + j) hj (by omega) (by rw [htl]; omega)
  refine C_first (s.length + 1 - (a + n)) (fun j => ((s.drop a).take n).isPrefixOf (s.drop (a + n + j))) (fun j st H => st 0 = .str s ∧ st 1 = .int .i64 (a : Int) ∧ st 2 = .int .i64 ((a + n : Nat) : Int) ∧ st 8 = .int .i64 ((a + n + j : Nat) : Int)) ⟨by simp only [go_sem, bx], by simp only [go_sem, bx], by simp only [go_sem, bx], by simp only [go_sem, bx]; rfl⟩ ?_ ?_ ?_
  · rintro j st H hj hp ⟨h0, h1', h2, h8⟩
    have w1 : IntKind.i64.wrap (((a + n + j : Nat) : Int) + 1) = ((a + n + (j + 1) : Nat) : Int) := wrap_succ (by simp only [maxL]; omega)
    have hd : (((a + n + j : Nat) : Int) ≤ (s.length : Int)) := by omega
    have hst := hst j (by omega)
    simp only [go_sem, bx, L102_0, h0, h1', h2, h8, w1, hd, sl0, call_pure pure_94, hst, hp]
  · rintro j st H hj hno hp ⟨h0, h1', h2, h8⟩
    have hd : (((a + n + j : Nat) : Int) ≤ (s.length : Int)) := by omega
    have hst := hst j (by omega)
    have sl3 := slice_mid (s := s) (i := a + n) (j := a + n + j) (by omega) (by omega) H
    rw [take_drop_mid] at sl3
    have w0 : IntKind.i64.wrap (((a + n + j : Nat) : Int) + ((a + n : Nat) : Int)) = ((a + n + j + (a + n) : Nat) : Int) := by rw [wrap_ok] <;> omega
    have w2 : IntKind.i64.wrap (((a + n + j + (a + n) : Nat) : Int) - (a : Int)) = ((j + n + (a + n) : Nat) : Int) := by rw [wrap_ok] <;> omega
    have hjl : j < (s.drop (a + n)).length := by
      have := pre_len hp
      rw [htl] at this
      simp only [List.length_drop] at this ⊢
      omega
    have hdol := dolL_hit (t := (s.drop a).take n) (r := s.drop (a + n)) (k := j) hjl (fun i hi => by rw [List.drop_drop]; exact hno i hi) (by rw [List.drop_drop]; exact hp)
    rw [hdol, htl]
    simp only [go_sem, bx, L102_0, h0, h1', h2, h8, hd, sl0, call_pure pure_94, hst, hp, sl3, w0, w2]
    rfl
  · rintro st H hno ⟨h0, h1', h2, h8⟩
    have hdol : dolL ((s.drop a).take n) (s.drop (a + n)) = none := dolL_no fun j hj => by
      simp only [List.length_drop] at hj
      rw [List.drop_drop]
      exact hno j (by omega)
    rw [hdol]
    have hd : ¬ (((a + n + (s.length + 1 - (a + n)) : Nat) : Int) ≤ (s.length : Int)) := by omega
    simp only [go_sem, bx, L102_0, h0, h8, hd]
    rfl
end Go.Proofs
/- The sets' layer: rows, small letters, signs. -/


set_option linter.unusedSimpArgs false
set_option linter.unusedVariables false
namespace Go.Proofs
open Go.Vam
/-! ### rows -/
def rowP (k : Int) (b : UInt8) : Bool := digitB b || (decide (k = 1) && (letterB b || b == 36) || decide (k = 4) && b == 46)
theorem rowP_word : rowP 1 = wordB := by
  funext b
  unfold rowP wordB
  cases digitB b <;> cases letterB b <;> cases (b == 36) <;> rfl
theorem rowP_num : rowP 4 = numB := by
  funext b
  unfold rowP numB
  cases digitB b <;> cases letterB b <;> cases (b == 46) <;> rfl
theorem rowP_dig : rowP 0 = digitB := by
  funext b
  unfold rowP
  cases digitB b <;> rfl
theorem p_row (s : List UInt8) (a : Nat) (k : Int) (ha : a ≤ s.length) (hs : s.length ≤ 10000000) : PV 97 [.str s, .int .i64 (a : Int), .int .i64 k] = some (.int .i64 ((a + runL (rowP k) (s.drop a) : Nat) : Int)) := by
  refine PV_start k97 rfl (Nat.le_of_ble_eq_true rfl) ?_
  have e36 := fun b => u8_lit b 36 (by decide)
  have e46 := fun b => u8_lit b 46 (by decide)
  simp only [Int.cast_ofNat_Int] at e36 e46
  simp only [go_sem, bx, K97]
  refine C_first (s.length - a) (fun j => !(rowP k (byteAt (s.drop a) j))) (fun j st H => st 0 = .str s ∧ st 2 = .int .i64 k ∧ st 1 = .int .i64 ((a + j : Nat) : Int)) ⟨by simp only [go_sem, bx], by simp only [go_sem, bx], by simp only [go_sem, bx]; rfl⟩ ?_ ?_ ?_
  · rintro j st H hj hp ⟨h0, h2, h1⟩
    have hd : (((a + j : Nat) : Int) < (s.length : Int)) := by omega
    have ij := idx9 (s := s) (i := a + j) (by omega)
    have w1 : IntKind.i64.wrap (((a + j : Nat) : Int) + 1) = ((a + (j + 1) : Nat) : Int) := wrap_succ (by simp only [maxL]; omega)
    rw [byteAt_drop] at hp
    generalize byteAt s (a + j) = c at *
    have hl := p_letter4 (c.toNat : Int)
    have hg := p_digit4 (c.toNat : Int)
    unfold rowP letterB digitB at hp
    cases b1 : digitI (c.toNat : Int)
    · cases c1 : decide (k = 1)
      · cases c4 : decide (k = 4)
        · rw [b1, c1, c4] at hp
          cases hp
        · have b5 : (c == UInt8.ofNat 46) = true := by
            rw [b1, c1, c4] at hp
            simpa using hp
          simp only [go_sem, bx, L97_0, h0, h1, h2, hd, ij, call_pure pure_99, hg, b1, c1, c4, e46, b5, w1]
      · cases b3 : letterI (c.toNat : Int)
        · have c4 : decide (k = 4) = false := decide_eq_false (by have := of_decide_eq_true c1; omega)
          have b5 : (c == UInt8.ofNat 36) = true := by
            rw [b1, c1, b3, c4] at hp
            simpa using hp
          simp only [go_sem, bx, L97_0, h0, h1, h2, hd, ij, call_pure pure_99, hg, b1, c1, call_pure pure_96, hl, b3, e36, b5, w1]
        · simp only [go_sem, bx, L97_0, h0, h1, h2, hd, ij, call_pure pure_99, hg, b1, c1, call_pure pure_96, hl, b3, w1]
    · simp only [go_sem, bx, L97_0, h0, h1, h2, hd, ij, call_pure pure_99, hg, b1, w1]
  · rintro j st H hj hno hp ⟨h0, h2, h1⟩
    have hd : (((a + j : Nat) : Int) < (s.length : Int)) := by omega
    have ij := idx9 (s := s) (i := a + j) (by omega)
    have hrun : runL (rowP k) (s.drop a) = j := runL_at (fun i hi => by simpa only [Bool.not_eq_false'] using hno i hi) (.inr ⟨by simp only [List.length_drop]; omega, by simpa only [Bool.not_eq_true'] using hp⟩)
    rw [hrun]
    rw [byteAt_drop] at hp
    generalize byteAt s (a + j) = c at *
    have hl := p_letter4 (c.toNat : Int)
    have hg := p_digit4 (c.toNat : Int)
    unfold rowP letterB digitB at hp
    simp only [Bool.not_eq_true', Bool.or_eq_false_iff] at hp
    obtain ⟨b1, hp1, hp4⟩ := hp
    cases c1 : decide (k = 1)
    · cases c4 : decide (k = 4)
      · simp only [go_sem, bx, L97_0, h0, h1, h2, hd, ij, call_pure pure_99, hg, b1, c1, c4]
      · rw [c4, Bool.true_and] at hp4
        have b5 : (c == UInt8.ofNat 46) = false := hp4
        simp only [go_sem, bx, L97_0, h0, h1, h2, hd, ij, call_pure pure_99, hg, b1, c1, c4, e46, b5]
    · have c4 : decide (k = 4) = false := decide_eq_false (by have := of_decide_eq_true c1; omega)
      rw [c1, Bool.true_and, Bool.or_eq_false_iff] at hp1
      have b5 : (c == UInt8.ofNat 36) = false := hp1.2
      simp only [go_sem, bx, L97_0, h0, h1, h2, hd, ij, call_pure pure_99, hg, b1, c1, c4, call_pure pure_96, hl, hp1.1, e36, b5]
  · rintro st H hno ⟨h0, h2, h1⟩
    have hd : ¬ (((a + (s.length - a) : Nat) : Int) < (s.length : Int)) := by omega
    have hrun : runL (rowP k) (s.drop a) = s.length - a := runL_at (fun i hi => by simpa only [Bool.not_eq_false'] using hno i hi) (.inl (by simp only [List.length_drop]))
    rw [hrun]
    simp only [go_sem, bx, L97_0, h0, h1, hd]
/-! ### small letters -/
def smallB (b : UInt8) : UInt8 := if 65 ≤ b.toNat ∧ b.toNat ≤ 90 then b + 32 else b
def smallL (s : List UInt8) : List UInt8 := s.map smallB
theorem conv_bytes (s : List UInt8) (hs : s.length ≤ 100000000) (H : AHeap) : aconvert Try.prog 9 88 (.str s) H = some (.hs H.length 0 s.length, H ++ [.arr 5 false 0 (bys s)]) := by
  unfold aconvert
  simp only [strT_9, if_true, strT_88, Bool.false_eq_true, if_false, sliceT_88]
  rw [if_pos ⟨intT_5, szOf_5, by omega⟩]
  rfl
theorem bys_get {w : List UInt8} {i : Nat} (h : i < w.length) : (bys w)[i]? = some [.int .u8 ((byteAt w i).toNat : Int)] := by
  rw [byteAt_lt h]
  simp [bys, h]
theorem idx_bys {w : List UInt8} {i n : Nat} (hn : n = w.length) (h : i < w.length) : aindexAddr Try.prog 88 (.hs 0 0 n) (.int .i64 (i : Int)) [.arr 5 false 0 (bys w)] = some (.ptr 0 i 0) := by
  subst hn
  have := indexAddr_hs Try.prog 88 [.arr 5 false 0 (bys w)] (k := .i64) (id := 0) (i0 := 0) (i := i) (n := w.length) sliceT_88 rfl h
  rw [Nat.zero_add] at this
  exact this
theorem load_bys {w : List UInt8} {i : Nat} (h : i < w.length) : aload Try.prog 5 (.ptr 0 i 0) [.arr 5 false 0 (bys w)] = some (.int .u8 ((byteAt w i).toNat : Int)) := by
  rw [load_ptr]
  simp only [List.getElem?_cons_zero]
  rw [ldObj_arr, bys_get h]
  simp only [go_sem]
theorem store_bys {w : List UInt8} {i : Nat} (h : i < w.length) (b : UInt8) : astore Try.prog 5 (.ptr 0 i 0) (.int .u8 (b.toNat : Int)) [.arr 5 false 0 (bys w)] = some [.arr 5 false 0 (bys (w.set i b))] := by
  unfold astore
  simp only [List.getElem?_cons_zero, bys_get h]
  rw [if_pos ⟨Nat.zero_le _, szOf_5, rfl, Nat.le_refl _⟩]
  simp [bys, AV.cells]
theorem conv_bys (w : List UInt8) (n : Nat) (hn : n = w.length) : aconvert Try.prog 88 9 (.hs 0 0 n) [.arr 5 false 0 (bys w)] = some (.str w, [.arr 5 false 0 (bys w)]) := by
  subst hn
  have hl : w.length = (bys w).length := by simp [bys]
  have he : aelems (.hs 0 0 w.length) [.arr 5 false 0 (bys w)] = some (bys w) := by
    simp only [aelems, List.getElem?_cons_zero]
    rw [if_pos (by omega), List.drop_zero, hl, List.take_length]
  have hc : aconvert Try.prog 88 9 (.hs 0 0 w.length) [.arr 5 false 0 (bys w)] = ((aelems (.hs 0 0 w.length) [.arr 5 false 0 (bys w)]).bind bytesOf).map fun s => (.str s, [.arr 5 false 0 (bys w)]) := by
    simp [aconvert, sliceT_88, strT_9, intT_5]
  rw [hc, he]
  simp [bytesOf_bys]
def smallW (r : List UInt8) (i : Nat) : List UInt8 := (r.take i).map smallB ++ r.drop i
theorem smallW_len {r : List UInt8} {i : Nat} (h : i ≤ r.length) : (smallW r i).length = r.length := by
  unfold smallW
  simp only [List.length_append, List.length_map, List.length_take, List.length_drop]
  omega
theorem smallW_at {r : List UInt8} {i : Nat} (h : i < r.length) : byteAt (smallW r i) i = byteAt r i := by
  unfold smallW byteAt
  rw [List.getElem?_append_right (by simp only [List.length_map, List.length_take]; omega), List.getElem?_drop]
  congr 2
  simp only [List.length_map, List.length_take]
  omega
theorem smallW_set {r : List UInt8} {i : Nat} (h : i < r.length) : (smallW r i).set i (smallB (byteAt r i)) = smallW r (i + 1) := by
  unfold smallW
  have hl : ((r.take i).map smallB).length = i := by simp only [List.length_map, List.length_take]; omega
  rw [List.set_append_right _ _ (by omega), hl, Nat.sub_self, drop_byte h, List.set_cons_zero, take_byte h, List.map_append, List.append_assoc]
  rfl
theorem set_self {w : List UInt8} {i : Nat} (h : i < w.length) : w.set i (byteAt w i) = w := by
  rw [byteAt_lt h, List.set_getElem_self]
theorem smallB_no {b : UInt8} (h : ¬ ((65 : Int) ≤ (b.toNat : Int) ∧ (b.toNat : Int) ≤ 90)) : smallB b = b := by
  unfold smallB
  rw [if_neg (by omega)]
theorem smallB_yes {b : UInt8} (h1 : (65 : Int) ≤ (b.toNat : Int)) (h2 : (b.toNat : Int) ≤ 90) : ((smallB b).toNat : Int) = (b.toNat : Int) + 32 := by
  unfold smallB
  rw [if_pos ⟨by omega, by omega⟩, UInt8.toNat_add]
  have : (32 : UInt8).toNat = 32 := rfl
  rw [this]
  omega
theorem p_small (r : List UInt8) (hr : r.length ≤ 10000000) : PV 88 [.str r] = some (.str (smallL r)) := by
  refine PV_start k88 rfl (Nat.le_of_ble_eq_true rfl) ?_
  have hc := conv_bytes r (by omega) []
  simp only [go_sem, bx] at hc
  simp only [go_sem, bx, K88, hc]
  refine C_for r.length (fun i s H => s 3 = .hs 0 0 r.length ∧ s 8 = .hs 0 0 r.length ∧ s 9 = .int .i64 (r.length : Int) ∧ s 10 = .int .i64 (i : Int) ∧ H = [.arr 5 false 0 (bys (smallW r i))]) ⟨by simp only [go_sem, bx], by simp only [go_sem, bx], by simp only [go_sem, bx], by simp only [go_sem, bx]; rfl, rfl⟩ ?_ ?_
  · rintro i s H hi ⟨h3, h8, h9, h10, rfl⟩
    have hd : ((i : Int) < (r.length : Int)) := by omega
    have hw : IntKind.i64.wrap ((i : Int) + 1) = ((i + 1 : Nat) : Int) := wrap_succ (by simp only [maxL]; omega)
    have hl := smallW_len (r := r) (i := i) (by omega)
    have hx := idx_bys (w := smallW r i) (i := i) hl.symm (by omega)
    have hld := load_bys (w := smallW r i) (i := i) (by omega)
    rw [smallW_at hi] at hld
    have hset := smallW_set hi
    have hst := store_bys (w := smallW r i) (i := i) (by omega) (smallB (byteAt r i))
    rw [hset] at hst
    have hself := set_self (w := smallW r i) (i := i) (by omega)
    rw [smallW_at hi] at hself
    by_cases a1 : (65 : Int) ≤ ((byteAt r i).toNat : Int)
    · by_cases a2 : ((byteAt r i).toNat : Int) ≤ 90
      · have hy := smallB_yes a1 a2
        have wa : IntKind.u8.wrap (((byteAt r i).toNat : Int) + 97) = ((byteAt r i).toNat : Int) + 97 := by rw [IntKind.wrap_u8]; omega
        have wb : IntKind.u8.wrap (((byteAt r i).toNat : Int) + 97 - 65) = ((smallB (byteAt r i)).toNat : Int) := by rw [IntKind.wrap_u8]; omega
        simp only [go_sem, bx, L88_0, h3, h8, h9, h10, hd, hx, hld, a1, a2, wa, wb, hst, hw]
      · have hn := smallB_no (b := byteAt r i) (fun h => a2 h.2)
        rw [hn, hself] at hset
        simp only [go_sem, bx, L88_0, h3, h8, h9, h10, hd, hx, hld, a1, a2, hw]
        rw [hset]
    · have hn := smallB_no (b := byteAt r i) (fun h => a1 h.1)
      rw [hn, hself] at hset
      simp only [go_sem, bx, L88_0, h3, h8, h9, h10, hd, hx, hld, a1, hw]
      rw [hset]
  · rintro s H ⟨h3, h8, h9, h10, rfl⟩
    have hd : ¬ ((r.length : Int) < (r.length : Int)) := by omega
    have hc := conv_bys (smallW r r.length) r.length (smallW_len (Nat.le_refl _)).symm
    simp only [go_sem, bx, L88_0, h3, h9, h10, hd, hc]
    unfold smallW smallL
    rw [List.take_length, List.drop_length, List.append_nil]
theorem p_small4 (r : List UInt8) (hr : r.length ≤ 10000000) : PV 98 [.str r] = some (.str (smallL r)) := by
  refine PV_start k98 rfl (Nat.le_of_ble_eq_true rfl) ?_
  have hc := conv_bytes r (by omega) []
  simp only [go_sem, bx] at hc
  simp only [go_sem, bx, K98, hc]
  refine C_for r.length (fun i s H => s 3 = .hs 0 0 r.length ∧ s 4 = .int .i64 (i : Int) ∧ H = [.arr 5 false 0 (bys (smallW r i))]) ⟨by simp only [go_sem, bx], by simp only [go_sem, bx]; rfl, rfl⟩ ?_ ?_
  · rintro i s H hi ⟨h3, h4, rfl⟩
    have hd : ((i : Int) < (r.length : Int)) := by omega
    have hw : IntKind.i64.wrap ((i : Int) + 1) = ((i + 1 : Nat) : Int) := wrap_succ (by simp only [maxL]; omega)
    have hl := smallW_len (r := r) (i := i) (by omega)
    have hx := idx_bys (w := smallW r i) (i := i) hl.symm (by omega)
    have hld := load_bys (w := smallW r i) (i := i) (by omega)
    rw [smallW_at hi] at hld
    have hset := smallW_set hi
    have hst := store_bys (w := smallW r i) (i := i) (by omega) (smallB (byteAt r i))
    rw [hset] at hst
    have hself := set_self (w := smallW r i) (i := i) (by omega)
    rw [smallW_at hi] at hself
    by_cases a1 : (65 : Int) ≤ ((byteAt r i).toNat : Int)
    · by_cases a2 : ((byteAt r i).toNat : Int) ≤ 90
      · have hy := smallB_yes a1 a2
        have wa : IntKind.u8.wrap (((byteAt r i).toNat : Int) + 32) = ((smallB (byteAt r i)).toNat : Int) := by rw [IntKind.wrap_u8]; omega
        simp only [go_sem, bx, L98_0, h3, h4, hd, hx, hld, a1, a2, wa, hst, hw]
      · have hn := smallB_no (b := byteAt r i) (fun h => a2 h.2)
        rw [hn, hself] at hset
        simp only [go_sem, bx, L98_0, h3, h4, hd, hx, hld, a1, a2, hw]
        rw [hset]
    · have hn := smallB_no (b := byteAt r i) (fun h => a1 h.1)
      rw [hn, hself] at hset
      simp only [go_sem, bx, L98_0, h3, h4, hd, hx, hld, a1, hw]
      rw [hset]
  · rintro s H ⟨h3, h4, rfl⟩
    have hd : ¬ ((r.length : Int) < (r.length : Int)) := by omega
    have hc := conv_bys (smallW r r.length) r.length (smallW_len (Nat.le_refl _)).symm
    simp only [go_sem, bx, L98_0, h3, h4, hd, hc]
    unfold smallW smallL
    rw [List.take_length, List.drop_length, List.append_nil]
/-! ### signs -/
def signsC : List UInt8 := [40, 41, 44, 59, 46, 61, 60, 62, 43, 45, 42, 47, 37, 38, 124, 94, 126, 33, 64, 35, 63, 58, 91, 93]
def signB (b : UInt8) : Bool := signsC.contains b
theorem sign_any (b : UInt8) : ((List.range 24).any fun i => byteAt signsC i == b) = signB b := by
  unfold signB
  rw [Bool.eq_iff_iff, List.any_eq_true, List.contains_iff_mem]
  constructor
  · rintro ⟨i, hi, h⟩
    have hi' : i < signsC.length := List.mem_range.1 hi
    rw [byteAt_lt hi'] at h
    rw [← eq_of_beq h]
    exact List.getElem_mem hi'
  · intro h
    obtain ⟨i, hi, rfl⟩ := List.getElem_of_mem h
    exact ⟨i, List.mem_range.2 hi, by rw [byteAt_lt hi]; exact beq_self_eq_true _⟩
theorem p_sign4 (b : UInt8) : PV 103 [.int .u8 (b.toNat : Int)] = some (.bool (signB b)) := by
  refine PV_start k103 rfl (Nat.le_of_ble_eq_true rfl) ?_
  simp only [go_sem, bx, K103]
  have hr := sign_any b
  generalize signB b = r at *
  refine C_any 24 (fun i => byteAt signsC i == b) (fun i s H => s 0 = .int .u8 (b.toNat : Int) ∧ s 3 = .str signsC ∧ s 4 = .int .i64 (i : Int)) hr ⟨by simp only [go_sem, bx], by simp only [go_sem, bx]; rfl, by simp only [go_sem, bx]; rfl⟩ ?_ ?_ ?_
  · rintro i s H hi hp ⟨h0, h3, h4⟩
    have hl : signsC.length = 24 := rfl
    have hd : ((i : Int) < (signsC.length : Int)) := by omega
    have hw : IntKind.i64.wrap ((i : Int) + 1) = ((i + 1 : Nat) : Int) := wrap_succ (by simp only [maxL]; omega)
    have hix := idx9 (s := signsC) (i := i) (by omega)
    simp only [go_sem, bx, L103_0, h0, h3, h4, hd, hix, u8_eq, hp, hw]
  · rintro i s H hi hp rfl ⟨h0, h3, h4⟩
    have hl : signsC.length = 24 := rfl
    have hd : ((i : Int) < (signsC.length : Int)) := by omega
    have hix := idx9 (s := signsC) (i := i) (by omega)
    simp only [go_sem, bx, L103_0, h0, h3, h4, hd, hix, u8_eq, hp]
  · rintro s H rfl ⟨h0, h3, h4⟩
    have hl : (signsC.length : Int) = 24 := rfl
    simp only [go_sem, bx, L103_0, h0, h3, h4, hl, Int.cast_ofNat_Int, Int.reduceLT]
theorem signsC_lt : ∀ i, i < 24 → (byteAt signsC i).toNat < 128 := by decide
theorem sign_dec {i : Nat} (hi : i < 24) : Utf8.decode ⟨signsC.toArray⟩ i = ((byteAt signsC i).toNat, 1) := by
  have hl : i < (ByteArray.mk signsC.toArray).size := hi
  have e : (ByteArray.mk signsC.toArray)[i]'hl = byteAt signsC i := by
    rw [byteAt_lt (by exact hi)]
    rfl
  have := decode_ascii ⟨signsC.toArray⟩ i hl (by rw [e]; exact signsC_lt i hi)
  rw [e] at this
  exact this
def signL (r : List UInt8) : Nat := if byteAt r 0 == 36 then (if 0 < runL digitB (r.drop 1) then runL digitB (r.drop 1) + 1 else 0) else if signB (byteAt r 0) then 1 else 0
theorem p_digitB (b : UInt8) : PV 87 [.int .i32 (b.toNat : Int)] = some (.bool (digitB b)) := p_digit _
theorem p_sign (r : List UInt8) (h1 : 1 ≤ r.length) (hr : r.length ≤ 10000000) : PV 93 [.str r] = some (.int .i64 ((signL r : Nat) : Int)) := by
  refine PV_start k93 rfl (Nat.le_of_ble_eq_true rfl) ?_
  have i0 := idx9 (s := r) (i := 0) (by omega)
  simp only [Int.cast_ofNat_Int] at i0
  have e36 := u8_lit (byteAt r 0) 36 (by decide)
  simp only [Int.cast_ofNat_Int] at e36
  unfold signL
  cases b : (byteAt r 0 == 36)
  · have b' : (byteAt r 0 == UInt8.ofNat 36) = false := b
    simp only [go_sem, bx, K93, i0, e36, b']
    have hr := sign_any (byteAt r 0)
    generalize signB (byteAt r 0) = sb at *
    generalize byteAt r 0 = c at *
    refine C_any 24 (fun i => byteAt signsC i == c) (fun i s H => s 0 = .str r ∧ s 16 = .it 0 ∧ H = [.siter signsC i]) hr ⟨by simp only [go_sem, bx], by simp only [go_sem, bx], rfl⟩ ?_ ?_ ?_
    · rintro i s H hi hp ⟨h0, h16, rfl⟩
      have hl : signsC.length = 24 := rfl
      have hd : (i < signsC.length) := by omega
      have hdc := sign_dec hi
      have hsym : (c == byteAt signsC i) = false := by
        rw [← hp, Bool.eq_iff_iff, beq_iff_eq, beq_iff_eq]
        exact eq_comm
      simp only [go_sem, bx, L93_0, h0, h16, nxtO, hd, hdc, i0, conv_rune, u8_eq, hsym, List.set_cons_zero]
    · rintro i s H hi hp rfl ⟨h0, h16, rfl⟩
      have hl : signsC.length = 24 := rfl
      have hd : (i < signsC.length) := by omega
      have hdc := sign_dec hi
      have hsym : (c == byteAt signsC i) = true := by
        rw [← hp, Bool.eq_iff_iff, beq_iff_eq, beq_iff_eq]
        exact eq_comm
      simp only [go_sem, bx, L93_0, h0, h16, nxtO, hd, hdc, i0, conv_rune, u8_eq, hsym, List.set_cons_zero]
      rfl
    · rintro s H rfl ⟨h0, h16, rfl⟩
      have hd : ¬ (24 < signsC.length) := by decide
      simp only [go_sem, bx, L93_0, h0, h16, nxtO, hd]
      rfl
  · have b' : (byteAt r 0 == UInt8.ofNat 36) = true := b
    have hsl := fun H => slice_from r 1 h1 H
    simp only [Int.cast_ofNat_Int] at hsl
    have hrun := p_run (g := 87) (q := digitB) rfl p_digitB (r.drop 1) (by simp only [List.length_drop]; omega)
    have hle := runL_le digitB (r.drop 1)
    simp only [List.length_drop] at hle
    generalize runL digitB (r.drop 1) = k at *
    by_cases hk : 0 < k
    · have hd : ((0 : Int) < (k : Int)) := by omega
      have hw : IntKind.i64.wrap ((k : Int) + 1) = ((k + 1 : Nat) : Int) := wrap_succ (by simp only [maxL]; omega)
      simp only [go_sem, bx, K93, i0, e36, b', hsl, call_pure pure_62, hrun, hd, hw, hk]
    · have hd : ¬ ((0 : Int) < (k : Int)) := by omega
      simp only [go_sem, bx, K93, i0, e36, b', hsl, call_pure pure_62, hrun, hd, hk]
      rfl
end Go.Proofs
/- The sets' layer: one token. -/

set_option linter.unusedSimpArgs false
set_option linter.unusedVariables false
namespace Go.Proofs
open Go.Vam
@[go_sem] theorem quoR_some (t : List UInt8) (n : Nat) : quoR (some (t, n)) = .tup [.str t, .int .i64 (n : Int)] := rfl
@[go_sem] theorem quoR_none : quoR none = .tup [.str [], .int .i64 (-1)] := rfl
def quo1 (k : Int) : Option (List UInt8 × Nat) → Int × List UInt8 × Int
  | some x => (k, x.1, x.2)
  | none => (k, [], -1)
def oneL (r : List UInt8) : Int × List UInt8 × Int :=
  if letterB (byteAt r 0) then (1, smallL (r.takeWhile wordB), (runL wordB r : Nat))
  else if digitB (byteAt r 0) then (4, r.takeWhile numB, (runL numB r : Nat))
  else if byteAt r 0 == 34 then quo1 2 (addQ [] 1 (quoL (byteAt r 0) (r.drop 1)))
  else if byteAt r 0 == 39 then quo1 3 (addQ [] 1 (quoL (byteAt r 0) (r.drop 1)))
  else match (if byteAt r 0 == 36 then tagL r else none) with
    | some n => quo1 3 (addQ [] n (dolL (r.take n) (r.drop n)))
    | none => (5, r.take (signL r), (signL r : Nat))
theorem build40 (k : Int) (t : List UInt8) : abuild Try.prog 40 [(0, .int .i64 k), (1, .str t)] = some (.agg [.int .i64 k, .str t, .int .i64 0]) := by
  unfold abuild
  rw [structT_40, zeroT_40]
  simp [afill, fldT_40_0, fldT_40_1, szOf_3, szOf_9, AV.cells, AV.isCell]
theorem build40p (k p : Int) (t : List UInt8) : abuild Try.prog 40 [(0, .int .i64 k), (1, .str t), (2, .int .i64 p)] = some (.agg [.int .i64 k, .str t, .int .i64 p]) := by
  unfold abuild
  rw [structT_40, zeroT_40]
  simp [afill, fldT_40_0, fldT_40_1, fldT_40_2, szOf_3, szOf_9, AV.cells, AV.isCell]
theorem build40z : abuild Try.prog 40 [] = some (.agg [.int .i64 0, .str [], .int .i64 0]) := by
  unfold abuild
  rw [structT_40, zeroT_40]
  simp [afill]
theorem store40 (k p : Int) (t : List UInt8) (x y z : AV) : astore Try.prog 40 (.ptr 0 0 0) (.agg [.int .i64 k, .str t, .int .i64 p]) [.arr 40 true 0 [[x, y, z]]] = some [.arr 40 true 0 [[.int .i64 k, .str t, .int .i64 p]]] := by
  unfold astore
  simp only [List.getElem?_cons_zero]
  rw [if_pos ⟨Nat.le_refl _, szOf_40, rfl, Nat.le_refl _⟩]
  rfl
theorem signL_le (r : List UInt8) (h : 1 ≤ r.length) : signL r ≤ r.length := by
  unfold signL
  have := runL_le digitB (r.drop 1)
  simp only [List.length_drop] at this
  split
  · split <;> omega
  · split <;> omega
theorem tagL_le {r : List UInt8} {n : Nat} (h : tagL r = some n) : 1 ≤ n ∧ n ≤ r.length := by
  unfold tagL at h
  split at h
  · rename_i h1
    cases h
    omega
  · cases h
theorem p_one (r : List UInt8) (h1 : 1 ≤ r.length) (hr : r.length ≤ 10000000) : PV 65 [.str r] = some (.tup [.agg [.int .i64 (oneL r).1, .str (oneL r).2.1, .int .i64 0], .int .i64 (oneL r).2.2]) := by
  refine PV_start k65 rfl (Nat.le_of_ble_eq_true rfl) ?_
  have i0 := idx9 (s := r) (i := 0) (by omega)
  simp only [Int.cast_ofNat_Int] at i0
  have hlt := p_letter ((byteAt r 0).toNat : Int)
  have hdg := p_digit ((byteAt r 0).toNat : Int)
  have e34 := u8_lit (byteAt r 0) 34 (by decide)
  have e39 := u8_lit (byteAt r 0) 39 (by decide)
  have e36 := u8_lit (byteAt r 0) 36 (by decide)
  simp only [Int.cast_ofNat_Int] at e34 e39 e36
  have hq := p_quoted r h1 hr
  have htg := p_tag r hr
  have hsg := p_sign r h1 hr
  have hsl := fun k (hk : k ≤ r.length) H => slice_str r k hk H
  unfold oneL
  cases b1 : letterB (byteAt r 0)
  · have b1' : letterI ((byteAt r 0).toNat : Int) = false := b1
    cases b2 : digitB (byteAt r 0)
    · have b2' : digitI ((byteAt r 0).toNat : Int) = false := b2
      cases b3 : (byteAt r 0 == 34)
      · have b3' : (byteAt r 0 == UInt8.ofNat 34) = false := b3
        cases b4 : (byteAt r 0 == 39)
        · have b4' : (byteAt r 0 == UInt8.ofNat 39) = false := b4
          have hsle := signL_le r h1
          have sl := fun H => hsl (signL r) hsle H
          cases b5 : (byteAt r 0 == 36)
          · have b5' : (byteAt r 0 == UInt8.ofNat 36) = false := b5
            simp only [go_sem, bx, K65, i0, conv_rune, call_pure pure_85, call_pure pure_87, hlt, hdg, b1', b2', e34, b3', e39, b4', e36, b5', call_pure pure_93, hsg, sl, build40, store40, Nat.le_refl]
            rfl
          · have b5' : (byteAt r 0 == UInt8.ofNat 36) = true := b5
            cases ht : tagL r with
            | none =>
              rw [ht] at htg
              simp only [optI] at htg
              have hm : decide ((-1 : Int) = -1) = true := rfl
              simp only [go_sem, bx, K65, i0, conv_rune, call_pure pure_85, call_pure pure_87, hlt, hdg, b1', b2', e34, b3', e39, b4', e36, b5', call_pure pure_91, htg, hm, call_pure pure_93, hsg, sl, build40, store40, Nat.le_refl]
              rfl
            | some n =>
              obtain ⟨hn1, hn2⟩ := tagL_le ht
              rw [ht] at htg
              simp only [optI] at htg
              have hm : decide ((n : Int) = -1) = false := decide_eq_false (by omega)
              have hdl := p_dollar r n hn1 hn2 hr
              cases hd : addQ [] n (dolL (r.take n) (r.drop n)) with
              | none =>
                rw [hd] at hdl
                simp only [go_sem, bx, K65, i0, conv_rune, call_pure pure_85, call_pure pure_87, hlt, hdg, b1', b2', e34, b3', e39, b4', e36, b5', call_pure pure_91, htg, hm, call_pure pure_92, hdl, build40, store40, Nat.le_refl]
                rw [hd]
                rfl
              | some x =>
                obtain ⟨t, k⟩ := x
                rw [hd] at hdl
                simp only [go_sem, bx, K65, i0, conv_rune, call_pure pure_85, call_pure pure_87, hlt, hdg, b1', b2', e34, b3', e39, b4', e36, b5', call_pure pure_91, htg, hm, call_pure pure_92, hdl, build40, store40, Nat.le_refl]
                rw [hd]
                rfl
        · have b4' : (byteAt r 0 == UInt8.ofNat 39) = true := b4
          cases hd : addQ [] 1 (quoL (byteAt r 0) (r.drop 1)) with
          | none =>
            rw [hd] at hq
            simp only [go_sem, bx, K65, i0, conv_rune, call_pure pure_85, call_pure pure_87, hlt, hdg, b1', b2', e34, b3', e39, b4', call_pure pure_90, hq, build40, store40, Nat.le_refl]
            rfl
          | some x =>
            obtain ⟨t, k⟩ := x
            rw [hd] at hq
            simp only [go_sem, bx, K65, i0, conv_rune, call_pure pure_85, call_pure pure_87, hlt, hdg, b1', b2', e34, b3', e39, b4', call_pure pure_90, hq, build40, store40, Nat.le_refl]
            rfl
      · have b3' : (byteAt r 0 == UInt8.ofNat 34) = true := b3
        cases hd : addQ [] 1 (quoL (byteAt r 0) (r.drop 1)) with
        | none =>
          rw [hd] at hq
          simp only [go_sem, bx, K65, i0, conv_rune, call_pure pure_85, call_pure pure_87, hlt, hdg, b1', b2', e34, b3', call_pure pure_90, hq, build40, store40, Nat.le_refl]
          rfl
        | some x =>
          obtain ⟨t, k⟩ := x
          rw [hd] at hq
          simp only [go_sem, bx, K65, i0, conv_rune, call_pure pure_85, call_pure pure_87, hlt, hdg, b1', b2', e34, b3', call_pure pure_90, hq, build40, store40, Nat.le_refl]
          rfl
    · have b2' : digitI ((byteAt r 0).toNat : Int) = true := b2
      have hrun := p_run (g := 89) (q := numB) rfl p_numB r (by omega)
      have sl := fun H => hsl (runL numB r) (runL_le _ _) H
      rw [take_runL] at sl
      simp only [go_sem, bx, K65, i0, conv_rune, call_pure pure_85, call_pure pure_87, hlt, hdg, b1', b2', call_pure pure_62, hrun, sl, build40, store40, Nat.le_refl]
      rfl
  · have b1' : letterI ((byteAt r 0).toNat : Int) = true := b1
    have hrun := p_run (g := 86) (q := wordB) rfl p_wordB r (by omega)
    have sl := fun H => hsl (runL wordB r) (runL_le _ _) H
    rw [take_runL] at sl
    have hsm := p_small (r.takeWhile wordB) (Nat.le_trans (List.takeWhile_sublist _).length_le hr)
    simp only [go_sem, bx, K65, i0, conv_rune, call_pure pure_85, hlt, b1', call_pure pure_62, hrun, sl, call_pure pure_88, hsm, build40, store40, Nat.le_refl]
    rfl
theorem pure_103 : E.pure 103 = true := rfl
/-! ### the reference's -/
theorem runL_pos {q : UInt8 → Bool} {r : List UInt8} (h : q (byteAt r 0) = true) (h1 : 1 ≤ r.length) : 1 ≤ runL q r := by
  cases r with
  | nil => simp at h1
  | cons c r =>
    have hc : q c = true := h
    unfold runL
    rw [List.takeWhile_cons, if_pos hc]
    simp
def zeroTok : AV := .agg [.int .i64 0, .str [], .int .i64 0]
def one4 (a : Nat) (x : Int × List UInt8 × Int) : AV :=
  if x.2.2 = -1 then .tup [zeroTok, .int .i64 0, .int .i64 6] else
  if x.2.2 = 0 then .tup [zeroTok, .int .i64 0, .int .i64 7] else .tup [.agg [.int .i64 x.1, .str x.2.1, .int .i64 (a : Int)], .int .i64 ((a : Int) + x.2.2), .int .i64 0]
theorem addQ_add (a k : Nat) (o : Option (List UInt8 × Nat)) : addQ [] (a + k) o = (addQ [] k o).map fun x => (x.1, x.2 + a) := by
  cases o with
  | none => rfl
  | some x => simp only [addQ, Option.map_some]; congr 2; omega
theorem p_one4 (s : List UInt8) (a : Nat) (ha : a < s.length) (hs : s.length ≤ 10000000) : PV 68 [.str s, .int .i64 (a : Int)] = some (one4 a (oneL (s.drop a))) := by
  refine PV_start k68 rfl (Nat.le_of_ble_eq_true rfl) ?_
  have hrl : (s.drop a).length = s.length - a := List.length_drop
  have hb0 : byteAt s a = byteAt (s.drop a) 0 := (byteAt_drop s a 0).symm
  have ia := idx9 ha
  have hq := p_quoted4 s a ha hs
  have hd1 : s.drop (a + 1) = (s.drop a).drop 1 := by rw [List.drop_drop]
  have htg := p_tag4 s a ha hs
  rw [addQ_add, hd1, hb0] at hq
  rw [hb0] at ia
  have w1 : IntKind.i64.wrap ((a : Int) + 1) = ((a + 1 : Nat) : Int) := wrap_succ (by simp only [maxL]; omega)
  have hrow := fun k => p_row s a k (by omega) hs
  have hrow0 := p_row s (a + 1) 0 (by omega) hs
  rw [rowP_dig, hd1] at hrow0
  have hsl := fun n (hn : n ≤ s.length - a) H => slice_mid (s := s) (i := a) (j := a + n) (by omega) (by omega) H
  simp only [take_drop_mid] at hsl
  have hdol := fun n (h1 : 1 ≤ n) (hn : a + n ≤ s.length) => p_dollar4 s a n h1 hn hs
  simp only [addQ_add, ← List.drop_drop] at hdol
  generalize hr : s.drop a = r at *
  have hlt := p_letter4 ((byteAt r 0).toNat : Int)
  have hdg := p_digit4 ((byteAt r 0).toNat : Int)
  have hsb := p_sign4 (byteAt r 0)
  have e34 := u8_lit (byteAt r 0) 34 (by decide)
  have e39 := u8_lit (byteAt r 0) 39 (by decide)
  have e36 := u8_lit (byteAt r 0) 36 (by decide)
  simp only [Int.cast_ofNat_Int] at e34 e39 e36
  unfold oneL
  cases b1 : letterB (byteAt r 0)
  · have b1' : letterI ((byteAt r 0).toNat : Int) = false := b1
    cases b2 : digitB (byteAt r 0)
    · have b2' : digitI ((byteAt r 0).toNat : Int) = false := b2
      cases b3 : (byteAt r 0 == 34)
      · have b3' : (byteAt r 0 == UInt8.ofNat 34) = false := b3
        cases b4 : (byteAt r 0 == 39)
        · have b4' : (byteAt r 0 == UInt8.ofNat 39) = false := b4
          cases b5 : (byteAt r 0 == 36)
          · have b5' : (byteAt r 0 == UInt8.ofNat 36) = false := b5
            simp only [Bool.false_eq_true, if_false]
            unfold signL
            rw [b5]
            cases b6 : signB (byteAt r 0)
            · simp only [go_sem, bx, K68, ia, call_pure pure_96, call_pure pure_99, hlt, hdg, b1', b2', e34, b3', e39, b4', e36, b5', call_pure pure_103, hsb, b6, build40z, store40, Nat.le_refl]
              rfl
            · have sl := fun H => hsl 1 (by omega) H
              simp only [go_sem, bx, K68, ia, call_pure pure_96, call_pure pure_99, hlt, hdg, b1', b2', e34, b3', e39, b4', e36, b5', call_pure pure_103, hsb, b6, w1, sl, build40p, store40, Nat.le_refl]
              rfl
          · have b5' : (byteAt r 0 == UInt8.ofNat 36) = true := b5
            simp only [Bool.false_eq_true, if_false, if_true]
            cases ht : tagL r with
            | none =>
              rw [ht] at htg
              simp only [Option.map_none, optI] at htg
              have hm : ¬ ((0 : Int) < -1) := by omega
              unfold signL
              rw [b5]
              have hns : signB (byteAt r 0) = false := by rw [eq_of_beq b5]; rfl
              have hrle := runL_le digitB (r.drop 1)
              simp only [List.length_drop] at hrle
              by_cases hk : 0 < runL digitB (r.drop 1)
              · have hgt : (((a + 1 : Nat) : Int) < ((a + 1 + runL digitB (r.drop 1) : Nat) : Int)) := by omega
                have sl := fun H => hsl (runL digitB (r.drop 1) + 1) (by omega) H
                rw [show a + (runL digitB (r.drop 1) + 1) = a + 1 + runL digitB (r.drop 1) by omega] at sl
                simp only [go_sem, bx, K68, ia, call_pure pure_96, call_pure pure_99, hlt, hdg, b1', b2', e34, b3', e39, b4', e36, b5', call_pure pure_101, htg, hm, w1, call_pure pure_97, hrow0, hgt, sl, build40p, store40, Nat.le_refl, hk]
                unfold one4
                rw [if_neg (by simp only; omega), if_neg (by simp only; omega)]
                rw [show ((a + 1 + runL digitB (r.drop 1) : Nat) : Int) = (a : Int) + ((runL digitB (r.drop 1) + 1 : Nat) : Int) by omega]
                rfl
              · have hgt : ¬ (((a + 1 : Nat) : Int) < ((a + 1 + runL digitB (r.drop 1) : Nat) : Int)) := by omega
                simp only [go_sem, bx, K68, ia, call_pure pure_96, call_pure pure_99, hlt, hdg, b1', b2', e34, b3', e39, b4', e36, b5', call_pure pure_101, htg, hm, w1, call_pure pure_97, hrow0, hgt, call_pure pure_103, hsb, hns, build40z, store40, Nat.le_refl, hk]
                rfl
            | some n =>
              obtain ⟨hn1, hn2⟩ := tagL_le ht
              rw [ht] at htg
              simp only [Option.map_some, optI] at htg
              have hm : ((0 : Int) < ((n + a : Nat) : Int)) := by omega
              have hdl := hdol n hn1 (by omega)
              rw [Nat.add_comm a n] at hdl
              cases hd : addQ [] n (dolL (r.take n) (r.drop n)) with
              | none =>
                rw [hd] at hdl
                simp only [Option.map_none] at hdl
                have hm2 : ((-1 : Int) < 0) := by omega
                simp only [go_sem, bx, K68, ia, call_pure pure_96, call_pure pure_99, hlt, hdg, b1', b2', e34, b3', e39, b4', e36, b5', call_pure pure_101, htg, hm, call_pure pure_102, hdl, hm2, build40z, store40, Nat.le_refl]
                rw [hd]
                rfl
              | some x =>
                obtain ⟨t, k⟩ := x
                have hk1 : 1 ≤ k := by
                  cases hdd : dolL (r.take n) (r.drop n) with
                  | none => rw [hdd] at hd; cases hd
                  | some y => rw [hdd] at hd; simp only [addQ, Option.map_some, Option.some.injEq, Prod.mk.injEq] at hd; omega
                rw [hd] at hdl
                simp only [Option.map_some] at hdl
                have hm2 : ¬ (((k + a : Nat) : Int) < 0) := by omega
                simp only [go_sem, bx, K68, ia, call_pure pure_96, call_pure pure_99, hlt, hdg, b1', b2', e34, b3', e39, b4', e36, b5', call_pure pure_101, htg, hm, call_pure pure_102, hdl, hm2, build40p, store40, Nat.le_refl]
                rw [hd]
                unfold one4 quo1
                rw [if_neg (by simp only; omega), if_neg (by simp only; omega)]
                rw [show ((k + a : Nat) : Int) = (a : Int) + (k : Int) by omega]
                rfl
        · have b4' : (byteAt r 0 == UInt8.ofNat 39) = true := b4
          cases hd : addQ [] 1 (quoL (byteAt r 0) (r.drop 1)) with
          | none =>
            rw [hd] at hq
            simp only [Option.map_none] at hq
            have hm2 : ((-1 : Int) < 0) := by omega
            simp only [go_sem, bx, K68, ia, call_pure pure_96, call_pure pure_99, hlt, hdg, b1', b2', e34, b3', e39, b4', call_pure pure_100, hq, hm2, build40z, store40, Nat.le_refl]
            rfl
          | some x =>
            obtain ⟨t, k⟩ := x
            have hk1 : 1 ≤ k := by
              cases hdd : quoL (byteAt r 0) (r.drop 1) with
              | none => rw [hdd] at hd; cases hd
              | some y => rw [hdd] at hd; simp only [addQ, Option.map_some, Option.some.injEq, Prod.mk.injEq] at hd; omega
            rw [hd] at hq
            simp only [Option.map_some] at hq
            have hm2 : ¬ (((k + a : Nat) : Int) < 0) := by omega
            simp only [go_sem, bx, K68, ia, call_pure pure_96, call_pure pure_99, hlt, hdg, b1', b2', e34, b3', e39, b4', call_pure pure_100, hq, hm2, build40p, store40, Nat.le_refl]
            unfold one4 quo1
            rw [if_neg (by simp only; omega), if_neg (by simp only; omega)]
            rw [show ((k + a : Nat) : Int) = (a : Int) + (k : Int) by omega]
            rfl
      · have b3' : (byteAt r 0 == UInt8.ofNat 34) = true := b3
        cases hd : addQ [] 1 (quoL (byteAt r 0) (r.drop 1)) with
        | none =>
          rw [hd] at hq
          simp only [Option.map_none] at hq
          have hm2 : ((-1 : Int) < 0) := by omega
          simp only [go_sem, bx, K68, ia, call_pure pure_96, call_pure pure_99, hlt, hdg, b1', b2', e34, b3', call_pure pure_100, hq, hm2, build40z, store40, Nat.le_refl]
          rfl
        | some x =>
          obtain ⟨t, k⟩ := x
          have hk1 : 1 ≤ k := by
            cases hdd : quoL (byteAt r 0) (r.drop 1) with
            | none => rw [hdd] at hd; cases hd
            | some y => rw [hdd] at hd; simp only [addQ, Option.map_some, Option.some.injEq, Prod.mk.injEq] at hd; omega
          rw [hd] at hq
          simp only [Option.map_some] at hq
          have hm2 : ¬ (((k + a : Nat) : Int) < 0) := by omega
          simp only [go_sem, bx, K68, ia, call_pure pure_96, call_pure pure_99, hlt, hdg, b1', b2', e34, b3', call_pure pure_100, hq, hm2, build40p, store40, Nat.le_refl]
          unfold one4 quo1
          rw [if_neg (by simp only; omega), if_neg (by simp only; omega)]
          rw [show ((k + a : Nat) : Int) = (a : Int) + (k : Int) by omega]
          rfl
    · have b2' : digitI ((byteAt r 0).toNat : Int) = true := b2
      have hr4 := hrow 4
      rw [rowP_num] at hr4
      have sl := fun H => hsl (runL numB r) (by rw [← hrl]; exact runL_le _ _) H
      rw [take_runL] at sl
      have hpos : 1 ≤ runL numB r := runL_pos (by unfold numB; rw [b2]; rfl) (by omega)
      simp only [go_sem, bx, K68, ia, call_pure pure_96, call_pure pure_99, hlt, hdg, b1', b2', call_pure pure_97, hr4, sl, build40p, store40, Nat.le_refl]
      unfold one4
      rw [if_neg (by simp only; omega), if_neg (by simp only; omega)]
      rw [show ((a + runL numB r : Nat) : Int) = (a : Int) + ((runL numB r : Nat) : Int) by omega]
      rfl
  · have b1' : letterI ((byteAt r 0).toNat : Int) = true := b1
    have hr1 := hrow 1
    rw [rowP_word] at hr1
    have sl := fun H => hsl (runL wordB r) (by rw [← hrl]; exact runL_le _ _) H
    rw [take_runL] at sl
    have hpos : 1 ≤ runL wordB r := runL_pos (by unfold wordB; rw [b1]; rfl) (by omega)
    have hsm := p_small4 (r.takeWhile wordB) (Nat.le_trans (List.takeWhile_sublist _).length_le (by omega))
    simp only [go_sem, bx, K68, ia, call_pure pure_96, hlt, b1', call_pure pure_97, hr1, sl, call_pure pure_98, hsm, build40p, store40, Nat.le_refl]
    unfold one4
    rw [if_neg (by simp only; omega), if_neg (by simp only; omega)]
    rw [show ((a + runL wordB r : Nat) : Int) = (a : Int) + ((runL wordB r : Nat) : Int) by omega]
    rfl
end Go.Proofs
/- The sets' layer: texts cut into tokens, plain, and by the lexer. -/

set_option linter.unusedSimpArgs false
set_option linter.unusedVariables false
namespace Go.Proofs
open Go.Vam
def spaceB (b : UInt8) : Bool := b == 32 || (b == 9 || (b == 10 || (b == 12 || b == 13)))
def scanN : Nat → List UInt8 → Nat → List Tok → List Tok × Int × Nat
  | 0, _, _, out => (out, 0, 0)
  | n + 1, r, a, out =>
    if r.length = 0 then (out, 0, 0) else
    if spaceB (byteAt r 0) then scanN n (r.drop 1) (a + 1) out else
    if [45, 45].isPrefixOf r then scanN n (r.drop (runL notLf r)) (a + runL notLf r) out else
    if [47, 42].isPrefixOf r then (match remL r with
      | some k => scanN n (r.drop k) (a + k) out
      | none => ([], 6, a)) else
    if (oneL r).2.2 = -1 then ([], 6, a) else
    if (oneL r).2.2 = 0 then ([], 7, a) else
    scanN n (r.drop (oneL r).2.2.toNat) (a + (oneL r).2.2.toNat) (out ++ [⟨(oneL r).1, (oneL r).2.1, a⟩])
def scanF (r : List UInt8) (a : Nat) (out : List Tok) : List Tok × Int × Nat := scanN r.length r a out
def scanL (s : List UInt8) : List Tok × Int × Nat := if 2000 < s.length then ([], 2, 2000) else scanF s 0 []
theorem pre2 {x y : UInt8} {r : List UInt8} (h : [x, y].isPrefixOf r = true) : 2 ≤ r.length ∧ byteAt r 0 = x ∧ byteAt r 1 = y := by
  match r, h with
  | [], h => cases h
  | [a], h =>
    rw [List.isPrefixOf_cons_cons] at h
    simp at h
  | a :: b :: r, h =>
    rw [List.isPrefixOf_cons_cons, List.isPrefixOf_cons_cons] at h
    simp only [Bool.and_eq_true, beq_iff_eq] at h
    exact ⟨by simp, h.1.symm, h.2.1.symm⟩
theorem run_pos {r : List UInt8} (h : [45, 45].isPrefixOf r = true) : 1 ≤ runL notLf r := by
  obtain ⟨h1, h2, _⟩ := pre2 h
  exact runL_pos (by rw [h2]; rfl) (by omega)
theorem remN_pos : ∀ (n : Nat) (r : List UInt8) (d : Int) (k : Nat), remN n r d = some k → 1 ≤ k ∧ k ≤ r.length
  | 0, r, d, k, h => by cases h
  | n + 1, r, d, k, h => by
    unfold remN at h
    split at h
    · cases h
    · rename_i h0
      have one : ∀ {m : Nat} {o : Option Nat} {r' : List UInt8}, (∀ k, o = some k → 1 ≤ k ∧ k ≤ r'.length) → r'.length + m ≤ r.length → 1 ≤ m → o.map (· + m) = some k → 1 ≤ k ∧ k ≤ r.length := by
        intro m o r' ho hr hm h
        cases o with
        | none => cases h
        | some x =>
          have := ho x rfl
          simp only [Option.map_some, Option.some.injEq] at h
          omega
      split at h
      · rename_i hp
        have := pre_len hp
        simp only [List.length_cons, List.length_nil] at this
        exact one (fun k => remN_pos n _ _ k) (by simp only [List.length_drop]; omega) (by omega) h
      · split at h
        · rename_i hp
          have := pre_len hp
          simp only [List.length_cons, List.length_nil] at this
          split at h
          · cases h
            omega
          · exact one (fun k => remN_pos n _ _ k) (by simp only [List.length_drop]; omega) (by omega) h
        · exact one (fun k => remN_pos n _ _ k) (by simp only [List.length_drop]; omega) (by omega) h
theorem rem_pos {r : List UInt8} {k : Nat} (h : remL r = some k) : 1 ≤ k ∧ k ≤ r.length := remN_pos _ _ _ _ h
theorem quoL_len {q : UInt8} : ∀ {r : List UInt8} {x : List UInt8 × Nat}, quoL q r = some x → x.2 ≤ r.length
  | [], x, h => by cases h
  | [c], x, h => by
    unfold quoL at h
    split at h
    · cases h; exact Nat.le_refl _
    · cases h
  | c :: c2 :: r, x, h => by
    unfold quoL at h
    split at h
    · split at h
      · cases hq : quoL q r with
        | none => rw [hq] at h; cases h
        | some y =>
          have := quoL_len hq
          rw [hq] at h
          cases h
          simp only [List.length_cons]
          omega
      · cases h
        simp
    · cases hq : quoL q (c2 :: r) with
      | none => rw [hq] at h; cases h
      | some y =>
        have := quoL_len hq
        rw [hq] at h
        cases h
        simp only [List.length_cons] at this ⊢
        omega
theorem dolL_len {t : List UInt8} : ∀ {r : List UInt8} {x : List UInt8 × Nat}, dolL t r = some x → x.2 ≤ r.length
  | [], x, h => by cases h
  | c :: r, x, h => by
    unfold dolL at h
    split at h
    · rename_i hp
      cases h
      exact pre_len hp
    · cases hq : dolL t r with
      | none => rw [hq] at h; cases h
      | some y =>
        have := dolL_len hq
        rw [hq] at h
        cases h
        simp only [List.length_cons]
        omega
/-- A token is as long as it says; its text is not longer than what is left. -/
theorem one_len {r : List UInt8} (h1 : 1 ≤ r.length) : (oneL r).2.2 = -1 ∨ (0 ≤ (oneL r).2.2 ∧ (oneL r).2.2 ≤ r.length) := by
  have quo : ∀ (k : Int) (n : Nat) (o : Option (List UInt8 × Nat)) (m : Nat), n + m ≤ r.length → (∀ x, o = some x → x.2 ≤ m) → (quo1 k (addQ [] n o)).2.2 = -1 ∨ (0 ≤ (quo1 k (addQ [] n o)).2.2 ∧ (quo1 k (addQ [] n o)).2.2 ≤ r.length) := by
    intro k n o m hm ho
    cases o with
    | none => exact .inl rfl
    | some x =>
      have := ho x rfl
      refine .inr ⟨?_, ?_⟩ <;> simp only [addQ, Option.map_some, quo1] <;> omega
  unfold oneL
  split
  · have := runL_le wordB r
    right; constructor <;> simp only <;> omega
  · split
    · have := runL_le numB r
      right; constructor <;> simp only <;> omega
    · split
      · exact quo _ _ _ (r.length - 1) (by omega) fun x hx => by have := quoL_len hx; simpa using this
      · split
        · exact quo _ _ _ (r.length - 1) (by omega) fun x hx => by have := quoL_len hx; simpa using this
        · split
          · rename_i n hn
            have : n ≤ r.length := by
              split at hn
              · exact (tagL_le hn).2
              · cases hn
            exact quo _ _ _ (r.length - n) (by omega) fun x hx => by have := dolL_len hx; simpa using this
          · have := signL_le r h1
            right; constructor <;> simp only <;> omega
theorem scan_fuel : ∀ (n m : Nat) (r : List UInt8) (a : Nat) (out : List Tok), r.length ≤ n → r.length ≤ m → scanN n r a out = scanN m r a out
  | 0, 0, r, a, out, _, _ => rfl
  | 0, m + 1, r, a, out, h1, _ => by
    unfold scanN
    rw [if_pos (by omega)]
  | n + 1, 0, r, a, out, _, h2 => by
    unfold scanN
    rw [if_pos (by omega)]
  | n + 1, m + 1, r, a, out, h1, h2 => by
    unfold scanN
    by_cases h0 : r.length = 0
    · rw [if_pos h0, if_pos h0]
    · rw [if_neg h0, if_neg h0]
      have go : ∀ k a out, 1 ≤ k → scanN n (r.drop k) a out = scanN m (r.drop k) a out := fun k a out hk => scan_fuel n m _ a out (by simp only [List.length_drop]; omega) (by simp only [List.length_drop]; omega)
      split
      · exact go 1 _ _ (Nat.le_refl _)
      · split
        · rename_i hp
          exact go _ _ _ (run_pos hp)
        · split
          · cases hk : remL r with
            | none => rfl
            | some k => exact go _ _ _ (rem_pos hk).1
          · split
            · rfl
            · split
              · rfl
              · rename_i hm hz
                have := one_len (r := r) (by omega)
                exact go _ _ _ (by omega)
theorem scan_eq {r : List UInt8} {n a : Nat} {out : List Tok} (h : r.length ≤ n) : scanN n r a out = scanF r a out := scan_fuel _ _ _ _ _ h (Nat.le_refl _)
/-- One round. -/
theorem scanF_eq (r : List UInt8) (a : Nat) (out : List Tok) : scanF r a out =
    if r.length = 0 then (out, 0, 0) else
    if spaceB (byteAt r 0) then scanF (r.drop 1) (a + 1) out else
    if [45, 45].isPrefixOf r then scanF (r.drop (runL notLf r)) (a + runL notLf r) out else
    if [47, 42].isPrefixOf r then (match remL r with
      | some k => scanF (r.drop k) (a + k) out
      | none => ([], 6, a)) else
    if (oneL r).2.2 = -1 then ([], 6, a) else
    if (oneL r).2.2 = 0 then ([], 7, a) else
    scanF (r.drop (oneL r).2.2.toNat) (a + (oneL r).2.2.toNat) (out ++ [⟨(oneL r).1, (oneL r).2.1, a⟩]) := by
  rw [← scan_eq (n := r.length + 1) (Nat.le_succ _), scanN]
  by_cases h0 : r.length = 0
  · rw [if_pos h0, if_pos h0]
  · rw [if_neg h0, if_neg h0]
    have go : ∀ k a out, scanN r.length (r.drop k) a out = scanF (r.drop k) a out := fun k a out => scan_eq (by simp only [List.length_drop]; omega)
    simp only [go]
theorem tok_pos (H : AHeap) (t : Tok) (p : Int) : astore Try.prog 3 (.ptr H.length 0 2) (.int .i64 p) (H ++ [.arr 40 true 0 [[.int .i64 t.kind, .str t.text, .int .i64 t.pos]]]) = some (H ++ [.arr 40 true 0 [[.int .i64 t.kind, .str t.text, .int .i64 p]]]) := by
  have e : (H ++ [AO.arr 40 true 0 [[.int .i64 t.kind, .str t.text, .int .i64 t.pos]]])[H.length]? = some (.arr 40 true 0 [[.int .i64 t.kind, .str t.text, .int .i64 t.pos]]) := by simp
  unfold astore
  simp only [e]
  have e2 : ([[AV.int .i64 t.kind, .str t.text, .int .i64 t.pos]] : List (List AV))[0]? = some [.int .i64 t.kind, .str t.text, .int .i64 t.pos] := rfl
  simp only [e2]
  rw [if_pos ⟨Nat.le_refl _, szOf_3, rfl, Nat.le_of_ble_eq_true rfl⟩]
  simp [AV.cells]
def scanR (x : List Tok × Int × Nat) : AV := .tup [.sl (toks x.1), .int .i64 x.2.1, .int .i64 (x.2.2 : Int)]
theorem frz_scan {H : AHeap} {v : AV} {l : List Tok} (ho : Own 40 H v (toks l)) (e p : Int) : frz depth H (.tup [v, .int .i64 e, .int .i64 p]) = some (.tup [.sl (toks l), .int .i64 e, .int .i64 p]) := by
  have hf : frz 7 H v = some (.sl (toks l)) := by
    rcases ho with ⟨rfl, h⟩ | ⟨id, rfl, h⟩
    · rw [h]; rfl
    · simp only [frz]
      rw [h]
      simp only
      rw [if_pos (by omega)]
      simp only [List.drop_zero, List.take_length]
      rw [frz_toks H l 5]
      rfl
  simp only [depth, frz, mapO, hf, Option.map_some]
theorem p_scan (s : List UInt8) (hs : s.length ≤ 10000000) : PV 37 [.str s] = some (scanR (scanL s)) := by
  refine PV_start k37 rfl (Nat.le_of_ble_eq_true rfl) ?_
  unfold scanL
  by_cases hb : 2000 < s.length
  · have hd : ((2000 : Int) < (s.length : Int)) := by omega
    rw [if_pos hb]
    simp only [go_sem, bx, K37, hd]
    rfl
  · have hd : ¬ ((2000 : Int) < (s.length : Int)) := by omega
    rw [if_neg hb]
    simp only [go_sem, bx, K37, hd]
    generalize hR : scanF s 0 [] = R
    refine C_while (fun n st H => ∃ (i : Nat) (out : List Tok), n = s.length - i ∧ out.length ≤ i ∧ i ≤ s.length ∧ scanF (s.drop i) i out = R ∧ st 0 = .str s ∧ st 6 = .int .i64 (i : Int) ∧ Own 40 H (st 5) (toks out)) ?_ s.length _ _
      ⟨0, [], rfl, Nat.zero_le _, Nat.zero_le _, hR, by simp only [go_sem, bx], by simp only [go_sem, bx]; rfl, .inl ⟨by simp only [go_sem, bx], rfl⟩⟩
    clear hR hd
    rintro n st H ⟨i, out, rfl, hol, hi, hR, s0, s6, ho⟩
    generalize hv : st 5 = v at ho
    by_cases hlt : i < s.length
    · have hd : ((i : Int) < (s.length : Int)) := by omega
      have ii := idx9 hlt
      have hsl := slice_from s i (by omega) H
      have hrl : (s.drop i).length = s.length - i := List.length_drop
      have hb0 : byteAt s i = byteAt (s.drop i) 0 := (byteAt_drop s i 0).symm
      rw [hb0] at ii
      have wk : ∀ k : Nat, k ≤ s.length - i → IntKind.i64.wrap ((i : Int) + (k : Int)) = ((i + k : Nat) : Int) := fun k hk => by rw [wrap_ok] <;> omega
      have next : ∀ (k : Nat) (out' : List Tok) (H' : AHeap) (v' : AV), 1 ≤ k → k ≤ s.length - i → out'.length ≤ i + k → scanF ((s.drop i).drop k) (i + k) out' = R → Own 40 H' v' (toks out') → ∃ m, m < s.length - i ∧ ∃ (j : Nat) (o : List Tok), m = s.length - j ∧ o.length ≤ j ∧ j ≤ s.length ∧ scanF (s.drop j) j o = R ∧ AV.int IntKind.i64 ((i + k : Nat) : Int) = AV.int IntKind.i64 (j : Int) ∧ Own 40 H' v' (toks o) :=
        fun k out' H' v' h1 h2 h3 h4 h5 => ⟨s.length - (i + k), by omega, i + k, out', rfl, h3, by omega, by rw [List.drop_drop] at h4; exact h4, rfl, h5⟩
      rw [scanF_eq, if_neg (by omega)] at hR
      have e32 := u8_lit (byteAt (s.drop i) 0) 32 (by decide)
      have e9 := u8_lit (byteAt (s.drop i) 0) 9 (by decide)
      have e10 := u8_lit (byteAt (s.drop i) 0) 10 (by decide)
      have e12 := u8_lit (byteAt (s.drop i) 0) 12 (by decide)
      have e13 := u8_lit (byteAt (s.drop i) 0) 13 (by decide)
      simp only [Int.cast_ofNat_Int] at e32 e9 e10 e12 e13
      have w1 := wk 1 (by omega)
      simp only [Int.cast_ofNat_Int] at w1
      have hbg := fun h => p_begins (s.drop i) h
      have hrun := p_run (g := 63) (q := notLf) rfl p_notLf (s.drop i) (by omega)
      have hrle := runL_le notLf (s.drop i)
      have wr := wk (runL notLf (s.drop i)) (by omega)
      have hrem := p_remark (s.drop i) (by omega)
      have hone := p_one (s.drop i) (by omega) (by omega)
      have hol2 := one_len (r := s.drop i) (by omega)
      generalize hr : s.drop i = r at *
      cases c32 : (byteAt r 0 == UInt8.ofNat 32)
      rotate_left
      · have hsp : spaceB (byteAt r 0) = true := by
          have e : (byteAt r 0 == 32) = true := c32
          unfold spaceB
          simp only [e, Bool.or_true, Bool.true_or]
        rw [hsp, if_pos rfl] at hR
        simp only [go_sem, bx, L37_0, s0, s6, hv, hd, hsl, ii, e32, c32, w1]
        exact next 1 out _ _ (Nat.le_refl _) (by omega) (by omega) hR ho
      cases c9 : (byteAt r 0 == UInt8.ofNat 9)
      rotate_left
      · have hsp : spaceB (byteAt r 0) = true := by
          have e : (byteAt r 0 == 9) = true := c9
          unfold spaceB
          simp only [e, Bool.or_true, Bool.true_or]
        rw [hsp, if_pos rfl] at hR
        simp only [go_sem, bx, L37_0, s0, s6, hv, hd, hsl, ii, e32, c32, e9, c9, w1]
        exact next 1 out _ _ (Nat.le_refl _) (by omega) (by omega) hR ho
      cases c10 : (byteAt r 0 == UInt8.ofNat 10)
      rotate_left
      · have hsp : spaceB (byteAt r 0) = true := by
          have e : (byteAt r 0 == 10) = true := c10
          unfold spaceB
          simp only [e, Bool.or_true, Bool.true_or]
        rw [hsp, if_pos rfl] at hR
        simp only [go_sem, bx, L37_0, s0, s6, hv, hd, hsl, ii, e32, c32, e9, c9, e10, c10, w1]
        exact next 1 out _ _ (Nat.le_refl _) (by omega) (by omega) hR ho
      cases c12 : (byteAt r 0 == UInt8.ofNat 12)
      rotate_left
      · have hsp : spaceB (byteAt r 0) = true := by
          have e : (byteAt r 0 == 12) = true := c12
          unfold spaceB
          simp only [e, Bool.or_true, Bool.true_or]
        rw [hsp, if_pos rfl] at hR
        simp only [go_sem, bx, L37_0, s0, s6, hv, hd, hsl, ii, e32, c32, e9, c9, e10, c10, e12, c12, w1]
        exact next 1 out _ _ (Nat.le_refl _) (by omega) (by omega) hR ho
      cases c13 : (byteAt r 0 == UInt8.ofNat 13)
      rotate_left
      · have hsp : spaceB (byteAt r 0) = true := by
          have e : (byteAt r 0 == 13) = true := c13
          unfold spaceB
          simp only [e, Bool.or_true, Bool.true_or]
        rw [hsp, if_pos rfl] at hR
        simp only [go_sem, bx, L37_0, s0, s6, hv, hd, hsl, ii, e32, c32, e9, c9, e10, c10, e12, c12, e13, c13, w1]
        exact next 1 out _ _ (Nat.le_refl _) (by omega) (by omega) hR ho
      have hsp : spaceB (byteAt r 0) = false := by
        have d32 : (byteAt r 0 == 32) = false := c32
        have d9 : (byteAt r 0 == 9) = false := c9
        have d10 : (byteAt r 0 == 10) = false := c10
        have d12 : (byteAt r 0 == 12) = false := c12
        have d13 : (byteAt r 0 == 13) = false := c13
        unfold spaceB
        rw [d32, d9, d10, d12, d13]
        rfl
      rw [hsp, if_neg (by simp)] at hR
      cases b1 : [45, 45].isPrefixOf r
      rotate_left
      · rw [b1, if_pos rfl] at hR
        simp only [go_sem, bx, L37_0, s0, s6, hv, hd, hsl, ii, e32, c32, e9, c9, e10, c10, e12, c12, e13, c13, call_pure pure_61, hbg, b1, call_pure pure_62, hrun, wr]
        exact next _ out _ _ (run_pos b1) (by omega) (by omega) hR ho
      rw [b1, if_neg (by simp)] at hR
      cases b2 : [47, 42].isPrefixOf r
      rotate_left
      · rw [b2, if_pos rfl] at hR
        cases hk : remL r with
        | none =>
          rw [hk] at hR hrem
          simp only [optI] at hrem
          simp only at hR
          have hm : decide ((-1 : Int) = -1) = true := rfl
          rw [← hR]
          simp only [go_sem, bx, L37_0, s0, s6, hv, hd, hsl, ii, e32, c32, e9, c9, e10, c10, e12, c12, e13, c13, call_pure pure_61, hbg, b1, b2, call_pure pure_64, hrem, hm]
          rfl
        | some k =>
          obtain ⟨k1, k2⟩ := rem_pos hk
          rw [hk] at hR hrem
          simp only [optI] at hrem
          simp only at hR
          have hm : decide ((k : Int) = -1) = false := decide_eq_false (by omega)
          have wk' := wk k (by omega)
          simp only [go_sem, bx, L37_0, s0, s6, hv, hd, hsl, ii, e32, c32, e9, c9, e10, c10, e12, c12, e13, c13, call_pure pure_61, hbg, b1, b2, call_pure pure_64, hrem, hm, wk']
          exact next k out _ _ k1 (by omega) (by omega) hR ho
      rw [b2, if_neg (by simp)] at hR
      generalize oneL r = x at *
      obtain ⟨kd, tx, n⟩ := x
      simp only at hR hone hol2
      have hput := tok_put H ⟨kd, tx, 0⟩
      have hpos := tok_pos H ⟨kd, tx, 0⟩ (i : Int)
      have hgot := tok_got H ⟨kd, tx, 0⟩
      have hgot2 := tok_got H ⟨kd, tx, (i : Int)⟩
      obtain ⟨v1, H1, e1, o1, -⟩ := append_tok ⟨kd, tx, (i : Int)⟩ (ho.lt (.arr 40 true 0 [tok ⟨kd, tx, (i : Int)⟩])) (by omega)
      have hbs := bs_tok1 ⟨kd, tx, (i : Int)⟩ (H ++ [.arr 40 true 0 [tok ⟨kd, tx, (i : Int)⟩]])
      simp only [tok] at hput hpos hgot hgot2 e1 hbs
      by_cases hm : n = -1
      · rw [if_pos hm] at hR
        rw [← hR]
        simp only [go_sem, bx, L37_0, s0, s6, hv, hd, hsl, ii, e32, c32, e9, c9, e10, c10, e12, c12, e13, c13, call_pure pure_61, hbg, b1, b2, call_pure pure_65, hone, PC_still, hput, decide_eq_true hm]
        rfl
      · rw [if_neg hm] at hR
        by_cases hz : n = 0
        · rw [if_pos hz] at hR
          rw [← hR]
          simp only [go_sem, bx, L37_0, s0, s6, hv, hd, hsl, ii, e32, c32, e9, c9, e10, c10, e12, c12, e13, c13, call_pure pure_61, hbg, b1, b2, call_pure pure_65, hone, PC_still, hput, decide_eq_false hm, decide_eq_true hz]
          rfl
        · rw [if_neg hz] at hR
          obtain ⟨k, rfl⟩ := Int.eq_ofNat_of_zero_le (by omega : 0 ≤ n)
          rw [Int.toNat_natCast] at hR
          have wk' := wk k (by omega)
          simp only [go_sem, bx, L37_0, s0, s6, hv, hd, hsl, ii, e32, c32, e9, c9, e10, c10, e12, c12, e13, c13, call_pure pure_61, hbg, b1, b2, call_pure pure_65, hone, PC_still, hput, decide_eq_false hm, decide_eq_false hz, hgot, hpos, hgot2, Nat.le_refl, hbs, bi_append, e1, wk']
          exact next k (out ++ [⟨kd, tx, (i : Int)⟩]) _ _ (by omega) (by omega) (by simp only [List.length_append, List.length_cons, List.length_nil]; omega) hR o1
    · have hd : ¬ ((i : Int) < (s.length : Int)) := by omega
      rw [scanF_eq, if_pos (by simp only [List.length_drop]; omega)] at hR
      rw [← hR]
      simp only [go_sem, bx, L37_0, s0, s6, hv, hd]
      exact frz_scan ho 0 0
end Go.Proofs
/- The sets' layer: the reference's cut of a text into tokens. -/

set_option linter.unusedSimpArgs false
set_option linter.unusedVariables false
namespace Go.Proofs
open Go.Vam
def addG (k : Nat) (x : Nat × Bool) : Nat × Bool := (x.1 + k, x.2)
def gapN : Nat → List UInt8 → Nat × Bool
  | 0, _ => (0, false)
  | n + 1, r =>
    if r.length = 0 then (0, false) else
    if spaceB (byteAt r 0) then addG 1 (gapN n (r.drop 1)) else
    if [45, 45].isPrefixOf r then addG (runL notLf r) (gapN n (r.drop (runL notLf r))) else
    if [47, 42].isPrefixOf r then (match remL r with
      | some k => addG k (gapN n (r.drop k))
      | none => (0, true)) else (0, false)
def gapF (r : List UInt8) : Nat × Bool := gapN r.length r
theorem gap_fuel : ∀ (n m : Nat) (r : List UInt8), r.length ≤ n → r.length ≤ m → gapN n r = gapN m r
  | 0, 0, r, _, _ => rfl
  | 0, m + 1, r, h1, _ => by
    unfold gapN
    rw [if_pos (by omega)]
  | n + 1, 0, r, _, h2 => by
    unfold gapN
    rw [if_pos (by omega)]
  | n + 1, m + 1, r, h1, h2 => by
    unfold gapN
    by_cases h0 : r.length = 0
    · rw [if_pos h0, if_pos h0]
    · rw [if_neg h0, if_neg h0]
      have go : ∀ k, 1 ≤ k → gapN n (r.drop k) = gapN m (r.drop k) := fun k hk => gap_fuel n m _ (by simp only [List.length_drop]; omega) (by simp only [List.length_drop]; omega)
      split
      · rw [go 1 (Nat.le_refl _)]
      · split
        · rename_i hp
          rw [go _ (run_pos hp)]
        · split
          · cases hk : remL r with
            | none => rfl
            | some k => simp only [go _ (rem_pos hk).1]
          · rfl
theorem gapF_eq (r : List UInt8) : gapF r =
    if r.length = 0 then (0, false) else
    if spaceB (byteAt r 0) then addG 1 (gapF (r.drop 1)) else
    if [45, 45].isPrefixOf r then addG (runL notLf r) (gapF (r.drop (runL notLf r))) else
    if [47, 42].isPrefixOf r then (match remL r with
      | some k => addG k (gapF (r.drop k))
      | none => (0, true)) else (0, false) := by
  have h : gapF r = gapN (r.length + 1) r := gap_fuel _ _ _ (Nat.le_refl _) (Nat.le_succ _)
  rw [h, gapN]
  by_cases h0 : r.length = 0
  · rw [if_pos h0, if_pos h0]
  · rw [if_neg h0, if_neg h0]
    have go : ∀ k, gapN r.length (r.drop k) = gapF (r.drop k) := fun k => gap_fuel _ _ _ (by simp only [List.length_drop]; omega) (Nat.le_refl _)
    simp only [go]
/-- Over what is no token, then on. -/
theorem scan_gap : ∀ (n : Nat) (r : List UInt8) (a : Nat) (out : List Tok), r.length ≤ n → (gapF r).1 ≤ r.length ∧
    (if (gapF r).2 then scanF r a out = ([], 6, a + (gapF r).1) else scanF r a out = scanF (r.drop (gapF r).1) (a + (gapF r).1) out ∧ gapF (r.drop (gapF r).1) = (0, false))
  | 0, r, a, out, h => by
    have hr : r = [] := List.length_eq_zero_iff.1 (by omega)
    subst hr
    exact ⟨Nat.le_refl _, rfl, rfl⟩
  | n + 1, r, a, out, h => by
    have hst : ∀ k, 1 ≤ k → k ≤ r.length → gapF r = addG k (gapF (r.drop k)) → scanF r a out = scanF (r.drop k) (a + k) out → (gapF r).1 ≤ r.length ∧
        (if (gapF r).2 then scanF r a out = ([], 6, a + (gapF r).1) else scanF r a out = scanF (r.drop (gapF r).1) (a + (gapF r).1) out ∧ gapF (r.drop (gapF r).1) = (0, false)) := by
      intro k k1 k2 hg hs
      have ih := scan_gap n (r.drop k) (a + k) out (by simp only [List.length_drop]; omega)
      rw [hg, hs]
      generalize gapF (r.drop k) = y at *
      obtain ⟨y1, y2⟩ := y
      simp only [addG, List.length_drop, List.drop_drop] at ih ⊢
      rw [show a + (y1 + k) = a + k + y1 by omega, show y1 + k = k + y1 by omega]
      exact ⟨by omega, ih.2⟩
    have hg := gapF_eq r
    have hs := scanF_eq r a out
    by_cases h0 : r.length = 0
    · have hr : r = [] := List.length_eq_zero_iff.1 h0
      subst hr
      exact ⟨Nat.le_refl _, rfl, rfl⟩
    · rw [if_neg h0] at hg hs
      cases b0 : spaceB (byteAt r 0)
      · rw [b0, if_neg (by simp)] at hg hs
        cases b1 : [45, 45].isPrefixOf r
        · rw [b1, if_neg (by simp)] at hg hs
          cases b2 : [47, 42].isPrefixOf r
          · rw [b2, if_neg (by simp)] at hg
            rw [hg]
            refine ⟨Nat.zero_le _, rfl, ?_⟩
            exact hg
          · rw [b2, if_pos rfl] at hg hs
            cases hk : remL r with
            | none =>
              rw [hk] at hg hs
              simp only at hg hs
              rw [hg, hs]
              exact ⟨Nat.zero_le _, rfl⟩
            | some k =>
              rw [hk] at hg hs
              exact hst k (rem_pos hk).1 (rem_pos hk).2 hg hs
        · rw [b1, if_pos rfl] at hg hs
          exact hst _ (run_pos b1) (runL_le _ _) hg hs
      · rw [b0, if_pos rfl] at hg hs
        exact hst 1 (Nat.le_refl _) (by omega) hg hs
def gapR (x : Nat × Bool) : AV := .tup [.int .i64 (x.1 : Int), .bool x.2]
theorem p_gap (s : List UInt8) (a : Nat) (ha : a ≤ s.length) (hs : s.length ≤ 10000000) : PV 67 [.str s, .int .i64 (a : Int)] = some (gapR (addG a (gapF (s.drop a)))) := by
  refine PV_start k67 rfl (Nat.le_of_ble_eq_true rfl) ?_
  simp only [go_sem, bx, K67]
  generalize hR : addG a (gapF (s.drop a)) = R
  refine C_while (fun n st H => ∃ (i : Nat), n = s.length - i ∧ i ≤ s.length ∧ addG i (gapF (s.drop i)) = R ∧ st 0 = .str s ∧ st 1 = .int .i64 (i : Int)) ?_ (s.length - a) _ _
    ⟨a, rfl, ha, hR, by simp only [go_sem, bx], by simp only [go_sem, bx]⟩
  clear hR
  rintro n st H ⟨i, rfl, hi, hR, s0, s1⟩
  by_cases hlt : i < s.length
  · have hd : ((i : Int) < (s.length : Int)) := by omega
    have ii := idx9 hlt
    have hrl : (s.drop i).length = s.length - i := List.length_drop
    have hb0 : byteAt s i = byteAt (s.drop i) 0 := (byteAt_drop s i 0).symm
    rw [hb0] at ii
    have w1 : IntKind.i64.wrap ((i : Int) + 1) = ((i + 1 : Nat) : Int) := wrap_succ (by simp only [maxL]; omega)
    have adds : ∀ (k : Nat) (y : Nat × Bool), addG i (addG k y) = addG (i + k) y := fun k y => by
      unfold addG
      simp only [Prod.mk.injEq, and_true]
      omega
    have next : ∀ (k : Nat), 1 ≤ k → k ≤ s.length - i → addG (i + k) (gapF ((s.drop i).drop k)) = R → ∃ m, m < s.length - i ∧ ∃ j, m = s.length - j ∧ j ≤ s.length ∧ addG j (gapF (s.drop j)) = R ∧ AV.int IntKind.i64 ((i + k : Nat) : Int) = AV.int IntKind.i64 (j : Int) :=
      fun k h1 h2 h4 => ⟨s.length - (i + k), by omega, i + k, rfl, by omega, by rw [List.drop_drop] at h4; exact h4, rfl⟩
    rw [gapF_eq, if_neg (by omega)] at hR
    have e32 := u8_lit (byteAt (s.drop i) 0) 32 (by decide)
    have e9 := u8_lit (byteAt (s.drop i) 0) 9 (by decide)
    have e10 := u8_lit (byteAt (s.drop i) 0) 10 (by decide)
    have e12 := u8_lit (byteAt (s.drop i) 0) 12 (by decide)
    have e13 := u8_lit (byteAt (s.drop i) 0) 13 (by decide)
    simp only [Int.cast_ofNat_Int] at e32 e9 e10 e12 e13
    have hst1 := p_starts s [45, 45] i (by omega) (by omega) (by decide)
    have hst2 := p_starts s [47, 42] i (by omega) (by omega) (by decide)
    have hrem := p_remark4 s i (by omega) (by omega)
    have hrle := runL_le notLf (s.drop i)
    have hbd : ∀ j, byteAt s (i + j) = byteAt (s.drop i) j := fun j => (byteAt_drop s i j).symm
    generalize hr : s.drop i = r at *
    cases c32 : (byteAt r 0 == UInt8.ofNat 32)
    rotate_left
    · have hsp : spaceB (byteAt r 0) = true := by
        have e : (byteAt r 0 == 32) = true := c32
        unfold spaceB
        simp only [e, Bool.or_true, Bool.true_or]
      rw [hsp, if_pos rfl] at hR
      simp only [go_sem, bx, L67_0, s0, s1, hd, ii, e32, c32, w1]
      exact next 1 (Nat.le_refl _) (by omega) (by rw [← adds]; exact hR)
    cases c9 : (byteAt r 0 == UInt8.ofNat 9)
    rotate_left
    · have hsp : spaceB (byteAt r 0) = true := by
        have e : (byteAt r 0 == 9) = true := c9
        unfold spaceB
        simp only [e, Bool.or_true, Bool.true_or]
      rw [hsp, if_pos rfl] at hR
      simp only [go_sem, bx, L67_0, s0, s1, hd, ii, e32, c32, e9, c9, w1]
      exact next 1 (Nat.le_refl _) (by omega) (by rw [← adds]; exact hR)
    cases c10 : (byteAt r 0 == UInt8.ofNat 10)
    rotate_left
    · have hsp : spaceB (byteAt r 0) = true := by
        have e : (byteAt r 0 == 10) = true := c10
        unfold spaceB
        simp only [e, Bool.or_true, Bool.true_or]
      rw [hsp, if_pos rfl] at hR
      simp only [go_sem, bx, L67_0, s0, s1, hd, ii, e32, c32, e9, c9, e10, c10, w1]
      exact next 1 (Nat.le_refl _) (by omega) (by rw [← adds]; exact hR)
    cases c12 : (byteAt r 0 == UInt8.ofNat 12)
    rotate_left
    · have hsp : spaceB (byteAt r 0) = true := by
        have e : (byteAt r 0 == 12) = true := c12
        unfold spaceB
        simp only [e, Bool.or_true, Bool.true_or]
      rw [hsp, if_pos rfl] at hR
      simp only [go_sem, bx, L67_0, s0, s1, hd, ii, e32, c32, e9, c9, e10, c10, e12, c12, w1]
      exact next 1 (Nat.le_refl _) (by omega) (by rw [← adds]; exact hR)
    cases c13 : (byteAt r 0 == UInt8.ofNat 13)
    rotate_left
    · have hsp : spaceB (byteAt r 0) = true := by
        have e : (byteAt r 0 == 13) = true := c13
        unfold spaceB
        simp only [e, Bool.or_true, Bool.true_or]
      rw [hsp, if_pos rfl] at hR
      simp only [go_sem, bx, L67_0, s0, s1, hd, ii, e32, c32, e9, c9, e10, c10, e12, c12, e13, c13, w1]
      exact next 1 (Nat.le_refl _) (by omega) (by rw [← adds]; exact hR)
    have hsp : spaceB (byteAt r 0) = false := by
      have d32 : (byteAt r 0 == 32) = false := c32
      have d9 : (byteAt r 0 == 9) = false := c9
      have d10 : (byteAt r 0 == 10) = false := c10
      have d12 : (byteAt r 0 == 12) = false := c12
      have d13 : (byteAt r 0 == 13) = false := c13
      unfold spaceB
      rw [d32, d9, d10, d12, d13]
      rfl
    rw [hsp, if_neg (by simp)] at hR
    cases b1 : [45, 45].isPrefixOf r
    rotate_left
    · rw [b1, if_pos rfl, adds] at hR
      have hrp := run_pos b1
      simp only [go_sem, bx, L67_0, s0, s1, hd, ii, e32, c32, e9, c9, e10, c10, e12, c12, e13, c13, call_pure pure_94, hst1, b1]
      have fin : ∀ k, runL notLf r = k → ∃ m, m < s.length - i ∧ ∃ j, m = s.length - j ∧ j ≤ s.length ∧ addG j (gapF (s.drop j)) = R ∧ AV.int IntKind.i64 ((i + k : Nat) : Int) = AV.int IntKind.i64 (j : Int) := by
        rintro k rfl
        exact next _ hrp (by omega) hR
      refine C_first (s.length - i) (fun j => !(notLf (byteAt r j))) (fun j st H => st 0 = .str s ∧ st 1 = .int .i64 ((i + j : Nat) : Int)) ⟨by simp only [go_sem, bx, s0], by simp only [go_sem, bx, s1]; rfl⟩ ?_ ?_ ?_
      · rintro j st H hj hp ⟨s0, s1⟩
        have hd : (((i + j : Nat) : Int) < (s.length : Int)) := by omega
        have ij := idx9 (s := s) (i := i + j) (by omega)
        rw [hbd] at ij
        have w1 : IntKind.i64.wrap (((i + j : Nat) : Int) + 1) = ((i + (j + 1) : Nat) : Int) := wrap_succ (by simp only [maxL]; omega)
        have ej := u8_lit (byteAt r j) 10 (by decide)
        simp only [Int.cast_ofNat_Int] at ej
        have c : (byteAt r j == UInt8.ofNat 10) = false := by
          unfold notLf at hp
          simpa using hp
        simp only [go_sem, bx, L67_1, s0, s1, hd, ij, ej, c, w1]
      · rintro j st H hj hno hp ⟨s0, s1⟩
        have hd : (((i + j : Nat) : Int) < (s.length : Int)) := by omega
        have ij := idx9 (s := s) (i := i + j) (by omega)
        rw [hbd] at ij
        have ej := u8_lit (byteAt r j) 10 (by decide)
        simp only [Int.cast_ofNat_Int] at ej
        have c : (byteAt r j == UInt8.ofNat 10) = true := by
          unfold notLf at hp
          simpa using hp
        have hrun : runL notLf r = j := runL_at (fun i hi => by simpa only [Bool.not_eq_false'] using hno i hi) (.inr ⟨by omega, by simpa only [Bool.not_eq_true'] using hp⟩)
        simp only [go_sem, bx, L67_1, s0, s1, hd, ij, ej, c]
        exact fin j hrun
      · rintro st H hno ⟨s0, s1⟩
        have hd : ¬ (((i + (s.length - i) : Nat) : Int) < (s.length : Int)) := by omega
        have hrun : runL notLf r = s.length - i := runL_at (fun i hi => by simpa only [Bool.not_eq_false'] using hno i hi) (.inl (by omega))
        simp only [go_sem, bx, L67_1, s0, s1, hd]
        exact fin _ hrun
    rw [b1, if_neg (by simp)] at hR
    cases b2 : [47, 42].isPrefixOf r
    rotate_left
    · rw [b2, if_pos rfl] at hR
      cases hk : remL r with
      | none =>
        rw [hk] at hR hrem
        simp only [Option.map_none, optI] at hrem
        simp only at hR
        have hm : ((-1 : Int) < 0) := by omega
        rw [← hR]
        simp only [go_sem, bx, L67_0, s0, s1, hd, ii, e32, c32, e9, c9, e10, c10, e12, c12, e13, c13, call_pure pure_94, hst1, hst2, b1, b2, call_pure pure_95, hrem, hm]
        simp [gapR, addG, depth, frz, mapO]
      | some k =>
        obtain ⟨k1, k2⟩ := rem_pos hk
        rw [hk] at hR hrem
        simp only [Option.map_some, optI] at hrem
        simp only at hR
        rw [adds] at hR
        have hm : ¬ (((k + i : Nat) : Int) < 0) := by omega
        simp only [go_sem, bx, L67_0, s0, s1, hd, ii, e32, c32, e9, c9, e10, c10, e12, c12, e13, c13, call_pure pure_94, hst1, hst2, b1, b2, call_pure pure_95, hrem, hm]
        rw [Nat.add_comm k i]
        exact next k k1 (by omega) hR
    rw [b2, if_neg (by simp)] at hR
    rw [← hR]
    simp only [go_sem, bx, L67_0, s0, s1, hd, ii, e32, c32, e9, c9, e10, c10, e12, c12, e13, c13, call_pure pure_94, hst1, hst2, b1, b2]
    simp [gapR, addG, depth, frz, mapO]
  · have hd : ¬ ((i : Int) < (s.length : Int)) := by omega
    rw [gapF_eq, if_pos (by simp only [List.length_drop]; omega)] at hR
    rw [← hR]
    simp only [go_sem, bx, L67_0, s0, s1, hd]
    simp [gapR, addG, depth, frz, mapO]
end Go.Proofs
/- The sets' layer: the reference's Scan. -/

set_option linter.unusedSimpArgs false
set_option linter.unusedVariables false
namespace Go.Proofs
open Go.Vam
theorem gap_token {r : List UInt8} (h : gapF r = (0, false)) (h0 : r.length ≠ 0) (a : Nat) (out : List Tok) : scanF r a out =
    if (oneL r).2.2 = -1 then ([], 6, a) else
    if (oneL r).2.2 = 0 then ([], 7, a) else
    scanF (r.drop (oneL r).2.2.toNat) (a + (oneL r).2.2.toNat) (out ++ [⟨(oneL r).1, (oneL r).2.1, a⟩]) := by
  rw [gapF_eq, if_neg h0] at h
  rw [scanF_eq, if_neg h0]
  have no : ∀ k y, 1 ≤ k → addG k y = (0, false) → False := fun k y hk he => by
    unfold addG at he
    simp only [Prod.mk.injEq] at he
    omega
  cases b0 : spaceB (byteAt r 0)
  · rw [b0, if_neg (by simp)] at h
    rw [if_neg (by simp)]
    cases b1 : [45, 45].isPrefixOf r
    · rw [b1, if_neg (by simp)] at h
      rw [if_neg (by simp)]
      cases b2 : [47, 42].isPrefixOf r
      · rw [if_neg (by simp)]
      · rw [b2, if_pos rfl] at h
        cases hk : remL r with
        | none => rw [hk] at h; cases h
        | some k => rw [hk] at h; exact (no _ _ (rem_pos hk).1 h).elim
    · rw [b1, if_pos rfl] at h
      exact (no _ _ (run_pos b1) h).elim
  · rw [b0, if_pos rfl] at h
    exact (no _ _ (Nat.le_refl _) h).elim
theorem p_scan4 (s : List UInt8) (hs : s.length ≤ 10000000) : PV 39 [.str s] = some (scanR (scanL s)) := by
  refine PV_start k39 rfl (Nat.le_of_ble_eq_true rfl) ?_
  unfold scanL
  by_cases hb : 2000 < s.length
  · have hd : ((2000 : Int) < (s.length : Int)) := by omega
    rw [if_pos hb]
    simp only [go_sem, bx, K39, hd]
    rfl
  · have hd : ¬ ((2000 : Int) < (s.length : Int)) := by omega
    rw [if_neg hb]
    have hg := p_gap s 0 (Nat.zero_le _) hs
    have hsg := scan_gap s.length s 0 [] (Nat.le_refl _)
    simp only [List.drop_zero, Int.cast_ofNat_Int, Nat.zero_add] at hg hsg
    unfold gapR addG at hg
    simp only [Nat.add_zero] at hg
    simp only [go_sem, bx, K39, hd, call_pure pure_67, hg]
    generalize hR : scanF s 0 [] = R at *
    generalize gapF s = g at *
    obtain ⟨g1, g2⟩ := g
    simp only at hsg
    refine C_while (fun n st H => ∃ (i : Nat) (bad : Bool) (out : List Tok), n = s.length - i ∧ out.length ≤ i ∧ i ≤ s.length ∧ (if bad then R = ([], 6, i) else R = scanF (s.drop i) i out ∧ gapF (s.drop i) = (0, false)) ∧ st 0 = .str s ∧ st 6 = .int .i64 (i : Int) ∧ st 7 = .bool bad ∧ Own 40 H (st 5) (toks out)) ?_ (s.length - g1) _ _
      ⟨g1, g2, [], rfl, Nat.zero_le _, hsg.1, hsg.2, by simp only [go_sem, bx], by simp only [go_sem, bx], by simp only [go_sem, bx], .inl ⟨by simp only [go_sem, bx], rfl⟩⟩
    clear hR hd hsg hg
    rintro n st H ⟨i, bad, out, rfl, hol, hi, hR, s0, s6, s7, ho⟩
    generalize hv : st 5 = v at ho
    by_cases hlt : i < s.length
    · have hd : ((i : Int) < (s.length : Int)) := by omega
      cases bad
      rotate_left
      · simp only [if_true] at hR
        rw [hR]
        simp only [go_sem, bx, L39_0, s0, s6, s7, hv, hd]
        rfl
      simp only [Bool.false_eq_true, if_false] at hR
      obtain ⟨hR, hgp⟩ := hR
      have hrl : (s.drop i).length = s.length - i := List.length_drop
      rw [gap_token hgp (by omega)] at hR
      have hone := p_one4 s i hlt hs
      have hol2 := one_len (r := s.drop i) (by omega)
      generalize oneL (s.drop i) = x at *
      obtain ⟨kd, tx, n⟩ := x
      simp only at hR hol2
      unfold one4 at hone
      by_cases hm : n = -1
      · rw [if_pos hm] at hR hone
        rw [hR]
        have hput := tok_put H ⟨0, [], 0⟩
        simp only [tok] at hput
        unfold zeroTok at hone
        simp only [go_sem, bx, L39_0, s0, s6, s7, hv, hd, call_pure pure_68, hone, PC_still, hput]
        rfl
      · rw [if_neg hm] at hR hone
        by_cases hz : n = 0
        · rw [if_pos hz] at hR hone
          rw [hR]
          have hput := tok_put H ⟨0, [], 0⟩
          simp only [tok] at hput
          unfold zeroTok at hone
          simp only [go_sem, bx, L39_0, s0, s6, s7, hv, hd, call_pure pure_68, hone, PC_still, hput]
          rfl
        · rw [if_neg hz] at hR hone
          obtain ⟨k, rfl⟩ := Int.eq_ofNat_of_zero_le (by omega : 0 ≤ n)
          rw [Int.toNat_natCast] at hR
          simp only [← Int.natCast_add] at hone
          have hput := tok_put H ⟨kd, tx, (i : Int)⟩
          have hgot := tok_got H ⟨kd, tx, (i : Int)⟩
          obtain ⟨v1, H1, e1, o1, -⟩ := append_tok ⟨kd, tx, (i : Int)⟩ (ho.lt (.arr 40 true 0 [tok ⟨kd, tx, (i : Int)⟩])) (by omega)
          have hbs := bs_tok1 ⟨kd, tx, (i : Int)⟩ (H ++ [.arr 40 true 0 [tok ⟨kd, tx, (i : Int)⟩]])
          simp only [tok] at hput hgot e1 hbs
          have hg := p_gap s (i + k) (by omega) hs
          have hsg := scan_gap (s.drop (i + k)).length (s.drop (i + k)) (i + k) (out ++ [⟨kd, tx, (i : Int)⟩]) (Nat.le_refl _)
          rw [List.drop_drop] at hR
          unfold gapR addG at hg
          rw [← hR] at hsg
          simp only [List.drop_drop, List.length_drop] at hsg
          generalize gapF (s.drop (i + k)) = g at *
          obtain ⟨g1, g2⟩ := g
          simp only at hsg hg
          simp only [go_sem, bx, L39_0, s0, s6, s7, hv, hd, call_pure pure_68, hone, PC_still, hput, hgot, Nat.le_refl, hbs, bi_append, e1, call_pure pure_67, hg]
          rw [Nat.add_comm g1 (i + k)]
          exact ⟨s.length - (i + k + g1), by omega, i + k + g1, g2, out ++ [⟨kd, tx, (i : Int)⟩], rfl, by simp only [List.length_append, List.length_cons, List.length_nil]; omega, by omega, hsg.2, rfl, rfl, o1⟩
    · have hd : ¬ ((i : Int) < (s.length : Int)) := by omega
      cases bad
      · simp only [Bool.false_eq_true, if_false] at hR
        obtain ⟨hR, _⟩ := hR
        rw [scanF_eq, if_pos (by simp only [List.length_drop]; omega)] at hR
        rw [hR]
        simp only [go_sem, bx, L39_0, s0, s6, s7, hv, hd]
        exact frz_scan ho 0 0
      · simp only [if_true] at hR
        rw [hR]
        simp only [go_sem, bx, L39_0, s0, s6, s7, hv, hd]
        rfl
end Go.Proofs
/- The sets' layer: tokens, split into statements. -/

set_option linter.unusedSimpArgs false
set_option linter.unusedVariables false
namespace Go.Proofs
open Go.Vam
/-- APPENDING ONE ELEMENT, and where it then lies. -/
theorem append_oneF {t e : TypeId} {by_ m : Nat} {z : List AV} (hT : sliceT Try.prog t = some e) (hb : bytesT Try.prog e = some by_) (hz : szOf Try.prog e = some (m + 1)) (hzt : zeroT Try.prog e = some z) (hby : by_ ≤ 1000) {H : AHeap} {v : AV} {es : List (List AV)} {c : List AV}
    (ho : Own e H v es) (hl : es.length < 100000000) (hc : c.length = m + 1) (hcell : c.all AV.isCell = true) :
    ∃ H', aappend Try.prog t t v (.hs H.length 0 1) (H ++ [.arr e true 0 [c]]) = some (.hs (H.length + 1) 0 (es.length + 1), H') ∧ H'[H.length + 1]? = some (.arr e true 0 (es ++ [c])) ∧ KeepBut v H H' := by
  have hsrc : asrc (.hs H.length 0 1) (H ++ [.arr e true 0 [c]]) = some [c] := by
    simp [asrc, aelems]
  have hni := notInt_of_slice hT
  have hm1 : 1 * by_ ≤ 140737488355328 := by omega
  have hm2 : (es.length + 1) * by_ ≤ 140737488355328 := by
    have : (es.length + 1) * by_ ≤ 100000000 * 1000 := Nat.mul_le_mul (by omega) hby
    omega
  have hlen : (H ++ [AO.arr e true 0 [c]]).length = H.length + 1 := by simp
  rcases ho with ⟨rfl, rfl⟩ | ⟨id, rfl, h⟩
  · refine ⟨(H ++ [.arr e true 0 [c]]) ++ [.arr e true 0 [c]], ?_, ?_, ?_⟩
    · unfold aappend
      rw [hT, hsrc]
      simp only
      rw [hb, hz]
      simp only
      rw [if_pos ⟨fun x hx => by simp at hx; subst hx; exact ⟨by rw [hc], hcell⟩, hni, by rw [hzt]; rfl⟩]
      rw [if_pos ⟨by simp, by simpa using hm1⟩, if_neg (by simp), hlen]
      rfl
    · rw [List.getElem?_append_right (by omega), hlen, Nat.sub_self]
      rfl
    · intro id o h _
      rw [List.append_assoc, List.getElem?_append_left (List.getElem?_eq_some_iff.1 h).1]
      exact h
  · have hlt := (List.getElem?_eq_some_iff.1 h).1
    have h' : (H ++ [.arr e true 0 [c]])[id]? = some (.arr e true 0 es) := by rw [List.getElem?_append_left hlt]; exact h
    refine ⟨(H ++ [AO.arr e true 0 [c]]).set id AO.dead ++ [AO.arr e true 0 (es ++ [c])], ?_, ?_, ?_⟩
    · unfold aappend
      rw [hT, hsrc]
      simp only
      rw [hb, hz]
      simp only
      rw [if_pos ⟨fun x hx => by simp at hx; subst hx; exact ⟨by rw [hc], hcell⟩, hni, by rw [hzt]; rfl⟩, h']
      simp only
      rw [if_pos ⟨trivial, trivial, trivial, trivial, Nat.zero_le _, by simp; omega, by simpa using hm2⟩, if_neg (by simp), hlen]
      simp
    · rw [List.getElem?_append_right (by simp)]
      simp
    · intro id' o h1 h2
      have hne : id' ≠ id := fun q => h2 es.length (by rw [q])
      rw [List.getElem?_append_left (by simp; have := (List.getElem?_eq_some_iff.1 h1).1; omega), List.getElem?_set_ne (Ne.symm hne), List.getElem?_append_left (List.getElem?_eq_some_iff.1 h1).1]
      exact h1
/-! ### lists of lists of tokens, as they are gathered -/
def cells1 (vs : List AV) : List (List AV) := vs.map fun v => [v]
/-- Whole slices of tokens of their own, none of them v. -/
def Elems (H : AHeap) (v : AV) (vs : List AV) (ls : List (List Tok)) : Prop :=
  vs.length = ls.length ∧ ∀ (k : Nat) (u : AV) (l : List Tok), vs[k]? = some u → ls[k]? = some l → ∃ id : Nat, u = AV.hs id 0 l.length ∧ H[id]? = some (AO.arr 40 true 0 (toks l)) ∧ ∀ n, v ≠ AV.hs id 0 n
/-- What is split so far: the statements, and what is gathered. -/
structure Split (H : AHeap) (vo vn : AV) (lo : Nat) (cur : List Tok) (done : List (List Tok)) : Prop where
  now : Own 40 H vn (toks cur)
  out : (vo = .nils ∧ done = []) ∨ ∃ id vs, vo = .hs id 0 done.length ∧ lo ≤ id ∧ H[id]? = some (.arr 22 true 0 (cells1 vs)) ∧ Elems H vn vs done
theorem Own.keep {e : TypeId} {H H' : AHeap} {u v : AV} {es : List (List AV)} (h : Own e H u es) (hk : KeepBut v H H') (ha : ∀ id : Nat, u = AV.hs id 0 es.length → ∀ n, v ≠ AV.hs id 0 n) : Own e H' u es := by
  rcases h with ⟨h1, h2⟩ | ⟨id, h1, h2⟩
  · exact .inl ⟨h1, h2⟩
  · exact .inr ⟨id, h1, hk id _ h2 (ha id h1)⟩
theorem keep_app (H : AHeap) (x : AO) (v : AV) : KeepBut v H (H ++ [x]) := fun id o h _ => by
  rw [List.getElem?_append_left (List.getElem?_eq_some_iff.1 h).1]
  exact h
theorem Split.app {H : AHeap} {vo vn : AV} {lo : Nat} {cur : List Tok} {done : List (List Tok)} (h : Split H vo vn lo cur done) (x : AO) : Split (H ++ [x]) vo vn lo cur done := by
  refine ⟨h.now.lt x, ?_⟩
  have up : ∀ {id : Nat} {o : AO}, H[id]? = some o → (H ++ [x])[id]? = some o := fun h => by rw [List.getElem?_append_left (List.getElem?_eq_some_iff.1 h).1]; exact h
  rcases h.out with h | ⟨id, vs, h1, h2, h3, h4, h5⟩
  · exact .inl h
  · refine .inr ⟨id, vs, h1, h2, up h3, h4, fun k u l hu hl => ?_⟩
    obtain ⟨i, e1, e2, e3⟩ := h5 k u l hu hl
    exact ⟨i, e1, up e2, e3⟩
/-- A token more. -/
theorem Split.tok {H : AHeap} {vo vn : AV} {lo : Nat} {cur : List Tok} {done : List (List Tok)} (h : Split H vo vn lo cur done) (x : Tok) (hl : cur.length < 10000000) :
    ∃ v' H', aappend Try.prog 22 22 vn (.hs H.length 0 1) (H ++ [.arr 40 true 0 [tok x]]) = some (v', H') ∧ Split H' vo v' lo (cur ++ [x]) done ∧ KeepBut vn H H' := by
  obtain ⟨H', h1, h2, h3⟩ := append_oneF (m := 2) sliceT_22 bytesT_40 szOf_40 zeroT_40 (by decide) h.now (by rw [toks_len]; omega) (c := Go.Proofs.tok x) rfl rfl
  rw [toks_len] at h1
  refine ⟨_, H', h1, ⟨.inr ⟨H.length + 1, by simp [toks], by simpa [toks] using h2⟩, ?_⟩, h3⟩
  rcases h.out with h | ⟨id, vs, g1, g2, g3, g4, g5⟩
  · exact .inl h
  · have hne : ∀ n, vn ≠ .hs id 0 n := by
      rcases h.now with ⟨e, _⟩ | ⟨i, e, he⟩
      · rw [e]; simp
      · rw [e]
        intro n hn
        cases hn
        rw [g3] at he
        cases he
    refine .inr ⟨id, vs, g1, g2, h3 id _ g3 hne, g4, fun k u l hu hl => ?_⟩
    obtain ⟨i, e1, e2, e3⟩ := g5 k u l hu hl
    have hi := (List.getElem?_eq_some_iff.1 e2).1
    refine ⟨i, e1, h3 i _ e2 e3, fun n hn => ?_⟩
    cases hn
    omega
theorem bs_sl1 (v : AV) (H : AHeap) (hv : v.cells = [v]) (hc : v.isCell = true) : abuildSlice Try.prog 54 1 [(0, v)] H = some (.hs H.length 0 1, H ++ [.arr 22 true 0 [[v]]]) := by
  have := bs_gen (t := 54) (e := 22) (z := [.nils]) (n := 1) (parts := [(0, v)]) (q := fun x => decide (x.cells.length = 1) && x.cells.all AV.isCell) sliceT_54 zeroT_22 (fun x hx => by
    simp only [Bool.and_eq_true, decide_eq_true_eq] at hx
    exact ⟨hx.1, hx.2⟩) H (by simp) (by simp [isIdx, hv, hc])
  simp only [List.map_cons, List.map_nil, hv] at this
  exact this
/-- A statement more. -/
theorem Split.stmt {H : AHeap} {vo vn : AV} {lo : Nat} {cur : List Tok} {done : List (List Tok)} (h : Split H vo vn lo cur done) (hcur : cur ≠ []) (hlo : lo ≤ H.length) (hl : done.length < 10000000) :
    ∃ v' H', aappend Try.prog 54 54 vo (.hs H.length 0 1) (H ++ [.arr 22 true 0 [[vn]]]) = some (v', H') ∧ Split H' v' .nils lo [] (done ++ [cur]) ∧ KeepBut vo H H' := by
  obtain ⟨i, e1, e2⟩ : ∃ id, vn = .hs id 0 (toks cur).length ∧ H[id]? = some (.arr 40 true 0 (toks cur)) := by
    rcases h.now with ⟨_, e⟩ | e
    · exact absurd (List.map_eq_nil_iff.1 e) hcur
    · exact e
  rw [toks_len] at e1
  obtain ⟨vs, ho, hvl, hel⟩ : ∃ vs, Own 22 H vo (cells1 vs) ∧ vs.length = done.length ∧ ∀ (k : Nat) (u : AV) (l : List Tok), vs[k]? = some u → done[k]? = some l → ∃ id : Nat, u = AV.hs id 0 l.length ∧ H[id]? = some (AO.arr 40 true 0 (toks l)) := by
    rcases h.out with ⟨g1, g2⟩ | ⟨id, vs, g1, g2, g3, g4, g5⟩
    · exact ⟨[], .inl ⟨g1, rfl⟩, by rw [g2]; rfl, fun k u l hu => by simp at hu⟩
    · refine ⟨vs, .inr ⟨id, by rw [g1]; simp [cells1, g4], g3⟩, g4, fun k u l hu hl => ?_⟩
      obtain ⟨j, f1, f2, _⟩ := g5 k u l hu hl
      exact ⟨j, f1, f2⟩
  have hcl : (cells1 vs).length = done.length := by simp [cells1, hvl]
  obtain ⟨H', h1, h2, h3⟩ := append_oneF (m := 0) sliceT_54 bytesT_22 szOf_22 zeroT_22 (by decide) ho (by omega) (c := [vn]) rfl (by rw [e1]; rfl)
  rw [hcl] at h1
  have hno : ∀ j l, H[j]? = some (.arr 40 true 0 (toks l)) → ∀ n, vo ≠ .hs j 0 n := by
    intro j l hj n hn
    rcases ho with ⟨e, _⟩ | ⟨id, e, he⟩
    · rw [e] at hn; cases hn
    · rw [e] at hn
      cases hn
      rw [hj] at he
      cases he
  refine ⟨_, H', h1, ⟨.inl ⟨rfl, rfl⟩, .inr ⟨H.length + 1, vs ++ [vn], by simp, by omega, by rw [h2]; simp [cells1], by simp [hvl], fun k u l hu hl => ?_⟩⟩, h3⟩
  by_cases hk : k < vs.length
  · rw [List.getElem?_append_left hk] at hu
    rw [List.getElem?_append_left (by omega)] at hl
    obtain ⟨j, f1, f2⟩ := hel k u l hu hl
    exact ⟨j, f1, h3 j _ f2 (hno j l f2), by simp⟩
  · have hk' : k = vs.length := by
      have := (List.getElem?_eq_some_iff.1 hu).1
      simp at this
      omega
    subst hk'
    rw [List.getElem?_append_right (Nat.le_refl _), Nat.sub_self] at hu
    rw [hvl, List.getElem?_append_right (Nat.le_refl _), Nat.sub_self] at hl
    simp only [List.getElem?_cons_zero, Option.some.injEq] at hu hl
    subst hu
    subst hl
    exact ⟨i, e1, h3 i _ e2 (hno i _ e2), by simp⟩
def tokss (ls : List (List Tok)) : List (List AV) := ls.map fun l => [.sl (toks l)]
theorem frz_split {H : AHeap} {vo vn : AV} {lo : Nat} {cur : List Tok} {done : List (List Tok)} (h : Split H vo vn lo cur done) : frz depth H vo = some (.sl (tokss done)) := by
  rcases h.out with ⟨rfl, rfl⟩ | ⟨id, vs, rfl, _, g3, g4, g5⟩
  · rfl
  · have key : ∀ (vs : List AV) (done : List (List Tok)), vs.length = done.length → (∀ (k : Nat) (u : AV) (l : List Tok), vs[k]? = some u → done[k]? = some l → ∃ id : Nat, u = AV.hs id 0 l.length ∧ H[id]? = some (AO.arr 40 true 0 (toks l))) → mapO (fun e => mapO (frz 7 H) e) (cells1 vs) = some (tokss done) := by
      intro vs
      induction vs with
      | nil =>
        intro done hl _
        cases done with
        | nil => rfl
        | cons a l => cases hl
      | cons u vs ih =>
        intro done hl hel
        cases done with
        | nil => cases hl
        | cons l done =>
          obtain ⟨i, e1, e2⟩ := hel 0 u l rfl rfl
          have ih' := ih done (by simpa using hl) fun k u' l' h1 h2 => hel (k + 1) u' l' h1 h2
          have hu : frz 7 H u = some (.sl (toks l)) := by
            rw [e1]
            simp only [frz]
            rw [e2]
            simp only
            rw [if_pos (by rw [toks_len]; omega)]
            have hlt : l.length = (toks l).length := (toks_len l).symm
            rw [List.drop_zero, hlt, List.take_length, frz_toks H l 5]
            rfl
          simp only [cells1, List.map_cons, mapO, hu] at ih' ⊢
          rw [ih']
          rfl
    simp only [depth, frz]
    rw [g3]
    simp only
    have hcl : (cells1 vs).length = done.length := by simp [cells1, g4]
    rw [if_pos (by omega), List.drop_zero, ← hcl, List.take_length, key vs done g4 fun k u l hu hl => by
      obtain ⟨j, f1, f2, _⟩ := g5 k u l hu hl
      exact ⟨j, f1, f2⟩]
    rfl
/-- Statements, plain. -/
def splitS : List Tok → List Tok → List (List Tok) → List (List Tok)
  | [], cur, done => if cur = [] then done else done ++ [cur]
  | t :: l, cur, done => if semi t then splitS l [] (if cur = [] then done else done ++ [cur]) else splitS l (cur ++ [t]) done
def splitL (l : List Tok) : List (List Tok) := splitS l [] []
theorem Split.len {H : AHeap} {vo vn : AV} {lo : Nat} {cur : List Tok} {done : List (List Tok)} (h : Split H vo vn lo cur done) : abuiltin Try.prog .len [22] [vn] H = some (.int .i64 (cur.length : Int), H) := by
  rcases h.now with ⟨rfl, e⟩ | ⟨id, rfl, e⟩
  · have : cur = [] := List.map_eq_nil_iff.1 e
    subst this
    simp only [go_sem]
    rfl
  · simp only [go_sem]
theorem p_split4 (l : List Tok) (hl : l.length ≤ 3000) : PV 40 [.sl (toks l)] = some (.sl (tokss (splitL l))) := by
  refine PV_start k40 rfl (Nat.le_of_ble_eq_true rfl) ?_
  generalize hR : splitL l = R
  simp only [go_sem, bx, K40]
  refine C_while (fun n s H => ∃ (i : Nat) (cur : List Tok) (done : List (List Tok)), i + n = l.length + 1 ∧ cur.length + done.length ≤ i ∧ (if i ≤ l.length then splitS (l.drop i) cur done = R else cur = [] ∧ done = R) ∧ s 0 = .sl (toks l) ∧ s 5 = .int .i64 (i : Int) ∧ Split H (s 3) (s 4) 0 cur done) ?_ (l.length + 1) _ _
    ⟨0, [], [], by omega, Nat.le_refl _, by rw [if_pos (Nat.zero_le _)]; exact hR, by simp only [go_sem, bx], by simp only [go_sem, bx]; rfl, ⟨.inl ⟨by simp only [go_sem, bx], rfl⟩, .inl ⟨by simp only [go_sem, bx], rfl⟩⟩⟩
  clear hR
  rintro n s H ⟨i, cur, done, hin, hcl, hR, s0, s5, hsp⟩
  generalize hvo : s 3 = vo at hsp
  generalize hvn : s 4 = vn at hsp
  by_cases hle : i ≤ l.length
  · rw [if_pos hle] at hR
    have hd : ((i : Int) ≤ (l.length : Int)) := by omega
    have w1 : IntKind.i64.wrap ((i : Int) + 1) = ((i + 1 : Nat) : Int) := wrap_succ (by simp only [maxL]; omega)
    have hlen := hsp.len
    obtain ⟨m, rfl⟩ : ∃ m, n = m + 1 := ⟨n - 1, by omega⟩
    have next : ∀ (cur' : List Tok) (done' : List (List Tok)) (H' : AHeap) (vo' vn' : AV), cur'.length + done'.length ≤ i + 1 → (if i + 1 ≤ l.length then splitS (l.drop (i + 1)) cur' done' = R else cur' = [] ∧ done' = R) → Split H' vo' vn' 0 cur' done' → ∃ m', m' < m + 1 ∧ ∃ (j : Nat) (c : List Tok) (d : List (List Tok)), j + m' = l.length + 1 ∧ c.length + d.length ≤ j ∧ (if j ≤ l.length then splitS (l.drop j) c d = R else c = [] ∧ d = R) ∧ AV.int IntKind.i64 ((i + 1 : Nat) : Int) = AV.int IntKind.i64 (j : Int) ∧ Split H' vo' vn' 0 c d :=
      fun c d H' a b h1 h2 h3 => ⟨m, Nat.lt_succ_self m, i + 1, c, d, by omega, h1, h2, rfl, h3⟩
    have hvc : vn.cells = [vn] ∧ vn.isCell = true := by
      rcases hsp.now with ⟨e, _⟩ | ⟨id, e, _⟩ <;> rw [e] <;> exact ⟨rfl, rfl⟩
    have hbs2 := bs_sl1 vn H hvc.1 hvc.2
    have emp : cur = [] → Split H vo .nils 0 [] done := by
      intro _
      refine ⟨.inl ⟨rfl, rfl⟩, ?_⟩
      rcases hsp.out with h | ⟨id, vs, g1, g2, g3, g4, g5⟩
      · exact .inl h
      · refine .inr ⟨id, vs, g1, g2, g3, g4, fun k u x hu hx => ?_⟩
        obtain ⟨j, f1, f2, _⟩ := g5 k u x hu hx
        exact ⟨j, f1, f2, by simp⟩
    have nxt : ∀ d, splitS (l.drop (i + 1)) [] d = R → (if i + 1 ≤ l.length then splitS (l.drop (i + 1)) [] d = R else ([] : List Tok) = [] ∧ d = R) := by
      intro d h
      by_cases h1 : i + 1 ≤ l.length
      · rw [if_pos h1]; exact h
      · rw [if_neg h1]
        rw [List.drop_of_length_le (by omega)] at h
        exact ⟨rfl, h⟩
    by_cases hlt : i < l.length
    · have hdl : ((i : Int) < (l.length : Int)) := by omega
      have hg := indexAddr_22 l .i64 (i : Int) H (by omega) hdl
      have hdr : l.drop i = tokAt l i :: l.drop (i + 1) := by
        rw [tokAt_nat hlt]
        exact List.drop_eq_getElem_cons hlt
      rw [hdr] at hR
      unfold splitS semi at hR
      generalize tokAt l i = t at *
      obtain ⟨v1, H1, e1, sp1, -⟩ := hsp.tok t (by omega)
      have hbs := bs_tok1 t H
      simp only [tok] at hg e1 hbs
      cases b1 : decide (t.kind = 5)
      · rw [b1] at hR
        simp only [Bool.false_and, Bool.false_eq_true, if_false] at hR
        simp only [go_sem, bx, L40_0, s0, s5, hvo, hvn, hd, hdl, hg, tok, b1, Nat.le_refl, hbs, bi_append, e1, w1]
        exact next _ _ _ _ _ (by simp only [List.length_append, List.length_cons, List.length_nil]; omega) (by rw [if_pos (by omega)]; exact hR) sp1
      · cases b2 : (t.text == [59])
        · rw [b1, b2] at hR
          simp only [Bool.and_false, Bool.false_eq_true, if_false] at hR
          simp only [go_sem, bx, L40_0, s0, s5, hvo, hvn, hd, hdl, hg, tok, b1, b2, Nat.le_refl, hbs, bi_append, e1, w1]
          exact next _ _ _ _ _ (by simp only [List.length_append, List.length_cons, List.length_nil]; omega) (by rw [if_pos (by omega)]; exact hR) sp1
        · rw [b1, b2] at hR
          simp only [Bool.and_self, if_true] at hR
          by_cases hc : cur = []
          · rw [if_pos hc] at hR
            have hd0 : ¬ ((0 : Int) < (cur.length : Int)) := by rw [hc]; simp
            simp only [go_sem, bx, L40_0, s0, s5, hvo, hvn, hd, hdl, hg, tok, b1, b2, hlen, hd0, w1]
            exact next _ _ _ _ _ (by simp only [List.length_nil]; omega) (nxt _ hR) (emp hc)
          · rw [if_neg hc] at hR
            have hd0 : ((0 : Int) < (cur.length : Int)) := by have := List.length_pos_iff.2 hc; omega
            have hcp := List.length_pos_iff.2 hc
            obtain ⟨v2, H2, e2, sp2, -⟩ := hsp.stmt hc (Nat.zero_le _) (by omega)
            simp only [go_sem, bx, L40_0, s0, s5, hvo, hvn, hd, hdl, hg, tok, b1, b2, hlen, hd0, hbs2, bi_append, e2, w1]
            exact next _ _ _ _ _ (by simp only [List.length_append, List.length_cons, List.length_nil]; omega) (nxt _ hR) sp2
    · have hdl : ¬ ((i : Int) < (l.length : Int)) := by omega
      rw [List.drop_of_length_le (by omega)] at hR
      unfold splitS at hR
      by_cases hc : cur = []
      · rw [if_pos hc] at hR
        have hd0 : ¬ ((0 : Int) < (cur.length : Int)) := by rw [hc]; simp
        simp only [go_sem, bx, L40_0, s0, s5, hvo, hvn, hd, hdl, hlen, hd0, w1]
        exact next _ _ _ _ _ (by simp only [List.length_nil]; omega) (by rw [if_neg (by omega)]; exact ⟨rfl, hR⟩) (emp hc)
      · rw [if_neg hc] at hR
        have hd0 : ((0 : Int) < (cur.length : Int)) := by have := List.length_pos_iff.2 hc; omega
        have hcp := List.length_pos_iff.2 hc
        obtain ⟨v2, H2, e2, sp2, -⟩ := hsp.stmt hc (Nat.zero_le _) (by omega)
        simp only [go_sem, bx, L40_0, s0, s5, hvo, hvn, hd, hdl, hlen, hd0, hbs2, bi_append, e2, w1]
        exact next _ _ _ _ _ (by simp only [List.length_append, List.length_cons, List.length_nil]; omega) (by rw [if_neg (by omega)]; exact ⟨rfl, hR⟩) sp2
  · rw [if_neg hle] at hR
    obtain ⟨rfl, rfl⟩ := hR
    have hd : ¬ ((i : Int) ≤ (l.length : Int)) := by omega
    have hf := frz_split hsp
    simp only [go_sem, bx, L40_0, s0, s5, hvo, hvn, hd, hf]
end Go.Proofs
/- The sets' layer: lexer.Split, its closure. -/

set_option linter.unusedSimpArgs false
set_option linter.unusedVariables false
namespace Go.Proofs
open Go.Vam
theorem Split.set {H : AHeap} {vo vn : AV} {cur : List Tok} {done : List (List Tok)} (h : Split H vo vn 2 cur done) {j : Nat} {ty : TypeId} {es : List (List AV)} (hj : j < 2) (hH : H[j]? = some (.arr ty true 0 es)) (ht : ty ≠ 40) (o : AO) : Split (H.set j o) vo vn 2 cur done := by
  have keep : ∀ (id : Nat) (x : List (List AV)), H[id]? = some (.arr 40 true 0 x) → (H.set j o)[id]? = some (.arr 40 true 0 x) := by
    intro id x hx
    have hne : j ≠ id := by
      rintro rfl
      rw [hH] at hx
      cases hx
      exact ht rfl
    rw [List.getElem?_set_ne hne]
    exact hx
  refine ⟨?_, ?_⟩
  · rcases h.now with h | ⟨id, h1, h2⟩
    · exact .inl h
    · exact .inr ⟨id, h1, keep _ _ h2⟩
  · rcases h.out with h | ⟨id, vs, g1, g2, g3, g4, g5⟩
    · exact .inl h
    · refine .inr ⟨id, vs, g1, g2, by rw [List.getElem?_set_ne (by omega)]; exact g3, g4, fun k u l hu hl => ?_⟩
      obtain ⟨i, e1, e2, e3⟩ := g5 k u l hu hl
      exact ⟨i, e1, keep _ _ e2, e3⟩
theorem Split.nil {H : AHeap} {vo vn : AV} {lo : Nat} {cur : List Tok} {done : List (List Tok)} (h : Split H vo vn lo cur done) : Split H vo .nils lo [] done := by
  refine ⟨.inl ⟨rfl, rfl⟩, ?_⟩
  rcases h.out with h | ⟨id, vs, g1, g2, g3, g4, g5⟩
  · exact .inl h
  · refine .inr ⟨id, vs, g1, g2, g3, g4, fun k u x hu hx => ?_⟩
    obtain ⟨j, f1, f2, _⟩ := g5 k u x hu hx
    exact ⟨j, f1, f2, by simp⟩
structure VarSplit (H : AHeap) (cur : List Tok) (done : List (List Tok)) (vo vn : AV) : Prop where
  h0 : H[0]? = some (.arr 54 true 0 [[vo]])
  h1 : H[1]? = some (.arr 22 true 0 [[vn]])
  sp : Split H vo vn 2 cur done
theorem load_var {H : AHeap} {V ty : Nat} {v : AV} (h : H[V]? = some (.arr ty true 0 [[v]])) (ha : aggT Try.prog ty = some false) : aload Try.prog ty (.ptr V 0 0) H = some v := by
  rw [load_ptr, h, ldObj_arr]
  simp only [go_sem, ha]
theorem store_var {H : AHeap} {V ty : Nat} {v u : AV} (h : H[V]? = some (.arr ty true 0 [[v]])) (hz : szOf Try.prog ty = some 1) (hu : u.cells = [u]) (hc : u.isCell = true) : astore Try.prog ty (.ptr V 0 0) u H = some (H.set V (.arr ty true 0 [[u]])) := by
  unfold astore
  simp only [h]
  have e2 : ([[v]] : List (List AV))[0]? = some [v] := rfl
  simp only [e2]
  rw [hu]
  rw [if_pos ⟨Nat.le_refl _, hz, by simp [hc], Nat.le_refl _⟩]
  simp
theorem VarSplit.now_ne {H : AHeap} {cur : List Tok} {done : List (List Tok)} {vo vn : AV} (h : VarSplit H cur done vo vn) : ∀ j, j < 2 → ∀ n, vn ≠ .hs j 0 n := by
  intro j hj n hn
  rcases h.sp.now with ⟨e, _⟩ | ⟨id, e, he⟩
  · rw [e] at hn; cases hn
  · rw [e] at hn
    cases hn
    rcases (by omega : j = 0 ∨ j = 1) with rfl | rfl
    · rw [h.h0] at he; cases he
    · rw [h.h1] at he; cases he
theorem VarSplit.out_ne {H : AHeap} {cur : List Tok} {done : List (List Tok)} {vo vn : AV} (h : VarSplit H cur done vo vn) : ∀ j, j < 2 → ∀ n, vo ≠ .hs j 0 n := by
  intro j hj n hn
  rcases h.sp.out with ⟨e, _⟩ | ⟨id, vs, e, he, _⟩
  · rw [e] at hn; cases hn
  · rw [e] at hn
    cases hn
    omega
theorem VarSplit.cell {H : AHeap} {cur : List Tok} {done : List (List Tok)} {vo vn : AV} (h : VarSplit H cur done vo vn) : vn.cells = [vn] ∧ vn.isCell = true := by
  rcases h.sp.now with ⟨e, _⟩ | ⟨id, e, _⟩ <;> rw [e] <;> exact ⟨rfl, rfl⟩
theorem Split.cello {H : AHeap} {vo vn : AV} {lo : Nat} {cur : List Tok} {done : List (List Tok)} (h : Split H vo vn lo cur done) : vo.cells = [vo] ∧ vo.isCell = true := by
  rcases h.out with ⟨e, _⟩ | ⟨id, vs, e, _⟩ <;> rw [e] <;> exact ⟨rfl, rfl⟩
theorem Split.celln {H : AHeap} {vo vn : AV} {lo : Nat} {cur : List Tok} {done : List (List Tok)} (h : Split H vo vn lo cur done) : vn.cells = [vn] ∧ vn.isCell = true := by
  rcases h.now with ⟨e, _⟩ | ⟨id, e, _⟩ <;> rw [e] <;> exact ⟨rfl, rfl⟩
theorem t_flush {H : AHeap} {cur : List Tok} {done : List (List Tok)} {vo vn : AV} (h : VarSplit H cur done vo vn) (hl : cur.length + done.length < 1000000) :
    ∃ r H' vo' vn', callV E 66 [.ptr 1 0 0, .ptr 0 0 0] H = some (r, H') ∧ VarSplit H' [] (if cur = [] then done else done ++ [cur]) vo' vn' := by
  have l1 := load_var h.h1 aggT_22
  have l0 := load_var h.h0 aggT_54
  have hlen := h.sp.len
  by_cases hc : cur = []
  · have : Tells E 66 [.ptr 1 0 0, .ptr 0 0 0] H fun r H' => H' = H.set 1 (.arr 22 true 0 [[.nils]]) := by
      refine tells_at k66 rfl (Nat.le_of_ble_eq_true rfl) ?_
      have hd0 : ¬ ((0 : Int) < (cur.length : Int)) := by rw [hc]; simp
      have hst := store_var (u := .nils) h.h1 szOf_22 rfl rfl
      simp only [go_sem, bx, K66, l1, hlen, hd0, hst]
    obtain ⟨r, H', h1, rfl⟩ := this
    have hlt := (List.getElem?_eq_some_iff.1 h.h1).1
    refine ⟨r, _, vo, .nils, h1, ?_, List.getElem?_set_self hlt, ?_⟩
    · rw [List.getElem?_set_ne (by omega)]; exact h.h0
    · rw [if_pos hc]
      exact (h.sp.set (by omega) h.h1 (by decide) _).nil
  · obtain ⟨v2, H2, e2, sp2, k2⟩ := h.sp.stmt hc (by have := (List.getElem?_eq_some_iff.1 h.h1).1; omega) (by omega)
    have g0 := k2 0 _ h.h0 (h.out_ne 0 (by omega))
    have g1 := k2 1 _ h.h1 (h.out_ne 1 (by omega))
    have hcp := List.length_pos_iff.2 hc
    have hlt0 := (List.getElem?_eq_some_iff.1 g0).1
    have hlt1 := (List.getElem?_eq_some_iff.1 g1).1
    have g1' : (H2.set 0 (.arr 54 true 0 [[v2]]))[1]? = some (.arr 22 true 0 [[vn]]) := by rw [List.getElem?_set_ne (by omega)]; exact g1
    have : Tells E 66 [.ptr 1 0 0, .ptr 0 0 0] H fun r H' => H' = (H2.set 0 (.arr 54 true 0 [[v2]])).set 1 (.arr 22 true 0 [[.nils]]) := by
      refine tells_at k66 rfl (Nat.le_of_ble_eq_true rfl) ?_
      have hd0 : ((0 : Int) < (cur.length : Int)) := by omega
      have hbs := bs_sl1 vn H h.cell.1 h.cell.2
      have st0 := store_var (u := v2) g0 szOf_54 sp2.cello.1 sp2.cello.2
      have st1 := store_var (u := .nils) g1' szOf_22 rfl rfl
      simp only [go_sem, bx, K66, l1, l0, hlen, hd0, hbs, bi_append, e2, st0, st1]
    obtain ⟨r, H', h1, rfl⟩ := this
    have s1 := sp2.set (j := 0) (by omega) g0 (by decide) (.arr 54 true 0 [[v2]])
    have s2 := s1.set (j := 1) (by omega) g1' (by decide) (.arr 22 true 0 [[.nils]])
    refine ⟨r, _, v2, .nils, h1, ?_, List.getElem?_set_self (by simpa using hlt1), ?_⟩
    · rw [List.getElem?_set_ne (by omega)]
      exact List.getElem?_set_self hlt0
    · rw [if_neg hc]
      exact s2
theorem p_split (l : List Tok) (hl : l.length ≤ 3000) : PV 38 [.sl (toks l)] = some (.sl (tokss (splitL l))) := by
  refine PV_start k38 rfl (Nat.le_of_ble_eq_true rfl) ?_
  generalize hR : splitL l = R
  simp only [go_sem, bx, K38]
  refine C_for l.length (fun i s H => ∃ (cur : List Tok) (done : List (List Tok)) (vo vn : AV), cur.length + done.length ≤ i ∧ splitS (l.drop i) cur done = R ∧ s 3 = .ptr 0 0 0 ∧ s 4 = .ptr 1 0 0 ∧ s 5 = .fn 66 [.ptr 1 0 0, .ptr 0 0 0] ∧ s 9 = .sl (toks l) ∧ s 10 = .int .i64 (l.length : Int) ∧ s 11 = .int .i64 (i : Int) ∧ VarSplit H cur done vo vn)
    ⟨[], [], .nils, .nils, Nat.le_refl _, hR, by simp only [go_sem, bx], by simp only [go_sem, bx], by simp only [go_sem, bx], by simp only [go_sem, bx], by simp only [go_sem, bx], by simp only [go_sem, bx]; rfl, ⟨rfl, rfl, ⟨.inl ⟨rfl, rfl⟩, .inl ⟨rfl, rfl⟩⟩⟩⟩ ?_ ?_
  · clear hR
    rintro i s H hi ⟨cur, done, vo, vn, hcl, hR, s3, s4, s5, s9, s10, s11, hv⟩
    have hd : ((i : Int) < (l.length : Int)) := by omega
    have w1 : IntKind.i64.wrap ((i : Int) + 1) = ((i + 1 : Nat) : Int) := wrap_succ (by simp only [maxL]; omega)
    have hg := indexAddr_22 l .i64 (i : Int) H (by omega) hd
    have hdr : l.drop i = tokAt l i :: l.drop (i + 1) := by
      rw [tokAt_nat hi]
      exact List.drop_eq_getElem_cons hi
    rw [hdr] at hR
    unfold splitS semi at hR
    generalize tokAt l i = t at *
    have hput := tok_put H t
    have hgot := tok_got H t
    have up : ∀ {id : Nat} {o : AO}, H[id]? = some o → (H ++ [.arr 40 true 0 [tok t]])[id]? = some o := fun h => by rw [List.getElem?_append_left (List.getElem?_eq_some_iff.1 h).1]; exact h
    have hv' : VarSplit (H ++ [.arr 40 true 0 [tok t]]) cur done vo vn := ⟨up hv.h0, up hv.h1, hv.sp.app _⟩
    simp only [tok] at hg hput hgot
    have plain : (decide (t.kind = 5) && (t.text == [59])) = false → C (cxV E) L38_0 s H (nrmQ fun s H => ∃ (cur : List Tok) (done : List (List Tok)) (vo vn : AV), cur.length + done.length ≤ i + 1 ∧ splitS (l.drop (i + 1)) cur done = R ∧ s 3 = .ptr 0 0 0 ∧ s 4 = .ptr 1 0 0 ∧ s 5 = .fn 66 [.ptr 1 0 0, .ptr 0 0 0] ∧ s 9 = .sl (toks l) ∧ s 10 = .int .i64 (l.length : Int) ∧ s 11 = .int .i64 ((i + 1 : Nat) : Int) ∧ VarSplit H cur done vo vn) := by
      intro hb
      rw [hb] at hR
      simp only [Bool.false_eq_true, if_false] at hR
      obtain ⟨v1, H1, e1, sp1, k1⟩ := hv'.sp.tok t (by omega)
      have hbs := bs_tok1 t (H ++ [.arr 40 true 0 [tok t]])
      have ld1 := load_var hv'.h1 aggT_22
      have g0 := k1 0 _ hv'.h0 (hv'.now_ne 0 (by omega))
      have g1 := k1 1 _ hv'.h1 (hv'.now_ne 1 (by omega))
      have st1 := store_var (u := v1) g1 szOf_22 sp1.celln.1 sp1.celln.2
      have fin : VarSplit (H1.set 1 (.arr 22 true 0 [[v1]])) (cur ++ [t]) done vo v1 := ⟨by rw [List.getElem?_set_ne (by omega)]; exact g0, List.getElem?_set_self (List.getElem?_eq_some_iff.1 g1).1, sp1.set (by omega) g1 (by decide) _⟩
      simp only [tok] at hbs e1 ld1
      cases b1 : decide (t.kind = 5)
      · simp only [go_sem, bx, L38_0, s3, s4, s5, s9, s10, s11, hd, hg, hput, hgot, tok, Nat.le_refl, b1, ld1, hbs, bi_append, e1, st1, w1]
        exact ⟨cur ++ [t], done, vo, v1, by simp only [List.length_append, List.length_cons, List.length_nil]; omega, hR, fin⟩
      · rw [b1, Bool.true_and] at hb
        simp only [go_sem, bx, L38_0, s3, s4, s5, s9, s10, s11, hd, hg, hput, hgot, tok, Nat.le_refl, b1, hb, ld1, hbs, bi_append, e1, st1, w1]
        exact ⟨cur ++ [t], done, vo, v1, by simp only [List.length_append, List.length_cons, List.length_nil]; omega, hR, fin⟩
    cases b1 : decide (t.kind = 5)
    · exact plain (by rw [b1]; rfl)
    · cases b2 : (t.text == [59])
      · exact plain (by rw [b1, b2]; rfl)
      · rw [b1, b2] at hR
        simp only [Bool.and_self, if_true] at hR
        obtain ⟨r, H', vo', vn', h1, hv2⟩ := t_flush hv' (by omega)
        simp only [tok] at h1
        simp only [go_sem, bx, L38_0, s3, s4, s5, s9, s10, s11, hd, hg, hput, hgot, tok, Nat.le_refl, b1, b2, call_imp (f := 66) rfl, h1, w1]
        refine ⟨[], _, vo', vn', ?_, hR, hv2⟩
        split
        · simp only [List.length_nil]; omega
        · rename_i hc
          have := List.length_pos_iff.2 hc
          simp only [List.length_nil, List.length_append, List.length_cons]; omega
  · rintro s H ⟨cur, done, vo, vn, hcl, hR', s3, s4, s5, s9, s10, s11, hv⟩
    have hd : ¬ ((l.length : Int) < (l.length : Int)) := by omega
    rw [List.drop_length] at hR'
    unfold splitS at hR'
    obtain ⟨r, H', vo', vn', h1, hv2⟩ := t_flush hv (by omega)
    rw [hR'] at hv2
    have ld0 := load_var hv2.h0 aggT_54
    have hf := frz_split hv2.sp
    simp only [go_sem, bx, L38_0, s3, s5, s10, s11, hd, call_imp (f := 66) rfl, h1, ld0, hf]
end Go.Proofs
/- The sets' layer: what is known of a text; whether lists meet. -/

set_option linter.unusedSimpArgs false
set_option linter.unusedVariables false
namespace Go.Proofs
open Go.Vam
@[go_sem] theorem still_nils : stillV .nils = true := rfl
/-! ### texts' tokens are few, and short -/
theorem quoL_text {q : UInt8} : ∀ {r : List UInt8} {x : List UInt8 × Nat}, quoL q r = some x → x.1.length ≤ r.length
  | [], x, h => by cases h
  | [c], x, h => by
    unfold quoL at h
    split at h
    · cases h; simp
    · cases h
  | c :: c2 :: r, x, h => by
    unfold quoL at h
    split at h
    · split at h
      · cases hq : quoL q r with
        | none => rw [hq] at h; cases h
        | some y =>
          have := quoL_text hq
          rw [hq] at h
          cases h
          simp only [List.length_cons]
          omega
      · cases h
        simp
    · cases hq : quoL q (c2 :: r) with
      | none => rw [hq] at h; cases h
      | some y =>
        have := quoL_text hq
        rw [hq] at h
        cases h
        simp only [List.length_cons] at this ⊢
        omega
theorem dolL_text {t : List UInt8} : ∀ {r : List UInt8} {x : List UInt8 × Nat}, dolL t r = some x → x.1.length ≤ r.length
  | [], x, h => by cases h
  | c :: r, x, h => by
    unfold dolL at h
    split at h
    · cases h
      simp
    · cases hq : dolL t r with
      | none => rw [hq] at h; cases h
      | some y =>
        have := dolL_text hq
        rw [hq] at h
        cases h
        simp only [List.length_cons]
        omega
theorem one_text (r : List UInt8) : (oneL r).2.1.length ≤ r.length := by
  have quo : ∀ (k : Int) (n : Nat) (o : Option (List UInt8 × Nat)), (∀ x, o = some x → x.1.length ≤ r.length) → (quo1 k (addQ [] n o)).2.1.length ≤ r.length := by
    intro k n o ho
    cases o with
    | none => exact Nat.zero_le _
    | some x =>
      have := ho x rfl
      simpa [addQ, quo1] using this
  have tw : ∀ q : UInt8 → Bool, (r.takeWhile q).length ≤ r.length := fun q => (List.takeWhile_sublist _).length_le
  unfold oneL
  split
  · simp only [smallL, List.length_map]
    exact tw _
  · split
    · exact tw _
    · split
      · exact quo _ _ _ fun x hx => by have := quoL_text hx; simp only [List.length_drop] at this; omega
      · split
        · exact quo _ _ _ fun x hx => by have := quoL_text hx; simp only [List.length_drop] at this; omega
        · split
          · exact quo _ _ _ fun x hx => by have := dolL_text hx; simp only [List.length_drop] at this; omega
          · simp only [List.length_take]
            omega
theorem scan_small (N : Nat) : ∀ (n : Nat) (r : List UInt8) (a : Nat) (out : List Tok), r.length ≤ n → r.length ≤ N → (∀ t ∈ out, t.text.length ≤ N) → (scanF r a out).1.length ≤ out.length + r.length ∧ ∀ t ∈ (scanF r a out).1, t.text.length ≤ N
  | 0, r, a, out, h, hN, ho => by
    rw [scanF_eq, if_pos (by omega)]
    exact ⟨Nat.le_add_right _ _, ho⟩
  | n + 1, r, a, out, h, hN, ho => by
    rw [scanF_eq]
    have go : ∀ k a, 1 ≤ k → (scanF (r.drop k) a out).1.length ≤ out.length + r.length ∧ ∀ t ∈ (scanF (r.drop k) a out).1, t.text.length ≤ N := fun k a hk => by
      have := scan_small N n (r.drop k) a out (by simp only [List.length_drop]; omega) (by simp only [List.length_drop]; omega) ho
      simp only [List.length_drop] at this
      exact ⟨by omega, this.2⟩
    split
    · exact ⟨Nat.le_add_right _ _, ho⟩
    · rename_i h0
      split
      · exact go 1 _ (Nat.le_refl _)
      · split
        · rename_i hp
          exact go _ _ (run_pos hp)
        · split
          · cases hk : remL r with
            | none => exact ⟨Nat.zero_le _, by simp⟩
            | some k => exact go _ _ (rem_pos hk).1
          · split
            · exact ⟨Nat.zero_le _, by simp⟩
            · split
              · exact ⟨Nat.zero_le _, by simp⟩
              · rename_i hm hz
                have h1 := one_len (r := r) (by omega)
                have ht := one_text r
                have := scan_small N n (r.drop (oneL r).2.2.toNat) (a + (oneL r).2.2.toNat) (out ++ [⟨(oneL r).1, (oneL r).2.1, a⟩]) (by simp only [List.length_drop]; omega) (by simp only [List.length_drop]; omega) (by
                  intro t htm
                  rcases List.mem_append.1 htm with h' | h'
                  · exact ho t h'
                  · rw [List.mem_singleton] at h'
                    subst h'
                    simp only
                    omega)
                simp only [List.length_drop, List.length_append, List.length_cons, List.length_nil] at this
                exact ⟨by omega, this.2⟩
theorem scanL_small (s : List UInt8) : (scanL s).1.length ≤ 2000 ∧ ∀ t ∈ (scanL s).1, t.text.length ≤ 2000 := by
  unfold scanL
  split
  · exact ⟨Nat.zero_le _, by simp⟩
  · have := scan_small 2000 s.length s 0 [] (Nat.le_refl _) (by omega) (by simp)
    simp only [List.length_nil, Nat.zero_add] at this
    exact ⟨by omega, this.2⟩
theorem split_mem : ∀ (l cur : List Tok) (done : List (List Tok)) (x : List Tok), x ∈ splitS l cur done → x ∈ done ∨ (x.length ≤ cur.length + l.length ∧ ∀ t ∈ x, t ∈ cur ∨ t ∈ l)
  | [], cur, done, x, h => by
    unfold splitS at h
    split at h
    · exact .inl h
    · rcases List.mem_append.1 h with h | h
      · exact .inl h
      · rw [List.mem_singleton] at h
        subst h
        exact .inr ⟨Nat.le_add_right _ _, fun t ht => .inl ht⟩
  | t :: l, cur, done, x, h => by
    unfold splitS at h
    have fromDone : x ∈ (if cur = [] then done else done ++ [cur]) → x ∈ done ∨ (x.length ≤ cur.length + (t :: l).length ∧ ∀ u ∈ x, u ∈ cur ∨ u ∈ t :: l) := by
      intro h
      split at h
      · exact .inl h
      · rcases List.mem_append.1 h with h | h
        · exact .inl h
        · rw [List.mem_singleton] at h
          subst h
          exact .inr ⟨by omega, fun u hu => .inl hu⟩
    split at h
    · rcases split_mem l [] _ x h with h | ⟨h1, h2⟩
      · exact fromDone h
      · refine .inr ⟨by simp only [List.length_nil, List.length_cons] at h1 ⊢; omega, fun u hu => ?_⟩
        rcases h2 u hu with h' | h'
        · cases h'
        · exact .inr (List.mem_cons_of_mem _ h')
    · rcases split_mem l _ _ x h with h | ⟨h1, h2⟩
      · exact .inl h
      · refine .inr ⟨by simp only [List.length_append, List.length_cons, List.length_nil] at h1 ⊢; omega, fun u hu => ?_⟩
        rcases h2 u hu with h' | h'
        · rcases List.mem_append.1 h' with h' | h'
          · exact .inl h'
          · rw [List.mem_singleton] at h'
            exact .inr (by rw [h']; exact List.mem_cons_self)
        · exact .inr (List.mem_cons_of_mem _ h')
theorem piece_small {s : List UInt8} {x : List Tok} (h : x ∈ splitL (scanL s).1) : Small x := by
  obtain ⟨h1, h2⟩ := scanL_small s
  rcases split_mem _ _ _ _ h with h | ⟨h3, h4⟩
  · cases h
  · simp only [List.length_nil, Nat.zero_add] at h3
    refine ⟨by omega, fun t ht => ?_⟩
    rcases h4 t ht with h' | h'
    · cases h'
    · have := h2 t h'
      omega
theorem small_nil : Small [] := ⟨Nat.zero_le _, by simp⟩
/-! ### Parse -/
def zeroS : Stm := ⟨0, [], [], []⟩
def parseL (s : List UInt8) : Stm × Int :=
  if (scanL s).2.1 = 0 then match splitL (scanL s).1 with
    | [] => (ofS [], 0)
    | [x] => (ofS x, 0)
    | _ => (zeroS, 4)
  else (zeroS, (scanL s).2.1)
def parseR (x : Stm × Int) : AV := .tup [stm x.1, .int .i64 x.2]
theorem build30z : abuild Try.prog 30 [] = some (.agg [.int .i64 0, .nils, .nils, .str []]) := by
  unfold abuild
  rw [structT_30, zeroT_30]
  simp [afill]
theorem store30s (c d : List AV) (hd : d.length = 4) (hc : d.all AV.isCell = true) (hl : c.length = 4) : astore Try.prog 30 (.ptr 0 0 0) (.agg d) [.arr 30 true 0 [c]] = some [.arr 30 true 0 [d]] := by
  unfold astore
  simp only [List.getElem?_cons_zero]
  rw [if_pos ⟨Nat.le_refl _, by rw [szOf_30]; exact congrArg some hd.symm, hc, by simp only [AV.cells]; omega⟩]
  simp only [AV.cells, hd, List.take_zero, List.nil_append, List.set_cons_zero]
  rw [List.drop_of_length_le (by omega), List.append_nil]
@[go_sem] theorem tokss_len (ls : List (List Tok)) : (tokss ls).length = ls.length := by simp [tokss]
theorem idx54 (x : List Tok) (H : AHeap) : aindexAddr Try.prog 54 (.sl (tokss [x])) (.int .i64 0) H = some (.ip [.sl (toks x)]) :=
  indexAddr_sl Try.prog 54 H (k := .i64) (i := 0) (e := 22) sliceT_54 rfl (by rw [szOf_22]; rfl)
theorem p_parse (s : List UInt8) (hs : s.length ≤ 10000000) : PV 19 [.str s] = some (parseR (parseL s)) := by
  refine PV_start k19 rfl (Nat.le_of_ble_eq_true rfl) ?_
  have hsc := p_scan s hs
  have hsm := scanL_small s
  have hpc := fun x => piece_small (s := s) (x := x)
  unfold parseL
  generalize scanL s = sc at *
  obtain ⟨l, e, p⟩ := sc
  unfold scanR at hsc
  simp only at hsc hsm hpc ⊢
  cases he : decide (e = 0)
  · have hz := store30s [.int .i64 0, .nils, .nils, .str []] [.int .i64 0, .nils, .nils, .str []] rfl rfl rfl
    rw [if_neg (of_decide_eq_false he)]
    simp only [go_sem, bx, K19, call_pure pure_37, hsc, PC_still, he, build30z, hz, Nat.le_refl]
    rfl
  · have e0 := of_decide_eq_true he
    subst e0
    rw [if_pos rfl]
    have hsp := p_split l (by omega)
    cases hpl : splitL l with
    | nil =>
      rw [hpl] at hsp
      have hof : PV 16 [.sl []] = some (stm (ofS [])) := p_of [] small_nil
      simp only [stm] at hof
      have hst := store30s [.int .i64 0, .nils, .nils, .str []] [.int .i64 (ofS []).cls, .sl (strs (ofS []).reads), .sl (strs (ofS []).writes), .str (ofS []).norm] rfl rfl rfl
      simp only [go_sem, bx, K19, call_pure pure_37, hsc, PC_still, he, call_pure pure_38, hsp, call_pure pure_16, hof, hst, Nat.le_refl, Int.cast_ofNat_Int, decide_true, decide_false]
      rfl
    | cons x ls =>
      cases ls with
      | nil =>
        rw [hpl] at hsp
        have hof := p_of x (hpc x (by rw [hpl]; simp))
        have hix := fun H => idx54 x H
        simp only [stm] at hof
        have hst := store30s [.int .i64 0, .nils, .nils, .str []] [.int .i64 (ofS x).cls, .sl (strs (ofS x).reads), .sl (strs (ofS x).writes), .str (ofS x).norm] rfl rfl rfl
        simp only [go_sem, bx, K19, call_pure pure_37, hsc, PC_still, he, call_pure pure_38, hsp, call_pure pure_16, hof, hix, hst, Nat.le_refl, Int.cast_ofNat_Int, decide_true, decide_false]
        rfl
      | cons y ls =>
        rw [hpl] at hsp
        have hd0 : decide (((ls.length + 1 + 1 : Nat) : Int) = 0) = false := decide_eq_false (by omega)
        have hd1 : decide (((ls.length + 1 + 1 : Nat) : Int) = 1) = false := decide_eq_false (by omega)
        have hz := store30s [.int .i64 0, .nils, .nils, .str []] [.int .i64 0, .nils, .nils, .str []] rfl rfl rfl
        simp only [go_sem, bx, K19, call_pure pure_37, hsc, PC_still, he, call_pure pure_38, hsp, hd0, hd1, build30z, hz, Nat.le_refl]
        rfl
theorem p_parse7 (s : List UInt8) (hs : s.length ≤ 10000000) : PV 20 [.str s] = some (parseR (parseL s)) := by
  refine PV_start k20 rfl (Nat.le_of_ble_eq_true rfl) ?_
  have hsc := p_scan4 s hs
  have hsm := scanL_small s
  have hpc := fun x => piece_small (s := s) (x := x)
  unfold parseL
  generalize scanL s = sc at *
  obtain ⟨l, e, p⟩ := sc
  unfold scanR at hsc
  simp only at hsc hsm hpc ⊢
  cases he : decide (e = 0)
  · have hz := store30s [.int .i64 0, .nils, .nils, .str []] [.int .i64 0, .nils, .nils, .str []] rfl rfl rfl
    rw [if_neg (of_decide_eq_false he)]
    simp only [go_sem, bx, K20, call_pure pure_39, hsc, PC_still, he, build30z, hz, Nat.le_refl]
    rfl
  · have e0 := of_decide_eq_true he
    subst e0
    rw [if_pos rfl]
    have hsp := p_split4 l (by omega)
    cases hpl : splitL l with
    | nil =>
      rw [hpl] at hsp
      have hof : PV 17 [.sl []] = some (stm (ofS [])) := p_of7 [] small_nil
      simp only [stm] at hof
      have hst := store30s [.int .i64 0, .nils, .nils, .str []] [.int .i64 (ofS []).cls, .sl (strs (ofS []).reads), .sl (strs (ofS []).writes), .str (ofS []).norm] rfl rfl rfl
      simp only [go_sem, bx, K20, call_pure pure_39, hsc, PC_still, he, call_pure pure_40, hsp, call_pure pure_17, hof, hst, Nat.le_refl, Int.cast_ofNat_Int, decide_true, decide_false]
      rfl
    | cons x ls =>
      cases ls with
      | nil =>
        rw [hpl] at hsp
        have hof := p_of7 x (hpc x (by rw [hpl]; simp))
        have hix := fun H => idx54 x H
        simp only [stm] at hof
        have hst := store30s [.int .i64 0, .nils, .nils, .str []] [.int .i64 (ofS x).cls, .sl (strs (ofS x).reads), .sl (strs (ofS x).writes), .str (ofS x).norm] rfl rfl rfl
        simp only [go_sem, bx, K20, call_pure pure_39, hsc, PC_still, he, call_pure pure_40, hsp, call_pure pure_17, hof, hix, hst, Nat.le_refl, Int.cast_ofNat_Int, decide_true, decide_false]
        rfl
      | cons y ls =>
        rw [hpl] at hsp
        have hd1 : decide ((1 : Int) < ((ls.length + 1 + 1 : Nat) : Int)) = true := decide_eq_true (by omega)
        have hz := store30s [.int .i64 0, .nils, .nils, .str []] [.int .i64 0, .nils, .nils, .str []] rfl rfl rfl
        simp only [go_sem, bx, K20, call_pure pure_39, hsc, PC_still, he, call_pure pure_40, hsp, hd1, build30z, hz, Nat.le_refl]
        rfl
theorem p_toks (s : List UInt8) (hs : s.length ≤ 10000000) : PV 24 [.str s] = some (.sl (toks (scanL s).1)) := by
  refine PV_start k24 rfl (Nat.le_of_ble_eq_true rfl) ?_
  have hsc := p_scan4 s hs
  unfold scanR at hsc
  simp only [go_sem, bx, K24, call_pure pure_39, hsc, PC_still]
/-! ### Meets -/
theorem count_bump (n m : List UInt8) (l : List (List UInt8 × Int)) : count n (bump m l) = if n == m then IntKind.i64.wrap (count m l + 1) else count n l := by
  unfold bump
  generalize IntKind.i64.wrap (count m l + 1) = c
  induction l with
  | nil =>
    simp only [setKv, count]
  | cons a l ih =>
    obtain ⟨k, d⟩ := a
    simp only [setKv]
    by_cases h1 : m = k
    · subst h1
      simp only [beq_self_eq_true, if_true, count]
      split <;> rfl
    · have h1' : (m == k) = false := by simpa using h1
      rw [h1']
      simp only [Bool.false_eq_true, if_false, count]
      by_cases h2 : n = k
      · subst h2
        have h3 : (n == m) = false := by simpa using fun e => h1 e.symm
        rw [h3]
        simp only [beq_self_eq_true, if_true, Bool.false_eq_true, if_false]
      · have h2' : (n == k) = false := by simpa using h2
        rw [h2']
        simp only [Bool.false_eq_true, if_false]
        exact ih
theorem count_bumps (n : List UInt8) : ∀ (names : List (List UInt8)) (l : List (List UInt8 × Int)), 0 ≤ count n l → count n l + names.length ≤ 1000000 → count n (bumps l names) = count n l + names.count n
  | [], l, _, _ => by simp [bumps]
  | m :: names, l, h0, h => by
    show count n (bumps (bump m l) names) = _
    have hb := count_bump n m l
    simp only [List.length_cons] at h
    by_cases e : n = m
    · subst e
      rw [if_pos (by simp)] at hb
      have hw : IntKind.i64.wrap (count n l + 1) = count n l + 1 := wrap_ok (by omega) (by omega)
      rw [hw] at hb
      rw [count_bumps n names _ (by omega) (by omega), hb, List.count_cons_self]
      omega
    · have e' : (n == m) = false := by simpa using e
      rw [e'] at hb
      simp only [Bool.false_eq_true, if_false] at hb
      rw [count_bumps n names _ (by omega) (by omega), hb, List.count_cons_of_ne (fun q => e q.symm)]
theorem p_meets (a b : List (List UInt8)) (ha : a.length ≤ 100000) (hb : b.length ≤ 100000) : PV 21 [.sl (strs a), .sl (strs b)] = some (.bool (b.any fun x => a.contains x)) := by
  refine PV_start k21 rfl (Nat.le_of_ble_eq_true rfl) ?_
  simp only [go_sem, bx, K21]
  refine C_for a.length (fun i s H => s 1 = .sl (strs b) ∧ s 5 = .mp 0 ∧ s 11 = .sl (strs a) ∧ s 12 = .int .i64 (a.length : Int) ∧ s 13 = .int .i64 (i : Int) ∧ H = [.map (kvs (bumps [] (a.take i)))]) ⟨by simp only [go_sem, bx], by simp only [go_sem, bx], by simp only [go_sem, bx], by simp only [go_sem, bx], by simp only [go_sem, bx]; rfl, rfl⟩ ?_ ?_
  · rintro i s H hi ⟨h1, h5, h11, h12, h13, rfl⟩
    have hd : ((i : Int) < (a.length : Int)) := by omega
    have hw : IntKind.i64.wrap ((i : Int) + 1) = ((i + 1 : Nat) : Int) := wrap_succ (by simp only [maxL]; omega)
    have hg := strs_at' (H := [.map (kvs (bumps [] (a.take i)))]) hi
    have hbs : bumps [] (a.take (i + 1)) = bump (strAt a i) (bumps [] (a.take i)) := by
      unfold bumps
      rw [List.take_add_one, List.getElem?_eq_getElem hi, List.foldl_append, strAt_lt hi]
      rfl
    have hlk := lookup_kvs (H := [.map (kvs (bumps [] (a.take i)))]) (M := 0) (l := bumps [] (a.take i)) rfl (strAt a i)
    have hup := update_kvs (H := [.map (kvs (bumps [] (a.take i)))]) (M := 0) (l := bumps [] (a.take i)) rfl (strAt a i) (IntKind.i64.wrap (count (strAt a i) (bumps [] (a.take i)) + 1))
    rw [hbs]
    unfold bump
    simp only [go_sem, bx, L21_0, h1, h5, h11, h12, h13, hd, hg, hlk, hup, hw, List.set_cons_zero]
  · rintro s H ⟨h1, h5, h11, h12, h13, rfl⟩
    have hd : ¬ ((a.length : Int) < (a.length : Int)) := by omega
    rw [List.take_length]
    simp only [go_sem, bx, L21_0, h1, h12, h13, hd]
    have hlk := fun n => lookup_kvs (H := [.map (kvs (bumps [] a))]) (M := 0) (l := bumps [] a) rfl n
    have hcn : ∀ n, decide ((0 : Int) < count n (bumps [] a)) = a.contains n := by
      intro n
      rw [count_bumps n a [] (Int.le_refl _) (by show (0 : Int) + _ ≤ _; omega)]
      show decide ((0 : Int) < 0 + _) = _
      rw [Bool.eq_iff_iff, decide_eq_true_eq, List.contains_iff_mem, ← List.count_pos_iff]
      omega
    generalize bumps [] a = m at *
    have hr : (List.range b.length).any (fun i => a.contains (strAt b i)) = b.any fun x => a.contains x := by
      rw [Bool.eq_iff_iff, List.any_eq_true, List.any_eq_true]
      constructor
      · rintro ⟨i, hi, h⟩
        have hi' := List.mem_range.1 hi
        rw [strAt_lt hi'] at h
        exact ⟨_, List.getElem_mem hi', h⟩
      · rintro ⟨x, hx, h⟩
        obtain ⟨i, hi, rfl⟩ := List.getElem_of_mem hx
        exact ⟨i, List.mem_range.2 hi, by rw [strAt_lt hi]; exact h⟩
    generalize (b.any fun x => a.contains x) = r at *
    refine C_any b.length _ (fun i s H => s 5 = .mp 0 ∧ s 22 = .sl (strs b) ∧ s 23 = .int .i64 (b.length : Int) ∧ s 24 = .int .i64 (i : Int) ∧ H = [.map (kvs m)]) hr ⟨by simp only [go_sem, bx, h5], by simp only [go_sem, bx], by simp only [go_sem, bx], by simp only [go_sem, bx]; rfl, rfl⟩ ?_ ?_ ?_
    · rintro i s H hi hp ⟨h5, h22, h23, h24, rfl⟩
      have hd : ((i : Int) < (b.length : Int)) := by omega
      have hw : IntKind.i64.wrap ((i : Int) + 1) = ((i + 1 : Nat) : Int) := wrap_succ (by simp only [maxL]; omega)
      have hg := strs_at' (H := [.map (kvs m)]) hi
      rw [← hcn] at hp
      simp only [go_sem, bx, L21_1, h5, h22, h23, h24, hd, hg, hlk, hp, hw]
    · rintro i s H hi hp rfl ⟨h5, h22, h23, h24, rfl⟩
      have hd : ((i : Int) < (b.length : Int)) := by omega
      have hg := strs_at' (H := [.map (kvs m)]) hi
      rw [← hcn] at hp
      simp only [go_sem, bx, L21_1, h5, h22, h23, h24, hd, hg, hlk, hp]
    · rintro s H rfl ⟨h5, h22, h23, h24, rfl⟩
      have hd : ¬ ((b.length : Int) < (b.length : Int)) := by omega
      simp only [go_sem, bx, L21_1, h23, h24, hd]
/-! ### light, ref04.Same -/
def lightB (l : List Tok) : Bool := decide (l.length ≤ 100) && l.all fun t => decide (t.text.length ≤ 100)
theorem light_small {l : List Tok} (h : lightB l = true) : Small l := by
  unfold lightB at h
  rw [Bool.and_eq_true, decide_eq_true_eq, List.all_eq_true] at h
  exact ⟨by omega, fun t ht => by have := h.2 t ht; simp only [decide_eq_true_eq] at this; omega⟩
theorem p_light (l : List Tok) : PV 8 [.sl (toks l)] = some (.bool (lightB l)) := by
  refine PV_start k8 rfl (Nat.le_of_ble_eq_true rfl) ?_
  unfold lightB
  by_cases h : (100 : Int) < (l.length : Int)
  · rw [decide_eq_false (by omega), Bool.false_and]
    simp only [go_sem, bx, K8, h]
  · rw [decide_eq_true (by omega), Bool.true_and]
    have hr : (List.range l.length).any (fun i => decide ((100 : Int) < ((tokAt l i).text.length : Int))) = !(l.all fun t => decide (t.text.length ≤ 100)) := by
      rw [List.not_all_eq_any_not, Bool.eq_iff_iff, List.any_eq_true, List.any_eq_true]
      constructor
      · rintro ⟨i, hi, h⟩
        have hi' := List.mem_range.1 hi
        rw [tokAt_nat hi'] at h
        have := of_decide_eq_true h
        exact ⟨_, List.getElem_mem hi', by simp only [Bool.not_eq_true', decide_eq_false_iff_not]; omega⟩
      · rintro ⟨x, hx, h⟩
        obtain ⟨i, hi, rfl⟩ := List.getElem_of_mem hx
        simp only [Bool.not_eq_true', decide_eq_false_iff_not] at h
        exact ⟨i, List.mem_range.2 hi, by rw [tokAt_nat hi]; exact decide_eq_true (by omega)⟩
    generalize hq : (l.all fun t => decide (t.text.length ≤ 100)) = r at *
    simp only [go_sem, bx, K8, h]
    refine C_any l.length _ (fun i s H => s 0 = .sl (toks l) ∧ s 3 = .int .i64 (i : Int)) hr ⟨by simp only [go_sem, bx], by simp only [go_sem, bx]; rfl⟩ ?_ ?_ ?_
    · rintro i s H hi hp ⟨h0, h3⟩
      have hd : ((i : Int) < (l.length : Int)) := by omega
      have hw : IntKind.i64.wrap ((i : Int) + 1) = ((i + 1 : Nat) : Int) := wrap_succ (by simp only [maxL]; omega)
      have hg := fun H => indexAddr_22 l .i64 (i : Int) H (by omega) hd
      simp only [go_sem, bx, L8_0, h0, h3, hd, hg, tok, hp, hw]
    · rintro i s H hi hp hr ⟨h0, h3⟩
      have hd : ((i : Int) < (l.length : Int)) := by omega
      have hg := fun H => indexAddr_22 l .i64 (i : Int) H (by omega) hd
      have hr' : r = false := by simpa using hr
      rw [hr']
      simp only [go_sem, bx, L8_0, h0, h3, hd, hg, tok, hp]
    · rintro s H hr ⟨h0, h3⟩
      have hd : ¬ ((l.length : Int) < (l.length : Int)) := by omega
      have hr' : r = true := by simpa using hr
      rw [hr']
      simp only [go_sem, bx, L8_0, h0, h3, hd]
theorem p_same4 (l : List Tok) (hl : l.length ≤ 1000000) : PV 18 [.sl (toks l), .sl (toks l), .bool true] = some (.bool true) := by
  refine PV_start k18 rfl (Nat.le_of_ble_eq_true rfl) ?_
  simp only [go_sem, bx, K18, decide_true]
  refine C_for l.length (fun i s H => s 0 = .sl (toks l) ∧ s 1 = .sl (toks l) ∧ s 2 = .bool true ∧ s 7 = .int .i64 (i : Int)) ⟨by simp only [go_sem, bx], by simp only [go_sem, bx], by simp only [go_sem, bx], by simp only [go_sem, bx]; rfl⟩ ?_ ?_
  · rintro i s H hi ⟨h0, h1, h2, h7⟩
    have hd : ((i : Int) < (l.length : Int)) := by omega
    have hw : IntKind.i64.wrap ((i : Int) + 1) = ((i + 1 : Nat) : Int) := wrap_succ (by simp only [maxL]; omega)
    have hg := fun H => indexAddr_22 l .i64 (i : Int) H (by omega) hd
    simp only [go_sem, bx, L18_0, D18_6, h0, h1, h2, h7, hd, hg, tok, hw, decide_true, beq_self_eq_true]
  · rintro s H ⟨h0, h1, h2, h7⟩
    have hd : ¬ ((l.length : Int) < (l.length : Int)) := by omega
    simp only [go_sem, bx, L18_0, h0, h7, hd]
end Go.Proofs
/- The sets' layer: what must come of fixed calls. -/


set_option linter.unusedSimpArgs false
set_option linter.unusedVariables false
namespace Go.Proofs
open Go.Vam
def t1 : List UInt8 := [115, 101, 108, 101, 99, 116, 32, 42, 32, 102, 114, 111, 109, 32, 97, 44, 32, 98, 32, 120, 32, 106, 111, 105, 110, 32, 34, 67, 34, 32, 117, 115, 105, 110, 103, 32, 40, 107, 41, 59]
def t2 : List UInt8 := [105, 110, 115, 101, 114, 116, 32, 105, 110, 116, 111, 32, 115, 46, 116, 32, 115, 101, 108, 101, 99, 116, 32, 49, 32, 102, 114, 111, 109, 32, 117]
def t3 : List UInt8 := [115, 101, 108, 101, 99, 116, 32, 49, 59, 32, 115, 101, 108, 101, 99, 116, 32, 50]
def t4 : List UInt8 := [39]
def t5 : List UInt8 := [98, 101, 103, 105, 110]
def t6 : List UInt8 := [100, 101, 108, 101, 116, 101, 32, 102, 114, 111, 109, 32, 120]
def n1 : List UInt8 := [115, 101, 108, 101, 99, 116, 32, 42, 32, 102, 114, 111, 109, 32, 97, 32, 44, 32, 98, 32, 120, 32, 106, 111, 105, 110, 32, 34, 67, 34, 32, 117, 115, 105, 110, 103, 32, 40, 32, 107, 32, 41]
def n2 : List UInt8 := [105, 110, 115, 101, 114, 116, 32, 105, 110, 116, 111, 32, 115, 32, 46, 32, 116, 32, 115, 101, 108, 101, 99, 116, 32, 49, 32, 102, 114, 111, 109, 32, 117]
def S1 : Stm := ⟨1, [[67], [97], [98]], [], n1⟩
def S2 : Stm := ⟨2, [[117]], [[115, 46, 116]], n2⟩
def n5 : List UInt8 := [98, 101, 103, 105, 110]
def S5 : Stm := ⟨3, [], [], n5⟩
theorem kn1 : parseL t1 = (S1, 0) := by kernel_rfl
theorem kn2 : parseL t2 = (S2, 0) := by kernel_rfl
theorem kn3 : parseL t3 = (zeroS, 4) := by kernel_rfl
theorem kn4 : parseL t4 = (zeroS, 6) := by kernel_rfl
theorem kn5 : parseL t5 = (S5, 0) := by kernel_rfl
theorem kn6r : readsR (scanL t6).1 (scanL t6).1.length 0 [] = [] := by kernel_rfl
theorem kn6w : writesR (scanL t6).1 (scanL t6).1.length 0 [] = [[120]] := by kernel_rfl
theorem scan_Small (s : List UInt8) : Small (scanL s).1 := ⟨by have := (scanL_small s).1; omega, fun t ht => by have := (scanL_small s).2 t ht; omega⟩
theorem pk1 : PV 19 [.str t1] = some (.tup [.agg [.int .i64 1, .sl (strs S1.reads), .sl (strs S1.writes), .str n1], .int .i64 0]) := by
  rw [p_parse t1 (by decide), kn1]
  rfl
theorem pk2 : PV 19 [.str t2] = some (.tup [.agg [.int .i64 2, .sl (strs S2.reads), .sl (strs S2.writes), .str n2], .int .i64 0]) := by
  rw [p_parse t2 (by decide), kn2]
  rfl
theorem pk3 : PV 19 [.str t3] = some (.tup [.agg [.int .i64 0, .sl (strs []), .sl (strs []), .str []], .int .i64 4]) := by
  rw [p_parse t3 (by decide), kn3]
  rfl
theorem pk4 : PV 19 [.str t4] = some (.tup [.agg [.int .i64 0, .sl (strs []), .sl (strs []), .str []], .int .i64 6]) := by
  rw [p_parse t4 (by decide), kn4]
  rfl
theorem pk5 : PV 19 [.str t5] = some (.tup [.agg [.int .i64 3, .sl (strs []), .sl (strs []), .str n5], .int .i64 0]) := by
  rw [p_parse t5 (by decide), kn5]
  rfl
theorem pk6 : PV 24 [.str t6] = some (.sl (toks (scanL t6).1)) := p_toks t6 (by decide)
theorem pk7 : PV 11 [.sl (toks (scanL t6).1)] = some (.sl []) := by
  rw [p_reads _ (scan_Small _), kn6r]
  rfl
theorem pk8 : PV 13 [.sl (toks (scanL t6).1)] = some (.sl (strs [[120]])) := by
  rw [p_writes' _ (scan_Small _), kn6w]
theorem new30 (c : Int) (x y : AV) (n : List UInt8) (hx : x.isCell = true) (hy : y.isCell = true) (H : AHeap) : astore Try.prog 30 (.ptr H.length 0 0) (.agg [.int .i64 c, x, y, .str n]) (H ++ [.arr 30 true 0 [[.int .i64 0, .nils, .nils, .str []]]]) = some (H ++ [.arr 30 true 0 [[.int .i64 c, x, y, .str n]]]) :=
  store_agg (c := [.int .i64 c, x, y, .str n]) (z := [.int .i64 0, .nils, .nils, .str []]) szOf_30 (by simp only [List.all_cons, List.all_nil, hx, hy]; rfl) rfl H
theorem frz_lit (H : AHeap) (r : List (List UInt8)) (c : Int) (n : List UInt8) (k : Nat) (hk : k = r.length) : frz depth (H ++ [.arr 9 true 0 (strs r)]) (.agg [.int .i64 c, .hs H.length 0 k, .nils, .str n]) = some (.agg [.int .i64 c, .sl (strs r), .sl [], .str n]) := by
  subst hk
  have h7 : frz 7 (H ++ [.arr 9 true 0 (strs r)]) (.hs H.length 0 r.length) = some (.sl (strs r)) := by
    simp only [frz]
    rw [List.getElem?_append_right (by simp)]
    simp only [Nat.sub_self, List.getElem?_cons_zero, strs_len, Nat.zero_add, Nat.le_refl, if_true, List.drop_zero]
    rw [show (strs r).take r.length = strs r from List.take_of_length_le (by rw [strs_len]; exact Nat.le_refl _)]
    rw [frz_strs _ r 5]
    rfl
  generalize H ++ [AO.arr 9 true 0 (strs r)] = H' at *
  have e : frz depth H' (.agg [.int .i64 c, .hs H.length 0 r.length, .nils, .str n]) = (mapO (frz 7 H') [.int .i64 c, .hs H.length 0 r.length, .nils, .str n]).map .agg := rfl
  have e1 : frz 7 H' (.int .i64 c) = some (.int .i64 c) := rfl
  have e2 : frz 7 H' .nils = some (.sl []) := rfl
  have e3 : frz 7 H' (.str n) = some (.str n) := rfl
  rw [e]
  simp only [mapO, e1, e2, e3, h7, Option.map_some]
theorem frz_agg (H : AHeap) (c : Int) (n : List UInt8) (x y : List (List AV)) : frz depth H (.agg [.int .i64 c, .sl x, .sl y, .str n]) = some (.agg [.int .i64 c, .sl x, .sl y, .str n]) := rfl
theorem build30r (c : Int) (i j k : Nat) (n : List UInt8) : abuild Try.prog 30 [(0, .int .i64 c), (1, .hs i j k), (3, .str n)] = some (.agg [.int .i64 c, .hs i j k, .nils, .str n]) := by
  unfold abuild
  rw [structT_30, zeroT_30]
  simp [afill, fldT_30_0, fldT_30_1, fldT_30_3, szOf_3, szOf_9, szOf_26, AV.cells, AV.isCell]
theorem p_known : PV 9 [] = some (.bool true) := by
  refine PV_start k9 rfl (Nat.le_of_ble_eq_true rfl) ?_
  rw [K9]
  refine C_then (fun s H => H = []) (by simp only [go_sem, bx]) ?_
  rintro s H rfl
  have x1 := pk1
  have x2 := pk2
  have x3 := pk3
  have x4 := pk4
  have x5 := pk5
  simp only [t1, t2, t3, t4, t5] at x1 x2 x3 x4 x5
  have st1 := new30 1 (.sl (strs S1.reads)) (.sl (strs S1.writes)) n1 rfl rfl []
  simp only [go_sem, bx] at st1
  refine C_then (fun s H => s 1 = .ptr 0 0 0 ∧ s 2 = .int .i64 0 ∧ H = [.arr 30 true 0 [[.int .i64 1, .sl (strs S1.reads), .sl (strs S1.writes), .str n1]]]) (by simp only [go_sem, bx, call_pure pure_19, x1, PC_still, st1]) ?_
  clear s st1
  rintro s H ⟨s1, s2, rfl⟩
  generalize ho1 : AO.arr 30 true 0 [[.int .i64 1, .sl (strs S1.reads), .sl (strs S1.writes), .str n1]] = o1
  have st2 := new30 2 (.sl (strs S2.reads)) (.sl (strs S2.writes)) n2 rfl rfl [o1]
  simp only [go_sem, bx] at st2
  refine C_then (fun s H => s 1 = .ptr 0 0 0 ∧ s 2 = .int .i64 0 ∧ s 3 = .ptr 1 0 0 ∧ s 4 = .int .i64 0 ∧ H = [o1, .arr 30 true 0 [[.int .i64 2, .sl (strs S2.reads), .sl (strs S2.writes), .str n2]]]) (by simp only [go_sem, bx, s1, s2, call_pure pure_19, x2, PC_still, st2]) ?_
  clear s s1 s2 st2
  rintro s H ⟨s1, s2, s3, s4, rfl⟩
  generalize ho2 : AO.arr 30 true 0 [[.int .i64 2, .sl (strs S2.reads), .sl (strs S2.writes), .str n2]] = o2
  have st3 := new30 0 (.sl (strs [])) (.sl (strs [])) [] rfl rfl [o1, o2]
  simp only [go_sem, bx] at st3
  refine C_then (fun s H => s 1 = .ptr 0 0 0 ∧ s 2 = .int .i64 0 ∧ s 3 = .ptr 1 0 0 ∧ s 4 = .int .i64 0 ∧ s 6 = .int .i64 4 ∧ H = [o1, o2, .arr 30 true 0 [[.int .i64 0, .sl (strs []), .sl (strs []), .str []]]]) (by simp only [go_sem, bx, s1, s2, s3, s4, call_pure pure_19, x3, PC_still, st3]) ?_
  clear s s1 s2 s3 s4 st3
  rintro s H ⟨s1, s2, s3, s4, s6, rfl⟩
  generalize ho3 : AO.arr 30 true 0 [[.int .i64 0, .sl (strs []), .sl (strs []), .str []]] = o3
  have st4 := new30 0 (.sl (strs [])) (.sl (strs [])) [] rfl rfl [o1, o2, o3]
  simp only [go_sem, bx] at st4
  refine C_then (fun s H => s 1 = .ptr 0 0 0 ∧ s 2 = .int .i64 0 ∧ s 3 = .ptr 1 0 0 ∧ s 4 = .int .i64 0 ∧ s 6 = .int .i64 4 ∧ s 8 = .int .i64 6 ∧ H = [o1, o2, o3, .arr 30 true 0 [[.int .i64 0, .sl (strs []), .sl (strs []), .str []]]]) (by simp only [go_sem, bx, s1, s2, s3, s4, s6, call_pure pure_19, x4, PC_still, st4]) ?_
  clear s s1 s2 s3 s4 s6 st4
  rintro s H ⟨s1, s2, s3, s4, s6, s8, rfl⟩
  rw [ho3]
  have st5 := new30 3 (.sl (strs [])) (.sl (strs [])) n5 rfl rfl [o1, o2, o3, o3]
  simp only [go_sem, bx] at st5
  refine C_then (fun s H => s 1 = .ptr 0 0 0 ∧ s 2 = .int .i64 0 ∧ s 3 = .ptr 1 0 0 ∧ s 4 = .int .i64 0 ∧ s 6 = .int .i64 4 ∧ s 8 = .int .i64 6 ∧ s 9 = .ptr 4 0 0 ∧ s 10 = .int .i64 0 ∧ H = [o1, o2, o3, o3, .arr 30 true 0 [[.int .i64 3, .sl (strs []), .sl (strs []), .str n5]]]) (by simp only [go_sem, bx, s1, s2, s3, s4, s6, s8, call_pure pure_19, x5, PC_still, st5]) ?_
  clear s s1 s2 s3 s4 s6 s8 st5 x1 x2 x3 x4 x5
  rintro s H ⟨s1, s2, s3, s4, s6, s8, s9, s10, hH⟩
  have h0 : H[0]? = some (.arr 30 true 0 [[.int .i64 1, .sl (strs S1.reads), .sl (strs S1.writes), .str n1]]) := by rw [hH, ← ho1]; rfl
  have h1 : ∀ x, (H ++ [x])[1]? = some (.arr 30 true 0 [[.int .i64 2, .sl (strs S2.reads), .sl (strs S2.writes), .str n2]]) := by intro x; rw [hH, ← ho2]; rfl
  have h2 : ∀ x y, (H ++ [x] ++ [y])[1]? = some (.arr 30 true 0 [[.int .i64 2, .sl (strs S2.reads), .sl (strs S2.writes), .str n2]]) := by intro x y; rw [hH, ← ho2]; rfl
  have h4 : ∀ x y z, (H ++ [x] ++ [y] ++ [z])[4]? = some (.arr 30 true 0 [[.int .i64 3, .sl (strs []), .sl (strs []), .str n5]]) := by intro x y z; rw [hH]; rfl
  clear hH ho1 ho2 ho3
  have b30 := fun H : AHeap => build30r 1 H.length 0 3 n1
  have fl := fun H => frz_lit H [[67], [97], [98]] 1 n1 3 rfl
  have sm : PV 15 [.agg [.int .i64 1, .sl (strs S1.reads), .sl (strs S1.writes), .str n1], .agg [.int .i64 1, .sl (strs [[67], [97], [98]]), .sl [], .str n1]] = some (.bool true) := p_same S1 S1 (by decide) (by decide)
  have tx1 : PV 10 [.sl (strs S2.reads), .sl (strs [[117]])] = some (.bool true) := p_texts [[117]] [[117]] (by decide)
  have tx2 : PV 10 [.sl (strs S2.writes), .sl (strs [[115, 46, 116]])] = some (.bool true) := p_texts [[115, 46, 116]] [[115, 46, 116]] (by decide)
  have tx3 : PV 10 [.sl [], .sl []] = some (.bool true) := p_texts [] [] (by decide)
  have tx4 : PV 10 [.sl (strs [[120]]), .sl (strs [[120]])] = some (.bool true) := p_texts [[120]] [[120]] (by decide)
  have m1 : PV 21 [.sl (strs [[97]]), .sl (strs [[98], [97]])] = some (.bool true) := p_meets [[97]] [[98], [97]] (by decide) (by decide)
  have m2 : PV 21 [.sl [], .sl (strs [[97]])] = some (.bool false) := p_meets [] [[97]] (by decide) (by decide)
  have f1 := fun H x => frz_last H [x] 1 rfl
  have f2 := fun H => frz_last H [[98], [97]] 2 rfl
  have f2' := fun (H : AHeap) (z : AO) => (show frz depth (H ++ [.arr 9 true 0 (strs [[97]])] ++ [z]) (.hs H.length 0 1) = some (.sl (strs [[97]])) from by
    have := frz_own (H := H ++ [.arr 9 true 0 (strs [[97]])] ++ [z]) (v := .hs H.length 0 1) (l := [[97]]) (.inr ⟨H.length, rfl, by
      rw [List.getElem?_append_left (by simp), List.getElem?_append_right (Nat.le_refl _), Nat.sub_self]
      rfl⟩)
    exact this)
  have g1 := pk6
  have g2 := pk7
  have g3 := pk8
  simp only [t6] at g1 g2 g3
  simp only [n1] at b30 fl sm h0
  simp only [go_sem, bx, s1, s2, s3, s4, s6, s8, s9, s10, h0, decide_true, Nat.le_refl, bs_str, b30, call_pure pure_15, fl, frz_agg, sm, h1, call_pure pure_10, f1, tx1, h2, tx2, h4, f2, f2', call_pure pure_21, m1, m2, call_pure pure_24, g1, call_pure pure_11, g2, PC_still, tx3, call_pure pure_13, g3, tx4]
end Go.Proofs
/- The sets' layer: SetsTells, SetsParses. -/

set_option linter.unusedSimpArgs false
set_option linter.unusedVariables false
namespace Go.Proofs
open Go.Vam
/-- A slice of these tokens, be they written any more or not. -/
def OwnF (H : AHeap) (v : AV) (l : List Tok) : Prop := ∃ id fz, v = .hs id 0 l.length ∧ H[id]? = some (.arr 40 true fz (toks l))
theorem OwnF.frz {H : AHeap} {v : AV} {l : List Tok} (h : OwnF H v l) : frz depth H v = some (.sl (toks l)) := by
  obtain ⟨id, fz, rfl, h⟩ := h
  simp only [depth, Go.Vam.frz]
  rw [h]
  simp only
  rw [if_pos (by rw [toks_len]; omega), List.drop_zero, show l.length = (toks l).length from (toks_len l).symm, List.take_length, frz_toks H l 6]
  rfl
theorem reach_tok (H : AHeap) (l : List Tok) : ∀ n, (toks l).flatMap (fun e => e.flatMap (reach n H)) = [] := by
  intro n
  rw [List.flatMap_eq_nil_iff]
  intro e he
  obtain ⟨t, _, rfl⟩ := List.mem_map.1 he
  cases n <;> rfl
theorem OwnF.call {H : AHeap} {v : AV} {l : List Tok} (h : OwnF H v l) (z : AV) : ∃ H', PC [v] H (some z) = some (z, H') ∧ OwnF H' v l := by
  obtain ⟨id, fz, rfl, h⟩ := h
  rw [PC_some]
  cases hl : leads depth z with
  | false => exact ⟨H, rfl, id, fz, rfl, h⟩
  | true =>
    have hr : [AV.hs id 0 l.length].flatMap (reach depth H) = [id] := by
      simp only [List.flatMap_cons, List.flatMap_nil, List.append_nil]
      show id :: (match H[id]? with
        | some (.arr _ _ _ es) => es.flatMap fun e => e.flatMap (reach 7 H)
        | _ => []) = [id]
      rw [h]
      simp only
      rw [reach_tok]
    rw [hr]
    refine ⟨_, rfl, id, max fz (toks l).length, rfl, ?_⟩
    simp only [if_true, List.foldl_cons, List.foldl_nil, settle1, h]
    exact List.getElem?_set_self (List.getElem?_eq_some_iff.1 h).1
theorem append_own (l : List Tok) (hl : l.length ≤ 1000000) : ∃ v H', aappend Try.prog 22 22 (.hs 0 0 0) (.sl (toks l)) [.arr 40 true 0 []] = some (v, H') ∧ OwnF H' v l := by
  have hni : notIntT Try.prog 22 = true := notIntT_22
  have hz : (zeroT Try.prog 40).isSome = true := by rw [zeroT_40]; rfl
  have hall : ∀ c ∈ toks l, szOf Try.prog 40 = some c.length ∧ c.all AV.isCell = true := by
    intro c hc
    obtain ⟨t, _, rfl⟩ := List.mem_map.1 hc
    exact ⟨szOf_40, rfl⟩
  unfold aappend
  rw [sliceT_22]
  simp only [asrc, aelems]
  rw [bytesT_40, szOf_40]
  simp only
  rw [if_pos ⟨by rw [← szOf_40]; exact hall, hni, hz⟩]
  simp only [List.getElem?_cons_zero, toks_len, List.length_nil, Nat.zero_add, List.nil_append]
  rw [if_pos ⟨trivial, trivial, trivial, trivial, Nat.le_refl _, by omega, by omega⟩]
  by_cases h0 : l.length = 0
  · rw [if_pos h0]
    have : l = [] := List.length_eq_zero_iff.1 h0
    subst this
    exact ⟨_, _, rfl, 0, 0, rfl, rfl⟩
  · rw [if_neg h0]
    exact ⟨_, _, rfl, 1, 0, rfl, rfl⟩
theorem bs_tok0 : abuildSlice Try.prog 22 0 [] [] = some (.hs 0 0 0, [.arr 40 true 0 []]) := by
  unfold abuildSlice
  rw [sliceT_22]
  simp only
  rw [zeroT_40]
  simp [afillS]
theorem putS_text {N : Nat} : ∀ (more l : List (List UInt8)), (∀ y ∈ l, y.length ≤ N) → (∀ y ∈ more, y.length ≤ N) → ∀ y ∈ putS l more, y.length ≤ N := by
  intro more l h1 h2 y hy
  rcases putS_mem more l y hy with h | h
  · exact h1 y h
  · exact h2 y h
theorem reads_text {l : List Tok} (hs : Small l) : ∀ (n : Nat) (i : Int) (out : List (List UInt8)), (∀ y ∈ out, y.length ≤ 3000000) → out.length ≤ 100000000 → ∀ y ∈ readsR l n i out, y.length ≤ 3000000
  | 0, i, out, h, _ => h
  | n + 1, i, out, h, hl => by
    unfold readsR
    have hf := from_text hs (l.length + 1) (i + 1)
    cases readsAt l i
    · exact reads_text hs n _ _ h hl
    · intro y hy
      have key : ∀ (n : Nat) (i : Int) (out : List (List UInt8)), (∀ y ∈ out, y.length ≤ 3000000) → ∀ y ∈ readsR l n i out, y.length ≤ 3000000 := by
        intro n
        induction n with
        | zero => intro i out h; exact h
        | succ n ih =>
          intro i out h
          unfold readsR
          refine ih _ _ ?_
          split
          · exact putS_text _ _ h (from_text hs (l.length + 1) (i + 1))
          · exact h
      exact key _ _ _ (putS_text _ _ h hf) y hy
theorem reads_len (l : List Tok) : ∀ (n : Nat) (i : Int) (out : List (List UInt8)), (readsR l n i out).length ≤ out.length + n * (l.length + 1)
  | 0, i, out => by simp [readsR]
  | n + 1, i, out => by
    unfold readsR
    have ih := reads_len l n (i + 1) (if readsAt l i then putS out (namesAt l (i + 1)) else out)
    have h1 := putS_len (namesAt l (i + 1)) out
    have h2 := from_len l (l.length + 1) (i + 1)
    have h3 : (namesAt l (i + 1)).length ≤ l.length + 1 := h2
    rw [Nat.succ_mul]
    generalize readsAt l i = q at *
    cases q <;> simp only [if_true, Bool.false_eq_true, if_false] at ih ⊢ <;> omega
theorem writes_len (l : List Tok) : ∀ (n : Nat) (i : Int) (out : List (List UInt8)), (writesR l n i out).length ≤ out.length + n * (l.length + 2)
  | 0, i, out => by simp [writesR]
  | n + 1, i, out => by
    unfold writesR
    have ih := writes_len l n (i + 1) (wStep l i out)
    have h3 : (namesAt l (i + 1)).length ≤ l.length + 1 := from_len l (l.length + 1) (i + 1)
    have hw : (wStep l i out).length ≤ out.length + (l.length + 2) := by
      unfold wStep
      have h1 := putS_len (namesAt l (i + 1)) out
      have h4 := putS_len ((namesAt l (i + 1)).take 1) (putS out (namesAt l (i + 1)))
      have h5 := putS_len ((namesAt l (i + 1)).take 1) out
      have h6 : ((namesAt l (i + 1)).take 1).length ≤ 1 := by simp only [List.length_take]; omega
      cases moreAt l i <;> cases oneAt l i <;> simp only [if_true, Bool.false_eq_true, if_false] <;> omega
    rw [Nat.succ_mul]
    omega
theorem small_mul {l : List Tok} (hs : Small l) : l.length * (l.length + 1) ≤ 10000000 ∧ l.length * (l.length + 2) ≤ 10000000 := by
  have := hs.len
  exact ⟨Nat.le_trans (Nat.mul_le_mul this (by omega : l.length + 1 ≤ 3001)) (by decide), Nat.le_trans (Nat.mul_le_mul this (by omega : l.length + 2 ≤ 3002)) (by decide)⟩
theorem reads_max {l : List Tok} (hs : Small l) : (readsR l l.length 0 []).length ≤ 10000000 := by
  have := reads_len l l.length 0 []
  have := (small_mul hs).1
  simp only [List.length_nil] at *
  omega
theorem writes_max {l : List Tok} (hs : Small l) : (writesR l l.length 0 []).length ≤ 10000000 := by
  have := writes_len l l.length 0 []
  have := (small_mul hs).2
  simp only [List.length_nil] at *
  omega
theorem of_max {l : List Tok} (hs : Small l) : (ofS l).reads.length ≤ 10000000 ∧ (ofS l).writes.length ≤ 10000000 := by
  unfold ofS
  constructor
  · simp only
    split
    · exact reads_max hs
    · exact Nat.zero_le _
  · simp only
    split
    · exact writes_max hs
    · exact Nat.zero_le _
theorem law_tells (l : List Tok) : PV 3 [.sl (toks l)] = some (.bool true) := by
  refine PV_start k3 rfl (Nat.le_of_ble_eq_true rfl) ?_
  have h8 := p_light l
  have h9 := p_known
  cases hlt : lightB l
  · simp only [go_sem, bx, K3, call_pure pure_8, h8, hlt, call_pure pure_9, h9]
  · have hs := light_small hlt
    have hlen := hs.len
    obtain ⟨v, H0, e0, o0⟩ := append_own l (by omega)
    have h11 := p_reads l hs
    have h12 := p_rreads l hs
    have h13 := p_writes' l hs
    have h14 := p_rwrites l hs
    have h16 := p_of l hs
    have h17 := p_of7 l hs
    have h18 := p_same4 l (by omega)
    have hom := of_max hs
    have t1 := p_texts (readsR l l.length 0 []) (readsR l l.length 0 []) (by have := reads_max hs; simp only [maxL]; omega)
    have t2 := p_texts (writesR l l.length 0 []) (writesR l l.length 0 []) (by have := writes_max hs; simp only [maxL]; omega)
    have t3 := p_same (ofS l) (ofS l) (by simp only [maxL]; omega) (by simp only [maxL]; omega)
    rw [decide_eq_true rfl] at t1 t2 t3
    obtain ⟨H1, e1, o1⟩ := o0.call (.sl (strs (readsR l l.length 0 [])))
    obtain ⟨H2, e2, o2⟩ := o1.call (.sl (strs (writesR l l.length 0 [])))
    obtain ⟨H3, e3, o3⟩ := o2.call (stm (ofS l))
    have f0 := o0.frz
    have f1 := o1.frz
    have f2 := o2.frz
    have f3 := o3.frz
    have hfs : ∀ H, frz depth H (stm (ofS l)) = some (stm (ofS l)) := fun H => rfl
    generalize stm (ofS l) = so at *
    simp only [go_sem, bx, K3, call_pure pure_8, h8, hlt, bs_tok0, bi_append, e0, call_pure pure_11, f0, h11, e1, call_pure pure_12, h12, PC_still, call_pure pure_10, t1, call_pure pure_13, f1, h13, e2, call_pure pure_14, h14, t2, call_pure pure_16, f2, h16, e3, call_pure pure_17, h17, hfs, call_pure pure_15, t3, f3, call_pure pure_18, h18, call_pure pure_9, h9]
theorem meets_sym (a b : List (List UInt8)) : (a.any fun x => b.contains x) = (b.any fun x => a.contains x) := by
  rw [Bool.eq_iff_iff, List.any_eq_true, List.any_eq_true]
  constructor <;> rintro ⟨x, hx, h⟩ <;> exact ⟨x, List.contains_iff_mem.1 h, List.contains_iff_mem.2 hx⟩
theorem parse_max (s : List UInt8) : (parseL s).1.reads.length ≤ 10000000 ∧ (parseL s).1.writes.length ≤ 10000000 := by
  unfold parseL
  have hpc := fun x => piece_small (s := s) (x := x)
  split
  · cases hpl : splitL (scanL s).1 with
    | nil => exact of_max small_nil
    | cons x ls =>
      cases ls with
      | nil => exact of_max (hpc x (by rw [hpl]; simp))
      | cons y ls => exact ⟨Nat.zero_le _, Nat.zero_le _⟩
  · exact ⟨Nat.zero_le _, Nat.zero_le _⟩
@[go_sem] theorem b_beql (P : Program) (t : TypeId) (a b : Bool) : abin P .eql t (.bool a) (.bool b) = if boolT P t then some (.bool (a == b)) else none := rfl
theorem law_parses (s : List UInt8) (a b : List (List UInt8)) : PV 4 [.str s, .sl (strs a), .sl (strs b)] = some (.bool true) := by
  refine PV_start k4 rfl (Nat.le_of_ble_eq_true rfl) ?_
  have h9 := p_known
  by_cases c1 : (2100 : Int) < (s.length : Int)
  · simp only [go_sem, bx, K4, c1, call_pure pure_9, h9]
  by_cases c2 : (60 : Int) < (a.length : Int)
  · simp only [go_sem, bx, K4, c1, c2, call_pure pure_9, h9]
  by_cases c3 : (60 : Int) < (b.length : Int)
  · simp only [go_sem, bx, K4, c1, c2, c3, call_pure pure_9, h9]
  have p1 := p_parse s (by omega)
  have p2 := p_parse7 s (by omega)
  have hm := parse_max s
  have m1 := p_meets a b (by omega) (by omega)
  have m2 := p_meets b a (by omega) (by omega)
  have m3 := p_rmeets a b (by simp only [maxL]; omega) (by simp only [maxL]; omega)
  unfold meets at m3
  rw [meets_sym b a] at m1
  generalize (a.any fun x => b.contains x) = mb at *
  have t3 := p_same (parseL s).1 (parseL s).1 (by simp only [maxL]; omega) (by simp only [maxL]; omega)
  rw [decide_eq_true rfl] at t3
  unfold parseR at p1 p2
  generalize parseL s = x at *
  obtain ⟨S, e⟩ := x
  simp only [stm] at p1 p2 t3
  have st1 := new30 S.cls (.sl (strs S.reads)) (.sl (strs S.writes)) S.norm rfl rfl []
  simp only [go_sem, bx] at st1
  generalize ho : AO.arr 30 true 0 [[.int .i64 S.cls, .sl (strs S.reads), .sl (strs S.writes), .str S.norm]] = o at *
  have st2 := new30 S.cls (.sl (strs S.reads)) (.sl (strs S.writes)) S.norm rfl rfl [o]
  simp only [go_sem, bx] at st2
  rw [ho] at st2
  have l0 : aload Try.prog 30 (.ptr 0 0 0) [o, o] = some (.agg [.int .i64 S.cls, .sl (strs S.reads), .sl (strs S.writes), .str S.norm]) := by
    rw [load_ptr, ← ho]
    simp only [go_sem, bx, Nat.le_refl]
  have l1 : aload Try.prog 30 (.ptr 1 0 0) [o, o] = some (.agg [.int .i64 S.cls, .sl (strs S.reads), .sl (strs S.writes), .str S.norm]) := by
    rw [load_ptr, ← ho]
    simp only [go_sem, bx, Nat.le_refl]
  have heq : (mb == mb) = true := beq_self_eq_true mb
  simp only [go_sem, bx, K4, c1, c2, c3, call_pure pure_19, p1, PC_still, st1, call_pure pure_20, p2, st2, l0, l1, frz_agg, call_pure pure_15, t3, decide_true, call_pure pure_21, call_pure pure_22, m1, m2, m3, heq, call_pure pure_9, h9]
end Go.Proofs
