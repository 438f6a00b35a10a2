/- What several laws of this seat need, part 5: an abstract machine for the program's code, that it is sound, and what it tells of the layer's functions. -/
import Derived.Test.YtaejgmokgliceaaJ4
import Derived.Lib.DecodeN
import Derived.Laws.RangeString
/- The sets' layer: bytes; texts in quotes. -/


set_option linter.unusedSimpArgs false
set_option linter.unusedVariables false
namespace Go.Proofs
open Go.Vam
def bys (l : List UInt8) : List (List AV) := l.map fun b => [.int .u8 b.toNat]
def byteAt (s : List UInt8) (i : Nat) : UInt8 := (s[i]?).getD 0
theorem byteAt_lt {s : List UInt8} {i : Nat} (h : i < s.length) : byteAt s i = s[i] := by simp [byteAt, h]
theorem idx9 {s : List UInt8} {i : Nat} (h : i < s.length) : aindex Try.prog 9 (.str s) (.int .i64 (i : Int)) = some (.int .u8 ((byteAt s i).toNat : Int)) := by
  rw [byteAt_lt h]
  exact index_str _ _ strT_9 (List.getElem?_eq_getElem h)
theorem u8_eq (a b : UInt8) : decide ((a.toNat : Int) = (b.toNat : Int)) = (a == b) := by
  rw [Bool.eq_iff_iff, decide_eq_true_eq, beq_iff_eq]
  constructor
  · intro h
    exact UInt8.toNat_inj.1 (by omega)
  · rintro rfl
    rfl
theorem bytesOf_bys (l : List UInt8) : bytesOf (bys l) = some l := by
  induction l with
  | nil => rfl
  | cons a l ih =>
    simp only [bys, List.map_cons] at ih ⊢
    simp only [bytesOf, ih, Option.map_some]
    simp
theorem append_byte {H : AHeap} {v : AV} {l : List UInt8} (x : UInt8) (ho : Own 5 H v (bys l)) (hl : l.length < 100000000) :
    ∃ v' H', aappend Try.prog 88 88 v (.hs H.length 0 1) (H ++ [.arr 5 true 0 [[.int .u8 (x.toNat : Int)]]]) = some (v', H') ∧ Own 5 H' v' (bys (l ++ [x])) ∧ KeepBut v H H' := by
  obtain ⟨v', H', h1, h2, h3⟩ := append_one (m := 0) sliceT_88 bytesT_5 szOf_5 zeroT_5 (by decide) ho (by simpa [bys] using hl) (c := [.int .u8 (x.toNat : Int)]) rfl rfl
  exact ⟨v', H', h1, by simpa [bys] using h2, h3⟩
def isInt : AV → Bool
  | .int _ _ => true
  | _ => false
@[go_sem] theorem isInt_int (k : IntKind) (n : Int) : isInt (.int k n) = true := rfl
theorem bs_byte1 (n : Int) (H : AHeap) : abuildSlice Try.prog 88 1 [(0, .int .u8 n)] H = some (.hs H.length 0 1, H ++ [.arr 5 true 0 [[.int .u8 n]]]) := by
  rw [bs_gen sliceT_88 zeroT_5 (q := isInt) (fun x hx => by cases x <;> first | exact ⟨rfl, rfl⟩ | cases hx) H (by simp) rfl]
  rfl
theorem conv_own {H : AHeap} {v : AV} {l : List UInt8} (ho : Own 5 H v (bys l)) : aconvert Try.prog 88 9 v H = some (.str l, H) := by
  have he : aelems v H = some (bys l) := by
    rcases ho with ⟨rfl, h⟩ | ⟨id, rfl, h⟩
    · simp [aelems, h]
    · simp [aelems, h]
  have hc : aconvert Try.prog 88 9 v H = ((aelems v H).bind bytesOf).map fun s => (.str s, H) := by
    rcases ho with ⟨rfl, h⟩ | ⟨id, rfl, h⟩
    · simp [aconvert, sliceT_88, strT_9, intT_5]
    · simp [aconvert, sliceT_88, strT_9, intT_5]
  rw [hc, he]
  simp [bytesOf_bys]
/-! ### texts in quotes -/
def dblB (q : UInt8) (s : List UInt8) : List UInt8 := s.flatMap fun c => if c == q then [q, c] else [c]
def dbl (q : UInt8) (s : List UInt8) : List UInt8 := q :: (dblB q s ++ [q])
theorem dblB_len (q : UInt8) (s : List UInt8) : (dblB q s).length ≤ 2 * s.length := by
  induction s with
  | nil => exact Nat.le_refl _
  | cons c s ih =>
    unfold dblB at ih ⊢
    rw [List.flatMap_cons, List.length_append, List.length_cons]
    split <;> simp only [List.length_cons, List.length_nil] <;> omega
theorem take_byte {s : List UInt8} {i : Nat} (h : i < s.length) : s.take (i + 1) = s.take i ++ [byteAt s i] := by
  rw [List.take_add_one, List.getElem?_eq_getElem h, byteAt_lt h]
  rfl
theorem dblB_step {q : UInt8} {s : List UInt8} {i : Nat} (h : i < s.length) : dblB q (s.take (i + 1)) = dblB q (s.take i) ++ (if byteAt s i == q then [q, byteAt s i] else [byteAt s i]) := by
  rw [take_byte h]
  unfold dblB
  rw [List.flatMap_append, List.flatMap_cons, List.flatMap_nil, List.append_nil]
theorem dblB_take (q : UInt8) (s : List UInt8) (i : Nat) : (dblB q (s.take i)).length ≤ 2 * s.length :=
  Nat.le_trans (dblB_len q _) (Nat.mul_le_mul_left _ (by simp; omega))
theorem p_double (s : List UInt8) (q : UInt8) (hs : s.length ≤ 10000000) : PV 80 [.str s, .int .u8 (q.toNat : Int)] = some (.str (dbl q s)) := by
  refine PV_start k80 rfl (Nat.le_of_ble_eq_true rfl) ?_
  have b0 := bs_byte1 (q.toNat : Int) []
  simp only [go_sem, Nat.reduceEqDiff, reduceCtorEq, Nat.reduceAdd, Nat.reduceSub, Nat.reduceLT, Nat.reduceLeDiff, Int.reduceAdd, Int.reduceSub, Int.reduceNeg, Int.reduceEq, Int.reduceLT, Int.reduceLE, bx] at b0
  simp only [go_sem, Nat.reduceEqDiff, reduceCtorEq, Nat.reduceAdd, Nat.reduceSub, Nat.reduceLT, Nat.reduceLeDiff, Int.reduceAdd, Int.reduceSub, Int.reduceNeg, Int.reduceEq, Int.reduceLT, Int.reduceLE, bx, K80, b0]
  refine C_for s.length (fun i st H => st 0 = .str s ∧ st 1 = .int .u8 (q.toNat : Int) ∧ st 10 = .int .i64 (s.length : Int) ∧ st 11 = .int .i64 (i : Int) ∧ Own 5 H (st 5) (bys (q :: dblB q (s.take i)))) ⟨by simp only [go_sem, Nat.reduceEqDiff, reduceCtorEq, Nat.reduceAdd, Nat.reduceSub, Nat.reduceLT, Nat.reduceLeDiff, Int.reduceAdd, Int.reduceSub, Int.reduceNeg, Int.reduceEq, Int.reduceLT, Int.reduceLE, bx], by simp only [go_sem, Nat.reduceEqDiff, reduceCtorEq, Nat.reduceAdd, Nat.reduceSub, Nat.reduceLT, Nat.reduceLeDiff, Int.reduceAdd, Int.reduceSub, Int.reduceNeg, Int.reduceEq, Int.reduceLT, Int.reduceLE, bx], by simp only [go_sem, Nat.reduceEqDiff, reduceCtorEq, Nat.reduceAdd, Nat.reduceSub, Nat.reduceLT, Nat.reduceLeDiff, Int.reduceAdd, Int.reduceSub, Int.reduceNeg, Int.reduceEq, Int.reduceLT, Int.reduceLE, bx], by simp only [go_sem, Nat.reduceEqDiff, reduceCtorEq, Nat.reduceAdd, Nat.reduceSub, Nat.reduceLT, Nat.reduceLeDiff, Int.reduceAdd, Int.reduceSub, Int.reduceNeg, Int.reduceEq, Int.reduceLT, Int.reduceLE, bx]; rfl, .inr ⟨0, by simp only [go_sem, Nat.reduceEqDiff, reduceCtorEq, Nat.reduceAdd, Nat.reduceSub, Nat.reduceLT, Nat.reduceLeDiff, Int.reduceAdd, Int.reduceSub, Int.reduceNeg, Int.reduceEq, Int.reduceLT, Int.reduceLE, bx]; rfl, rfl⟩⟩ ?_ ?_
  · rintro i st H hi ⟨h0, h1, h10, h11, ho⟩
    have hd : ((i : Int) < (s.length : Int)) := by omega
    have hw : IntKind.i64.wrap ((i : Int) + 1) = ((i + 1 : Nat) : Int) := wrap_succ (by simp only [maxL]; omega)
    have hix := idx9 hi
    have hlen := dblB_take q s i
    have hst := dblB_step (q := q) hi
    generalize hv : st 5 = v at ho
    cases hb : (byteAt s i == q)
    · rw [hb] at hst
      simp only [Bool.false_eq_true, if_false] at hst
      obtain ⟨v1, H1, e1, o1, -⟩ := append_byte (byteAt s i) ho (by simp only [List.length_cons]; omega)
      rw [List.cons_append, ← hst] at o1
      simp only [go_sem, Nat.reduceEqDiff, reduceCtorEq, Nat.reduceAdd, Nat.reduceSub, Nat.reduceLT, Nat.reduceLeDiff, Int.reduceAdd, Int.reduceSub, Int.reduceNeg, Int.reduceEq, Int.reduceLT, Int.reduceLE, bx, L80_0, h0, h1, h10, h11, hv, hd, hix, u8_eq, hb, bs_byte1, bi_append, e1, hw]
      exact o1
    · rw [hb] at hst
      simp only [if_true] at hst
      obtain ⟨v1, H1, e1, o1, -⟩ := append_byte q ho (by simp only [List.length_cons]; omega)
      obtain ⟨v2, H2, e2, o2, -⟩ := append_byte (byteAt s i) o1 (by simp only [List.length_cons, List.length_append, List.length_nil]; omega)
      rw [List.cons_append, List.cons_append, List.append_assoc, List.singleton_append, ← hst] at o2
      simp only [go_sem, Nat.reduceEqDiff, reduceCtorEq, Nat.reduceAdd, Nat.reduceSub, Nat.reduceLT, Nat.reduceLeDiff, Int.reduceAdd, Int.reduceSub, Int.reduceNeg, Int.reduceEq, Int.reduceLT, Int.reduceLE, bx, L80_0, h0, h1, h10, h11, hv, hd, hix, u8_eq, hb, bs_byte1, bi_append, e1, e2, hw]
      exact o2
  · rintro st H ⟨h0, h1, h10, h11, ho⟩
    have hd : ¬ ((s.length : Int) < (s.length : Int)) := by omega
    have hlen := dblB_take q s s.length
    rw [List.take_length] at ho hlen
    generalize hv : st 5 = v at ho
    obtain ⟨v1, H1, e1, o1, -⟩ := append_byte q ho (by simp only [List.length_cons]; omega)
    have hc := conv_own o1
    simp only [go_sem, Nat.reduceEqDiff, reduceCtorEq, Nat.reduceAdd, Nat.reduceSub, Nat.reduceLT, Nat.reduceLeDiff, Int.reduceAdd, Int.reduceSub, Int.reduceNeg, Int.reduceEq, Int.reduceLT, Int.reduceLE, bx, L80_0, h1, h10, h11, hv, hd, bs_byte1, bi_append, e1, hc]
    rfl
theorem slice_one {s : List UInt8} {i : Nat} (h : i < s.length) (H : AHeap) : aslice Try.prog 9 (.str s) (some (.int .i64 (i : Int))) (some (.int .i64 ((i + 1 : Nat) : Int))) H = some (.str [byteAt s i]) := by
  unfold aslice
  simp only [strT_9, if_true, asBound]
  rw [if_pos (by omega), if_pos (by omega)]
  simp only [Int.toNat_natCast]
  rw [if_pos ⟨by omega, by omega⟩, byteAt_lt h, List.take_add_one, List.getElem?_eq_getElem h, List.drop_append]
  have : (s.take i).length = i := by simp; omega
  rw [this, Nat.sub_self, List.drop_of_length_le (by omega)]
  rfl
theorem beq_one (a b : UInt8) : (([a] : List UInt8) == [b]) = (a == b) := by
  rw [Bool.eq_iff_iff]
  simp
theorem p_double4 (s : List UInt8) (q : UInt8) (hs : s.length ≤ 10000000) : PV 84 [.str s, .str [q]] = some (.str (dbl q s)) := by
  refine PV_start k84 rfl (Nat.le_of_ble_eq_true rfl) ?_
  simp only [go_sem, Nat.reduceEqDiff, reduceCtorEq, Nat.reduceAdd, Nat.reduceSub, Nat.reduceLT, Nat.reduceLeDiff, Int.reduceAdd, Int.reduceSub, Int.reduceNeg, Int.reduceEq, Int.reduceLT, Int.reduceLE, bx, K84]
  refine C_for s.length (fun i st H => st 0 = .str s ∧ st 1 = .str [q] ∧ st 6 = .int .i64 (i : Int) ∧ st 5 = .str (q :: dblB q (s.take i))) ⟨by simp only [go_sem, Nat.reduceEqDiff, reduceCtorEq, Nat.reduceAdd, Nat.reduceSub, Nat.reduceLT, Nat.reduceLeDiff, Int.reduceAdd, Int.reduceSub, Int.reduceNeg, Int.reduceEq, Int.reduceLT, Int.reduceLE, bx], by simp only [go_sem, Nat.reduceEqDiff, reduceCtorEq, Nat.reduceAdd, Nat.reduceSub, Nat.reduceLT, Nat.reduceLeDiff, Int.reduceAdd, Int.reduceSub, Int.reduceNeg, Int.reduceEq, Int.reduceLT, Int.reduceLE, bx], by simp only [go_sem, Nat.reduceEqDiff, reduceCtorEq, Nat.reduceAdd, Nat.reduceSub, Nat.reduceLT, Nat.reduceLeDiff, Int.reduceAdd, Int.reduceSub, Int.reduceNeg, Int.reduceEq, Int.reduceLT, Int.reduceLE, bx]; rfl, by simp only [go_sem, Nat.reduceEqDiff, reduceCtorEq, Nat.reduceAdd, Nat.reduceSub, Nat.reduceLT, Nat.reduceLeDiff, Int.reduceAdd, Int.reduceSub, Int.reduceNeg, Int.reduceEq, Int.reduceLT, Int.reduceLE, bx]; rfl⟩ ?_ ?_
  · rintro i st H hi ⟨h0, h1, h6, h5⟩
    have hd : ((i : Int) < (s.length : Int)) := by omega
    have hw : IntKind.i64.wrap ((i : Int) + 1) = ((i + 1 : Nat) : Int) := wrap_succ (by simp only [maxL]; omega)
    have hsl := fun H => slice_one hi H
    have hlen := dblB_take q s i
    have hst := dblB_step (q := q) hi
    rw [hst]
    cases hb : (byteAt s i == q)
    · have ha := b_sadd Try.prog 9 (q :: dblB q (s.take i)) [byteAt s i] (by simp only [List.length_cons, List.length_nil]; omega)
      simp only [go_sem, Nat.reduceEqDiff, reduceCtorEq, Nat.reduceAdd, Nat.reduceSub, Nat.reduceLT, Nat.reduceLeDiff, Int.reduceAdd, Int.reduceSub, Int.reduceNeg, Int.reduceEq, Int.reduceLT, Int.reduceLE, bx, L84_0, h0, h1, h5, h6, hd, hsl, beq_one, hb, ha, hw]
    · have ha := b_sadd Try.prog 9 (q :: dblB q (s.take i)) [q] (by simp only [List.length_cons, List.length_nil]; omega)
      have ha2 := b_sadd Try.prog 9 (q :: dblB q (s.take i) ++ [q]) [byteAt s i] (by simp only [List.length_cons, List.length_nil, List.length_append]; omega)
      simp only [List.cons_append] at ha ha2
      simp only [go_sem, Nat.reduceEqDiff, reduceCtorEq, Nat.reduceAdd, Nat.reduceSub, Nat.reduceLT, Nat.reduceLeDiff, Int.reduceAdd, Int.reduceSub, Int.reduceNeg, Int.reduceEq, Int.reduceLT, Int.reduceLE, bx, L84_0, h0, h1, h5, h6, hd, hsl, beq_one, hb, ha, ha2, hw, List.append_assoc]
  · rintro st H ⟨h0, h1, h6, h5⟩
    have hd : ¬ ((s.length : Int) < (s.length : Int)) := by omega
    have hlen := dblB_take q s s.length
    rw [List.take_length] at h5 hlen
    have ha := b_sadd Try.prog 9 (q :: dblB q s) [q] (by simp only [List.length_cons, List.length_nil]; omega)
    simp only [go_sem, Nat.reduceEqDiff, reduceCtorEq, Nat.reduceAdd, Nat.reduceSub, Nat.reduceLT, Nat.reduceLeDiff, Int.reduceAdd, Int.reduceSub, Int.reduceNeg, Int.reduceEq, Int.reduceLT, Int.reduceLE, bx, L84_0, h0, h1, h5, h6, hd, ha]
    rfl
end Go.Proofs
/- The sets' layer: tokens as text. -/

set_option linter.unusedSimpArgs false
set_option linter.unusedVariables false
namespace Go.Proofs
open Go.Vam
def showT (t : Tok) : List UInt8 := if t.kind = 2 then dbl 34 t.text else if t.kind = 3 then dbl 39 t.text else t.text
def showUpto (l : List Tok) : Nat → List UInt8
  | 0 => []
  | i + 1 => showUpto l i ++ (if 0 < i then [32] else []) ++ showT (tokAt l i)
def showL (l : List Tok) : List UInt8 := showUpto l l.length
theorem dbl_len (q : UInt8) (s : List UInt8) : (dbl q s).length ≤ 2 * s.length + 2 := by
  have := dblB_len q s
  unfold dbl
  simp only [List.length_cons, List.length_append, List.length_nil]
  omega
theorem showT_len (t : Tok) : (showT t).length ≤ 2 * t.text.length + 2 := by
  unfold showT
  split
  · exact dbl_len _ _
  · split
    · exact dbl_len _ _
    · omega
theorem showUpto_len {l : List Tok} (hs : Small l) : ∀ i, (showUpto l i).length ≤ i * 2000004
  | 0 => by simp [showUpto]
  | i + 1 => by
    have ih := showUpto_len hs i
    have h1 := showT_len (tokAt l i)
    have h2 := hs.at i
    unfold showUpto
    simp only [List.length_append]
    split <;> simp only [List.length_cons, List.length_nil] <;> omega
/-- A token, put into a variable of its own. -/
theorem tok_put (H : AHeap) (t : Tok) : astore Try.prog 40 (.ptr H.length 0 0) (.agg (tok t)) (H ++ [.arr 40 true 0 [[.int .i64 0, .str [], .int .i64 0]]]) = some (H ++ [.arr 40 true 0 [tok t]]) :=
  store_agg (c := tok t) (z := [.int .i64 0, .str [], .int .i64 0]) szOf_40 rfl rfl H
theorem tok_got (H : AHeap) (t : Tok) : (H ++ [AO.arr 40 true 0 [tok t]])[H.length]? = some (.arr 40 true 0 [tok t]) := by simp
theorem show_sum {l : List Tok} (hs : Small l) {i : Nat} (hi : i < l.length) : (showUpto l i).length + 1 + (showT (tokAt l i)).length ≤ 9223372036854775807 := by
  have h0 := showUpto_len hs i
  have h1 := showT_len (tokAt l i)
  have h2 := hs.at i
  have h3 := hs.len
  omega
theorem p_show (l : List Tok) (hs : Small l) : PV 52 [.sl (toks l)] = some (.str (showL l)) := by
  refine PV_start k52 rfl (Nat.le_of_ble_eq_true rfl) ?_
  have hlen := hs.len
  simp only [go_sem, Nat.reduceEqDiff, reduceCtorEq, Nat.reduceAdd, Nat.reduceSub, Nat.reduceLT, Nat.reduceLeDiff, Int.reduceAdd, Int.reduceSub, Int.reduceNeg, Int.reduceEq, Int.reduceLT, Int.reduceLE, bx, K52]
  refine C_for l.length (fun i st H => st 6 = .sl (toks l) ∧ st 7 = .int .i64 (l.length : Int) ∧ st 8 = .int .i64 (i : Int) ∧ st 3 = .str (showUpto l i)) ⟨by simp only [go_sem, Nat.reduceEqDiff, reduceCtorEq, Nat.reduceAdd, Nat.reduceSub, Nat.reduceLT, Nat.reduceLeDiff, Int.reduceAdd, Int.reduceSub, Int.reduceNeg, Int.reduceEq, Int.reduceLT, Int.reduceLE, bx], by simp only [go_sem, Nat.reduceEqDiff, reduceCtorEq, Nat.reduceAdd, Nat.reduceSub, Nat.reduceLT, Nat.reduceLeDiff, Int.reduceAdd, Int.reduceSub, Int.reduceNeg, Int.reduceEq, Int.reduceLT, Int.reduceLE, bx], by simp only [go_sem, Nat.reduceEqDiff, reduceCtorEq, Nat.reduceAdd, Nat.reduceSub, Nat.reduceLT, Nat.reduceLeDiff, Int.reduceAdd, Int.reduceSub, Int.reduceNeg, Int.reduceEq, Int.reduceLT, Int.reduceLE, bx]; rfl, by simp only [go_sem, Nat.reduceEqDiff, reduceCtorEq, Nat.reduceAdd, Nat.reduceSub, Nat.reduceLT, Nat.reduceLeDiff, Int.reduceAdd, Int.reduceSub, Int.reduceNeg, Int.reduceEq, Int.reduceLT, Int.reduceLE, bx]; rfl⟩ ?_ ?_
  · rintro i st H hi ⟨h6, h7, h8, h3⟩
    have hd : ((i : Int) < (l.length : Int)) := by omega
    have hw : IntKind.i64.wrap ((i : Int) + 1) = ((i + 1 : Nat) : Int) := wrap_succ (by simp only [maxL]; omega)
    have hg := indexAddr_22 l .i64 (i : Int) H (by omega) hd
    have hsum := show_sum hs hi
    have hat := hs.at i
    have d34 := p_double (tokAt l i).text 34 (by omega)
    have d39 := p_double (tokAt l i).text 39 (by omega)
    have e34 : ((34 : UInt8).toNat : Int) = 34 := rfl
    have e39 : ((39 : UInt8).toNat : Int) = 39 := rfl
    rw [e34] at d34
    rw [e39] at d39
    have hput := tok_put H (tokAt l i)
    have hgot := tok_got H (tokAt l i)
    have hup : showUpto l (i + 1) = showUpto l i ++ (if 0 < i then [32] else []) ++ showT (tokAt l i) := rfl
    have hT : showT (tokAt l i) = if (tokAt l i).kind = 2 then dbl 34 (tokAt l i).text else if (tokAt l i).kind = 3 then dbl 39 (tokAt l i).text else (tokAt l i).text := rfl
    rw [hup]
    generalize tokAt l i = t at *
    generalize showUpto l i = cur at *
    simp only [tok] at hg hput hgot
    have ha32 := b_sadd Try.prog 9 cur [32] (by simp only [List.length_cons, List.length_nil]; omega)
    have haT : ∀ c x : List UInt8, c.length ≤ cur.length + 1 → x = showT t → abin Try.prog .add 9 (.str c) (.str x) = some (.str (c ++ x)) := by
      rintro c x hc rfl
      exact b_sadd _ _ _ _ (by omega)
    by_cases hi0 : 0 < i
    · have hd0 : ((0 : Int) < (i : Int)) := by omega
      cases k2 : decide (t.kind = 2)
      · cases k3 : decide (t.kind = 3)
        · rw [if_neg (of_decide_eq_false k2), if_neg (of_decide_eq_false k3)] at hT
          have ha := haT (cur ++ [32]) t.text (by simp) hT.symm
          simp only [go_sem, Nat.reduceEqDiff, reduceCtorEq, Nat.reduceAdd, Nat.reduceSub, Nat.reduceLT, Nat.reduceLeDiff, Int.reduceAdd, Int.reduceSub, Int.reduceNeg, Int.reduceEq, Int.reduceLT, Int.reduceLE, bx, L52_0, h3, h6, h7, h8, hd, hd0, hg, hput, hgot, tok, Nat.le_refl, ha32, k2, k3, ha, hw, hi0, hT]
        · rw [if_neg (of_decide_eq_false k2), if_pos (of_decide_eq_true k3)] at hT
          have ha := haT (cur ++ [32]) _ (by simp) hT.symm
          simp only [go_sem, Nat.reduceEqDiff, reduceCtorEq, Nat.reduceAdd, Nat.reduceSub, Nat.reduceLT, Nat.reduceLeDiff, Int.reduceAdd, Int.reduceSub, Int.reduceNeg, Int.reduceEq, Int.reduceLT, Int.reduceLE, bx, L52_0, h3, h6, h7, h8, hd, hd0, hg, hput, hgot, tok, Nat.le_refl, ha32, k2, k3, ha, hw, hi0, hT, call_pure pure_80, d39]
      · rw [if_pos (of_decide_eq_true k2)] at hT
        have ha := haT (cur ++ [32]) _ (by simp) hT.symm
        simp only [go_sem, Nat.reduceEqDiff, reduceCtorEq, Nat.reduceAdd, Nat.reduceSub, Nat.reduceLT, Nat.reduceLeDiff, Int.reduceAdd, Int.reduceSub, Int.reduceNeg, Int.reduceEq, Int.reduceLT, Int.reduceLE, bx, L52_0, h3, h6, h7, h8, hd, hd0, hg, hput, hgot, tok, Nat.le_refl, ha32, k2, ha, hw, hi0, hT, call_pure pure_80, d34]
    · have hd0 : ¬ ((0 : Int) < (i : Int)) := by omega
      cases k2 : decide (t.kind = 2)
      · cases k3 : decide (t.kind = 3)
        · rw [if_neg (of_decide_eq_false k2), if_neg (of_decide_eq_false k3)] at hT
          have ha := haT cur t.text (by simp) hT.symm
          simp only [go_sem, Nat.reduceEqDiff, reduceCtorEq, Nat.reduceAdd, Nat.reduceSub, Nat.reduceLT, Nat.reduceLeDiff, Int.reduceAdd, Int.reduceSub, Int.reduceNeg, Int.reduceEq, Int.reduceLT, Int.reduceLE, bx, L52_0, h3, h6, h7, h8, hd, hd0, hg, hput, hgot, tok, Nat.le_refl, k2, k3, ha, hw, hi0, hT]
        · rw [if_neg (of_decide_eq_false k2), if_pos (of_decide_eq_true k3)] at hT
          have ha := haT cur _ (by simp) hT.symm
          simp only [go_sem, Nat.reduceEqDiff, reduceCtorEq, Nat.reduceAdd, Nat.reduceSub, Nat.reduceLT, Nat.reduceLeDiff, Int.reduceAdd, Int.reduceSub, Int.reduceNeg, Int.reduceEq, Int.reduceLT, Int.reduceLE, bx, L52_0, h3, h6, h7, h8, hd, hd0, hg, hput, hgot, tok, Nat.le_refl, k2, k3, ha, hw, hi0, hT, call_pure pure_80, d39]
      · rw [if_pos (of_decide_eq_true k2)] at hT
        have ha := haT cur _ (by simp) hT.symm
        simp only [go_sem, Nat.reduceEqDiff, reduceCtorEq, Nat.reduceAdd, Nat.reduceSub, Nat.reduceLT, Nat.reduceLeDiff, Int.reduceAdd, Int.reduceSub, Int.reduceNeg, Int.reduceEq, Int.reduceLT, Int.reduceLE, bx, L52_0, h3, h6, h7, h8, hd, hd0, hg, hput, hgot, tok, Nat.le_refl, k2, ha, hw, hi0, hT, call_pure pure_80, d34]
  · rintro st H ⟨h6, h7, h8, h3⟩
    have hd : ¬ ((l.length : Int) < (l.length : Int)) := by omega
    simp only [go_sem, Nat.reduceEqDiff, reduceCtorEq, Nat.reduceAdd, Nat.reduceSub, Nat.reduceLT, Nat.reduceLeDiff, Int.reduceAdd, Int.reduceSub, Int.reduceNeg, Int.reduceEq, Int.reduceLT, Int.reduceLE, bx, L52_0, h3, h7, h8, hd]
    rfl
theorem p_show4 (l : List Tok) (hs : Small l) : PV 60 [.sl (toks l)] = some (.str (showL l)) := by
  refine PV_start k60 rfl (Nat.le_of_ble_eq_true rfl) ?_
  have hlen := hs.len
  simp only [go_sem, Nat.reduceEqDiff, reduceCtorEq, Nat.reduceAdd, Nat.reduceSub, Nat.reduceLT, Nat.reduceLeDiff, Int.reduceAdd, Int.reduceSub, Int.reduceNeg, Int.reduceEq, Int.reduceLT, Int.reduceLE, bx, K60]
  refine C_for l.length (fun i st H => st 0 = .sl (toks l) ∧ st 4 = .int .i64 (i : Int) ∧ st 3 = .str (showUpto l i)) ⟨by simp only [go_sem, Nat.reduceEqDiff, reduceCtorEq, Nat.reduceAdd, Nat.reduceSub, Nat.reduceLT, Nat.reduceLeDiff, Int.reduceAdd, Int.reduceSub, Int.reduceNeg, Int.reduceEq, Int.reduceLT, Int.reduceLE, bx], by simp only [go_sem, Nat.reduceEqDiff, reduceCtorEq, Nat.reduceAdd, Nat.reduceSub, Nat.reduceLT, Nat.reduceLeDiff, Int.reduceAdd, Int.reduceSub, Int.reduceNeg, Int.reduceEq, Int.reduceLT, Int.reduceLE, bx]; rfl, by simp only [go_sem, Nat.reduceEqDiff, reduceCtorEq, Nat.reduceAdd, Nat.reduceSub, Nat.reduceLT, Nat.reduceLeDiff, Int.reduceAdd, Int.reduceSub, Int.reduceNeg, Int.reduceEq, Int.reduceLT, Int.reduceLE, bx]; rfl⟩ ?_ ?_
  · rintro i st H hi ⟨h0, h4, h3⟩
    have hd : ((i : Int) < (l.length : Int)) := by omega
    have hw : IntKind.i64.wrap ((i : Int) + 1) = ((i + 1 : Nat) : Int) := wrap_succ (by simp only [maxL]; omega)
    have hg := indexAddr_22 l .i64 (i : Int) H (by omega) hd
    have hsum := show_sum hs hi
    have hat := hs.at i
    have d34 := p_double4 (tokAt l i).text 34 (by omega)
    have d39 := p_double4 (tokAt l i).text 39 (by omega)
    have hup : showUpto l (i + 1) = showUpto l i ++ (if 0 < i then [32] else []) ++ showT (tokAt l i) := rfl
    have hT : showT (tokAt l i) = if (tokAt l i).kind = 2 then dbl 34 (tokAt l i).text else if (tokAt l i).kind = 3 then dbl 39 (tokAt l i).text else (tokAt l i).text := rfl
    rw [hup]
    generalize tokAt l i = t at *
    generalize showUpto l i = cur at *
    simp only [tok] at hg
    have ha32 := b_sadd Try.prog 9 cur [32] (by simp only [List.length_cons, List.length_nil]; omega)
    have haT : ∀ c x : List UInt8, c.length ≤ cur.length + 1 → x = showT t → abin Try.prog .add 9 (.str c) (.str x) = some (.str (c ++ x)) := by
      rintro c x hc rfl
      exact b_sadd _ _ _ _ (by omega)
    by_cases hi0 : 0 < i
    · have hd0 : ((0 : Int) < (i : Int)) := by omega
      cases k2 : decide (t.kind = 2)
      · cases k3 : decide (t.kind = 3)
        · rw [if_neg (of_decide_eq_false k2), if_neg (of_decide_eq_false k3)] at hT
          have ha := haT (cur ++ [32]) t.text (by simp) hT.symm
          simp only [go_sem, Nat.reduceEqDiff, reduceCtorEq, Nat.reduceAdd, Nat.reduceSub, Nat.reduceLT, Nat.reduceLeDiff, Int.reduceAdd, Int.reduceSub, Int.reduceNeg, Int.reduceEq, Int.reduceLT, Int.reduceLE, bx, L60_0, h0, h3, h4, hd, hd0, hg, ha32, k2, k3, ha, hw, hi0, hT]
        · rw [if_neg (of_decide_eq_false k2), if_pos (of_decide_eq_true k3)] at hT
          have ha := haT (cur ++ [32]) _ (by simp) hT.symm
          simp only [go_sem, Nat.reduceEqDiff, reduceCtorEq, Nat.reduceAdd, Nat.reduceSub, Nat.reduceLT, Nat.reduceLeDiff, Int.reduceAdd, Int.reduceSub, Int.reduceNeg, Int.reduceEq, Int.reduceLT, Int.reduceLE, bx, L60_0, h0, h3, h4, hd, hd0, hg, ha32, k2, k3, ha, hw, hi0, hT, call_pure pure_84, d39]
      · rw [if_pos (of_decide_eq_true k2)] at hT
        have ha := haT (cur ++ [32]) _ (by simp) hT.symm
        simp only [go_sem, Nat.reduceEqDiff, reduceCtorEq, Nat.reduceAdd, Nat.reduceSub, Nat.reduceLT, Nat.reduceLeDiff, Int.reduceAdd, Int.reduceSub, Int.reduceNeg, Int.reduceEq, Int.reduceLT, Int.reduceLE, bx, L60_0, h0, h3, h4, hd, hd0, hg, ha32, k2, ha, hw, hi0, hT, call_pure pure_84, d34]
    · have hd0 : ¬ ((0 : Int) < (i : Int)) := by omega
      cases k2 : decide (t.kind = 2)
      · cases k3 : decide (t.kind = 3)
        · rw [if_neg (of_decide_eq_false k2), if_neg (of_decide_eq_false k3)] at hT
          have ha := haT cur t.text (by simp) hT.symm
          simp only [go_sem, Nat.reduceEqDiff, reduceCtorEq, Nat.reduceAdd, Nat.reduceSub, Nat.reduceLT, Nat.reduceLeDiff, Int.reduceAdd, Int.reduceSub, Int.reduceNeg, Int.reduceEq, Int.reduceLT, Int.reduceLE, bx, L60_0, h0, h3, h4, hd, hd0, hg, k2, k3, ha, hw, hi0, hT]
        · rw [if_neg (of_decide_eq_false k2), if_pos (of_decide_eq_true k3)] at hT
          have ha := haT cur _ (by simp) hT.symm
          simp only [go_sem, Nat.reduceEqDiff, reduceCtorEq, Nat.reduceAdd, Nat.reduceSub, Nat.reduceLT, Nat.reduceLeDiff, Int.reduceAdd, Int.reduceSub, Int.reduceNeg, Int.reduceEq, Int.reduceLT, Int.reduceLE, bx, L60_0, h0, h3, h4, hd, hd0, hg, k2, k3, ha, hw, hi0, hT, call_pure pure_84, d39]
      · rw [if_pos (of_decide_eq_true k2)] at hT
        have ha := haT cur _ (by simp) hT.symm
        simp only [go_sem, Nat.reduceEqDiff, reduceCtorEq, Nat.reduceAdd, Nat.reduceSub, Nat.reduceLT, Nat.reduceLeDiff, Int.reduceAdd, Int.reduceSub, Int.reduceNeg, Int.reduceEq, Int.reduceLT, Int.reduceLE, bx, L60_0, h0, h3, h4, hd, hd0, hg, k2, ha, hw, hi0, hT, call_pure pure_84, d34]
  · rintro st H ⟨h0, h4, h3⟩
    have hd : ¬ ((l.length : Int) < (l.length : Int)) := by omega
    simp only [go_sem, Nat.reduceEqDiff, reduceCtorEq, Nat.reduceAdd, Nat.reduceSub, Nat.reduceLT, Nat.reduceLeDiff, Int.reduceAdd, Int.reduceSub, Int.reduceNeg, Int.reduceEq, Int.reduceLT, Int.reduceLE, bx, L60_0, h0, h3, h4, hd]
    rfl
end Go.Proofs
/- The sets' layer: ranges over texts; numbers in their normal form, in the reference's words. -/

set_option linter.unusedSimpArgs false
set_option linter.unusedVariables false
namespace Go.Proofs
open Go.Vam
/-! ### ranges over texts -/
section
variable (cx : Cx) (s : Slots) (H : AHeap)
def rngV (P : Program) (t : TypeId) (H : AHeap) : AV → Option (AV × AHeap)
  | .str l => if strT P t then some (.it H.length, H ++ [.siter l 0]) else none
  | _ => none
@[go_sem] theorem rngV_str (P : Program) (t : TypeId) (l : List UInt8) : rngV P t H (.str l) = if strT P t then some (.it H.length, H ++ [.siter l 0]) else none := rfl
@[go_sem] theorem o_range (t : TypeId) (x : Operand) : aop cx (.range t x) s H = rngV cx.P t H (ev s x) := by
  simp only [aop, aop0]
  cases ev s x <;> rfl
def nxtO (H : AHeap) (id : Nat) : Option AO → Option (AV × AHeap)
  | some (.siter l pos) => if pos < l.length then some (.tup [.bool true, .int .i64 pos, .int .i32 (Utf8.decode ⟨l.toArray⟩ pos).1], H.set id (.siter l (pos + (Utf8.decode ⟨l.toArray⟩ pos).2))) else some (.tup [.bool false], H)
  | _ => none
def nxtV (H : AHeap) : AV → Option (AV × AHeap)
  | .it id => nxtO H id (H[id]?)
  | _ => none
@[go_sem] theorem nxtV_it (id : Nat) : nxtV H (.it id) = nxtO H id (H[id]?) := rfl
@[go_sem] theorem o_next (x : Operand) : aop cx (.next x true) s H = nxtV H (ev s x) := by
  simp only [aop, aop0]
  cases ev s x <;> rfl
end
theorem get_byte (s : List UInt8) (i : Nat) (h : i < s.length) : (ByteArray.mk s.toArray).get! i = byteAt s i := by
  rw [byteAt_lt h]
  simp [ByteArray.get!, h]
/-- What is decoded at a place: a byte below 128 stands for itself; else the rune is not below 128, nor are the bytes behind it that it takes. -/
theorem dec_spec (s : List UInt8) (i : Nat) (h : i < s.length) : 1 ≤ (Utf8.decode ⟨s.toArray⟩ i).2 ∧ i + (Utf8.decode ⟨s.toArray⟩ i).2 ≤ s.length ∧
    (∀ k, i < k → k < i + (Utf8.decode ⟨s.toArray⟩ i).2 → 128 ≤ (byteAt s k).toNat) ∧
    (((byteAt s i).toNat < 128 ∧ (Utf8.decode ⟨s.toArray⟩ i).1 = (byteAt s i).toNat) ∨ (128 ≤ (byteAt s i).toNat ∧ 128 ≤ (Utf8.decode ⟨s.toArray⟩ i).1)) := by
  have hsz : (ByteArray.mk s.toArray).size = s.length := by simp [ByteArray.size]
  rw [Lib.decode_at, hsz, get_byte s i h]
  have b1 : i + 1 < s.length → (ByteArray.mk s.toArray).get! (i + 1) = byteAt s (i + 1) := get_byte s (i + 1)
  have b2 : i + 2 < s.length → (ByteArray.mk s.toArray).get! (i + 2) = byteAt s (i + 2) := get_byte s (i + 2)
  have b3 : i + 3 < s.length → (ByteArray.mk s.toArray).get! (i + 3) = byteAt s (i + 3) := get_byte s (i + 3)
  generalize (ByteArray.mk s.toArray).get! (i + 1) = c1 at *
  generalize (ByteArray.mk s.toArray).get! (i + 2) = c2 at *
  generalize (ByteArray.mk s.toArray).get! (i + 3) = c3 at *
  unfold Lib.decodeN
  have one : ∀ k, i < k → k < i + 1 → 128 ≤ (byteAt s k).toNat := fun k h1 h2 => by omega
  split
  · rename_i h0
    exact ⟨Nat.le_refl _, h, one, .inl ⟨h0, rfl⟩⟩
  · rename_i h0
    split
    · rename_i h1
      obtain ⟨h1, h2, h3⟩ := h1
      have e1 := b1 (by omega)
      subst e1
      split
      · refine ⟨by omega, by show i + 2 ≤ _; omega, fun k k1 k2 => ?_, .inr ⟨by omega, by omega⟩⟩
        obtain rfl : k = i + 1 := by have : k < i + 2 := k2; omega
        omega
      · exact ⟨Nat.le_refl _, h, one, .inr ⟨by omega, by decide⟩⟩
    · split
      · rename_i h1
        obtain ⟨h1, ⟨h2, h3⟩, h4, h5⟩ := h1
        have e1 := b1 (by omega)
        subst e1
        have e2 := b2 (by omega)
        subst e2
        split
        · refine ⟨by omega, by show i + 3 ≤ _; omega, fun k k1 k2 => ?_, .inr ⟨by omega, by omega⟩⟩
          have : k < i + 3 := k2
          rcases (by omega : k = i + 1 ∨ k = i + 2) with rfl | rfl <;> omega
        · exact ⟨Nat.le_refl _, h, one, .inr ⟨by omega, by decide⟩⟩
      · split
        · rename_i h1
          obtain ⟨h1, ⟨h2, h3⟩, ⟨h4, h5⟩, h6, h7⟩ := h1
          have e1 := b1 (by omega)
          subst e1
          have e2 := b2 (by omega)
          subst e2
          have e3 := b3 (by omega)
          subst e3
          split
          · refine ⟨by omega, by show i + 4 ≤ _; omega, fun k k1 k2 => ?_, .inr ⟨by omega, by omega⟩⟩
            have : k < i + 4 := k2
            rcases (by omega : k = i + 1 ∨ k = i + 2 ∨ k = i + 3) with rfl | rfl | rfl <;> omega
          · exact ⟨Nat.le_refl _, h, one, .inr ⟨by omega, by decide⟩⟩
        · exact ⟨Nat.le_refl _, h, one, .inr ⟨by omega, by decide⟩⟩
theorem count_next {c : UInt8} {s : List UInt8} {i : Nat} (h : i < s.length) : (s.take (i + 1)).count c = (s.take i).count c + (if byteAt s i == c then 1 else 0) := by
  rw [take_byte h, List.count_append, List.count_cons, List.count_nil, Nat.zero_add]
theorem count_run {c : UInt8} {s : List UInt8} : ∀ (w i : Nat), i + w ≤ s.length → (∀ k, i ≤ k → k < i + w → (byteAt s k == c) = false) → (s.take (i + w)).count c = (s.take i).count c
  | 0, i, _, _ => rfl
  | w + 1, i, h, hk => by
    rw [← Nat.add_assoc, count_next (by omega), hk (i + w) (by omega) (by omega), count_run w i (by omega) fun k k1 k2 => hk k k1 (by omega)]
    rfl
/-- How many bytes are c, and how many runes, up to a rune's end. -/
theorem count_rune {c : UInt8} (hc : c.toNat < 128) {s : List UInt8} {i : Nat} (h : i < s.length) : (s.take (i + (Utf8.decode ⟨s.toArray⟩ i).2)).count c = (s.take i).count c + (if (Utf8.decode ⟨s.toArray⟩ i).1 = c.toNat then 1 else 0) := by
  obtain ⟨h1, h2, h3, h4⟩ := dec_spec s i h
  generalize Utf8.decode ⟨s.toArray⟩ i = d at *
  obtain ⟨r, w⟩ := d
  simp only at *
  have ne : ∀ k, 128 ≤ (byteAt s k).toNat → (byteAt s k == c) = false := fun k hk => by
    rw [beq_eq_false_iff_ne]
    rintro rfl
    omega
  have hrest : (s.take (i + 1 + (w - 1))).count c = (s.take (i + 1)).count c := count_run (w - 1) (i + 1) (by omega) fun k k1 k2 => ne k (h3 k (by omega) (by omega))
  rw [show i + w = i + 1 + (w - 1) by omega, hrest, count_next h]
  rcases h4 with ⟨h5, h6⟩ | ⟨h5, h6⟩
  · rw [h6]
    congr 1
    by_cases e : byteAt s i = c
    · rw [e]; simp
    · have e2 : ¬ (byteAt s i).toNat = c.toNat := fun q => e (UInt8.toNat_inj.1 q)
      simp [e, e2]
  · rw [ne i h5, if_neg (by simp), if_neg (by omega)]
/-! ### ref05.points, ref05.Number -/
theorem p_points (s : List UInt8) (hs : s.length ≤ maxL) : PV 83 [.str s] = some (.int .i64 ((s.count 46 : Nat) : Int)) := by
  refine PV_start k83 rfl (Nat.le_of_ble_eq_true rfl) ?_
  simp only [go_sem, Nat.reduceEqDiff, reduceCtorEq, Nat.reduceAdd, Nat.reduceSub, Nat.reduceLT, Nat.reduceLeDiff, Int.reduceAdd, Int.reduceSub, Int.reduceNeg, Int.reduceEq, Int.reduceLT, Int.reduceLE, bx, K83]
  refine C_for s.length (fun i st H => st 0 = .str s ∧ st 4 = .int .i64 (i : Int) ∧ st 3 = .int .i64 (((s.take i).count 46 : Nat) : Int)) ⟨by simp only [go_sem, Nat.reduceEqDiff, reduceCtorEq, Nat.reduceAdd, Nat.reduceSub, Nat.reduceLT, Nat.reduceLeDiff, Int.reduceAdd, Int.reduceSub, Int.reduceNeg, Int.reduceEq, Int.reduceLT, Int.reduceLE, bx], by simp only [go_sem, Nat.reduceEqDiff, reduceCtorEq, Nat.reduceAdd, Nat.reduceSub, Nat.reduceLT, Nat.reduceLeDiff, Int.reduceAdd, Int.reduceSub, Int.reduceNeg, Int.reduceEq, Int.reduceLT, Int.reduceLE, bx]; rfl, by simp only [go_sem, Nat.reduceEqDiff, reduceCtorEq, Nat.reduceAdd, Nat.reduceSub, Nat.reduceLT, Nat.reduceLeDiff, Int.reduceAdd, Int.reduceSub, Int.reduceNeg, Int.reduceEq, Int.reduceLT, Int.reduceLE, bx]; rfl⟩ ?_ ?_
  · rintro i st H hi ⟨h0, h4, h3⟩
    have hd : ((i : Int) < (s.length : Int)) := by omega
    have hw : IntKind.i64.wrap ((i : Int) + 1) = ((i + 1 : Nat) : Int) := wrap_succ (Nat.lt_of_lt_of_le hi hs)
    have hix := idx9 hi
    have e46 := u8_eq (byteAt s i) 46
    have e46' : ((46 : UInt8).toNat : Int) = 46 := rfl
    rw [e46'] at e46
    have hcn := count_next (c := 46) hi
    have hle := Nat.le_trans (List.count_le_length (a := (46 : UInt8)) (l := s.take i)) (by simp only [List.length_take]; exact Nat.min_le_left _ _ : (s.take i).length ≤ i)
    have hw2 : IntKind.i64.wrap ((((s.take i).count 46 : Nat) : Int) + 1) = (((s.take i).count 46 + 1 : Nat) : Int) := wrap_succ (by omega)
    rw [hcn]
    cases hb : (byteAt s i == 46)
    · simp only [go_sem, Nat.reduceEqDiff, reduceCtorEq, Nat.reduceAdd, Nat.reduceSub, Nat.reduceLT, Nat.reduceLeDiff, Int.reduceAdd, Int.reduceSub, Int.reduceNeg, Int.reduceEq, Int.reduceLT, Int.reduceLE, bx, L83_0, h0, h3, h4, hd, hix, e46, hb, hw, Nat.add_zero]
    · simp only [go_sem, Nat.reduceEqDiff, reduceCtorEq, Nat.reduceAdd, Nat.reduceSub, Nat.reduceLT, Nat.reduceLeDiff, Int.reduceAdd, Int.reduceSub, Int.reduceNeg, Int.reduceEq, Int.reduceLT, Int.reduceLE, bx, L83_0, h0, h3, h4, hd, hix, e46, hb, hw, hw2]
  · rintro st H ⟨h0, h4, h3⟩
    have hd : ¬ ((s.length : Int) < (s.length : Int)) := by omega
    rw [List.take_length] at h3
    simp only [go_sem, Nat.reduceEqDiff, reduceCtorEq, Nat.reduceAdd, Nat.reduceSub, Nat.reduceLT, Nat.reduceLeDiff, Int.reduceAdd, Int.reduceSub, Int.reduceNeg, Int.reduceEq, Int.reduceLT, Int.reduceLE, bx, L83_0, h0, h3, h4, hd]
def zrest (s : List UInt8) : Bool := decide (1 < (s.length : Int)) && ((byteAt s 0 == 48) && !(byteAt s 1 == 46))
def stripZ : List UInt8 → List UInt8
  | [] => []
  | c :: s => if zrest (c :: s) then stripZ s else c :: s
theorem stripZ_step (s : List UInt8) : stripZ s = if zrest s then stripZ (s.drop 1) else s := by
  cases s with
  | nil => rfl
  | cons c s => rfl
def stripR (s : List UInt8) : List UInt8 := (s.reverse.dropWhile (· == 48)).reverse
def lastIs (s : List UInt8) (c : UInt8) : Bool := byteAt s (s.length - 1) == c
theorem byteAt_last (c : UInt8) (l : List UInt8) : byteAt (c :: l).reverse ((c :: l).reverse.length - 1) = c := by
  unfold byteAt
  rw [List.reverse_cons, List.length_append, List.length_singleton, Nat.add_sub_cancel, List.getElem?_append_right (Nat.le_refl _), Nat.sub_self]
  rfl
theorem stripR_step (s : List UInt8) (hne : s ≠ []) : stripR s = if lastIs s 48 then stripR (s.take (s.length - 1)) else s := by
  obtain ⟨l, rfl⟩ : ∃ l : List UInt8, s = l.reverse := ⟨s.reverse, by rw [List.reverse_reverse]⟩
  cases l with
  | nil => exact absurd rfl hne
  | cons c l =>
    unfold lastIs
    rw [byteAt_last]
    unfold stripR
    rw [List.reverse_reverse, List.dropWhile_cons]
    have ht : ((c :: l).reverse.take ((c :: l).reverse.length - 1)).reverse = l := by
      rw [List.reverse_cons, List.length_append, List.length_singleton, Nat.add_sub_cancel, List.take_left', List.reverse_reverse]
      rfl
    rw [ht]
    split <;> rfl
def numOf (s : List UInt8) : List UInt8 :=
  if (stripZ s).count 46 = 1 then
    if lastIs (stripR (stripZ s)) 46 then (stripR (stripZ s)).take ((stripR (stripZ s)).length - 1) else stripR (stripZ s)
  else stripZ s
theorem stripZ_len : ∀ s : List UInt8, (stripZ s).length ≤ s.length
  | [] => Nat.le_refl _
  | c :: s => by
    unfold stripZ
    split
    · have := stripZ_len s
      simp only [List.length_cons]
      omega
    · exact Nat.le_refl _
theorem lastIs_mem {s : List UInt8} {c : UInt8} (h : c ∈ s) (hl : lastIs s 48 = true) (hc : c ≠ 48) : c ∈ s.take (s.length - 1) := by
  obtain ⟨i, hi, rfl⟩ := List.getElem_of_mem h
  have hne : i ≠ s.length - 1 := by
    rintro rfl
    unfold lastIs at hl
    rw [byteAt_lt (by omega)] at hl
    exact hc (eq_of_beq hl)
  exact List.mem_take_iff_getElem.2 ⟨i, by omega, rfl⟩
theorem slice_from (x : List UInt8) (k : Nat) (hk : k ≤ x.length) (H : AHeap) : aslice Try.prog 9 (.str x) (some (.int .i64 (k : Int))) none H = some (.str (x.drop k)) := by
  unfold aslice
  simp [strT_9, asBound, hk]
theorem p_number5 (s : List UInt8) (hs : s.length ≤ maxL) : PV 59 [.str s] = some (.str (numOf s)) := by
  refine PV_start k59 rfl (Nat.le_of_ble_eq_true rfl) ?_
  rw [K59]
  refine C_then (fun st H => st 0 = .str s) (by simp only [go_sem, Nat.reduceEqDiff, reduceCtorEq, Nat.reduceAdd, Nat.reduceSub, Nat.reduceLT, Nat.reduceLeDiff, Int.reduceAdd, Int.reduceSub, Int.reduceNeg, Int.reduceEq, Int.reduceLT, Int.reduceLE, bx]) ?_
  rintro s0 H0 h0
  have e48 := fun a => u8_eq a 48
  have e46 := fun a => u8_eq a 46
  have e48' : ((48 : UInt8).toNat : Int) = 48 := rfl
  have e46' : ((46 : UInt8).toNat : Int) = 46 := rfl
  rw [e48'] at e48
  rw [e46'] at e46
  refine C_then (fun st H => st 0 = .str (stripZ s)) ?_ ?_
  · rw [C_block]
    refine C_while (fun n st H => ∃ x : List UInt8, x.length = n ∧ x.length ≤ maxL ∧ stripZ x = stripZ s ∧ st 0 = .str x) ?_ s.length _ _ ⟨s, rfl, hs, rfl, h0⟩
    clear h0 hs
    rintro n st H ⟨x, rfl, hx, hz, h0⟩
    rw [stripZ_step] at hz
    unfold zrest at hz
    by_cases h1 : (1 : Int) < (x.length : Int)
    · have i0 := idx9 (s := x) (i := 0) (by omega)
      have i1 := idx9 (s := x) (i := 1) (by omega)
      have hsl := slice_from x 1 (by omega) H
      simp only [Int.cast_ofNat_Int] at i0 i1 hsl
      rw [decide_eq_true h1, Bool.true_and] at hz
      cases b0 : (byteAt x 0 == 48)
      · rw [b0] at hz
        simp only [go_sem, Nat.reduceEqDiff, reduceCtorEq, Nat.reduceAdd, Nat.reduceSub, Nat.reduceLT, Nat.reduceLeDiff, Int.reduceAdd, Int.reduceSub, Int.reduceNeg, Int.reduceEq, Int.reduceLT, Int.reduceLE, bx, L59_0, h0, h1, i0, e48, b0]
        simp only [Bool.false_and, Bool.false_eq_true, if_false] at hz
        rw [hz]
      · cases b1 : (byteAt x 1 == 46)
        · rw [b0, b1] at hz
          simp only [Bool.not_false, Bool.true_and, if_true] at hz
          simp only [go_sem, Nat.reduceEqDiff, reduceCtorEq, Nat.reduceAdd, Nat.reduceSub, Nat.reduceLT, Nat.reduceLeDiff, Int.reduceAdd, Int.reduceSub, Int.reduceNeg, Int.reduceEq, Int.reduceLT, Int.reduceLE, bx, L59_0, h0, h1, i0, i1, e48, e46, b0, b1, hsl]
          exact ⟨x.length - 1, by omega, x.drop 1, by simp, by simp only [List.length_drop]; omega, hz, rfl⟩
        · rw [b0, b1] at hz
          simp only [go_sem, Nat.reduceEqDiff, reduceCtorEq, Nat.reduceAdd, Nat.reduceSub, Nat.reduceLT, Nat.reduceLeDiff, Int.reduceAdd, Int.reduceSub, Int.reduceNeg, Int.reduceEq, Int.reduceLT, Int.reduceLE, bx, L59_0, h0, h1, i0, i1, e48, e46, b0, b1]
          simp only [Bool.not_true, Bool.and_false, Bool.false_eq_true, if_false] at hz
          rw [hz]
    · rw [decide_eq_false h1] at hz
      simp only [go_sem, Nat.reduceEqDiff, reduceCtorEq, Nat.reduceAdd, Nat.reduceSub, Nat.reduceLT, Nat.reduceLeDiff, Int.reduceAdd, Int.reduceSub, Int.reduceNeg, Int.reduceEq, Int.reduceLT, Int.reduceLE, bx, L59_0, h0, h1]
      simp only [Bool.false_and, Bool.false_eq_true, if_false] at hz
      rw [hz]
  · rintro s1 H1 h0
    have hl : (stripZ s).length ≤ maxL := Nat.le_trans (stripZ_len s) hs
    have hpt := p_points (stripZ s) hl
    unfold numOf
    generalize stripZ s = a at *
    by_cases hc : a.count 46 = 1
    · rw [if_pos hc]
      have hmem : (46 : UInt8) ∈ a := List.count_pos_iff.1 (by omega)
      rw [hc] at hpt
      refine C_then (fun st H => st 0 = .str a) (by simp only [go_sem, Nat.reduceEqDiff, reduceCtorEq, Nat.reduceAdd, Nat.reduceSub, Nat.reduceLT, Nat.reduceLeDiff, Int.reduceAdd, Int.reduceSub, Int.reduceNeg, Int.reduceEq, Int.reduceLT, Int.reduceLE, bx, h0, call_pure pure_83, hpt, Int.cast_ofNat_Int, decide_true]) ?_
      rintro s2 H2 h0
      refine C_then (fun st H => st 0 = .str (stripR a) ∧ 46 ∈ stripR a ∧ (stripR a).length ≤ maxL) ?_ ?_
      · rw [C_block]
        refine C_while (fun n st H => ∃ x : List UInt8, x.length = n ∧ x.length ≤ maxL ∧ 46 ∈ x ∧ stripR x = stripR a ∧ st 0 = .str x) ?_ a.length _ _ ⟨a, rfl, hl, hmem, rfl, h0⟩
        clear h0 hmem hc hpt hl
        rintro n st H ⟨x, rfl, hx, hm, hz, h0⟩
        have hpos : 0 < x.length := List.length_pos_of_mem hm
        have w1 : IntKind.i64.wrap ((x.length : Int) - 1) = ((x.length - 1 : Nat) : Int) := by
          simp only [maxL] at hx
          rw [wrap_ok] <;> omega
        have i0 := idx9 (s := x) (i := x.length - 1) (by omega)
        have hsl := slice_str x (x.length - 1) (by omega) H
        rw [stripR_step x (by rintro rfl; cases hpos)] at hz
        have hlm := fun h => lastIs_mem hm h (by decide)
        unfold lastIs at hz hlm
        cases b : (byteAt x (x.length - 1) == 48)
        · rw [b] at hz
          simp only [go_sem, Nat.reduceEqDiff, reduceCtorEq, Nat.reduceAdd, Nat.reduceSub, Nat.reduceLT, Nat.reduceLeDiff, Int.reduceAdd, Int.reduceSub, Int.reduceNeg, Int.reduceEq, Int.reduceLT, Int.reduceLE, bx, L59_1, h0, w1, i0, e48, b]
          simp only [Bool.false_eq_true, if_false] at hz
          rw [← hz]
          exact ⟨rfl, hm, hx⟩
        · rw [b] at hz
          simp only [go_sem, Nat.reduceEqDiff, reduceCtorEq, Nat.reduceAdd, Nat.reduceSub, Nat.reduceLT, Nat.reduceLeDiff, Int.reduceAdd, Int.reduceSub, Int.reduceNeg, Int.reduceEq, Int.reduceLT, Int.reduceLE, bx, L59_1, h0, w1, i0, e48, b, hsl]
          simp only [if_true] at hz
          exact ⟨x.length - 1, by omega, x.take (x.length - 1), by simp, by simp only [List.length_take]; omega, hlm b, hz, rfl⟩
      · rintro s3 H3 ⟨h0, hm, hx⟩
        generalize stripR a = b at *
        have hpos : 0 < b.length := List.length_pos_of_mem hm
        have w1 : IntKind.i64.wrap ((b.length : Int) - 1) = ((b.length - 1 : Nat) : Int) := by
          simp only [maxL] at hx
          rw [wrap_ok] <;> omega
        have i0 := idx9 (s := b) (i := b.length - 1) (by omega)
        have hsl := fun H => slice_str b (b.length - 1) (by omega) H
        unfold lastIs
        cases b' : (byteAt b (b.length - 1) == 46)
        · simp only [go_sem, Nat.reduceEqDiff, reduceCtorEq, Nat.reduceAdd, Nat.reduceSub, Nat.reduceLT, Nat.reduceLeDiff, Int.reduceAdd, Int.reduceSub, Int.reduceNeg, Int.reduceEq, Int.reduceLT, Int.reduceLE, bx, h0, w1, i0, e46, b']
        · simp only [go_sem, Nat.reduceEqDiff, reduceCtorEq, Nat.reduceAdd, Nat.reduceSub, Nat.reduceLT, Nat.reduceLeDiff, Int.reduceAdd, Int.reduceSub, Int.reduceNeg, Int.reduceEq, Int.reduceLT, Int.reduceLE, bx, h0, w1, i0, e46, b', hsl]
    · rw [if_neg hc]
      have hne : ¬ (((a.count 46 : Nat) : Int) = 1) := by omega
      simp only [go_sem, Nat.reduceEqDiff, reduceCtorEq, Nat.reduceAdd, Nat.reduceSub, Nat.reduceLT, Nat.reduceLeDiff, Int.reduceAdd, Int.reduceSub, Int.reduceNeg, Int.reduceEq, Int.reduceLT, Int.reduceLE, bx, h0, call_pure pure_83, hpt, decide_eq_false hne]
end Go.Proofs
/- The sets' layer: norm.number, its closures. -/

set_option linter.unusedSimpArgs false
set_option linter.unusedVariables false
namespace Go.Proofs
open Go.Vam
def boxS (x : List UInt8) : AO := .arr 9 true 0 [[.str x]]
theorem load_box {H : AHeap} {V : Nat} {x : List UInt8} (h : H[V]? = some (boxS x)) : aload Try.prog 9 (.ptr V 0 0) H = some (.str x) := by
  rw [load_ptr, h]
  simp only [go_sem, Nat.reduceEqDiff, reduceCtorEq, Nat.reduceAdd, Nat.reduceSub, Nat.reduceLT, Nat.reduceLeDiff, Int.reduceAdd, Int.reduceSub, Int.reduceNeg, Int.reduceEq, Int.reduceLT, Int.reduceLE, bx, boxS]
theorem store_box {H : AHeap} {V : Nat} {x y : List UInt8} (h : H[V]? = some (boxS x)) : astore Try.prog 9 (.ptr V 0 0) (.str y) H = some (H.set V (boxS y)) := by
  unfold astore
  simp only [h, boxS]
  have e2 : ([[AV.str x]] : List (List AV))[0]? = some [.str x] := rfl
  simp only [e2]
  rw [if_pos ⟨Nat.le_refl _, szOf_9, rfl, Nat.le_refl _⟩]
  simp [AV.cells]
theorem t76 {H : AHeap} {V : Nat} {x : List UInt8} (h : H[V]? = some (boxS x)) : callV E 76 [.ptr V 0 0] H = some (.bool (zrest x), H) := by
  have : Tells E 76 [.ptr V 0 0] H fun r H' => r = .bool (zrest x) ∧ H' = H := by
    refine tells_at k76 rfl (Nat.le_of_ble_eq_true rfl) ?_
    have hl := load_box h
    have e48 := fun a => u8_eq a 48
    have e46 := fun a => u8_eq a 46
    have e48' : ((48 : UInt8).toNat : Int) = 48 := rfl
    have e46' : ((46 : UInt8).toNat : Int) = 46 := rfl
    rw [e48'] at e48
    rw [e46'] at e46
    unfold zrest
    by_cases h1 : (1 : Int) < (x.length : Int)
    · have i0 := idx9 (s := x) (i := 0) (by omega)
      have i1 := idx9 (s := x) (i := 1) (by omega)
      simp only [Int.cast_ofNat_Int] at i0 i1
      rw [decide_eq_true h1, Bool.true_and]
      cases b0 : (byteAt x 0 == 48)
      · simp only [go_sem, Nat.reduceEqDiff, reduceCtorEq, Nat.reduceAdd, Nat.reduceSub, Nat.reduceLT, Nat.reduceLeDiff, Int.reduceAdd, Int.reduceSub, Int.reduceNeg, Int.reduceEq, Int.reduceLT, Int.reduceLE, bx, K76, hl, h1, i0, e48, b0, Bool.false_and]
      · simp only [go_sem, Nat.reduceEqDiff, reduceCtorEq, Nat.reduceAdd, Nat.reduceSub, Nat.reduceLT, Nat.reduceLeDiff, Int.reduceAdd, Int.reduceSub, Int.reduceNeg, Int.reduceEq, Int.reduceLT, Int.reduceLE, bx, K76, hl, h1, i0, i1, e48, e46, b0, Bool.true_and]
    · rw [decide_eq_false h1, Bool.false_and]
      simp only [go_sem, Nat.reduceEqDiff, reduceCtorEq, Nat.reduceAdd, Nat.reduceSub, Nat.reduceLT, Nat.reduceLeDiff, Int.reduceAdd, Int.reduceSub, Int.reduceNeg, Int.reduceEq, Int.reduceLT, Int.reduceLE, bx, K76, hl, h1]
  obtain ⟨r, H', h1, rfl, rfl⟩ := this
  exact h1
theorem t77 {H : AHeap} {V : Nat} {x : List UInt8} (h : H[V]? = some (boxS x)) (hx : 1 ≤ x.length) : callV E 77 [.ptr V 0 0] H = some (.tup [], H.set V (boxS (x.drop 1))) := by
  have : Tells E 77 [.ptr V 0 0] H fun r H' => r = .tup [] ∧ H' = H.set V (boxS (x.drop 1)) := by
    refine tells_at k77 rfl (Nat.le_of_ble_eq_true rfl) ?_
    have hl := load_box h
    have hst := store_box (y := x.drop 1) h
    have hsl := slice_from x 1 hx H
    simp only [Int.cast_ofNat_Int] at hsl
    simp only [go_sem, Nat.reduceEqDiff, reduceCtorEq, Nat.reduceAdd, Nat.reduceSub, Nat.reduceLT, Nat.reduceLeDiff, Int.reduceAdd, Int.reduceSub, Int.reduceNeg, Int.reduceEq, Int.reduceLT, Int.reduceLE, bx, K77, hl, hsl, hst]
  obtain ⟨r, H', h1, rfl, rfl⟩ := this
  exact h1
theorem t78 {H : AHeap} {V : Nat} {x : List UInt8} (h : H[V]? = some (boxS x)) (hx : 1 ≤ x.length) (hm : x.length ≤ maxL) : callV E 78 [.ptr V 0 0] H = some (.tup [], H.set V (boxS (x.take (x.length - 1)))) := by
  have : Tells E 78 [.ptr V 0 0] H fun r H' => r = .tup [] ∧ H' = H.set V (boxS (x.take (x.length - 1))) := by
    refine tells_at k78 rfl (Nat.le_of_ble_eq_true rfl) ?_
    have hl := load_box h
    have hst := store_box (y := x.take (x.length - 1)) h
    have hsl := slice_str x (x.length - 1) (by omega) H
    have w1 : IntKind.i64.wrap ((x.length : Int) - 1) = ((x.length - 1 : Nat) : Int) := by
      simp only [maxL] at hm
      rw [wrap_ok] <;> omega
    simp only [go_sem, Nat.reduceEqDiff, reduceCtorEq, Nat.reduceAdd, Nat.reduceSub, Nat.reduceLT, Nat.reduceLeDiff, Int.reduceAdd, Int.reduceSub, Int.reduceNeg, Int.reduceEq, Int.reduceLT, Int.reduceLE, bx, K78, hl, w1, hsl, hst]
  obtain ⟨r, H', h1, rfl, rfl⟩ := this
  exact h1
theorem t79 {H : AHeap} {V : Nat} {x : List UInt8} (h : H[V]? = some (boxS x)) (hx : 1 ≤ x.length) (hm : x.length ≤ maxL) : callV E 79 [.ptr V 0 0] H = some (.bool (lastIs x 48), H) := by
  have : Tells E 79 [.ptr V 0 0] H fun r H' => r = .bool (lastIs x 48) ∧ H' = H := by
    refine tells_at k79 rfl (Nat.le_of_ble_eq_true rfl) ?_
    have hl := load_box h
    have e48 := fun a => u8_eq a 48
    have e48' : ((48 : UInt8).toNat : Int) = 48 := rfl
    rw [e48'] at e48
    have w1 : IntKind.i64.wrap ((x.length : Int) - 1) = ((x.length - 1 : Nat) : Int) := by
      simp only [maxL] at hm
      rw [wrap_ok] <;> omega
    have i0 := idx9 (s := x) (i := x.length - 1) (by omega)
    unfold lastIs
    simp only [go_sem, Nat.reduceEqDiff, reduceCtorEq, Nat.reduceAdd, Nat.reduceSub, Nat.reduceLT, Nat.reduceLeDiff, Int.reduceAdd, Int.reduceSub, Int.reduceNeg, Int.reduceEq, Int.reduceLT, Int.reduceLE, bx, K79, hl, w1, i0, e48]
  obtain ⟨r, H', h1, rfl, rfl⟩ := this
  exact h1
/-- 'cut': as long as it is so, it is done. -/
theorem t_cut {g h V : Nat} {so : List UInt8 → Bool} {dof F : List UInt8 → List UInt8} {ok : List UInt8 → Prop}
    (h1 : ∀ H x, H[V]? = some (boxS x) → ok x → acallf (cxV E) g [.ptr V 0 0] H = some (.bool (so x), H))
    (h2 : ∀ H x, H[V]? = some (boxS x) → ok x → so x = true → acallf (cxV E) h [.ptr V 0 0] H = some (.tup [], H.set V (boxS (dof x))) ∧ ok (dof x) ∧ (dof x).length < x.length)
    (hF : ∀ x, ok x → F x = if so x then F (dof x) else x) {H : AHeap} {x : List UInt8} (hx : H[V]? = some (boxS x)) (hok : ok x) :
    callV E 75 [.fn g [.ptr V 0 0], .fn h [.ptr V 0 0]] H = some (.tup [], H.set V (boxS (F x))) ∧ ok (F x) := by
  have hV := (List.getElem?_eq_some_iff.1 hx).1
  have : Tells E 75 [.fn g [.ptr V 0 0], .fn h [.ptr V 0 0]] H fun r H' => r = .tup [] ∧ H' = H.set V (boxS (F x)) ∧ ok (F x) := by
    refine tells_at k75 rfl (Nat.le_of_ble_eq_true rfl) ?_
    simp only [go_sem, Nat.reduceEqDiff, reduceCtorEq, Nat.reduceAdd, Nat.reduceSub, Nat.reduceLT, Nat.reduceLeDiff, Int.reduceAdd, Int.reduceSub, Int.reduceNeg, Int.reduceEq, Int.reduceLT, Int.reduceLE, bx, K75]
    refine C_while (fun n st H' => ∃ y : List UInt8, y.length = n ∧ F y = F x ∧ ok y ∧ H' = H.set V (boxS y) ∧ st 0 = .fn g [.ptr V 0 0] ∧ st 1 = .fn h [.ptr V 0 0]) ?_ x.length _ _ ⟨x, rfl, rfl, hok, ?_, by simp only [go_sem, Nat.reduceEqDiff, reduceCtorEq, Nat.reduceAdd, Nat.reduceSub, Nat.reduceLT, Nat.reduceLeDiff, Int.reduceAdd, Int.reduceSub, Int.reduceNeg, Int.reduceEq, Int.reduceLT, Int.reduceLE, bx], by simp only [go_sem, Nat.reduceEqDiff, reduceCtorEq, Nat.reduceAdd, Nat.reduceSub, Nat.reduceLT, Nat.reduceLeDiff, Int.reduceAdd, Int.reduceSub, Int.reduceNeg, Int.reduceEq, Int.reduceLT, Int.reduceLE, bx]⟩
    · rintro n st H' ⟨y, rfl, hy, hk, rfl, s0, s1⟩
      have hb : (H.set V (boxS y))[V]? = some (boxS y) := List.getElem?_set_self hV
      have c1 := h1 _ y hb hk
      cases b : so y
      · have e := hF y hk
        rw [b] at e
        simp only [Bool.false_eq_true, if_false] at e
        simp only [go_sem, Nat.reduceEqDiff, reduceCtorEq, Nat.reduceAdd, Nat.reduceSub, Nat.reduceLT, Nat.reduceLeDiff, Int.reduceAdd, Int.reduceSub, Int.reduceNeg, Int.reduceEq, Int.reduceLT, Int.reduceLE, bx, L75_0, s0, s1, c1, b]
        rw [← hy, e]
        exact ⟨rfl, hk⟩
      · obtain ⟨c2, k2, l2⟩ := h2 _ y hb hk b
        have e := hF y hk
        rw [b] at e
        simp only [if_true] at e
        rw [List.set_set] at c2
        simp only [go_sem, Nat.reduceEqDiff, reduceCtorEq, Nat.reduceAdd, Nat.reduceSub, Nat.reduceLT, Nat.reduceLeDiff, Int.reduceAdd, Int.reduceSub, Int.reduceNeg, Int.reduceEq, Int.reduceLT, Int.reduceLE, bx, L75_0, s0, s1, c1, b, c2]
        exact ⟨(dof y).length, l2, dof y, rfl, by rw [← e]; exact hy, k2, rfl⟩
    · rw [List.getElem?_eq_getElem hV] at hx
      rw [← Option.some.inj hx, List.set_getElem_self]
  obtain ⟨r, H', h3, rfl, rfl, h4⟩ := this
  exact ⟨h3, h4⟩
theorem stripZ_ok {s : List UInt8} {n : Nat} (h : s.length ≤ n) : (stripZ s).length ≤ n := Nat.le_trans (stripZ_len s) h
theorem p_number (s : List UInt8) (hs : s.length ≤ maxL) : PV 51 [.str s] = some (.str (numOf s)) := by
  refine PV_start k51 rfl (Nat.le_of_ble_eq_true rfl) ?_
  have hbox : abox Try.prog 9 (.str s) [] = some (.ptr 0 0 0, [boxS s]) := by
    unfold abox
    rw [if_pos ⟨szOf_9, rfl, by simp [AV.cells]⟩]
    rfl
  have cut1 := t_cut (g := 76) (h := 77) (V := 0) (so := zrest) (dof := fun x => x.drop 1) (F := stripZ) (ok := fun x => x.length ≤ maxL)
    (fun H x hx hk => by rw [call_imp rfl]; exact t76 hx)
    (fun H x hx hk hz => by
      have h1 : 1 ≤ x.length := by
        cases x with
        | nil => cases hz
        | cons c x => simp
      rw [call_imp rfl]
      exact ⟨t77 hx h1, by simp only [List.length_drop]; omega, by simp only [List.length_drop]; omega⟩)
    (fun x _ => stripZ_step x) (H := [boxS s]) (x := s) rfl hs
  simp only [List.set_cons_zero] at cut1
  obtain ⟨cut1, hl⟩ := cut1
  simp only [go_sem, Nat.reduceEqDiff, reduceCtorEq, Nat.reduceAdd, Nat.reduceSub, Nat.reduceLT, Nat.reduceLeDiff, Int.reduceAdd, Int.reduceSub, Int.reduceNeg, Int.reduceEq, Int.reduceLT, Int.reduceLE, bx, K51, hbox, call_imp (f := 75) rfl, cut1, load_box (H := [boxS (stripZ s)]) (V := 0) (x := stripZ s) rfl]
  unfold numOf
  generalize stripZ s = a at *
  have hdec := fun i => count_rune (c := 46) (by decide) (s := a) (i := i)
  have e46' : ((46 : UInt8).toNat) = 46 := rfl
  rw [e46'] at hdec
  have hlast := t_cut (g := 79) (h := 78) (V := 0) (so := fun x => lastIs x 48) (dof := fun x => x.take (x.length - 1)) (F := stripR) (ok := fun x => x.length ≤ maxL ∧ 46 ∈ x)
    (fun H x hx hk => by
      have := List.length_pos_of_mem hk.2
      rw [call_imp rfl]
      exact t79 hx this hk.1)
    (fun H x hx hk hz => by
      have := List.length_pos_of_mem hk.2
      rw [call_imp rfl]
      exact ⟨t78 hx this hk.1, ⟨by simp only [List.length_take]; have := hk.1; omega, lastIs_mem hk.2 hz (by decide)⟩, by simp only [List.length_take]; omega⟩)
    (fun x hk => stripR_step x (by rintro rfl; cases hk.2)) (H := [boxS a, .siter a a.length]) (x := a) rfl
  have e46 := fun a => u8_eq a 46
  have e46' : ((46 : UInt8).toNat : Int) = 46 := rfl
  rw [e46'] at e46
  refine C_while (fun n st H => ∃ pos, pos ≤ a.length ∧ a.length - pos = n ∧ st 1 = .ptr 0 0 0 ∧ st 3 = .fn 75 [] ∧ st 4 = .int .i64 (((a.take pos).count 46 : Nat) : Int) ∧ st 13 = .it 1 ∧ H = [boxS a, .siter a pos]) ?_ a.length _ _
    ⟨0, Nat.zero_le _, rfl, by simp only [go_sem, Nat.reduceEqDiff, reduceCtorEq, Nat.reduceAdd, Nat.reduceSub, Nat.reduceLT, Nat.reduceLeDiff, Int.reduceAdd, Int.reduceSub, Int.reduceNeg, Int.reduceEq, Int.reduceLT, Int.reduceLE, bx], by simp only [go_sem, Nat.reduceEqDiff, reduceCtorEq, Nat.reduceAdd, Nat.reduceSub, Nat.reduceLT, Nat.reduceLeDiff, Int.reduceAdd, Int.reduceSub, Int.reduceNeg, Int.reduceEq, Int.reduceLT, Int.reduceLE, bx], by simp only [go_sem, Nat.reduceEqDiff, reduceCtorEq, Nat.reduceAdd, Nat.reduceSub, Nat.reduceLT, Nat.reduceLeDiff, Int.reduceAdd, Int.reduceSub, Int.reduceNeg, Int.reduceEq, Int.reduceLT, Int.reduceLE, bx]; rfl, by simp only [go_sem, Nat.reduceEqDiff, reduceCtorEq, Nat.reduceAdd, Nat.reduceSub, Nat.reduceLT, Nat.reduceLeDiff, Int.reduceAdd, Int.reduceSub, Int.reduceNeg, Int.reduceEq, Int.reduceLT, Int.reduceLE, bx], rfl⟩
  rintro n st H ⟨pos, hpos, rfl, s1, s3, s4, s13, rfl⟩
  by_cases hlt : pos < a.length
  · have hd := hdec pos hlt
    obtain ⟨w1, w2, -, -⟩ := dec_spec a pos hlt
    have hle := List.count_le_length (a := (46 : UInt8)) (l := a.take pos)
    simp only [List.length_take] at hle
    have hwr : IntKind.i64.wrap ((((a.take pos).count 46 : Nat) : Int) + 1) = (((a.take pos).count 46 + 1 : Nat) : Int) := wrap_succ (by simp only [maxL] at *; omega)
    by_cases hr : (Utf8.decode ⟨a.toArray⟩ pos).1 = 46
    · have hr' : (((Utf8.decode ⟨a.toArray⟩ pos).1 : Int) = 46) := by omega
      rw [if_pos hr] at hd
      simp only [go_sem, Nat.reduceEqDiff, reduceCtorEq, Nat.reduceAdd, Nat.reduceSub, Nat.reduceLT, Nat.reduceLeDiff, Int.reduceAdd, Int.reduceSub, Int.reduceNeg, Int.reduceEq, Int.reduceLT, Int.reduceLE, bx, L51_0, s1, s3, s4, s13, nxtO, hlt, decide_eq_true hr', hwr, List.set_cons_succ, List.set_cons_zero]
      exact ⟨a.length - (pos + (Utf8.decode ⟨a.toArray⟩ pos).2), by omega, pos + (Utf8.decode ⟨a.toArray⟩ pos).2, w2, rfl, by rw [hd], rfl⟩
    · have hr' : ¬ (((Utf8.decode ⟨a.toArray⟩ pos).1 : Int) = 46) := by omega
      rw [if_neg hr] at hd
      simp only [go_sem, Nat.reduceEqDiff, reduceCtorEq, Nat.reduceAdd, Nat.reduceSub, Nat.reduceLT, Nat.reduceLeDiff, Int.reduceAdd, Int.reduceSub, Int.reduceNeg, Int.reduceEq, Int.reduceLT, Int.reduceLE, bx, L51_0, s1, s3, s4, s13, nxtO, hlt, decide_eq_false hr', List.set_cons_succ, List.set_cons_zero]
      exact ⟨a.length - (pos + (Utf8.decode ⟨a.toArray⟩ pos).2), by omega, pos + (Utf8.decode ⟨a.toArray⟩ pos).2, w2, rfl, by rw [hd, Nat.add_zero], rfl⟩
  · obtain rfl : pos = a.length := by omega
    rw [List.take_length] at s4
    by_cases hc : a.count 46 = 1
    · have hmem : (46 : UInt8) ∈ a := List.count_pos_iff.1 (by omega)
      obtain ⟨hlast, hb, hm⟩ := hlast ⟨hl, hmem⟩
      rw [hc] at s4
      simp only [List.set_cons_zero] at hlast
      rw [if_pos hc]
      have hpos := List.length_pos_of_mem hm
      generalize stripR a = b at *
      have w1 : IntKind.i64.wrap ((b.length : Int) - 1) = ((b.length - 1 : Nat) : Int) := by
        simp only [maxL] at hb
        rw [wrap_ok] <;> omega
      have i0 := idx9 (s := b) (i := b.length - 1) (by omega)
      have hl78 := t78 (H := [boxS b, .siter a a.length]) (V := 0) (x := b) rfl hpos hb
      simp only [List.set_cons_zero] at hl78
      have hlb := load_box (H := [boxS b, .siter a a.length]) (V := 0) (x := b) rfl
      unfold lastIs
      cases b' : (byteAt b (b.length - 1) == 46)
      · simp only [go_sem, Nat.reduceEqDiff, reduceCtorEq, Nat.reduceAdd, Nat.reduceSub, Nat.reduceLT, Nat.reduceLeDiff, Int.reduceAdd, Int.reduceSub, Int.reduceNeg, Int.reduceEq, Int.reduceLT, Int.reduceLE, bx, L51_0, s1, s3, s4, s13, nxtO, Nat.lt_irrefl, Int.cast_ofNat_Int, decide_true, call_imp (f := 75) rfl, hlast, hlb, w1, i0, e46, b']
      · have hlb2 := load_box (H := [boxS (b.take (b.length - 1)), .siter a a.length]) (V := 0) (x := b.take (b.length - 1)) rfl
        simp only [go_sem, Nat.reduceEqDiff, reduceCtorEq, Nat.reduceAdd, Nat.reduceSub, Nat.reduceLT, Nat.reduceLeDiff, Int.reduceAdd, Int.reduceSub, Int.reduceNeg, Int.reduceEq, Int.reduceLT, Int.reduceLE, bx, L51_0, s1, s3, s4, s13, nxtO, Nat.lt_irrefl, Int.cast_ofNat_Int, decide_true, call_imp (f := 75) rfl, hlast, hlb, w1, i0, e46, b', call_imp (f := 78) rfl, hl78, hlb2]
    · have hne : ¬ (((a.count 46 : Nat) : Int) = 1) := by omega
      rw [if_neg hc]
      simp only [go_sem, Nat.reduceEqDiff, reduceCtorEq, Nat.reduceAdd, Nat.reduceSub, Nat.reduceLT, Nat.reduceLeDiff, Int.reduceAdd, Int.reduceSub, Int.reduceNeg, Int.reduceEq, Int.reduceLT, Int.reduceLE, bx, L51_0, s1, s3, s4, s13, nxtO, Nat.lt_irrefl, decide_eq_false hne, load_box (H := [boxS a, .siter a a.length]) (V := 0) (x := a) rfl]
end Go.Proofs
/- The sets' layer: tokens in their normal form. -/

set_option linter.unusedSimpArgs false
set_option linter.unusedVariables false
namespace Go.Proofs
open Go.Vam
/-! ### tokens that are appended -/
theorem frz_toks (H : AHeap) (l : List Tok) : ∀ n, mapO (fun e => mapO (frz (n + 1) H) e) (toks l) = some (toks l) := by
  intro n
  induction l with
  | nil => rfl
  | cons a l ih =>
    simp only [toks, List.map_cons, mapO] at ih ⊢
    rw [ih]
    rfl
theorem frz_ownT {H : AHeap} {v : AV} {l : List Tok} (ho : Own 40 H v (toks l)) : frz depth H v = some (.sl (toks l)) := by
  rcases ho with ⟨rfl, h⟩ | ⟨id, rfl, h⟩
  · rw [h]; rfl
  · simp only [depth, frz]
    rw [h]
    simp only
    rw [if_pos (by omega)]
    simp only [List.drop_zero, List.take_length]
    rw [frz_toks H l 6]
    rfl
def isAgg3 : AV → Bool
  | .agg [_, _, _] => true
  | _ => false
theorem bs_tok1 (t : Tok) (H : AHeap) : abuildSlice Try.prog 22 1 [(0, .agg (tok t))] H = some (.hs H.length 0 1, H ++ [.arr 40 true 0 [tok t]]) := by
  have hz : ([AV.int .i64 0, .str [], .int .i64 0] : List AV).length = 3 := rfl
  have := bs_gen (t := 22) (e := 40) (z := [.int .i64 0, .str [], .int .i64 0]) (n := 1) (parts := [(0, .agg (tok t))]) (q := fun x => decide (x.cells.length = 3) && x.cells.all AV.isCell) sliceT_22 zeroT_40 (fun x hx => by
    simp only [Bool.and_eq_true, decide_eq_true_eq] at hx
    exact ⟨hx.1, hx.2⟩) H (by simp) rfl
  exact this
theorem append_tok {H : AHeap} {v : AV} {l : List Tok} (x : Tok) (ho : Own 40 H v (toks l)) (hl : l.length < 100000000) :
    ∃ v' H', aappend Try.prog 22 22 v (.hs H.length 0 1) (H ++ [.arr 40 true 0 [tok x]]) = some (v', H') ∧ Own 40 H' v' (toks (l ++ [x])) ∧ KeepBut v H H' := by
  obtain ⟨v', H', h1, h2, h3⟩ := append_one (m := 2) sliceT_22 bytesT_40 szOf_40 zeroT_40 (by decide) ho (by simpa [toks] using hl) (c := tok x) rfl rfl
  exact ⟨v', H', h1, by simpa [toks] using h2, h3⟩
/-! ### normal forms -/
def semi (t : Tok) : Bool := decide (t.kind = 5) && (t.text == [59])
def semiN (l : List Tok) : Nat → Nat
  | 0 => 0
  | n + 1 => if semi (tokAt l n) then semiN l n else n + 1
theorem semiN_le (l : List Tok) : ∀ n, semiN l n ≤ n
  | 0 => Nat.le_refl _
  | n + 1 => by
    unfold semiN
    split
    · exact Nat.le_succ_of_le (semiN_le l n)
    · exact Nat.le_refl _
def numT (t : Tok) : Bool := decide (t.kind = 4) && !(t.text == [])
def normT (t : Tok) : Tok := if numT t then { t with text := numOf t.text } else t
def normToks (l : List Tok) : List Tok := (l.take (semiN l l.length)).map normT
def normL (l : List Tok) : List UInt8 := showL (normToks l)
theorem stripR_len (s : List UInt8) : (stripR s).length ≤ s.length := by
  unfold stripR
  rw [List.length_reverse]
  refine Nat.le_trans (List.dropWhile_sublist _).length_le ?_
  rw [List.length_reverse]
  exact Nat.le_refl _
theorem numOf_len (s : List UInt8) : (numOf s).length ≤ s.length := by
  have h1 := stripZ_len s
  have h2 := stripR_len (stripZ s)
  unfold numOf
  split
  · split
    · simp only [List.length_take]; omega
    · omega
  · exact h1
theorem normT_len (t : Tok) : (normT t).text.length ≤ t.text.length := by
  unfold normT
  split
  · exact numOf_len _
  · exact Nat.le_refl _
theorem Small.norm {l : List Tok} (h : Small l) (n : Nat) : Small ((l.take n).map normT) := by
  refine ⟨?_, ?_⟩
  · have := h.len
    simp only [List.length_map, List.length_take]
    omega
  · intro t ht
    obtain ⟨u, hu, rfl⟩ := List.mem_map.1 ht
    exact Nat.le_trans (normT_len u) (h.text u (List.mem_of_mem_take hu))
theorem tok_text (H : AHeap) (t : Tok) (y : List UInt8) : astore Try.prog 9 (.ptr H.length 0 1) (.str y) (H ++ [.arr 40 true 0 [[.int .i64 t.kind, .str t.text, .int .i64 t.pos]]]) = some (H ++ [.arr 40 true 0 [[.int .i64 t.kind, .str y, .int .i64 t.pos]]]) := by
  have e : (H ++ [AO.arr 40 true 0 [[.int .i64 t.kind, .str t.text, .int .i64 t.pos]]])[H.length]? = some (.arr 40 true 0 [[.int .i64 t.kind, .str t.text, .int .i64 t.pos]]) := by simp
  unfold astore
  simp only [e]
  have e2 : ([[AV.int .i64 t.kind, .str t.text, .int .i64 t.pos]] : List (List AV))[0]? = some [.int .i64 t.kind, .str t.text, .int .i64 t.pos] := rfl
  simp only [e2]
  have hcond : 0 ≤ 0 ∧ szOf Try.prog 9 = some (AV.str y).cells.length ∧ (AV.str y).cells.all AV.isCell = true ∧ 1 + (AV.str y).cells.length ≤ [AV.int .i64 t.kind, .str t.text, .int .i64 t.pos].length := ⟨Nat.le_refl _, szOf_9, rfl, Nat.le_of_ble_eq_true rfl⟩
  rw [if_pos hcond]
  simp [AV.cells]
theorem slice_toks (l : List Tok) (k : Nat) (hk : k ≤ l.length) (H : AHeap) : aslice Try.prog 22 (.sl (toks l)) none (some (.int .i64 (k : Int))) H = some (.sl (toks (l.take k))) := by
  unfold aslice
  rw [sliceT_22]
  simp only
  rw [szOf_40]
  simp only [Option.map_some, asBound]
  rw [if_pos (by omega)]
  simp only [Option.map_none, Int.toNat_natCast]
  rw [if_pos ⟨Nat.zero_le _, by rw [toks_len]; exact hk, fun c hc => by
    obtain ⟨t, _, rfl⟩ := List.mem_map.1 hc
    rfl⟩]
  simp [toks]
theorem tokAt_take {l : List Tok} {n i : Nat} (h : i < n) : tokAt (l.take n) i = tokAt l i := by
  unfold tokAt
  rw [Int.toNat_natCast, List.getElem?_take_of_lt h]
theorem map_next {α : Type} {f : Tok → α} {l : List Tok} {i : Nat} (h : i < l.length) : (l.take (i + 1)).map f = (l.take i).map f ++ [f (tokAt l i)] := by
  rw [List.take_add_one, List.getElem?_eq_getElem h, tokAt_nat h, List.map_append]
  rfl
theorem neq_nil (s : List UInt8) : (s == ([] : List UInt8)) = decide (s = []) := by
  cases s <;> rfl
theorem p_tokens (l : List Tok) (hs : Small l) : PV 34 [.sl (toks l)] = some (.str (normL l)) := by
  refine PV_start k34 rfl (Nat.le_of_ble_eq_true rfl) ?_
  have hlen := hs.len
  rw [K34]
  refine C_then (fun st H => st 0 = .sl (toks l)) (by simp only [go_sem, Nat.reduceEqDiff, reduceCtorEq, Nat.reduceAdd, Nat.reduceSub, Nat.reduceLT, Nat.reduceLeDiff, Int.reduceAdd, Int.reduceSub, Int.reduceNeg, Int.reduceEq, Int.reduceLT, Int.reduceLE, bx]) ?_
  rintro sa Ha h0
  refine C_then (fun st H => st 0 = .sl (toks (l.take (semiN l l.length)))) ?_ ?_
  · rw [C_block]
    refine C_while (fun n st H => ∃ k, k = n ∧ k ≤ l.length ∧ semiN l k = semiN l l.length ∧ st 0 = .sl (toks (l.take k))) ?_ l.length _ _ ⟨l.length, rfl, Nat.le_refl _, rfl, by rw [List.take_length]; exact h0⟩
    clear h0
    rintro n st H ⟨k, rfl, hk, hz, h0⟩
    have htl : (l.take k).length = k := by simp only [List.length_take]; omega
    cases k with
    | zero =>
      simp only [go_sem, Nat.reduceEqDiff, reduceCtorEq, Nat.reduceAdd, Nat.reduceSub, Nat.reduceLT, Nat.reduceLeDiff, Int.reduceAdd, Int.reduceSub, Int.reduceNeg, Int.reduceEq, Int.reduceLT, Int.reduceLE, bx, L34_0, h0, htl, Int.cast_ofNat_Int, Int.reduceLT, decide_false]
      rw [← hz]
      rfl
    | succ m =>
      have hd : ((0 : Int) < ((m + 1 : Nat) : Int)) := by omega
      have w1 : IntKind.i64.wrap (((m + 1 : Nat) : Int) - 1) = (m : Int) := by rw [wrap_ok] <;> omega
      have hg := indexAddr_22 (l.take (m + 1)) .i64 (m : Int) H (by omega) (by rw [htl]; omega)
      rw [tokAt_take (Nat.lt_succ_self m)] at hg
      have hz' : semiN l (m + 1) = if semi (tokAt l m) then semiN l m else m + 1 := rfl
      rw [hz'] at hz
      unfold semi at hz
      cases b1 : decide ((tokAt l m).kind = 5)
      · simp only [go_sem, Nat.reduceEqDiff, reduceCtorEq, Nat.reduceAdd, Nat.reduceSub, Nat.reduceLT, Nat.reduceLeDiff, Int.reduceAdd, Int.reduceSub, Int.reduceNeg, Int.reduceEq, Int.reduceLT, Int.reduceLE, bx, L34_0, h0, htl, hd, w1, hg, tok, b1]
        rw [b1] at hz
        simp only [Bool.false_and, Bool.false_eq_true, if_false] at hz
        rw [hz]
      · cases b2 : ((tokAt l m).text == [59])
        · simp only [go_sem, Nat.reduceEqDiff, reduceCtorEq, Nat.reduceAdd, Nat.reduceSub, Nat.reduceLT, Nat.reduceLeDiff, Int.reduceAdd, Int.reduceSub, Int.reduceNeg, Int.reduceEq, Int.reduceLT, Int.reduceLE, bx, L34_0, h0, htl, hd, w1, hg, tok, b1, b2]
          rw [b1, b2] at hz
          simp only [Bool.and_false, Bool.false_eq_true, if_false] at hz
          rw [hz]
        · rw [b1, b2] at hz
          simp only [Bool.and_self, if_true] at hz
          have hsl := slice_toks (l.take (m + 1)) m (by rw [htl]; omega) H
          rw [List.take_take, Nat.min_eq_left (by omega)] at hsl
          simp only [go_sem, Nat.reduceEqDiff, reduceCtorEq, Nat.reduceAdd, Nat.reduceSub, Nat.reduceLT, Nat.reduceLeDiff, Int.reduceAdd, Int.reduceSub, Int.reduceNeg, Int.reduceEq, Int.reduceLT, Int.reduceLE, bx, L34_0, h0, htl, hd, w1, hg, tok, b1, b2, hsl]
          exact ⟨m, Nat.lt_succ_self m, m, rfl, by omega, hz, rfl⟩
  · rintro sb Hb h0
    unfold normL normToks
    have hsm := hs.norm (semiN l l.length)
    have hat : ∀ i, ((tokAt (l.take (semiN l l.length)) i)).text.length ≤ 1000000 := fun i => by
      unfold tokAt
      cases hg : (l.take (semiN l l.length))[i.toNat]? with
      | none => simp
      | some t => exact hs.text t (List.mem_of_mem_take (List.mem_of_getElem? hg))
    have hxl : (l.take (semiN l l.length)).length ≤ 3000 := by simp only [List.length_take]; omega
    have hsh := p_show _ hsm
    generalize l.take (semiN l l.length) = x at *
    simp only [go_sem, Nat.reduceEqDiff, reduceCtorEq, Nat.reduceAdd, Nat.reduceSub, Nat.reduceLT, Nat.reduceLeDiff, Int.reduceAdd, Int.reduceSub, Int.reduceNeg, Int.reduceEq, Int.reduceLT, Int.reduceLE, bx, h0]
    refine C_for x.length (fun i st H => st 34 = .sl (toks x) ∧ st 35 = .int .i64 (x.length : Int) ∧ st 36 = .int .i64 (i : Int) ∧ Own 40 H (st 3) (toks ((x.take i).map normT))) ⟨by simp only [go_sem, Nat.reduceEqDiff, reduceCtorEq, Nat.reduceAdd, Nat.reduceSub, Nat.reduceLT, Nat.reduceLeDiff, Int.reduceAdd, Int.reduceSub, Int.reduceNeg, Int.reduceEq, Int.reduceLT, Int.reduceLE, bx], by simp only [go_sem, Nat.reduceEqDiff, reduceCtorEq, Nat.reduceAdd, Nat.reduceSub, Nat.reduceLT, Nat.reduceLeDiff, Int.reduceAdd, Int.reduceSub, Int.reduceNeg, Int.reduceEq, Int.reduceLT, Int.reduceLE, bx], by simp only [go_sem, Nat.reduceEqDiff, reduceCtorEq, Nat.reduceAdd, Nat.reduceSub, Nat.reduceLT, Nat.reduceLeDiff, Int.reduceAdd, Int.reduceSub, Int.reduceNeg, Int.reduceEq, Int.reduceLT, Int.reduceLE, bx]; rfl, .inl ⟨by simp only [go_sem, Nat.reduceEqDiff, reduceCtorEq, Nat.reduceAdd, Nat.reduceSub, Nat.reduceLT, Nat.reduceLeDiff, Int.reduceAdd, Int.reduceSub, Int.reduceNeg, Int.reduceEq, Int.reduceLT, Int.reduceLE, bx], rfl⟩⟩ ?_ ?_
    · clear h0
      rintro i st H hi ⟨h34, h35, h36, ho⟩
      have hd : ((i : Int) < (x.length : Int)) := by omega
      have hw : IntKind.i64.wrap ((i : Int) + 1) = ((i + 1 : Nat) : Int) := wrap_succ (by simp only [maxL]; omega)
      have hg := indexAddr_22 x .i64 (i : Int) H (by omega) hd
      have hput := tok_put H (tokAt x i)
      have hgot := tok_got H (tokAt x i)
      have hnum := p_number (tokAt x i).text (Nat.le_trans (hat i) (by simp only [maxL]; omega))
      rw [map_next hi]
      have hml : ((x.take i).map normT).length < 100000000 := by simp only [List.length_map, List.length_take]; omega
      generalize (x.take i).map normT = cur at *
      generalize tokAt x i = t at *
      generalize hv : st 3 = v at ho
      simp only [tok] at hg hput hgot
      unfold normT numT
      rw [neq_nil]
      cases b1 : decide (t.kind = 4)
      · obtain ⟨v1, H1, e1, o1, -⟩ := append_tok t (ho.lt (.arr 40 true 0 [tok t])) hml
        have hbs := bs_tok1 t (H ++ [.arr 40 true 0 [tok t]])
        simp only [tok] at e1 hbs
        simp only [go_sem, Nat.reduceEqDiff, reduceCtorEq, Nat.reduceAdd, Nat.reduceSub, Nat.reduceLT, Nat.reduceLeDiff, Int.reduceAdd, Int.reduceSub, Int.reduceNeg, Int.reduceEq, Int.reduceLT, Int.reduceLE, bx, L34_1, h34, h35, h36, hv, hd, hg, hput, hgot, tok, b1, hw, Nat.le_refl, hbs, bi_append, e1, Bool.false_and]
        exact o1
      · cases b2 : decide (t.text = [])
        · have htx := tok_text H t (numOf t.text)
          obtain ⟨v1, H1, e1, o1, -⟩ := append_tok { t with text := numOf t.text } (ho.lt (.arr 40 true 0 [tok { t with text := numOf t.text }])) hml
          have hbs := bs_tok1 { t with text := numOf t.text } (H ++ [.arr 40 true 0 [tok { t with text := numOf t.text }]])
          have hgot2 := tok_got H { t with text := numOf t.text }
          simp only [tok] at e1 hbs hgot2
          simp only [go_sem, Nat.reduceEqDiff, reduceCtorEq, Nat.reduceAdd, Nat.reduceSub, Nat.reduceLT, Nat.reduceLeDiff, Int.reduceAdd, Int.reduceSub, Int.reduceNeg, Int.reduceEq, Int.reduceLT, Int.reduceLE, bx, L34_1, h34, h35, h36, hv, hd, hg, hput, hgot, tok, b1, neq_nil, b2, hw, Nat.le_refl, call_pure pure_51, hnum, htx, hgot2, hbs, bi_append, e1, Bool.true_and]
          exact o1
        · obtain ⟨v1, H1, e1, o1, -⟩ := append_tok t (ho.lt (.arr 40 true 0 [tok t])) hml
          have hbs := bs_tok1 t (H ++ [.arr 40 true 0 [tok t]])
          simp only [tok] at e1 hbs
          simp only [go_sem, Nat.reduceEqDiff, reduceCtorEq, Nat.reduceAdd, Nat.reduceSub, Nat.reduceLT, Nat.reduceLeDiff, Int.reduceAdd, Int.reduceSub, Int.reduceNeg, Int.reduceEq, Int.reduceLT, Int.reduceLE, bx, L34_1, h34, h35, h36, hv, hd, hg, hput, hgot, tok, b1, neq_nil, b2, hw, Nat.le_refl, hbs, bi_append, e1, Bool.and_false]
          exact o1
    · rintro st H ⟨h34, h35, h36, ho⟩
      have hd : ¬ ((x.length : Int) < (x.length : Int)) := by omega
      rw [List.take_length] at ho
      generalize hv : st 3 = v at ho
      have hf := frz_ownT ho
      simp only [go_sem, Nat.reduceEqDiff, reduceCtorEq, Nat.reduceAdd, Nat.reduceSub, Nat.reduceLT, Nat.reduceLeDiff, Int.reduceAdd, Int.reduceSub, Int.reduceNeg, Int.reduceEq, Int.reduceLT, Int.reduceLE, bx, L34_1, h35, h36, hv, hd, call_pure pure_52, hf, hsh]
theorem p_tokens5 (l : List Tok) (hs : Small l) : PV 36 [.sl (toks l)] = some (.str (normL l)) := by
  refine PV_start k36 rfl (Nat.le_of_ble_eq_true rfl) ?_
  have hlen := hs.len
  rw [K36]
  refine C_then (fun st H => st 0 = .sl (toks l)) (by simp only [go_sem, Nat.reduceEqDiff, reduceCtorEq, Nat.reduceAdd, Nat.reduceSub, Nat.reduceLT, Nat.reduceLeDiff, Int.reduceAdd, Int.reduceSub, Int.reduceNeg, Int.reduceEq, Int.reduceLT, Int.reduceLE, bx]) ?_
  rintro sa Ha h0
  refine C_then (fun st H => st 0 = .sl (toks l) ∧ st 3 = .int .i64 (l.length : Int)) (by simp only [go_sem, Nat.reduceEqDiff, reduceCtorEq, Nat.reduceAdd, Nat.reduceSub, Nat.reduceLT, Nat.reduceLeDiff, Int.reduceAdd, Int.reduceSub, Int.reduceNeg, Int.reduceEq, Int.reduceLT, Int.reduceLE, bx, h0]) ?_
  rintro sb Hb ⟨h0, h3⟩
  refine C_then (fun st H => st 0 = .sl (toks l) ∧ st 3 = .int .i64 ((semiN l l.length : Nat) : Int)) ?_ ?_
  · rw [C_block]
    refine C_while (fun n st H => ∃ k, k = n ∧ k ≤ l.length ∧ semiN l k = semiN l l.length ∧ st 0 = .sl (toks l) ∧ st 3 = .int .i64 (k : Int)) ?_ l.length _ _ ⟨l.length, rfl, Nat.le_refl _, rfl, h0, h3⟩
    clear h0 h3
    rintro n st H ⟨k, rfl, hk, hz, h0, h3⟩
    cases k with
    | zero =>
      simp only [go_sem, Nat.reduceEqDiff, reduceCtorEq, Nat.reduceAdd, Nat.reduceSub, Nat.reduceLT, Nat.reduceLeDiff, Int.reduceAdd, Int.reduceSub, Int.reduceNeg, Int.reduceEq, Int.reduceLT, Int.reduceLE, bx, L36_0, h0, h3, Int.cast_ofNat_Int, Int.reduceLT, decide_false]
      rw [← hz]
      rfl
    | succ m =>
      have hd : ((0 : Int) < ((m + 1 : Nat) : Int)) := by omega
      have w1 : IntKind.i64.wrap (((m + 1 : Nat) : Int) - 1) = (m : Int) := by rw [wrap_ok] <;> omega
      have hg := indexAddr_22 l .i64 (m : Int) H (by omega) (by omega)
      have hz' : semiN l (m + 1) = if semi (tokAt l m) then semiN l m else m + 1 := rfl
      rw [hz'] at hz
      unfold semi at hz
      cases b1 : decide ((tokAt l m).kind = 5)
      · simp only [go_sem, Nat.reduceEqDiff, reduceCtorEq, Nat.reduceAdd, Nat.reduceSub, Nat.reduceLT, Nat.reduceLeDiff, Int.reduceAdd, Int.reduceSub, Int.reduceNeg, Int.reduceEq, Int.reduceLT, Int.reduceLE, bx, L36_0, h0, h3, hd, w1, hg, tok, b1]
        rw [b1] at hz
        simp only [Bool.false_and, Bool.false_eq_true, if_false] at hz
        rw [hz]
      · cases b2 : ((tokAt l m).text == [59])
        · simp only [go_sem, Nat.reduceEqDiff, reduceCtorEq, Nat.reduceAdd, Nat.reduceSub, Nat.reduceLT, Nat.reduceLeDiff, Int.reduceAdd, Int.reduceSub, Int.reduceNeg, Int.reduceEq, Int.reduceLT, Int.reduceLE, bx, L36_0, h0, h3, hd, w1, hg, tok, b1, b2]
          rw [b1, b2] at hz
          simp only [Bool.and_false, Bool.false_eq_true, if_false] at hz
          rw [hz]
        · rw [b1, b2] at hz
          simp only [Bool.and_self, if_true] at hz
          simp only [go_sem, Nat.reduceEqDiff, reduceCtorEq, Nat.reduceAdd, Nat.reduceSub, Nat.reduceLT, Nat.reduceLeDiff, Int.reduceAdd, Int.reduceSub, Int.reduceNeg, Int.reduceEq, Int.reduceLT, Int.reduceLE, bx, L36_0, h0, h3, hd, w1, hg, tok, b1, b2]
          exact ⟨m, Nat.lt_succ_self m, m, rfl, by omega, hz, rfl⟩
  · rintro sc Hc ⟨h0, h3⟩
    unfold normL normToks
    have hsm := hs.norm (semiN l l.length)
    have hsn := semiN_le l l.length
    have hsh := p_show4 _ hsm
    generalize semiN l l.length = n at *
    simp only [go_sem, Nat.reduceEqDiff, reduceCtorEq, Nat.reduceAdd, Nat.reduceSub, Nat.reduceLT, Nat.reduceLeDiff, Int.reduceAdd, Int.reduceSub, Int.reduceNeg, Int.reduceEq, Int.reduceLT, Int.reduceLE, bx, h0, h3]
    refine C_for n (fun i st H => st 0 = .sl (toks l) ∧ st 3 = .int .i64 (n : Int) ∧ st 5 = .int .i64 (i : Int) ∧ Own 40 H (st 4) (toks ((l.take i).map normT))) ⟨by simp only [go_sem, Nat.reduceEqDiff, reduceCtorEq, Nat.reduceAdd, Nat.reduceSub, Nat.reduceLT, Nat.reduceLeDiff, Int.reduceAdd, Int.reduceSub, Int.reduceNeg, Int.reduceEq, Int.reduceLT, Int.reduceLE, bx, h0], by simp only [go_sem, Nat.reduceEqDiff, reduceCtorEq, Nat.reduceAdd, Nat.reduceSub, Nat.reduceLT, Nat.reduceLeDiff, Int.reduceAdd, Int.reduceSub, Int.reduceNeg, Int.reduceEq, Int.reduceLT, Int.reduceLE, bx, h3], by simp only [go_sem, Nat.reduceEqDiff, reduceCtorEq, Nat.reduceAdd, Nat.reduceSub, Nat.reduceLT, Nat.reduceLeDiff, Int.reduceAdd, Int.reduceSub, Int.reduceNeg, Int.reduceEq, Int.reduceLT, Int.reduceLE, bx]; rfl, .inl ⟨by simp only [go_sem, Nat.reduceEqDiff, reduceCtorEq, Nat.reduceAdd, Nat.reduceSub, Nat.reduceLT, Nat.reduceLeDiff, Int.reduceAdd, Int.reduceSub, Int.reduceNeg, Int.reduceEq, Int.reduceLT, Int.reduceLE, bx], rfl⟩⟩ ?_ ?_
    · clear h0 h3
      rintro i st H hi ⟨h0, h3, h5, ho⟩
      have hd : ((i : Int) < (n : Int)) := by omega
      have hw : IntKind.i64.wrap ((i : Int) + 1) = ((i + 1 : Nat) : Int) := wrap_succ (by simp only [maxL]; omega)
      have hg := indexAddr_22 l .i64 (i : Int) H (by omega) (by omega)
      have hput := tok_put H (tokAt l i)
      have hgot := tok_got H (tokAt l i)
      have hnum := p_number5 (tokAt l i).text (Nat.le_trans (hs.at i) (by simp only [maxL]; omega))
      rw [map_next (by omega : i < l.length)]
      have hml : ((l.take i).map normT).length < 100000000 := by simp only [List.length_map, List.length_take]; omega
      generalize (l.take i).map normT = cur at *
      generalize tokAt l i = t at *
      generalize hv : st 4 = v at ho
      simp only [tok] at hg hput hgot
      unfold normT numT
      rw [neq_nil]
      cases b1 : decide (t.kind = 4)
      · obtain ⟨v1, H1, e1, o1, -⟩ := append_tok t (ho.lt (.arr 40 true 0 [tok t])) hml
        have hbs := bs_tok1 t (H ++ [.arr 40 true 0 [tok t]])
        simp only [tok] at e1 hbs
        simp only [go_sem, Nat.reduceEqDiff, reduceCtorEq, Nat.reduceAdd, Nat.reduceSub, Nat.reduceLT, Nat.reduceLeDiff, Int.reduceAdd, Int.reduceSub, Int.reduceNeg, Int.reduceEq, Int.reduceLT, Int.reduceLE, bx, L36_1, h0, h3, h5, hv, hd, hg, hput, hgot, tok, b1, hw, Nat.le_refl, hbs, bi_append, e1, Bool.false_and]
        exact o1
      · cases b2 : decide (t.text = [])
        · have htx := tok_text H t (numOf t.text)
          obtain ⟨v1, H1, e1, o1, -⟩ := append_tok { t with text := numOf t.text } (ho.lt (.arr 40 true 0 [tok { t with text := numOf t.text }])) hml
          have hbs := bs_tok1 { t with text := numOf t.text } (H ++ [.arr 40 true 0 [tok { t with text := numOf t.text }]])
          have hgot2 := tok_got H { t with text := numOf t.text }
          simp only [tok] at e1 hbs hgot2
          simp only [go_sem, Nat.reduceEqDiff, reduceCtorEq, Nat.reduceAdd, Nat.reduceSub, Nat.reduceLT, Nat.reduceLeDiff, Int.reduceAdd, Int.reduceSub, Int.reduceNeg, Int.reduceEq, Int.reduceLT, Int.reduceLE, bx, L36_1, h0, h3, h5, hv, hd, hg, hput, hgot, tok, b1, neq_nil, b2, hw, Nat.le_refl, call_pure pure_59, hnum, htx, hgot2, hbs, bi_append, e1, Bool.true_and]
          exact o1
        · obtain ⟨v1, H1, e1, o1, -⟩ := append_tok t (ho.lt (.arr 40 true 0 [tok t])) hml
          have hbs := bs_tok1 t (H ++ [.arr 40 true 0 [tok t]])
          simp only [tok] at e1 hbs
          simp only [go_sem, Nat.reduceEqDiff, reduceCtorEq, Nat.reduceAdd, Nat.reduceSub, Nat.reduceLT, Nat.reduceLeDiff, Int.reduceAdd, Int.reduceSub, Int.reduceNeg, Int.reduceEq, Int.reduceLT, Int.reduceLE, bx, L36_1, h0, h3, h5, hv, hd, hg, hput, hgot, tok, b1, neq_nil, b2, hw, Nat.le_refl, hbs, bi_append, e1, Bool.and_false]
          exact o1
    · rintro st H ⟨h0, h3, h5, ho⟩
      have hd : ¬ ((n : Int) < (n : Int)) := by omega
      generalize hv : st 4 = v at ho
      have hf := frz_ownT ho
      simp only [go_sem, Nat.reduceEqDiff, reduceCtorEq, Nat.reduceAdd, Nat.reduceSub, Nat.reduceLT, Nat.reduceLeDiff, Int.reduceAdd, Int.reduceSub, Int.reduceNeg, Int.reduceEq, Int.reduceLT, Int.reduceLE, bx, L36_1, h3, h5, hv, hd, call_pure pure_60, hf, hsh]
end Go.Proofs
/- The sets' layer, plain: what is sorted out of a map of counts is what the reference puts in order. -/

set_option linter.unusedSimpArgs false
set_option linter.unusedVariables false
namespace Go.Proofs
open Go.Vam
/-! ### the order of texts -/
theorem less_irrefl : ∀ a : List UInt8, Op.bytesLess a a = false
  | [] => rfl
  | a :: x => by
    simp only [Op.bytesLess, beq_self_eq_true, Bool.true_and, less_irrefl x, Bool.or_false]
    exact decide_eq_false (UInt8.lt_irrefl a)
theorem less_trans : ∀ {a b c : List UInt8}, Op.bytesLess a b = true → Op.bytesLess b c = true → Op.bytesLess a c = true
  | _, [], _, h, _ => by simp [Op.bytesLess] at h
  | _, _ :: _, [], _, h => by simp [Op.bytesLess] at h
  | [], _ :: _, _ :: _, _, _ => rfl
  | a :: x, b :: y, c :: z, h1, h2 => by
    simp only [Op.bytesLess, Bool.or_eq_true, Bool.and_eq_true, decide_eq_true_eq, beq_iff_eq] at h1 h2 ⊢
    rcases h1 with h1 | ⟨rfl, h1⟩ <;> rcases h2 with h2 | ⟨rfl, h2⟩
    · exact .inl (UInt8.lt_trans h1 h2)
    · exact .inl h1
    · exact .inl h2
    · exact .inr ⟨rfl, less_trans h1 h2⟩
theorem less_total : ∀ {a b : List UInt8}, Op.bytesLess a b = false → a ≠ b → Op.bytesLess b a = true
  | [], [], _, h => absurd rfl h
  | [], _ :: _, h, _ => by simp [Op.bytesLess] at h
  | _ :: _, [], _, _ => rfl
  | a :: x, b :: y, h, hn => by
    simp only [Op.bytesLess, Bool.or_eq_false_iff, Bool.and_eq_false_iff, decide_eq_false_iff_not, Bool.or_eq_true, Bool.and_eq_true, decide_eq_true_eq, beq_iff_eq] at h ⊢
    obtain ⟨h1, h2⟩ := h
    by_cases e : a = b
    · subst e
      rcases h2 with h2 | h2
      · simp at h2
      · exact .inr ⟨rfl, less_total h2 (fun q => hn (by rw [q]))⟩
    · left
      rcases Nat.lt_trichotomy a.toNat b.toNat with q | q | q
      · exact absurd (UInt8.lt_iff_toNat_lt.2 q) h1
      · exact absurd (UInt8.toNat_inj.1 q) e
      · exact UInt8.lt_iff_toNat_lt.2 q
/-! ### lists that rise -/
def Rises (l : List (List UInt8)) : Prop := l.Pairwise fun a b => Op.bytesLess a b = true
theorem rises_eq : ∀ {a b : List (List UInt8)}, Rises a → Rises b → (∀ x, x ∈ a ↔ x ∈ b) → a = b
  | [], [], _, _, _ => rfl
  | [], y :: b, _, _, h => absurd ((h y).2 List.mem_cons_self) (by simp)
  | x :: a, [], _, _, h => absurd ((h x).1 List.mem_cons_self) (by simp)
  | x :: a, y :: b, ha, hb, h => by
    obtain ⟨ha1, ha2⟩ := List.pairwise_cons.1 ha
    obtain ⟨hb1, hb2⟩ := List.pairwise_cons.1 hb
    have e : x = y := by
      rcases List.mem_cons.1 ((h x).1 List.mem_cons_self) with e | m1
      · exact e
      · rcases List.mem_cons.1 ((h y).2 List.mem_cons_self) with e | m2
        · exact e.symm
        · have := less_trans (hb1 x m1) (ha1 y m2)
          rw [less_irrefl] at this
          cases this
    subst e
    have hnx : x ∉ a := fun m => by have := ha1 x m; rw [less_irrefl] at this; cases this
    have hnb : x ∉ b := fun m => by have := hb1 x m; rw [less_irrefl] at this; cases this
    rw [rises_eq ha2 hb2 fun z => ?_]
    constructor
    · intro m
      rcases List.mem_cons.1 ((h z).1 (List.mem_cons_of_mem _ m)) with rfl | m'
      · exact absurd m hnx
      · exact m'
    · intro m
      rcases List.mem_cons.1 ((h z).2 (List.mem_cons_of_mem _ m)) with rfl | m'
      · exact absurd m hnb
      · exact m'
theorem mem_insertS {x y : List UInt8} : ∀ {l : List (List UInt8)}, y ∈ insertS x l ↔ y = x ∨ y ∈ l
  | [] => by simp [insertS]
  | a :: l => by
    unfold insertS
    split
    · simp
    · simp only [List.mem_cons, mem_insertS (l := l)]
      constructor
      · rintro (h | h | h) <;> simp [h]
      · rintro (h | h | h) <;> simp [h]
theorem rises_insertS {x : List UInt8} : ∀ {l : List (List UInt8)}, Rises l → x ∉ l → Rises (insertS x l)
  | [], _, _ => List.pairwise_singleton _ _
  | a :: l, h, hx => by
    obtain ⟨h1, h2⟩ := List.pairwise_cons.1 h
    unfold insertS
    split
    · rename_i hl
      refine List.pairwise_cons.2 ⟨fun z hz => ?_, h⟩
      rcases List.mem_cons.1 hz with rfl | hz
      · exact hl
      · exact less_trans hl (h1 z hz)
    · rename_i hl
      have hl' : Op.bytesLess a x = true := less_total (by simpa using hl) fun e => hx (by simp [e])
      refine List.pairwise_cons.2 ⟨fun z hz => ?_, rises_insertS h2 fun m => hx (List.mem_cons_of_mem _ m)⟩
      rcases mem_insertS.1 hz with rfl | hz
      · exact hl'
      · exact h1 z hz
theorem mem_sortS {y : List UInt8} : ∀ {l : List (List UInt8)}, y ∈ sortS l ↔ y ∈ l
  | [] => Iff.rfl
  | a :: l => by
    show y ∈ insertS a (sortS l) ↔ _
    rw [mem_insertS, mem_sortS, List.mem_cons]
theorem rises_sortS : ∀ {l : List (List UInt8)}, l.Nodup → Rises (sortS l)
  | [], _ => List.Pairwise.nil
  | a :: l, h => by
    obtain ⟨h1, h2⟩ := List.nodup_cons.1 h
    exact rises_insertS (rises_sortS h2) fun m => h1 (mem_sortS.1 m)
theorem mem_insAt' {x y : List UInt8} {l : List (List UInt8)} : y ∈ insAt x l ↔ y = x ∨ y ∈ l := by
  unfold insAt
  have h := List.takeWhile_append_dropWhile (p := below x) (l := l)
  conv => rhs; rw [← h]
  simp only [List.mem_append, List.mem_cons]
  constructor
  · rintro (h | h | h) <;> simp [h]
  · rintro (h | h | h) <;> simp [h]
theorem rises_insAt {x : List UInt8} : ∀ {l : List (List UInt8)}, Rises l → x ∉ l → insAt x l = insertS x l
  | [], _, _ => rfl
  | a :: l, h, hx => by
    obtain ⟨h1, h2⟩ := List.pairwise_cons.1 h
    have ih := rises_insAt h2 fun m => hx (List.mem_cons_of_mem _ m)
    unfold insAt at ih ⊢
    unfold insertS
    by_cases hl : Op.bytesLess a x = true
    · have hn : Op.bytesLess x a = false := by
        cases hb : Op.bytesLess x a with
        | false => rfl
        | true =>
          have := less_trans hl hb
          rw [less_irrefl] at this
          cases this
      rw [hn]
      simp only [Bool.false_eq_true, if_false]
      rw [← ih, List.takeWhile_cons, List.dropWhile_cons]
      simp only [below, hl, if_true, List.cons_append]
    · have hn : Op.bytesLess x a = true := less_total (by simpa using hl) fun e => hx (by simp [e])
      rw [hn]
      simp only [if_true]
      rw [List.takeWhile_cons, List.dropWhile_cons]
      simp only [below, hl, if_false, List.nil_append, Bool.false_eq_true]
theorem mem_putS {y : List UInt8} : ∀ {more l : List (List UInt8)}, y ∈ putS l more ↔ y ∈ l ∨ y ∈ more
  | [], l => by simp [putS]
  | a :: more, l => by
    show y ∈ putS (if l.contains a then l else insAt a l) more ↔ _
    rw [mem_putS]
    split
    · rename_i h
      rw [List.contains_iff_mem] at h
      simp only [List.mem_cons]
      constructor
      · rintro (h' | h') <;> simp [h']
      · rintro (h' | rfl | h')
        · exact .inl h'
        · exact .inl h
        · exact .inr h'
    · rw [mem_insAt', List.mem_cons]
      constructor
      · rintro ((h' | h') | h') <;> simp [h']
      · rintro (h' | h' | h') <;> simp [h']
theorem rises_putS : ∀ {more l : List (List UInt8)}, Rises l → Rises (putS l more)
  | [], l, h => h
  | a :: more, l, h => by
    show Rises (putS (if l.contains a then l else insAt a l) more)
    refine rises_putS ?_
    split
    · exact h
    · rename_i hn
      have hn' : a ∉ l := by rw [← List.contains_iff_mem]; exact hn
      rw [rises_insAt h hn']
      exact rises_insertS h hn'
/-! ### maps of counts -/
def ks (l : List (List UInt8 × Int)) : List (List UInt8) := l.map (·.1)
theorem ks_set {n : List UInt8} {c : Int} : ∀ {l : List (List UInt8 × Int)}, ks (setKv n c l) = if (ks l).contains n then ks l else ks l ++ [n]
  | [] => by simp [ks, setKv]
  | (k, d) :: l => by
    have ih := ks_set (n := n) (c := c) (l := l)
    unfold ks at ih ⊢
    simp only [setKv, List.map_cons, List.contains_cons]
    cases h : (n == k) with
    | true =>
      simp only [if_true, Bool.true_or, List.map_cons]
      rw [eq_of_beq h]
    | false =>
      simp only [Bool.false_eq_true, if_false, Bool.false_or, List.map_cons, ih]
      split <;> simp_all
theorem nodup_set {n : List UInt8} {c : Int} {l : List (List UInt8 × Int)} (h : (ks l).Nodup) : (ks (setKv n c l)).Nodup := by
  rw [ks_set]
  split
  · exact h
  · rename_i hn
    have hn' : n ∉ ks l := by rw [← List.contains_iff_mem]; exact hn
    rw [List.nodup_append]
    refine ⟨h, by simp, fun a ha b hb e => ?_⟩
    rw [List.mem_singleton] at hb
    subst hb
    exact hn' (e ▸ ha)
theorem mem_set {n y : List UInt8} {c : Int} {l : List (List UInt8 × Int)} : y ∈ ks (setKv n c l) ↔ y = n ∨ y ∈ ks l := by
  rw [ks_set]
  split
  · rename_i h
    rw [List.contains_iff_mem] at h
    constructor
    · exact .inr
    · rintro (rfl | h')
      · exact h
      · exact h'
  · rw [List.mem_append, List.mem_singleton]
    exact Or.comm
theorem bumps_ks : ∀ {names : List (List UInt8)} {l : List (List UInt8 × Int)}, (ks l).Nodup → (ks (bumps l names)).Nodup ∧ ∀ y, y ∈ ks (bumps l names) ↔ y ∈ ks l ∨ y ∈ names
  | [], l, h => ⟨h, fun y => by simp [bumps]⟩
  | a :: names, l, h => by
    obtain ⟨h1, h2⟩ := bumps_ks (names := names) (l := bump a l) (nodup_set h)
    refine ⟨h1, fun y => ?_⟩
    show y ∈ ks (bumps (bump a l) names) ↔ _
    rw [h2, bump, mem_set, List.mem_cons]
    constructor
    · rintro ((h' | h') | h') <;> simp [h']
    · rintro (h' | h' | h') <;> simp [h']
theorem reads_same (l : List Tok) : ∀ (n : Nat) (i : Int) (cur : List (List UInt8 × Int)) (out : List (List UInt8)), (ks cur).Nodup → Rises out → (∀ y, y ∈ ks cur ↔ y ∈ out) →
    (ks (readsC l n i cur)).Nodup ∧ Rises (readsR l n i out) ∧ ∀ y, y ∈ ks (readsC l n i cur) ↔ y ∈ readsR l n i out
  | 0, i, cur, out, h1, h2, h3 => ⟨h1, h2, h3⟩
  | n + 1, i, cur, out, h1, h2, h3 => by
    unfold readsC readsR
    cases readsAt l i with
    | false => exact reads_same l n (i + 1) cur out h1 h2 h3
    | true =>
      obtain ⟨b1, b2⟩ := bumps_ks (names := namesAt l (i + 1)) h1
      exact reads_same l n (i + 1) _ _ b1 (rises_putS h2) fun y => by simp only [if_true, b2, mem_putS, h3]
theorem readsS (l : List Tok) : sortS (ks (readsC l l.length 0 [])) = readsR l l.length 0 [] ∧ Rises (readsR l l.length 0 []) := by
  obtain ⟨h1, h2, h3⟩ := reads_same l l.length 0 [] [] List.nodup_nil List.Pairwise.nil (fun y => by simp [ks])
  exact ⟨rises_eq (rises_sortS h1) h2 fun x => by rw [mem_sortS, h3], h2⟩
theorem writes_same (l : List Tok) : ∀ (n : Nat) (i : Int) (cur : List (List UInt8 × Int)) (out : List (List UInt8)), (ks cur).Nodup → Rises out → (∀ y, y ∈ ks cur ↔ y ∈ out) →
    (ks (writesC l n i cur)).Nodup ∧ Rises (writesR l n i out) ∧ ∀ y, y ∈ ks (writesC l n i cur) ↔ y ∈ writesR l n i out
  | 0, i, cur, out, h1, h2, h3 => ⟨h1, h2, h3⟩
  | n + 1, i, cur, out, h1, h2, h3 => by
    unfold writesC writesR wCnt wStep
    have take1 : ∀ y, y ∈ (namesAt l (i + 1)).take 1 → y ∈ namesAt l (i + 1) := fun y h => List.mem_of_mem_take h
    cases hm : moreAt l i <;> cases ho : oneAt l i
    · exact writes_same l n (i + 1) cur out h1 h2 h3
    · obtain ⟨b1, b2⟩ := bumps_ks (names := handed false (namesAt l (i + 1))) h1
      have b2' := b2
      simp only [handed, Bool.false_eq_true, if_false, if_true] at b2'
      refine writes_same l n (i + 1) _ _ b1 (rises_putS h2) fun y => ?_
      simp only [Bool.or_true, if_true, Bool.false_eq_true, if_false, handed, b2', mem_putS, h3]
    · obtain ⟨b1, b2⟩ := bumps_ks (names := handed true (namesAt l (i + 1))) h1
      have b2' := b2
      simp only [handed, Bool.false_eq_true, if_false, if_true] at b2'
      refine writes_same l n (i + 1) _ _ b1 (rises_putS h2) fun y => ?_
      simp only [Bool.true_or, if_true, Bool.false_eq_true, if_false, handed, b2', mem_putS, h3]
    · obtain ⟨b1, b2⟩ := bumps_ks (names := handed true (namesAt l (i + 1))) h1
      have b2' := b2
      simp only [handed, Bool.false_eq_true, if_false, if_true] at b2'
      refine writes_same l n (i + 1) _ _ b1 (rises_putS (rises_putS h2)) fun y => ?_
      simp only [Bool.true_or, if_true, handed, b2', mem_putS, h3]
      constructor
      · rintro (h | h) <;> simp [h]
      · rintro ((h | h) | h)
        · exact .inl h
        · exact .inr h
        · exact .inr (take1 y h)
theorem writesS (l : List Tok) : sortS (ks (writesC l l.length 0 [])) = writesR l l.length 0 [] ∧ Rises (writesR l l.length 0 []) := by
  obtain ⟨h1, h2, h3⟩ := writes_same l l.length 0 [] [] List.nodup_nil List.Pairwise.nil (fun y => by simp [ks])
  exact ⟨rises_eq (rises_sortS h1) h2 fun x => by rw [mem_sortS, h3], h2⟩
end Go.Proofs
/- The sets' layer: what is known of a statement. -/

set_option linter.unusedSimpArgs false
set_option linter.unusedVariables false
namespace Go.Proofs
open Go.Vam
/-- A value that leads into no heap object. -/
def stillV : AV → Bool
  | .sl _ | .int _ _ | .bool _ | .str _ | .ip _ | .pm _ | .nils | .nilp | .nilf | .nilm | .junk => true
  | _ => false
theorem PC_still (xs : List AV) (H : AHeap) (z : AV) (h : xs.all stillV = true) : PC xs H (some z) = some (z, H) := by
  have : xs.flatMap (reach depth H) = [] := by
    rw [List.flatMap_eq_nil_iff]
    intro x hx
    have := List.all_eq_true.1 h x hx
    cases x <;> first | rfl | cases this
  rw [PC_some, this]
  simp
@[go_sem] theorem still_sl (es : List (List AV)) : stillV (.sl es) = true := rfl
@[go_sem] theorem still_str (es : List UInt8) : stillV (.str es) = true := rfl
@[go_sem] theorem still_int (k : IntKind) (n : Int) : stillV (.int k n) = true := rfl
@[go_sem] theorem still_bool (b : Bool) : stillV (.bool b) = true := rfl
def ofS (l : List Tok) : Stm :=
  { cls := classOf l, reads := if classOf l = 1 ∨ classOf l = 2 ∨ classOf l = 7 then readsR l l.length 0 [] else [],
    writes := if classOf l = 2 then writesR l l.length 0 [] else [], norm := normL l }
theorem p_reads (l : List Tok) (hs : Small l) : PV 11 [.sl (toks l)] = some (.sl (strs (readsR l l.length 0 []))) := by
  rw [sortS_reads l hs]
  have := (readsS l).1
  unfold ks at this
  rw [this]
theorem p_writes' (l : List Tok) (hs : Small l) : PV 13 [.sl (toks l)] = some (.sl (strs (writesR l l.length 0 []))) := by
  rw [p_writes l hs]
  have := (writesS l).1
  unfold ks at this
  rw [this]
theorem build30 (c : Int) (n : List UInt8) : abuild Try.prog 30 [(0, .int .i64 c), (3, .str n)] = some (.agg [.int .i64 c, .nils, .nils, .str n]) := by
  unfold abuild
  rw [structT_30, zeroT_30]
  simp [afill, fldT_30_0, fldT_30_3, szOf_3, szOf_9, AV.cells, AV.isCell]
theorem store30 (a : AO) (c d : List AV) (hd : d.length = 4) (hc : d.all AV.isCell = true) (hl : c.length = 4) : astore Try.prog 30 (.ptr 1 0 0) (.agg d) [a, .arr 30 true 0 [c]] = some [a, .arr 30 true 0 [d]] := by
  unfold astore
  simp only [List.getElem?_cons_succ, List.getElem?_cons_zero]
  rw [if_pos ⟨Nat.le_refl _, by rw [szOf_30]; exact congrArg some hd.symm, hc, by simp only [AV.cells]; omega⟩]
  simp only [AV.cells, hd, List.take_zero, List.nil_append, List.set_cons_succ, List.set_cons_zero]
  rw [List.drop_of_length_le (by omega), List.append_nil]
theorem store30b (b : AO) (c d : List AV) (hd : d.length = 4) (hc : d.all AV.isCell = true) (hl : c.length = 4) : astore Try.prog 30 (.ptr 0 0 0) (.agg d) [.arr 30 true 0 [c], b] = some [.arr 30 true 0 [d], b] := by
  unfold astore
  simp only [List.getElem?_cons_succ, List.getElem?_cons_zero]
  rw [if_pos ⟨Nat.le_refl _, by rw [szOf_30]; exact congrArg some hd.symm, hc, by simp only [AV.cells]; omega⟩]
  simp only [AV.cells, hd, List.take_zero, List.nil_append, List.set_cons_succ, List.set_cons_zero]
  rw [List.drop_of_length_le (by omega), List.append_nil]
theorem store26 (a : AO) (p q r s : AV) (x : List (List AV)) : astore Try.prog 26 (.ptr 1 0 1) (.sl x) [a, .arr 30 true 0 [[p, q, r, s]]] = some [a, .arr 30 true 0 [[p, .sl x, r, s]]] := by
  unfold astore
  simp only [List.getElem?_cons_succ, List.getElem?_cons_zero]
  rw [if_pos ⟨Nat.le_refl _, szOf_26, rfl, Nat.le_of_ble_eq_true rfl⟩]
  rfl
theorem store26b (a : AO) (p q r s : AV) (x : List (List AV)) : astore Try.prog 26 (.ptr 1 0 2) (.sl x) [a, .arr 30 true 0 [[p, q, r, s]]] = some [a, .arr 30 true 0 [[p, q, .sl x, s]]] := by
  unfold astore
  simp only [List.getElem?_cons_succ, List.getElem?_cons_zero]
  rw [if_pos ⟨Nat.le_refl _, szOf_26, rfl, Nat.le_of_ble_eq_true rfl⟩]
  rfl
theorem frz_stm (H : AHeap) (c : Int) (n : List UInt8) (x y : AV) (r w : List (List UInt8)) (hx : x = .nils ∧ r = [] ∨ x = .sl (strs r)) (hy : y = .nils ∧ w = [] ∨ y = .sl (strs w)) : frz depth H (.agg [.int .i64 c, x, y, .str n]) = some (stm ⟨c, r, w, n⟩) := by
  rcases hx with ⟨rfl, rfl⟩ | rfl <;> rcases hy with ⟨rfl, rfl⟩ | rfl <;> rfl
theorem p_of (l : List Tok) (hs : Small l) : PV 16 [.sl (toks l)] = some (stm (ofS l)) := by
  refine PV_start k16 rfl (Nat.le_of_ble_eq_true rfl) ?_
  have hc := p_class l hs
  have ht := p_tokens l hs
  have hr := p_reads l hs
  have hw := p_writes' l hs
  unfold ofS
  generalize classOf l = c at *
  generalize normL l = n at *
  generalize readsR l l.length 0 [] = r at *
  generalize writesR l l.length 0 [] = w at *
  have st1 := store30 (.arr 30 true 0 [[.int .i64 0, .nils, .nils, .str []]]) [.int .i64 0, .nils, .nils, .str []] [.int .i64 c, .nils, .nils, .str n] rfl rfl rfl
  cases b2 : decide (c = 2)
  · have n2 : ¬ c = 2 := of_decide_eq_false b2
    cases b1 : decide (c = 1)
    · have n1 : ¬ c = 1 := of_decide_eq_false b1
      cases b7 : decide (c = 7)
      · have n7 : ¬ c = 7 := of_decide_eq_false b7
        have st2 := store30b (.arr 30 true 0 [[.int .i64 c, .nils, .nils, .str n]]) [.int .i64 0, .nils, .nils, .str []] [.int .i64 c, .nils, .nils, .str n] rfl rfl rfl
        simp only [go_sem, Nat.reduceEqDiff, reduceCtorEq, Nat.reduceAdd, Nat.reduceSub, Nat.reduceLT, Nat.reduceLeDiff, Int.reduceAdd, Int.reduceSub, Int.reduceNeg, Int.reduceEq, Int.reduceLT, Int.reduceLE, bx, K16, call_pure pure_33, hc, call_pure pure_34, ht, build30, st1, b2, b1, b7, st2, Nat.le_refl]
        exact frz_stm _ _ _ _ _ _ _ (.inl ⟨rfl, by simp [n1, n2, n7]⟩) (.inl ⟨rfl, by simp [n2]⟩)
      · have n7 : c = 7 := of_decide_eq_true b7
        have st2 := store30b (.arr 30 true 0 [[.int .i64 c, .sl (strs r), .nils, .str n]]) [.int .i64 0, .nils, .nils, .str []] [.int .i64 c, .sl (strs r), .nils, .str n] rfl rfl rfl
        simp only [go_sem, Nat.reduceEqDiff, reduceCtorEq, Nat.reduceAdd, Nat.reduceSub, Nat.reduceLT, Nat.reduceLeDiff, Int.reduceAdd, Int.reduceSub, Int.reduceNeg, Int.reduceEq, Int.reduceLT, Int.reduceLE, bx, K16, call_pure pure_33, hc, call_pure pure_34, ht, build30, st1, b2, b1, b7, call_pure pure_11, hr, PC_still, store26, st2, Nat.le_refl]
        exact frz_stm _ _ _ _ _ _ _ (.inr (by simp [n7])) (.inl ⟨rfl, by simp [n2]⟩)
    · have n1 : c = 1 := of_decide_eq_true b1
      have st2 := store30b (.arr 30 true 0 [[.int .i64 c, .sl (strs r), .nils, .str n]]) [.int .i64 0, .nils, .nils, .str []] [.int .i64 c, .sl (strs r), .nils, .str n] rfl rfl rfl
      simp only [go_sem, Nat.reduceEqDiff, reduceCtorEq, Nat.reduceAdd, Nat.reduceSub, Nat.reduceLT, Nat.reduceLeDiff, Int.reduceAdd, Int.reduceSub, Int.reduceNeg, Int.reduceEq, Int.reduceLT, Int.reduceLE, bx, K16, call_pure pure_33, hc, call_pure pure_34, ht, build30, st1, b2, b1, call_pure pure_11, hr, PC_still, store26, st2, Nat.le_refl]
      exact frz_stm _ _ _ _ _ _ _ (.inr (by simp [n1])) (.inl ⟨rfl, by simp [n2]⟩)
  · have n2 : c = 2 := of_decide_eq_true b2
    have st2 := store30b (.arr 30 true 0 [[.int .i64 c, .sl (strs r), .sl (strs w), .str n]]) [.int .i64 0, .nils, .nils, .str []] [.int .i64 c, .sl (strs r), .sl (strs w), .str n] rfl rfl rfl
    simp only [go_sem, Nat.reduceEqDiff, reduceCtorEq, Nat.reduceAdd, Nat.reduceSub, Nat.reduceLT, Nat.reduceLeDiff, Int.reduceAdd, Int.reduceSub, Int.reduceNeg, Int.reduceEq, Int.reduceLT, Int.reduceLE, bx, K16, call_pure pure_33, hc, call_pure pure_34, ht, build30, st1, b2, call_pure pure_11, hr, call_pure pure_13, hw, PC_still, store26, store26b, st2, Nat.le_refl]
    exact frz_stm _ _ _ _ _ _ _ (.inr (by simp [n2])) (.inr (by simp [n2]))
theorem p_of7 (l : List Tok) (hs : Small l) : PV 17 [.sl (toks l)] = some (stm (ofS l)) := by
  refine PV_start k17 rfl (Nat.le_of_ble_eq_true rfl) ?_
  have hc := p_class6 l hs
  have ht := p_tokens5 l hs
  have hr := p_rreads l hs
  have hw := p_rwrites l hs
  unfold ofS
  generalize classOf l = c at *
  generalize normL l = n at *
  generalize readsR l l.length 0 [] = r at *
  generalize writesR l l.length 0 [] = w at *
  have st1 := store30 (.arr 30 true 0 [[.int .i64 0, .nils, .nils, .str []]]) [.int .i64 0, .nils, .nils, .str []] [.int .i64 c, .nils, .nils, .str n] rfl rfl rfl
  cases b1 : decide (c = 1)
  · have n1 : ¬ c = 1 := of_decide_eq_false b1
    cases b2 : decide (c = 2)
    · have n2 : ¬ c = 2 := of_decide_eq_false b2
      cases b7 : decide (c = 7)
      · have n7 : ¬ c = 7 := of_decide_eq_false b7
        have st2 := store30b (.arr 30 true 0 [[.int .i64 c, .nils, .nils, .str n]]) [.int .i64 0, .nils, .nils, .str []] [.int .i64 c, .nils, .nils, .str n] rfl rfl rfl
        simp only [go_sem, Nat.reduceEqDiff, reduceCtorEq, Nat.reduceAdd, Nat.reduceSub, Nat.reduceLT, Nat.reduceLeDiff, Int.reduceAdd, Int.reduceSub, Int.reduceNeg, Int.reduceEq, Int.reduceLT, Int.reduceLE, bx, K17, call_pure pure_35, hc, call_pure pure_36, ht, build30, st1, b2, b1, b7, st2, Nat.le_refl]
        exact frz_stm _ _ _ _ _ _ _ (.inl ⟨rfl, by simp [n1, n2, n7]⟩) (.inl ⟨rfl, by simp [n2]⟩)
      · have n7 : c = 7 := of_decide_eq_true b7
        have st2 := store30b (.arr 30 true 0 [[.int .i64 c, .sl (strs r), .nils, .str n]]) [.int .i64 0, .nils, .nils, .str []] [.int .i64 c, .sl (strs r), .nils, .str n] rfl rfl rfl
        simp only [go_sem, Nat.reduceEqDiff, reduceCtorEq, Nat.reduceAdd, Nat.reduceSub, Nat.reduceLT, Nat.reduceLeDiff, Int.reduceAdd, Int.reduceSub, Int.reduceNeg, Int.reduceEq, Int.reduceLT, Int.reduceLE, bx, K17, call_pure pure_35, hc, call_pure pure_36, ht, build30, st1, b2, b1, b7, call_pure pure_12, hr, PC_still, store26, st2, Nat.le_refl]
        exact frz_stm _ _ _ _ _ _ _ (.inr (by simp [n7])) (.inl ⟨rfl, by simp [n2]⟩)
    · have n2 : c = 2 := of_decide_eq_true b2
      have st2 := store30b (.arr 30 true 0 [[.int .i64 c, .sl (strs r), .sl (strs w), .str n]]) [.int .i64 0, .nils, .nils, .str []] [.int .i64 c, .sl (strs r), .sl (strs w), .str n] rfl rfl rfl
      simp only [go_sem, Nat.reduceEqDiff, reduceCtorEq, Nat.reduceAdd, Nat.reduceSub, Nat.reduceLT, Nat.reduceLeDiff, Int.reduceAdd, Int.reduceSub, Int.reduceNeg, Int.reduceEq, Int.reduceLT, Int.reduceLE, bx, K17, call_pure pure_35, hc, call_pure pure_36, ht, build30, st1, b1, b2, call_pure pure_12, hr, call_pure pure_14, hw, PC_still, store26, store26b, st2, Nat.le_refl]
      exact frz_stm _ _ _ _ _ _ _ (.inr (by simp [n2])) (.inr (by simp [n2]))
  · have n1 : c = 1 := of_decide_eq_true b1
    have n2 : ¬ c = 2 := by omega
    have b2 : decide (c = 2) = false := decide_eq_false n2
    have st2 := store30b (.arr 30 true 0 [[.int .i64 c, .sl (strs r), .nils, .str n]]) [.int .i64 0, .nils, .nils, .str []] [.int .i64 c, .sl (strs r), .nils, .str n] rfl rfl rfl
    simp only [go_sem, Nat.reduceEqDiff, reduceCtorEq, Nat.reduceAdd, Nat.reduceSub, Nat.reduceLT, Nat.reduceLeDiff, Int.reduceAdd, Int.reduceSub, Int.reduceNeg, Int.reduceEq, Int.reduceLT, Int.reduceLE, bx, K17, call_pure pure_35, hc, call_pure pure_36, ht, build30, st1, b2, b1, call_pure pure_12, hr, PC_still, store26, st2, Nat.le_refl]
    exact frz_stm _ _ _ _ _ _ _ (.inr (by simp [n1])) (.inl ⟨rfl, by simp [n2]⟩)
end Go.Proofs
/- The sets' layer: the lexer's classes of bytes, runs, begins. -/

set_option linter.unusedSimpArgs false
set_option linter.unusedVariables false
namespace Go.Proofs
open Go.Vam
/-! ### classes of bytes -/
def letterI (n : Int) : Bool := decide (97 ≤ n) && decide (n ≤ 122) || (decide (65 ≤ n) && decide (n ≤ 90)) || decide (n = 95) || decide (127 < n)
def digitI (n : Int) : Bool := decide (48 ≤ n) && decide (n ≤ 57)
def letterB (b : UInt8) : Bool := letterI b.toNat
def digitB (b : UInt8) : Bool := digitI b.toNat
def wordB (b : UInt8) : Bool := letterB b || digitB b || b == 36
def numB (b : UInt8) : Bool := digitB b || b == 46
def tagB (b : UInt8) : Bool := letterB b || digitB b
theorem p_letter (n : Int) : PV 85 [.int .i32 n] = some (.bool (letterI n)) := by
  refine PV_start k85 rfl (Nat.le_of_ble_eq_true rfl) ?_
  unfold letterI
  cases a1 : decide (97 ≤ n)
  · cases a3 : decide (65 ≤ n)
    · cases a5 : decide (n = 95)
      · simp only [go_sem, Nat.reduceEqDiff, reduceCtorEq, Nat.reduceAdd, Nat.reduceSub, Nat.reduceLT, Nat.reduceLeDiff, Int.reduceAdd, Int.reduceSub, Int.reduceNeg, Int.reduceEq, Int.reduceLT, Int.reduceLE, bx, K85, a1, a3, a5, Bool.true_and, Bool.false_and, Bool.and_true, Bool.and_false, Bool.or_true, Bool.or_false, Bool.true_or, Bool.false_or]
      · simp only [go_sem, Nat.reduceEqDiff, reduceCtorEq, Nat.reduceAdd, Nat.reduceSub, Nat.reduceLT, Nat.reduceLeDiff, Int.reduceAdd, Int.reduceSub, Int.reduceNeg, Int.reduceEq, Int.reduceLT, Int.reduceLE, bx, K85, a1, a3, a5, Bool.true_and, Bool.false_and, Bool.and_true, Bool.and_false, Bool.or_true, Bool.or_false, Bool.true_or, Bool.false_or]
    · cases a4 : decide (n ≤ 90)
      · cases a5 : decide (n = 95)
        · simp only [go_sem, Nat.reduceEqDiff, reduceCtorEq, Nat.reduceAdd, Nat.reduceSub, Nat.reduceLT, Nat.reduceLeDiff, Int.reduceAdd, Int.reduceSub, Int.reduceNeg, Int.reduceEq, Int.reduceLT, Int.reduceLE, bx, K85, a1, a3, a4, a5, Bool.true_and, Bool.false_and, Bool.and_true, Bool.and_false, Bool.or_true, Bool.or_false, Bool.true_or, Bool.false_or]
        · simp only [go_sem, Nat.reduceEqDiff, reduceCtorEq, Nat.reduceAdd, Nat.reduceSub, Nat.reduceLT, Nat.reduceLeDiff, Int.reduceAdd, Int.reduceSub, Int.reduceNeg, Int.reduceEq, Int.reduceLT, Int.reduceLE, bx, K85, a1, a3, a4, a5, Bool.true_and, Bool.false_and, Bool.and_true, Bool.and_false, Bool.or_true, Bool.or_false, Bool.true_or, Bool.false_or]
      · simp only [go_sem, Nat.reduceEqDiff, reduceCtorEq, Nat.reduceAdd, Nat.reduceSub, Nat.reduceLT, Nat.reduceLeDiff, Int.reduceAdd, Int.reduceSub, Int.reduceNeg, Int.reduceEq, Int.reduceLT, Int.reduceLE, bx, K85, a1, a3, a4, Bool.true_and, Bool.false_and, Bool.and_true, Bool.and_false, Bool.or_true, Bool.or_false, Bool.true_or, Bool.false_or]
  · cases a2 : decide (n ≤ 122)
    · cases a3 : decide (65 ≤ n)
      · cases a5 : decide (n = 95)
        · simp only [go_sem, Nat.reduceEqDiff, reduceCtorEq, Nat.reduceAdd, Nat.reduceSub, Nat.reduceLT, Nat.reduceLeDiff, Int.reduceAdd, Int.reduceSub, Int.reduceNeg, Int.reduceEq, Int.reduceLT, Int.reduceLE, bx, K85, a1, a2, a3, a5, Bool.true_and, Bool.false_and, Bool.and_true, Bool.and_false, Bool.or_true, Bool.or_false, Bool.true_or, Bool.false_or]
        · simp only [go_sem, Nat.reduceEqDiff, reduceCtorEq, Nat.reduceAdd, Nat.reduceSub, Nat.reduceLT, Nat.reduceLeDiff, Int.reduceAdd, Int.reduceSub, Int.reduceNeg, Int.reduceEq, Int.reduceLT, Int.reduceLE, bx, K85, a1, a2, a3, a5, Bool.true_and, Bool.false_and, Bool.and_true, Bool.and_false, Bool.or_true, Bool.or_false, Bool.true_or, Bool.false_or]
      · cases a4 : decide (n ≤ 90)
        · cases a5 : decide (n = 95)
          · simp only [go_sem, Nat.reduceEqDiff, reduceCtorEq, Nat.reduceAdd, Nat.reduceSub, Nat.reduceLT, Nat.reduceLeDiff, Int.reduceAdd, Int.reduceSub, Int.reduceNeg, Int.reduceEq, Int.reduceLT, Int.reduceLE, bx, K85, a1, a2, a3, a4, a5, Bool.true_and, Bool.false_and, Bool.and_true, Bool.and_false, Bool.or_true, Bool.or_false, Bool.true_or, Bool.false_or]
          · simp only [go_sem, Nat.reduceEqDiff, reduceCtorEq, Nat.reduceAdd, Nat.reduceSub, Nat.reduceLT, Nat.reduceLeDiff, Int.reduceAdd, Int.reduceSub, Int.reduceNeg, Int.reduceEq, Int.reduceLT, Int.reduceLE, bx, K85, a1, a2, a3, a4, a5, Bool.true_and, Bool.false_and, Bool.and_true, Bool.and_false, Bool.or_true, Bool.or_false, Bool.true_or, Bool.false_or]
        · simp only [go_sem, Nat.reduceEqDiff, reduceCtorEq, Nat.reduceAdd, Nat.reduceSub, Nat.reduceLT, Nat.reduceLeDiff, Int.reduceAdd, Int.reduceSub, Int.reduceNeg, Int.reduceEq, Int.reduceLT, Int.reduceLE, bx, K85, a1, a2, a3, a4, Bool.true_and, Bool.false_and, Bool.and_true, Bool.and_false, Bool.or_true, Bool.or_false, Bool.true_or, Bool.false_or]
    · simp only [go_sem, Nat.reduceEqDiff, reduceCtorEq, Nat.reduceAdd, Nat.reduceSub, Nat.reduceLT, Nat.reduceLeDiff, Int.reduceAdd, Int.reduceSub, Int.reduceNeg, Int.reduceEq, Int.reduceLT, Int.reduceLE, bx, K85, a1, a2, Bool.true_and, Bool.false_and, Bool.and_true, Bool.and_false, Bool.or_true, Bool.or_false, Bool.true_or, Bool.false_or]
theorem p_letter4 (n : Int) : PV 96 [.int .u8 n] = some (.bool (letterI n)) := by
  refine PV_start k96 rfl (Nat.le_of_ble_eq_true rfl) ?_
  unfold letterI
  cases a1 : decide (97 ≤ n)
  · cases a3 : decide (65 ≤ n)
    · cases a5 : decide (n = 95)
      · simp only [go_sem, Nat.reduceEqDiff, reduceCtorEq, Nat.reduceAdd, Nat.reduceSub, Nat.reduceLT, Nat.reduceLeDiff, Int.reduceAdd, Int.reduceSub, Int.reduceNeg, Int.reduceEq, Int.reduceLT, Int.reduceLE, bx, K96, a1, a3, a5, Bool.true_and, Bool.false_and, Bool.and_true, Bool.and_false, Bool.or_true, Bool.or_false, Bool.true_or, Bool.false_or]
      · simp only [go_sem, Nat.reduceEqDiff, reduceCtorEq, Nat.reduceAdd, Nat.reduceSub, Nat.reduceLT, Nat.reduceLeDiff, Int.reduceAdd, Int.reduceSub, Int.reduceNeg, Int.reduceEq, Int.reduceLT, Int.reduceLE, bx, K96, a1, a3, a5, Bool.true_and, Bool.false_and, Bool.and_true, Bool.and_false, Bool.or_true, Bool.or_false, Bool.true_or, Bool.false_or]
    · cases a4 : decide (n ≤ 90)
      · cases a5 : decide (n = 95)
        · simp only [go_sem, Nat.reduceEqDiff, reduceCtorEq, Nat.reduceAdd, Nat.reduceSub, Nat.reduceLT, Nat.reduceLeDiff, Int.reduceAdd, Int.reduceSub, Int.reduceNeg, Int.reduceEq, Int.reduceLT, Int.reduceLE, bx, K96, a1, a3, a4, a5, Bool.true_and, Bool.false_and, Bool.and_true, Bool.and_false, Bool.or_true, Bool.or_false, Bool.true_or, Bool.false_or]
        · simp only [go_sem, Nat.reduceEqDiff, reduceCtorEq, Nat.reduceAdd, Nat.reduceSub, Nat.reduceLT, Nat.reduceLeDiff, Int.reduceAdd, Int.reduceSub, Int.reduceNeg, Int.reduceEq, Int.reduceLT, Int.reduceLE, bx, K96, a1, a3, a4, a5, Bool.true_and, Bool.false_and, Bool.and_true, Bool.and_false, Bool.or_true, Bool.or_false, Bool.true_or, Bool.false_or]
      · simp only [go_sem, Nat.reduceEqDiff, reduceCtorEq, Nat.reduceAdd, Nat.reduceSub, Nat.reduceLT, Nat.reduceLeDiff, Int.reduceAdd, Int.reduceSub, Int.reduceNeg, Int.reduceEq, Int.reduceLT, Int.reduceLE, bx, K96, a1, a3, a4, Bool.true_and, Bool.false_and, Bool.and_true, Bool.and_false, Bool.or_true, Bool.or_false, Bool.true_or, Bool.false_or]
  · cases a2 : decide (n ≤ 122)
    · cases a3 : decide (65 ≤ n)
      · cases a5 : decide (n = 95)
        · simp only [go_sem, Nat.reduceEqDiff, reduceCtorEq, Nat.reduceAdd, Nat.reduceSub, Nat.reduceLT, Nat.reduceLeDiff, Int.reduceAdd, Int.reduceSub, Int.reduceNeg, Int.reduceEq, Int.reduceLT, Int.reduceLE, bx, K96, a1, a2, a3, a5, Bool.true_and, Bool.false_and, Bool.and_true, Bool.and_false, Bool.or_true, Bool.or_false, Bool.true_or, Bool.false_or]
        · simp only [go_sem, Nat.reduceEqDiff, reduceCtorEq, Nat.reduceAdd, Nat.reduceSub, Nat.reduceLT, Nat.reduceLeDiff, Int.reduceAdd, Int.reduceSub, Int.reduceNeg, Int.reduceEq, Int.reduceLT, Int.reduceLE, bx, K96, a1, a2, a3, a5, Bool.true_and, Bool.false_and, Bool.and_true, Bool.and_false, Bool.or_true, Bool.or_false, Bool.true_or, Bool.false_or]
      · cases a4 : decide (n ≤ 90)
        · cases a5 : decide (n = 95)
          · simp only [go_sem, Nat.reduceEqDiff, reduceCtorEq, Nat.reduceAdd, Nat.reduceSub, Nat.reduceLT, Nat.reduceLeDiff, Int.reduceAdd, Int.reduceSub, Int.reduceNeg, Int.reduceEq, Int.reduceLT, Int.reduceLE, bx, K96, a1, a2, a3, a4, a5, Bool.true_and, Bool.false_and, Bool.and_true, Bool.and_false, Bool.or_true, Bool.or_false, Bool.true_or, Bool.false_or]
          · simp only [go_sem, Nat.reduceEqDiff, reduceCtorEq, Nat.reduceAdd, Nat.reduceSub, Nat.reduceLT, Nat.reduceLeDiff, Int.reduceAdd, Int.reduceSub, Int.reduceNeg, Int.reduceEq, Int.reduceLT, Int.reduceLE, bx, K96, a1, a2, a3, a4, a5, Bool.true_and, Bool.false_and, Bool.and_true, Bool.and_false, Bool.or_true, Bool.or_false, Bool.true_or, Bool.false_or]
        · simp only [go_sem, Nat.reduceEqDiff, reduceCtorEq, Nat.reduceAdd, Nat.reduceSub, Nat.reduceLT, Nat.reduceLeDiff, Int.reduceAdd, Int.reduceSub, Int.reduceNeg, Int.reduceEq, Int.reduceLT, Int.reduceLE, bx, K96, a1, a2, a3, a4, Bool.true_and, Bool.false_and, Bool.and_true, Bool.and_false, Bool.or_true, Bool.or_false, Bool.true_or, Bool.false_or]
    · simp only [go_sem, Nat.reduceEqDiff, reduceCtorEq, Nat.reduceAdd, Nat.reduceSub, Nat.reduceLT, Nat.reduceLeDiff, Int.reduceAdd, Int.reduceSub, Int.reduceNeg, Int.reduceEq, Int.reduceLT, Int.reduceLE, bx, K96, a1, a2, Bool.true_and, Bool.false_and, Bool.and_true, Bool.and_false, Bool.or_true, Bool.or_false, Bool.true_or, Bool.false_or]
theorem p_digit (n : Int) : PV 87 [.int .i32 n] = some (.bool (digitI n)) := by
  refine PV_start k87 rfl (Nat.le_of_ble_eq_true rfl) ?_
  unfold digitI
  cases a1 : decide (48 ≤ n) <;> cases a2 : decide (n ≤ 57) <;>
    simp only [go_sem, Nat.reduceEqDiff, reduceCtorEq, Nat.reduceAdd, Nat.reduceSub, Nat.reduceLT, Nat.reduceLeDiff, Int.reduceAdd, Int.reduceSub, Int.reduceNeg, Int.reduceEq, Int.reduceLT, Int.reduceLE, bx, K87, a1, a2, Bool.true_and, Bool.false_and, Bool.and_true, Bool.and_false]
theorem p_digit4 (n : Int) : PV 99 [.int .u8 n] = some (.bool (digitI n)) := by
  refine PV_start k99 rfl (Nat.le_of_ble_eq_true rfl) ?_
  unfold digitI
  cases a1 : decide (48 ≤ n) <;> cases a2 : decide (n ≤ 57) <;>
    simp only [go_sem, Nat.reduceEqDiff, reduceCtorEq, Nat.reduceAdd, Nat.reduceSub, Nat.reduceLT, Nat.reduceLeDiff, Int.reduceAdd, Int.reduceSub, Int.reduceNeg, Int.reduceEq, Int.reduceLT, Int.reduceLE, bx, K99, a1, a2, Bool.true_and, Bool.false_and, Bool.and_true, Bool.and_false]
theorem u8_lit (a : UInt8) (k : Nat) (h : k < 256) : decide ((a.toNat : Int) = (k : Int)) = (a == UInt8.ofNat k) := by
  have := u8_eq a (UInt8.ofNat k)
  rw [UInt8.toNat_ofNat_of_lt' h] at this
  exact this
theorem p_wordB (b : UInt8) : PV 86 [.int .i32 (b.toNat : Int)] = some (.bool (wordB b)) := by
  refine PV_start k86 rfl (Nat.le_of_ble_eq_true rfl) ?_
  have h1 := p_letter (b.toNat : Int)
  have h2 := p_digit (b.toNat : Int)
  have h3 := u8_lit b 36 (by decide)
  unfold wordB letterB digitB
  cases a1 : letterI (b.toNat : Int) <;> cases a2 : digitI (b.toNat : Int) <;> cases a3 : (b == UInt8.ofNat 36) <;> rw [a3] at h3 <;> simp only [Int.cast_ofNat_Int] at h3 <;>
    simp only [go_sem, Nat.reduceEqDiff, reduceCtorEq, Nat.reduceAdd, Nat.reduceSub, Nat.reduceLT, Nat.reduceLeDiff, Int.reduceAdd, Int.reduceSub, Int.reduceNeg, Int.reduceEq, Int.reduceLT, Int.reduceLE, bx, K86, call_pure pure_85, call_pure pure_87, h1, h2, h3, a1, a2, Bool.true_or, Bool.false_or] <;> exact a3.symm ▸ rfl
theorem p_numB (b : UInt8) : PV 89 [.int .i32 (b.toNat : Int)] = some (.bool (numB b)) := by
  refine PV_start k89 rfl (Nat.le_of_ble_eq_true rfl) ?_
  have h2 := p_digit (b.toNat : Int)
  have h3 := u8_lit b 46 (by decide)
  unfold numB digitB
  cases a2 : digitI (b.toNat : Int) <;> cases a3 : (b == UInt8.ofNat 46) <;> rw [a3] at h3 <;> simp only [Int.cast_ofNat_Int] at h3 <;>
    simp only [go_sem, Nat.reduceEqDiff, reduceCtorEq, Nat.reduceAdd, Nat.reduceSub, Nat.reduceLT, Nat.reduceLeDiff, Int.reduceAdd, Int.reduceSub, Int.reduceNeg, Int.reduceEq, Int.reduceLT, Int.reduceLE, bx, K89, call_pure pure_87, h2, h3, a2, Bool.true_or, Bool.false_or] <;> exact a3.symm ▸ rfl
theorem p_tagB (b : UInt8) : PV 104 [.int .i32 (b.toNat : Int)] = some (.bool (tagB b)) := by
  refine PV_start k104 rfl (Nat.le_of_ble_eq_true rfl) ?_
  have h1 := p_letter (b.toNat : Int)
  have h2 := p_digit (b.toNat : Int)
  unfold tagB letterB digitB
  cases a1 : letterI (b.toNat : Int) <;>
    simp only [go_sem, Nat.reduceEqDiff, reduceCtorEq, Nat.reduceAdd, Nat.reduceSub, Nat.reduceLT, Nat.reduceLeDiff, Int.reduceAdd, Int.reduceSub, Int.reduceNeg, Int.reduceEq, Int.reduceLT, Int.reduceLE, bx, K104, call_pure pure_85, call_pure pure_87, h1, h2, a1, Bool.true_or, Bool.false_or]
def notLf (b : UInt8) : Bool := !(b == 10)
theorem p_notLf (b : UInt8) : PV 63 [.int .i32 (b.toNat : Int)] = some (.bool (notLf b)) := by
  refine PV_start k63 rfl (Nat.le_of_ble_eq_true rfl) ?_
  have h3 := u8_lit b 10 (by decide)
  simp only [Int.cast_ofNat_Int] at h3
  unfold notLf
  simp only [go_sem, Nat.reduceEqDiff, reduceCtorEq, Nat.reduceAdd, Nat.reduceSub, Nat.reduceLT, Nat.reduceLeDiff, Int.reduceAdd, Int.reduceSub, Int.reduceNeg, Int.reduceEq, Int.reduceLT, Int.reduceLE, bx, K63, h3]
  rfl
/-! ### the first of some -/
theorem C_first {b : AC} {Q : QT} (n : Nat) (p : Nat → Bool) (I : Nat → Slots → AHeap → Prop) {s : Slots} {H : AHeap} (start : I 0 s H)
    (go : ∀ i s H, i < n → p i = false → I i s H → C (cxV E) b s H (nrmQ (I (i + 1))))
    (hit : ∀ i s H, i < n → (∀ j, j < i → p j = false) → p i = true → I i s H → C (cxV E) b s H (exQ Q))
    (no : ∀ s H, (∀ j, j < n → p j = false) → I n s H → C (cxV E) b s H (exQ Q)) : C (cxV E) (.loop b) s H Q := by
  have out : ∀ {c : AC} {s : Slots} {H : AHeap} {R : Nat → Slots → AHeap → Prop} {n : Nat}, C (cxV E) c s H (exQ Q) → C (cxV E) c s H (fun x s' H' => match x with
      | .nrm => ∃ m, m < n ∧ R m s' H'
      | x => Q x s' H') := by
    intro c s H R n h
    exact C_mono h fun e s H h => by cases e <;> first | exact h.elim | exact h
  refine C_while (fun k s H => ∃ i, i + k = n ∧ (∀ j, j < i → p j = false) ∧ I i s H) ?_ n s H ⟨0, by omega, fun j h => absurd h (Nat.not_lt_zero _), start⟩
  rintro k s H ⟨i, hk, hno, hI⟩
  by_cases hlt : i < n
  · cases hp : p i
    · refine C_mono (go i s H hlt hp hI) fun e s' H' h => ?_
      cases e with
      | nrm =>
        refine ⟨k - 1, by omega, i + 1, by omega, fun j hj => ?_, h⟩
        by_cases e : j = i
        · subst e; exact hp
        · exact hno j (by omega)
      | ext j => exact h.elim
      | ret => exact h.elim
    · exact out (hit i s H hlt hno hp hI)
  · obtain rfl : i = n := by omega
    exact out (no s H hno hI)
theorem tw_len {q : UInt8 → Bool} {r : List UInt8} {i : Nat} (h : ∀ j, j < i → q (byteAt r j) = true) (hi : i = r.length ∨ i < r.length ∧ q (byteAt r i) = false) : r.takeWhile q = r.take i ∧ r.dropWhile q = r.drop i := by
  refine span_at ?_ ?_
  · rw [List.all_eq_true]
    intro x hx
    obtain ⟨j, hj, rfl⟩ := List.getElem_of_mem hx
    have hj' : j < i ∧ j < r.length := by simp only [List.length_take] at hj; omega
    rw [List.getElem_take]
    have := h j hj'.1
    rwa [byteAt_lt hj'.2] at this
  · rcases hi with h | ⟨h1, h2⟩
    · exact .inl h
    · exact .inr ⟨h1, by rwa [byteAt_lt h1] at h2⟩
def runL (q : UInt8 → Bool) (r : List UInt8) : Nat := (r.takeWhile q).length
theorem runL_at {q : UInt8 → Bool} {r : List UInt8} {i : Nat} (h : ∀ j, j < i → q (byteAt r j) = true) (hi : i = r.length ∨ i < r.length ∧ q (byteAt r i) = false) : runL q r = i := by
  unfold runL
  rw [(tw_len h hi).1, List.length_take]
  rcases hi with h | ⟨h, _⟩ <;> omega
theorem runL_le (q : UInt8 → Bool) (r : List UInt8) : runL q r ≤ r.length := (List.takeWhile_sublist _).length_le
theorem take_runL (q : UInt8 → Bool) (r : List UInt8) : r.take (runL q r) = r.takeWhile q := by
  unfold runL
  conv => lhs; arg 2; rw [← List.takeWhile_append_dropWhile (p := q) (l := r)]
  exact List.take_left' rfl
theorem conv_rune (b : UInt8) (H : AHeap) : aconvert Try.prog 5 21 (.int .u8 (b.toNat : Int)) H = some (.int .i32 (b.toNat : Int), H) := by
  unfold aconvert
  rw [intT_5, intT_21]
  have : IntKind.i32.wrap (b.toNat : Int) = (b.toNat : Int) := by
    have := b.toNat_lt
    rw [IntKind.wrap_i32]
    omega
  simp only [this]
theorem p_run {g : Nat} {q : UInt8 → Bool} (hp : E.pure g = true) (hg : ∀ b : UInt8, PV g [.int .i32 (b.toNat : Int)] = some (.bool (q b))) (r : List UInt8) (hr : r.length ≤ 100000000) : PV 62 [.str r, .fn g []] = some (.int .i64 ((runL q r : Nat) : Int)) := by
  refine PV_start k62 rfl (Nat.le_of_ble_eq_true rfl) ?_
  simp only [go_sem, Nat.reduceEqDiff, reduceCtorEq, Nat.reduceAdd, Nat.reduceSub, Nat.reduceLT, Nat.reduceLeDiff, Int.reduceAdd, Int.reduceSub, Int.reduceNeg, Int.reduceEq, Int.reduceLT, Int.reduceLE, bx, K62]
  refine C_first r.length (fun i => !(q (byteAt r i))) (fun i s H => s 0 = .str r ∧ s 1 = .fn g [] ∧ s 7 = .int .i64 (r.length : Int) ∧ s 8 = .int .i64 (i : Int)) ⟨by simp only [go_sem, Nat.reduceEqDiff, reduceCtorEq, Nat.reduceAdd, Nat.reduceSub, Nat.reduceLT, Nat.reduceLeDiff, Int.reduceAdd, Int.reduceSub, Int.reduceNeg, Int.reduceEq, Int.reduceLT, Int.reduceLE, bx], by simp only [go_sem, Nat.reduceEqDiff, reduceCtorEq, Nat.reduceAdd, Nat.reduceSub, Nat.reduceLT, Nat.reduceLeDiff, Int.reduceAdd, Int.reduceSub, Int.reduceNeg, Int.reduceEq, Int.reduceLT, Int.reduceLE, bx], by simp only [go_sem, Nat.reduceEqDiff, reduceCtorEq, Nat.reduceAdd, Nat.reduceSub, Nat.reduceLT, Nat.reduceLeDiff, Int.reduceAdd, Int.reduceSub, Int.reduceNeg, Int.reduceEq, Int.reduceLT, Int.reduceLE, bx], by simp only [go_sem, Nat.reduceEqDiff, reduceCtorEq, Nat.reduceAdd, Nat.reduceSub, Nat.reduceLT, Nat.reduceLeDiff, Int.reduceAdd, Int.reduceSub, Int.reduceNeg, Int.reduceEq, Int.reduceLT, Int.reduceLE, bx]; rfl⟩ ?_ ?_ ?_
  · rintro i s H hi hq ⟨h0, h1, h7, h8⟩
    have hd : ((i : Int) < (r.length : Int)) := by omega
    have hw : IntKind.i64.wrap ((i : Int) + 1) = ((i + 1 : Nat) : Int) := wrap_succ (by simp only [maxL]; omega)
    have hix := idx9 hi
    have hq' : q (byteAt r i) = true := by simpa using hq
    simp only [go_sem, Nat.reduceEqDiff, reduceCtorEq, Nat.reduceAdd, Nat.reduceSub, Nat.reduceLT, Nat.reduceLeDiff, Int.reduceAdd, Int.reduceSub, Int.reduceNeg, Int.reduceEq, Int.reduceLT, Int.reduceLE, bx, L62_0, h0, h1, h7, h8, hd, hix, conv_rune, call_pure hp, hg, hq', hw]
  · rintro i s H hi hno hq ⟨h0, h1, h7, h8⟩
    have hd : ((i : Int) < (r.length : Int)) := by omega
    have hix := idx9 hi
    have hq' : q (byteAt r i) = false := by simpa using hq
    have hrun : runL q r = i := runL_at (fun j hj => by simpa using hno j hj) (.inr ⟨hi, hq'⟩)
    simp only [go_sem, Nat.reduceEqDiff, reduceCtorEq, Nat.reduceAdd, Nat.reduceSub, Nat.reduceLT, Nat.reduceLeDiff, Int.reduceAdd, Int.reduceSub, Int.reduceNeg, Int.reduceEq, Int.reduceLT, Int.reduceLE, bx, L62_0, h0, h1, h7, h8, hd, hix, conv_rune, call_pure hp, hg, hq', hrun]
  · rintro s H hno ⟨h0, h1, h7, h8⟩
    have hd : ¬ ((r.length : Int) < (r.length : Int)) := by omega
    have hrun : runL q r = r.length := runL_at (fun j hj => by simpa using hno j hj) (.inl rfl)
    simp only [go_sem, Nat.reduceEqDiff, reduceCtorEq, Nat.reduceAdd, Nat.reduceSub, Nat.reduceLT, Nat.reduceLeDiff, Int.reduceAdd, Int.reduceSub, Int.reduceNeg, Int.reduceEq, Int.reduceLT, Int.reduceLE, bx, L62_0, h0, h7, h8, hd, hrun]
/-! ### begins, starts -/
theorem prefix_take (h r : List UInt8) : h.isPrefixOf r = (decide (h.length ≤ r.length) && (r.take h.length == h)) := by
  induction h generalizing r with
  | nil => simp
  | cons a h ih =>
    cases r with
    | nil => simp
    | cons b r =>
      rw [List.isPrefixOf_cons_cons, ih]
      simp only [List.length_cons, List.take_succ_cons, Nat.add_le_add_iff_right]
      have : ((b :: r.take h.length) == (a :: h)) = ((b == a) && (r.take h.length == h)) := rfl
      rw [this]
      have hab : (a == b) = (b == a) := by rw [Bool.eq_iff_iff, beq_iff_eq, beq_iff_eq]; exact eq_comm
      rw [hab]
      cases (b == a) <;> simp
theorem p_begins (r h : List UInt8) : PV 61 [.str r, .str h] = some (.bool (h.isPrefixOf r)) := by
  refine PV_start k61 rfl (Nat.le_of_ble_eq_true rfl) ?_
  rw [prefix_take]
  by_cases hl : ((h.length : Int) ≤ (r.length : Int))
  · have hsl := slice_str r h.length (by omega) []
    have : decide (h.length ≤ r.length) = true := decide_eq_true (by omega)
    rw [this]
    simp only [go_sem, Nat.reduceEqDiff, reduceCtorEq, Nat.reduceAdd, Nat.reduceSub, Nat.reduceLT, Nat.reduceLeDiff, Int.reduceAdd, Int.reduceSub, Int.reduceNeg, Int.reduceEq, Int.reduceLT, Int.reduceLE, bx, K61, hl, hsl, Bool.true_and]
  · have : decide (h.length ≤ r.length) = false := decide_eq_false (by omega)
    rw [this]
    simp only [go_sem, Nat.reduceEqDiff, reduceCtorEq, Nat.reduceAdd, Nat.reduceSub, Nat.reduceLT, Nat.reduceLeDiff, Int.reduceAdd, Int.reduceSub, Int.reduceNeg, Int.reduceEq, Int.reduceLT, Int.reduceLE, bx, K61, hl, Bool.false_and]
theorem slice_mid {s : List UInt8} {i j : Nat} (h1 : i ≤ j) (h2 : j ≤ s.length) (H : AHeap) : aslice Try.prog 9 (.str s) (some (.int .i64 (i : Int))) (some (.int .i64 (j : Int))) H = some (.str ((s.take j).drop i)) := by
  unfold aslice
  simp [strT_9, asBound, h1, h2]
theorem take_drop_mid (s : List UInt8) (i n : Nat) : (s.take (i + n)).drop i = (s.drop i).take n := by
  rw [List.take_drop, Nat.add_comm]
theorem p_starts (s h : List UInt8) (i : Nat) (hi : i ≤ s.length) (hs : s.length ≤ 100000000) (hh : h.length ≤ 100000000) : PV 94 [.str s, .int .i64 (i : Int), .str h] = some (.bool (h.isPrefixOf (s.drop i))) := by
  refine PV_start k94 rfl (Nat.le_of_ble_eq_true rfl) ?_
  rw [prefix_take]
  have hw : IntKind.i64.wrap ((i : Int) + (h.length : Int)) = ((i + h.length : Nat) : Int) := by rw [wrap_ok] <;> omega
  by_cases hl : ((i + h.length : Nat) : Int) ≤ (s.length : Int)
  · have hsl := slice_mid (s := s) (i := i) (j := i + h.length) (by omega) (by omega) []
    rw [take_drop_mid] at hsl
    have : decide (h.length ≤ (s.drop i).length) = true := decide_eq_true (by simp only [List.length_drop]; omega)
    rw [this]
    simp only [go_sem, Nat.reduceEqDiff, reduceCtorEq, Nat.reduceAdd, Nat.reduceSub, Nat.reduceLT, Nat.reduceLeDiff, Int.reduceAdd, Int.reduceSub, Int.reduceNeg, Int.reduceEq, Int.reduceLT, Int.reduceLE, bx, K94, hw, hl, hsl, Bool.true_and]
  · have : decide (h.length ≤ (s.drop i).length) = false := decide_eq_false (by simp only [List.length_drop]; omega)
    rw [this]
    simp only [go_sem, Nat.reduceEqDiff, reduceCtorEq, Nat.reduceAdd, Nat.reduceSub, Nat.reduceLT, Nat.reduceLeDiff, Int.reduceAdd, Int.reduceSub, Int.reduceNeg, Int.reduceEq, Int.reduceLT, Int.reduceLE, bx, K94, hw, hl, Bool.false_and]
end Go.Proofs
/- The sets' layer: remarks, quotes. -/

set_option linter.unusedSimpArgs false
set_option linter.unusedVariables false
namespace Go.Proofs
open Go.Vam
def optI : Option Nat → Int
  | some k => k
  | none => -1
theorem drop_byte {s : List UInt8} {i : Nat} (h : i < s.length) : s.drop i = byteAt s i :: s.drop (i + 1) := by
  rw [byteAt_lt h]
  exact List.drop_eq_getElem_cons h
theorem pre_len {h r : List UInt8} (hp : h.isPrefixOf r = true) : h.length ≤ r.length := by
  rw [prefix_take, Bool.and_eq_true, decide_eq_true_eq] at hp
  exact hp.1
/-! ### remarks -/
def remN : Nat → List UInt8 → Int → Option Nat
  | 0, _, _ => none
  | n + 1, r, d =>
    if r.length = 0 then none else
    if [47, 42].isPrefixOf r then (remN n (r.drop 2) (d + 1)).map (· + 2) else
    if [42, 47].isPrefixOf r then (if d - 1 = 0 then some 2 else (remN n (r.drop 2) (d - 1)).map (· + 2)) else
    (remN n (r.drop 1) d).map (· + 1)
def remL (r : List UInt8) : Option Nat := remN r.length r 0
theorem remN_none : ∀ (n : Nat) (d : Int), remN n [] d = none
  | 0, _ => rfl
  | n + 1, _ => rfl
theorem map_map_add (o : Option Nat) (a b : Nat) : (o.map (· + a)).map (· + b) = o.map (· + (b + a)) := by
  cases o with
  | none => rfl
  | some x => simp only [Option.map_some]; congr 1; omega
theorem p_remark (r : List UInt8) (hr : r.length ≤ 100000000) : PV 64 [.str r] = some (.int .i64 (optI (remL r))) := by
  refine PV_start k64 rfl (Nat.le_of_ble_eq_true rfl) ?_
  generalize hR : remL r = R
  simp only [go_sem, Nat.reduceEqDiff, reduceCtorEq, Nat.reduceAdd, Nat.reduceSub, Nat.reduceLT, Nat.reduceLeDiff, Int.reduceAdd, Int.reduceSub, Int.reduceNeg, Int.reduceEq, Int.reduceLT, Int.reduceLE, bx, K64]
  refine C_while (fun n s H => ∃ (i : Nat) (d : Int), i ≤ r.length ∧ r.length ≤ i + n ∧ -(i : Int) ≤ d ∧ d ≤ i ∧ (remN n (r.drop i) d).map (· + i) = R ∧ s 0 = .str r ∧ s 3 = .int .i64 d ∧ s 4 = .int .i64 (i : Int)) ?_ r.length _ _
    ⟨0, 0, Nat.zero_le _, by omega, by omega, by omega, by rw [← hR]; unfold remL; simp, by simp only [go_sem, Nat.reduceEqDiff, reduceCtorEq, Nat.reduceAdd, Nat.reduceSub, Nat.reduceLT, Nat.reduceLeDiff, Int.reduceAdd, Int.reduceSub, Int.reduceNeg, Int.reduceEq, Int.reduceLT, Int.reduceLE, bx], by simp only [go_sem, Nat.reduceEqDiff, reduceCtorEq, Nat.reduceAdd, Nat.reduceSub, Nat.reduceLT, Nat.reduceLeDiff, Int.reduceAdd, Int.reduceSub, Int.reduceNeg, Int.reduceEq, Int.reduceLT, Int.reduceLE, bx], by simp only [go_sem, Nat.reduceEqDiff, reduceCtorEq, Nat.reduceAdd, Nat.reduceSub, Nat.reduceLT, Nat.reduceLeDiff, Int.reduceAdd, Int.reduceSub, Int.reduceNeg, Int.reduceEq, Int.reduceLT, Int.reduceLE, bx]; rfl⟩
  clear hR
  rintro n s H ⟨i, d, hi, hn, hd1, hd2, hR, h0, h3, h4⟩
  by_cases hlt : i < r.length
  · have hd : ((i : Int) < (r.length : Int)) := by omega
    have w1 : IntKind.i64.wrap ((i : Int) + 1) = ((i + 1 : Nat) : Int) := wrap_succ (by simp only [maxL]; omega)
    have w2 : IntKind.i64.wrap (((i + 1 : Nat) : Int) + 1) = ((i + 2 : Nat) : Int) := wrap_succ (by simp only [maxL]; omega)
    have wd : IntKind.i64.wrap (d + 1) = d + 1 := wrap_ok (by omega) (by omega)
    have we : IntKind.i64.wrap (d - 1) = d - 1 := wrap_ok (by omega) (by omega)
    have hsl := slice_from r i (by omega) H
    have hb := fun h => p_begins (r.drop i) h
    obtain ⟨m, rfl⟩ : ∃ m, n = m + 1 := ⟨n - 1, by omega⟩
    unfold remN at hR
    rw [if_neg (by simp only [List.length_drop]; omega)] at hR
    cases b1 : [47, 42].isPrefixOf (r.drop i)
    · rw [b1] at hR
      simp only [Bool.false_eq_true, if_false] at hR
      cases b2 : [42, 47].isPrefixOf (r.drop i)
      · rw [b2] at hR
        simp only [Bool.false_eq_true, if_false] at hR
        rw [map_map_add, List.drop_drop] at hR
        simp only [go_sem, Nat.reduceEqDiff, reduceCtorEq, Nat.reduceAdd, Nat.reduceSub, Nat.reduceLT, Nat.reduceLeDiff, Int.reduceAdd, Int.reduceSub, Int.reduceNeg, Int.reduceEq, Int.reduceLT, Int.reduceLE, bx, L64_0, h0, h3, h4, hd, hsl, call_pure pure_61, hb, b1, b2, w1]
        exact ⟨m, Nat.lt_succ_self m, i + 1, d, by omega, by omega, by omega, by omega, hR, rfl, rfl⟩
      · rw [b2] at hR
        simp only [if_true] at hR
        have hl := pre_len b2
        simp only [List.length_cons, List.length_nil, List.length_drop] at hl
        by_cases he : d - 1 = 0
        · rw [if_pos he] at hR
          rw [← hR]
          simp only [go_sem, Nat.reduceEqDiff, reduceCtorEq, Nat.reduceAdd, Nat.reduceSub, Nat.reduceLT, Nat.reduceLeDiff, Int.reduceAdd, Int.reduceSub, Int.reduceNeg, Int.reduceEq, Int.reduceLT, Int.reduceLE, bx, L64_0, h0, h3, h4, hd, hsl, call_pure pure_61, hb, b1, b2, w1, w2, we, decide_eq_true he]
          simp only [Option.map_some, optI]
          rw [Nat.add_comm]
        · rw [if_neg he, map_map_add, List.drop_drop] at hR
          simp only [go_sem, Nat.reduceEqDiff, reduceCtorEq, Nat.reduceAdd, Nat.reduceSub, Nat.reduceLT, Nat.reduceLeDiff, Int.reduceAdd, Int.reduceSub, Int.reduceNeg, Int.reduceEq, Int.reduceLT, Int.reduceLE, bx, L64_0, h0, h3, h4, hd, hsl, call_pure pure_61, hb, b1, b2, w1, w2, we, decide_eq_false he]
          exact ⟨m, Nat.lt_succ_self m, i + 2, d - 1, by omega, by omega, by omega, by omega, hR, rfl, rfl⟩
    · rw [b1] at hR
      simp only [if_true] at hR
      have hl := pre_len b1
      simp only [List.length_cons, List.length_nil, List.length_drop] at hl
      rw [map_map_add, List.drop_drop] at hR
      simp only [go_sem, Nat.reduceEqDiff, reduceCtorEq, Nat.reduceAdd, Nat.reduceSub, Nat.reduceLT, Nat.reduceLeDiff, Int.reduceAdd, Int.reduceSub, Int.reduceNeg, Int.reduceEq, Int.reduceLT, Int.reduceLE, bx, L64_0, h0, h3, h4, hd, hsl, call_pure pure_61, hb, b1, w1, w2, wd]
      exact ⟨m, Nat.lt_succ_self m, i + 2, d + 1, by omega, by omega, by omega, by omega, hR, rfl, rfl⟩
  · have hd : ¬ ((i : Int) < (r.length : Int)) := by omega
    rw [List.drop_of_length_le (by omega), remN_none] at hR
    rw [← hR]
    simp only [go_sem, Nat.reduceEqDiff, reduceCtorEq, Nat.reduceAdd, Nat.reduceSub, Nat.reduceLT, Nat.reduceLeDiff, Int.reduceAdd, Int.reduceSub, Int.reduceNeg, Int.reduceEq, Int.reduceLT, Int.reduceLE, bx, L64_0, h0, h4, hd]
    rfl
theorem p_remark4 (s : List UInt8) (a : Nat) (ha : a ≤ s.length) (hs : s.length ≤ 100000000) : PV 95 [.str s, .int .i64 (a : Int)] = some (.int .i64 (optI ((remL (s.drop a)).map (· + a)))) := by
  refine PV_start k95 rfl (Nat.le_of_ble_eq_true rfl) ?_
  generalize hR : (remL (s.drop a)).map (· + a) = R
  simp only [go_sem, Nat.reduceEqDiff, reduceCtorEq, Nat.reduceAdd, Nat.reduceSub, Nat.reduceLT, Nat.reduceLeDiff, Int.reduceAdd, Int.reduceSub, Int.reduceNeg, Int.reduceEq, Int.reduceLT, Int.reduceLE, bx, K95]
  refine C_while (fun n st H => ∃ (i : Nat) (d : Int), i ≤ s.length ∧ s.length ≤ i + n ∧ -(i : Int) ≤ d ∧ d ≤ i ∧ (remN n (s.drop i) d).map (· + i) = R ∧ st 0 = .str s ∧ st 5 = .int .i64 d ∧ st 1 = .int .i64 (i : Int)) ?_ (s.length - a) _ _
    ⟨a, 0, ha, by omega, by omega, by omega, by rw [← hR]; unfold remL; rw [List.length_drop], by simp only [go_sem, Nat.reduceEqDiff, reduceCtorEq, Nat.reduceAdd, Nat.reduceSub, Nat.reduceLT, Nat.reduceLeDiff, Int.reduceAdd, Int.reduceSub, Int.reduceNeg, Int.reduceEq, Int.reduceLT, Int.reduceLE, bx], by simp only [go_sem, Nat.reduceEqDiff, reduceCtorEq, Nat.reduceAdd, Nat.reduceSub, Nat.reduceLT, Nat.reduceLeDiff, Int.reduceAdd, Int.reduceSub, Int.reduceNeg, Int.reduceEq, Int.reduceLT, Int.reduceLE, bx], by simp only [go_sem, Nat.reduceEqDiff, reduceCtorEq, Nat.reduceAdd, Nat.reduceSub, Nat.reduceLT, Nat.reduceLeDiff, Int.reduceAdd, Int.reduceSub, Int.reduceNeg, Int.reduceEq, Int.reduceLT, Int.reduceLE, bx]⟩
  clear hR
  rintro n st H ⟨i, d, hi, hn, hd1, hd2, hR, h0, h5, h1⟩
  by_cases hlt : i < s.length
  · have hd : ((i : Int) < (s.length : Int)) := by omega
    have w1 : IntKind.i64.wrap ((i : Int) + 1) = ((i + 1 : Nat) : Int) := wrap_succ (by simp only [maxL]; omega)
    have w2 : IntKind.i64.wrap ((i : Int) + 2) = ((i + 2 : Nat) : Int) := by rw [wrap_ok] <;> omega
    have wd : IntKind.i64.wrap (d + 1) = d + 1 := wrap_ok (by omega) (by omega)
    have we : IntKind.i64.wrap (d - 1) = d - 1 := wrap_ok (by omega) (by omega)
    have hb1 := p_starts s [47, 42] i hi hs (by decide)
    have hb2 := p_starts s [42, 47] i hi hs (by decide)
    obtain ⟨m, rfl⟩ : ∃ m, n = m + 1 := ⟨n - 1, by omega⟩
    unfold remN at hR
    rw [if_neg (by simp only [List.length_drop]; omega)] at hR
    cases b1 : [47, 42].isPrefixOf (s.drop i)
    · rw [b1] at hR
      simp only [Bool.false_eq_true, if_false] at hR
      cases b2 : [42, 47].isPrefixOf (s.drop i)
      · rw [b2] at hR
        simp only [Bool.false_eq_true, if_false] at hR
        rw [map_map_add, List.drop_drop] at hR
        simp only [go_sem, Nat.reduceEqDiff, reduceCtorEq, Nat.reduceAdd, Nat.reduceSub, Nat.reduceLT, Nat.reduceLeDiff, Int.reduceAdd, Int.reduceSub, Int.reduceNeg, Int.reduceEq, Int.reduceLT, Int.reduceLE, bx, L95_0, h0, h5, h1, hd, call_pure pure_94, hb1, hb2, b1, b2, w1]
        exact ⟨m, Nat.lt_succ_self m, i + 1, d, by omega, by omega, by omega, by omega, hR, rfl, rfl⟩
      · rw [b2] at hR
        simp only [if_true] at hR
        have hl := pre_len b2
        simp only [List.length_cons, List.length_nil, List.length_drop] at hl
        by_cases he : d - 1 = 0
        · rw [if_pos he] at hR
          rw [← hR]
          simp only [go_sem, Nat.reduceEqDiff, reduceCtorEq, Nat.reduceAdd, Nat.reduceSub, Nat.reduceLT, Nat.reduceLeDiff, Int.reduceAdd, Int.reduceSub, Int.reduceNeg, Int.reduceEq, Int.reduceLT, Int.reduceLE, bx, L95_0, h0, h5, h1, hd, call_pure pure_94, hb1, hb2, b1, b2, w2, we, decide_eq_true he]
          simp only [Option.map_some, optI]
          rw [Nat.add_comm]
        · rw [if_neg he, map_map_add, List.drop_drop] at hR
          simp only [go_sem, Nat.reduceEqDiff, reduceCtorEq, Nat.reduceAdd, Nat.reduceSub, Nat.reduceLT, Nat.reduceLeDiff, Int.reduceAdd, Int.reduceSub, Int.reduceNeg, Int.reduceEq, Int.reduceLT, Int.reduceLE, bx, L95_0, h0, h5, h1, hd, call_pure pure_94, hb1, hb2, b1, b2, w2, we, decide_eq_false he]
          exact ⟨m, Nat.lt_succ_self m, i + 2, d - 1, by omega, by omega, by omega, by omega, hR, rfl, rfl⟩
    · rw [b1] at hR
      simp only [if_true] at hR
      have hl := pre_len b1
      simp only [List.length_cons, List.length_nil, List.length_drop] at hl
      rw [map_map_add, List.drop_drop] at hR
      simp only [go_sem, Nat.reduceEqDiff, reduceCtorEq, Nat.reduceAdd, Nat.reduceSub, Nat.reduceLT, Nat.reduceLeDiff, Int.reduceAdd, Int.reduceSub, Int.reduceNeg, Int.reduceEq, Int.reduceLT, Int.reduceLE, bx, L95_0, h0, h5, h1, hd, call_pure pure_94, hb1, b1, w2, wd]
      exact ⟨m, Nat.lt_succ_self m, i + 2, d + 1, by omega, by omega, by omega, by omega, hR, rfl, rfl⟩
  · have hd : ¬ ((i : Int) < (s.length : Int)) := by omega
    rw [List.drop_of_length_le (by omega), remN_none] at hR
    rw [← hR]
    simp only [go_sem, Nat.reduceEqDiff, reduceCtorEq, Nat.reduceAdd, Nat.reduceSub, Nat.reduceLT, Nat.reduceLeDiff, Int.reduceAdd, Int.reduceSub, Int.reduceNeg, Int.reduceEq, Int.reduceLT, Int.reduceLE, bx, L95_0, h0, h1, hd]
    rfl
/-! ### quotes -/
def quoL (q : UInt8) : List UInt8 → Option (List UInt8 × Nat)
  | [] => none
  | [c] => if c == q then some ([], 1) else none
  | c :: c2 :: r =>
    if c == q then (if c2 == q then (quoL q r).map fun x => (q :: x.1, x.2 + 2) else some ([], 1))
    else (quoL q (c2 :: r)).map fun x => (c :: x.1, x.2 + 1)
def quoR : Option (List UInt8 × Nat) → AV
  | some x => .tup [.str x.1, .int .i64 (x.2 : Int)]
  | none => .tup [.str [], .int .i64 (-1)]
def addQ (t : List UInt8) (i : Nat) (o : Option (List UInt8 × Nat)) : Option (List UInt8 × Nat) := o.map fun x => (t ++ x.1, x.2 + i)
/-- At a place: what comes of the rest. -/
theorem quo_at {q : UInt8} {r t : List UInt8} {i : Nat} (hi : i < r.length) : addQ t i (quoL q (r.drop i)) =
    if byteAt r i == q then (if i + 1 < r.length then (if byteAt r (i + 1) == q then addQ (t ++ [q]) (i + 2) (quoL q (r.drop (i + 2))) else some (t, i + 1)) else some (t, i + 1))
    else addQ (t ++ [byteAt r i]) (i + 1) (quoL q (r.drop (i + 1))) := by
  have add1 : ∀ (o : Option (List UInt8 × Nat)) (c : UInt8) (k : Nat), addQ t i (o.map fun x => (c :: x.1, x.2 + k)) = addQ (t ++ [c]) (i + k) o := fun o c k => by
    cases o with
    | none => rfl
    | some x => simp only [addQ, Option.map_some, List.append_assoc, List.singleton_append]; congr 2; omega
  rw [drop_byte hi]
  by_cases h1 : i + 1 < r.length
  · rw [if_pos h1, drop_byte h1, quoL]
    cases (byteAt r i == q)
    · simp only [Bool.false_eq_true, if_false]
      exact add1 _ _ _
    · simp only [if_true]
      cases (byteAt r (i + 1) == q)
      · simp only [Bool.false_eq_true, if_false, addQ, Option.map_some, List.append_nil, Nat.add_comm]
      · simp only [if_true]
        exact add1 _ _ _
  · rw [if_neg h1, List.drop_of_length_le (by omega)]
    show addQ t i (if (byteAt r i == q) = true then some ([], 1) else none) = _
    cases (byteAt r i == q)
    · rfl
    · simp [addQ, Nat.add_comm]
theorem p_quoted (r : List UInt8) (h1 : 1 ≤ r.length) (hr : r.length ≤ 10000000) : PV 90 [.str r] = some (quoR (addQ [] 1 (quoL (byteAt r 0) (r.drop 1)))) := by
  refine PV_start k90 rfl (Nat.le_of_ble_eq_true rfl) ?_
  generalize hR : addQ [] 1 (quoL (byteAt r 0) (r.drop 1)) = R
  simp only [go_sem, Nat.reduceEqDiff, reduceCtorEq, Nat.reduceAdd, Nat.reduceSub, Nat.reduceLT, Nat.reduceLeDiff, Int.reduceAdd, Int.reduceSub, Int.reduceNeg, Int.reduceEq, Int.reduceLT, Int.reduceLE, bx, K90]
  refine C_while (fun n s H => ∃ (i : Nat) (t : List UInt8), n = r.length - i ∧ t.length ≤ i ∧ i ≤ r.length ∧ addQ t i (quoL (byteAt r 0) (r.drop i)) = R ∧ s 0 = .str r ∧ s 5 = .int .i64 (i : Int) ∧ Own 5 H (s 4) (bys t)) ?_ (r.length - 1) _ _
    ⟨1, [], rfl, by simp, h1, hR, by simp only [go_sem, Nat.reduceEqDiff, reduceCtorEq, Nat.reduceAdd, Nat.reduceSub, Nat.reduceLT, Nat.reduceLeDiff, Int.reduceAdd, Int.reduceSub, Int.reduceNeg, Int.reduceEq, Int.reduceLT, Int.reduceLE, bx], by simp only [go_sem, Nat.reduceEqDiff, reduceCtorEq, Nat.reduceAdd, Nat.reduceSub, Nat.reduceLT, Nat.reduceLeDiff, Int.reduceAdd, Int.reduceSub, Int.reduceNeg, Int.reduceEq, Int.reduceLT, Int.reduceLE, bx]; rfl, .inl ⟨by simp only [go_sem, Nat.reduceEqDiff, reduceCtorEq, Nat.reduceAdd, Nat.reduceSub, Nat.reduceLT, Nat.reduceLeDiff, Int.reduceAdd, Int.reduceSub, Int.reduceNeg, Int.reduceEq, Int.reduceLT, Int.reduceLE, bx], rfl⟩⟩
  clear hR
  rintro n s H ⟨i, t, rfl, ht, hi, hR, s0, s5, ho⟩
  generalize hv : s 4 = v at ho
  by_cases hlt : i < r.length
  · have hd : ((i : Int) < (r.length : Int)) := by omega
    have w1 : IntKind.i64.wrap ((i : Int) + 1) = ((i + 1 : Nat) : Int) := wrap_succ (by simp only [maxL]; omega)
    have w2 : IntKind.i64.wrap (((i + 1 : Nat) : Int) + 1) = ((i + 2 : Nat) : Int) := wrap_succ (by simp only [maxL]; omega)
    have i0 := idx9 (s := r) (i := 0) (by omega)
    have ii := idx9 hlt
    simp only [Int.cast_ofNat_Int] at i0
    rw [quo_at hlt] at hR
    cases b1 : (byteAt r i == byteAt r 0)
    · rw [b1] at hR
      simp only [Bool.false_eq_true, if_false] at hR
      obtain ⟨v1, H1, e1, o1, -⟩ := append_byte (byteAt r i) ho (by omega)
      simp only [go_sem, Nat.reduceEqDiff, reduceCtorEq, Nat.reduceAdd, Nat.reduceSub, Nat.reduceLT, Nat.reduceLeDiff, Int.reduceAdd, Int.reduceSub, Int.reduceNeg, Int.reduceEq, Int.reduceLT, Int.reduceLE, bx, L90_0, D90_5, D90_6, s0, s5, hv, hd, i0, ii, u8_eq, b1, bs_byte1, bi_append, e1, w1]
      exact ⟨r.length - (i + 1), by omega, i + 1, t ++ [byteAt r i], rfl, by simp only [List.length_append, List.length_cons, List.length_nil]; omega, by omega, hR, rfl, o1⟩
    · rw [b1] at hR
      simp only [if_true] at hR
      have hc := conv_own ho
      by_cases h2 : i + 1 < r.length
      · have hd2 : decide (((i + 1 : Nat) : Int) = (r.length : Int)) = false := decide_eq_false (by omega)
        have ii2 := idx9 h2
        rw [if_pos h2] at hR
        cases b2 : (byteAt r (i + 1) == byteAt r 0)
        · rw [b2] at hR
          simp only [Bool.false_eq_true, if_false] at hR
          rw [← hR]
          simp only [go_sem, Nat.reduceEqDiff, reduceCtorEq, Nat.reduceAdd, Nat.reduceSub, Nat.reduceLT, Nat.reduceLeDiff, Int.reduceAdd, Int.reduceSub, Int.reduceNeg, Int.reduceEq, Int.reduceLT, Int.reduceLE, bx, L90_0, D90_5, D90_6, s0, s5, hv, hd, i0, ii, ii2, u8_eq, b1, b2, w1, hd2, hc]
          rfl
        · rw [b2] at hR
          simp only [if_true] at hR
          obtain ⟨v1, H1, e1, o1, -⟩ := append_byte (byteAt r (i + 1)) ho (by omega)
          rw [eq_of_beq b2] at o1
          simp only [go_sem, Nat.reduceEqDiff, reduceCtorEq, Nat.reduceAdd, Nat.reduceSub, Nat.reduceLT, Nat.reduceLeDiff, Int.reduceAdd, Int.reduceSub, Int.reduceNeg, Int.reduceEq, Int.reduceLT, Int.reduceLE, bx, L90_0, D90_5, D90_6, s0, s5, hv, hd, i0, ii, ii2, u8_eq, b1, b2, w1, w2, hd2, bs_byte1, bi_append, e1]
          exact ⟨r.length - (i + 2), by omega, i + 2, t ++ [byteAt r 0], rfl, by simp only [List.length_append, List.length_cons, List.length_nil]; omega, by omega, hR, rfl, o1⟩
      · have hd2 : decide (((i + 1 : Nat) : Int) = (r.length : Int)) = true := decide_eq_true (by omega)
        rw [if_neg h2] at hR
        rw [← hR]
        simp only [go_sem, Nat.reduceEqDiff, reduceCtorEq, Nat.reduceAdd, Nat.reduceSub, Nat.reduceLT, Nat.reduceLeDiff, Int.reduceAdd, Int.reduceSub, Int.reduceNeg, Int.reduceEq, Int.reduceLT, Int.reduceLE, bx, L90_0, D90_5, D90_6, s0, s5, hv, hd, i0, ii, u8_eq, b1, w1, hd2, hc]
        rfl
  · have hd : ¬ ((i : Int) < (r.length : Int)) := by omega
    rw [List.drop_of_length_le (by omega)] at hR
    rw [← hR]
    simp only [go_sem, Nat.reduceEqDiff, reduceCtorEq, Nat.reduceAdd, Nat.reduceSub, Nat.reduceLT, Nat.reduceLeDiff, Int.reduceAdd, Int.reduceSub, Int.reduceNeg, Int.reduceEq, Int.reduceLT, Int.reduceLE, bx, L90_0, s0, s5, hd]
    rfl
theorem p_quoted4 (s : List UInt8) (a : Nat) (h1 : a < s.length) (hs : s.length ≤ 10000000) : PV 100 [.str s, .int .i64 (a : Int)] = some (quoR (addQ [] (a + 1) (quoL (byteAt s a) (s.drop (a + 1))))) := by
  refine PV_start k100 rfl (Nat.le_of_ble_eq_true rfl) ?_
  generalize hR : addQ [] (a + 1) (quoL (byteAt s a) (s.drop (a + 1))) = R
  have ia := idx9 h1
  have wa : IntKind.i64.wrap ((a : Int) + 1) = ((a + 1 : Nat) : Int) := wrap_succ (by simp only [maxL]; omega)
  simp only [go_sem, Nat.reduceEqDiff, reduceCtorEq, Nat.reduceAdd, Nat.reduceSub, Nat.reduceLT, Nat.reduceLeDiff, Int.reduceAdd, Int.reduceSub, Int.reduceNeg, Int.reduceEq, Int.reduceLT, Int.reduceLE, bx, K100, ia, wa]
  generalize byteAt s a = q at *
  refine C_while (fun n st H => ∃ (i : Nat) (t : List UInt8), n = s.length - i ∧ t.length ≤ i ∧ i ≤ s.length ∧ addQ t i (quoL q (s.drop i)) = R ∧ st 0 = .str s ∧ st 6 = .int .u8 (q.toNat : Int) ∧ st 8 = .int .i64 (i : Int) ∧ st 7 = .str t) ?_ (s.length - (a + 1)) _ _
    ⟨a + 1, [], rfl, by simp, by omega, hR, by simp only [go_sem, Nat.reduceEqDiff, reduceCtorEq, Nat.reduceAdd, Nat.reduceSub, Nat.reduceLT, Nat.reduceLeDiff, Int.reduceAdd, Int.reduceSub, Int.reduceNeg, Int.reduceEq, Int.reduceLT, Int.reduceLE, bx], by simp only [go_sem, Nat.reduceEqDiff, reduceCtorEq, Nat.reduceAdd, Nat.reduceSub, Nat.reduceLT, Nat.reduceLeDiff, Int.reduceAdd, Int.reduceSub, Int.reduceNeg, Int.reduceEq, Int.reduceLT, Int.reduceLE, bx], by simp only [go_sem, Nat.reduceEqDiff, reduceCtorEq, Nat.reduceAdd, Nat.reduceSub, Nat.reduceLT, Nat.reduceLeDiff, Int.reduceAdd, Int.reduceSub, Int.reduceNeg, Int.reduceEq, Int.reduceLT, Int.reduceLE, bx], by simp only [go_sem, Nat.reduceEqDiff, reduceCtorEq, Nat.reduceAdd, Nat.reduceSub, Nat.reduceLT, Nat.reduceLeDiff, Int.reduceAdd, Int.reduceSub, Int.reduceNeg, Int.reduceEq, Int.reduceLT, Int.reduceLE, bx]⟩
  clear hR ia wa
  rintro n st H ⟨i, t, rfl, ht, hi, hR, s0, s6, s8, s7⟩
  by_cases hlt : i < s.length
  · have hd : ((i : Int) < (s.length : Int)) := by omega
    have w1 : IntKind.i64.wrap ((i : Int) + 1) = ((i + 1 : Nat) : Int) := wrap_succ (by simp only [maxL]; omega)
    have w2 : IntKind.i64.wrap (((i + 1 : Nat) : Int) + 1) = ((i + 2 : Nat) : Int) := wrap_succ (by simp only [maxL]; omega)
    have ii := idx9 hlt
    have hsl := slice_one hlt H
    have ha := b_sadd Try.prog 9 t [byteAt s i] (by simp only [List.length_cons, List.length_nil]; omega)
    rw [quo_at hlt] at hR
    cases b1 : (byteAt s i == q)
    · rw [b1] at hR
      simp only [Bool.false_eq_true, if_false] at hR
      simp only [go_sem, Nat.reduceEqDiff, reduceCtorEq, Nat.reduceAdd, Nat.reduceSub, Nat.reduceLT, Nat.reduceLeDiff, Int.reduceAdd, Int.reduceSub, Int.reduceNeg, Int.reduceEq, Int.reduceLT, Int.reduceLE, bx, L100_0, s0, s6, s7, s8, hd, ii, u8_eq, b1, w1, hsl, ha]
      exact ⟨s.length - (i + 1), by omega, i + 1, t ++ [byteAt s i], rfl, by simp only [List.length_append, List.length_cons, List.length_nil]; omega, by omega, hR, rfl, rfl⟩
    · rw [b1] at hR
      simp only [if_true] at hR
      by_cases h2 : i + 1 < s.length
      · have hd2 : (((i + 1 : Nat) : Int) < (s.length : Int)) := by omega
        have ii2 := idx9 h2
        rw [if_pos h2] at hR
        cases b2 : (byteAt s (i + 1) == q)
        · rw [b2] at hR
          simp only [Bool.false_eq_true, if_false] at hR
          rw [← hR]
          simp only [go_sem, Nat.reduceEqDiff, reduceCtorEq, Nat.reduceAdd, Nat.reduceSub, Nat.reduceLT, Nat.reduceLeDiff, Int.reduceAdd, Int.reduceSub, Int.reduceNeg, Int.reduceEq, Int.reduceLT, Int.reduceLE, bx, L100_0, s0, s6, s7, s8, hd, ii, ii2, u8_eq, b1, b2, w1, hd2]
          rfl
        · rw [b2] at hR
          simp only [if_true] at hR
          rw [← eq_of_beq b1] at hR
          simp only [go_sem, Nat.reduceEqDiff, reduceCtorEq, Nat.reduceAdd, Nat.reduceSub, Nat.reduceLT, Nat.reduceLeDiff, Int.reduceAdd, Int.reduceSub, Int.reduceNeg, Int.reduceEq, Int.reduceLT, Int.reduceLE, bx, L100_0, s0, s6, s7, s8, hd, ii, ii2, u8_eq, b1, b2, w1, w2, hd2, hsl, ha]
          exact ⟨s.length - (i + 2), by omega, i + 2, t ++ [byteAt s i], rfl, by simp only [List.length_append, List.length_cons, List.length_nil]; omega, by omega, by rw [← eq_of_beq b1]; exact hR, rfl, rfl⟩
      · have hd2 : ¬ (((i + 1 : Nat) : Int) < (s.length : Int)) := by omega
        rw [if_neg h2] at hR
        rw [← hR]
        simp only [go_sem, Nat.reduceEqDiff, reduceCtorEq, Nat.reduceAdd, Nat.reduceSub, Nat.reduceLT, Nat.reduceLeDiff, Int.reduceAdd, Int.reduceSub, Int.reduceNeg, Int.reduceEq, Int.reduceLT, Int.reduceLE, bx, L100_0, s0, s6, s7, s8, hd, ii, u8_eq, b1, w1, hd2]
        rfl
  · have hd : ¬ ((i : Int) < (s.length : Int)) := by omega
    rw [List.drop_of_length_le (by omega)] at hR
    rw [← hR]
    simp only [go_sem, Nat.reduceEqDiff, reduceCtorEq, Nat.reduceAdd, Nat.reduceSub, Nat.reduceLT, Nat.reduceLeDiff, Int.reduceAdd, Int.reduceSub, Int.reduceNeg, Int.reduceEq, Int.reduceLT, Int.reduceLE, bx, L100_0, s0, s8, hd]
    rfl
end Go.Proofs
/- The sets' layer: tags, dollar texts, rows, small letters, signs. -/

set_option linter.unusedSimpArgs false
set_option linter.unusedVariables false
namespace Go.Proofs
open Go.Vam
theorem byteAt_drop (s : List UInt8) (i j : Nat) : byteAt (s.drop i) j = byteAt s (i + j) := by
  unfold byteAt
  rw [List.getElem?_drop]
/-! ### tags -/
def tagK (r : List UInt8) : Nat := 1 + (if 1 < r.length ∧ letterB (byteAt r 1) = true then runL tagB (r.drop 1) else 0)
def tagL (r : List UInt8) : Option Nat := if tagK r < r.length ∧ (byteAt r (tagK r) == 36) = true then some (tagK r + 1) else none
theorem tagK_le (r : List UInt8) : tagK r ≤ r.length + 1 := by
  unfold tagK
  split
  · have := runL_le tagB (r.drop 1)
    simp only [List.length_drop] at this
    omega
  · omega
theorem p_tag (r : List UInt8) (hr : r.length ≤ 10000000) : PV 91 [.str r] = some (.int .i64 (optI (tagL r))) := by
  refine PV_start k91 rfl (Nat.le_of_ble_eq_true rfl) ?_
  rw [K91]
  have e36 := fun b => u8_lit b 36 (by decide)
  simp only [Int.cast_ofNat_Int] at e36
  refine C_then (fun s H => s 0 = .str r) (by simp only [go_sem, Nat.reduceEqDiff, reduceCtorEq, Nat.reduceAdd, Nat.reduceSub, Nat.reduceLT, Nat.reduceLeDiff, Int.reduceAdd, Int.reduceSub, Int.reduceNeg, Int.reduceEq, Int.reduceLT, Int.reduceLE, bx]) ?_
  rintro sa Ha h0
  refine C_then (fun s H => s 0 = .str r ∧ s 3 = .int .i64 1) (by simp only [go_sem, Nat.reduceEqDiff, reduceCtorEq, Nat.reduceAdd, Nat.reduceSub, Nat.reduceLT, Nat.reduceLeDiff, Int.reduceAdd, Int.reduceSub, Int.reduceNeg, Int.reduceEq, Int.reduceLT, Int.reduceLE, bx, h0]) ?_
  rintro sb Hb ⟨h0, h3⟩
  refine C_then (fun s H => s 0 = .str r ∧ s 3 = .int .i64 ((tagK r : Nat) : Int)) ?_ ?_
  · unfold tagK
    by_cases h1 : 1 < r.length
    · have hd : ((1 : Int) < (r.length : Int)) := by omega
      have i1 := idx9 h1
      have hlt := p_letter ((byteAt r 1).toNat : Int)
      have hsl := fun H => slice_from r 1 (by omega) H
      have hrun := p_run (g := 104) (q := tagB) rfl p_tagB (r.drop 1) (by simp only [List.length_drop]; omega)
      have hle := runL_le tagB (r.drop 1)
      simp only [List.length_drop] at hle
      have w1 : IntKind.i64.wrap (1 + ((runL tagB (r.drop 1) : Nat) : Int)) = ((1 + runL tagB (r.drop 1) : Nat) : Int) := by rw [wrap_ok] <;> omega
      simp only [Int.cast_ofNat_Int] at i1 hsl
      cases b : letterI ((byteAt r 1).toNat : Int)
      · have b' : letterB (byteAt r 1) = false := b
        simp only [go_sem, Nat.reduceEqDiff, reduceCtorEq, Nat.reduceAdd, Nat.reduceSub, Nat.reduceLT, Nat.reduceLeDiff, Int.reduceAdd, Int.reduceSub, Int.reduceNeg, Int.reduceEq, Int.reduceLT, Int.reduceLE, bx, h0, h3, hd, i1, conv_rune, call_pure pure_85, hlt, b, b', h1]
        simp
      · have b' : letterB (byteAt r 1) = true := b
        simp only [go_sem, Nat.reduceEqDiff, reduceCtorEq, Nat.reduceAdd, Nat.reduceSub, Nat.reduceLT, Nat.reduceLeDiff, Int.reduceAdd, Int.reduceSub, Int.reduceNeg, Int.reduceEq, Int.reduceLT, Int.reduceLE, bx, h0, h3, hd, i1, conv_rune, call_pure pure_85, hlt, b, b', h1, hsl, call_pure pure_62, hrun, w1]
    · have hd : ¬ ((1 : Int) < (r.length : Int)) := by omega
      simp only [go_sem, Nat.reduceEqDiff, reduceCtorEq, Nat.reduceAdd, Nat.reduceSub, Nat.reduceLT, Nat.reduceLeDiff, Int.reduceAdd, Int.reduceSub, Int.reduceNeg, Int.reduceEq, Int.reduceLT, Int.reduceLE, bx, h0, h3, hd, h1, false_and, if_false]
      simp
  · rintro sc Hc ⟨h0, h3⟩
    unfold tagL
    have hk := tagK_le r
    generalize tagK r = k at *
    by_cases h1 : k < r.length
    · have hd : ((k : Int) < (r.length : Int)) := by omega
      have ik := idx9 h1
      have w1 : IntKind.i64.wrap ((k : Int) + 1) = ((k + 1 : Nat) : Int) := wrap_succ (by simp only [maxL]; omega)
      cases b : (byteAt r k == 36)
      · have b' : (byteAt r k == UInt8.ofNat 36) = false := b
        simp only [go_sem, Nat.reduceEqDiff, reduceCtorEq, Nat.reduceAdd, Nat.reduceSub, Nat.reduceLT, Nat.reduceLeDiff, Int.reduceAdd, Int.reduceSub, Int.reduceNeg, Int.reduceEq, Int.reduceLT, Int.reduceLE, bx, h0, h3, hd, ik, e36, b', h1]
        rfl
      · have b' : (byteAt r k == UInt8.ofNat 36) = true := b
        simp only [go_sem, Nat.reduceEqDiff, reduceCtorEq, Nat.reduceAdd, Nat.reduceSub, Nat.reduceLT, Nat.reduceLeDiff, Int.reduceAdd, Int.reduceSub, Int.reduceNeg, Int.reduceEq, Int.reduceLT, Int.reduceLE, bx, h0, h3, hd, ik, e36, b', h1, w1]
        rfl
    · have hd : ¬ ((k : Int) < (r.length : Int)) := by omega
      simp only [go_sem, Nat.reduceEqDiff, reduceCtorEq, Nat.reduceAdd, Nat.reduceSub, Nat.reduceLT, Nat.reduceLeDiff, Int.reduceAdd, Int.reduceSub, Int.reduceNeg, Int.reduceEq, Int.reduceLT, Int.reduceLE, bx, h0, h3, hd, h1, false_and]
      rfl
theorem tagK_at {r : List UInt8} {k : Nat} (h : ∀ j, j < k → (letterB (byteAt r (1 + j)) || decide (0 < j) && digitB (byteAt r (1 + j))) = true) (hk : 1 + k = r.length ∨ 1 + k < r.length ∧ (letterB (byteAt r (1 + k)) || decide (0 < k) && digitB (byteAt r (1 + k))) = false) : tagK r = 1 + k := by
  unfold tagK
  congr 1
  cases k with
  | zero =>
    rw [if_neg]
    rintro ⟨h1, h2⟩
    rcases hk with hk | ⟨_, hk⟩
    · omega
    · simp only [Nat.lt_irrefl, decide_false, Bool.false_and, Bool.or_false, Nat.add_zero] at hk
      rw [h2] at hk
      cases hk
  | succ k =>
    have h0 := h 0 (Nat.succ_pos _)
    simp only [Nat.lt_irrefl, decide_false, Bool.false_and, Bool.or_false, Nat.add_zero] at h0
    rw [if_pos ⟨by omega, h0⟩]
    refine runL_at (fun j hj => ?_) ?_
    · rw [byteAt_drop]
      have := h j hj
      unfold tagB
      revert this
      cases letterB (byteAt r (1 + j)) <;> cases decide (0 < j) <;> simp
    · simp only [List.length_drop, byteAt_drop]
      rcases hk with hk | ⟨h1, hk⟩
      · left; omega
      · refine .inr ⟨by omega, ?_⟩
        simp only [Nat.zero_lt_succ, decide_true, Bool.true_and] at hk
        exact hk
theorem p_tag4 (s : List UInt8) (a : Nat) (ha : a < s.length) (hs : s.length ≤ 10000000) : PV 101 [.str s, .int .i64 (a : Int)] = some (.int .i64 (optI ((tagL (s.drop a)).map (· + a)))) := by
  refine PV_start k101 rfl (Nat.le_of_ble_eq_true rfl) ?_
  rw [K101]
  have e36 := fun b => u8_lit b 36 (by decide)
  simp only [Int.cast_ofNat_Int] at e36
  have wa : IntKind.i64.wrap ((a : Int) + 1) = ((a + 1 : Nat) : Int) := wrap_succ (by simp only [maxL]; omega)
  refine C_then (fun st H => st 0 = .str s ∧ st 1 = .int .i64 (a : Int)) (by simp only [go_sem, Nat.reduceEqDiff, reduceCtorEq, Nat.reduceAdd, Nat.reduceSub, Nat.reduceLT, Nat.reduceLeDiff, Int.reduceAdd, Int.reduceSub, Int.reduceNeg, Int.reduceEq, Int.reduceLT, Int.reduceLE, bx]) ?_
  rintro sa Ha ⟨h0, h1⟩
  refine C_then (fun st H => st 0 = .str s ∧ st 1 = .int .i64 (a : Int) ∧ st 5 = .int .i64 ((a + 1 : Nat) : Int)) (by simp only [go_sem, Nat.reduceEqDiff, reduceCtorEq, Nat.reduceAdd, Nat.reduceSub, Nat.reduceLT, Nat.reduceLeDiff, Int.reduceAdd, Int.reduceSub, Int.reduceNeg, Int.reduceEq, Int.reduceLT, Int.reduceLE, bx, h0, h1, wa]) ?_
  rintro sb Hb ⟨h0, h1, h5⟩
  refine C_then (fun st H => st 0 = .str s ∧ st 5 = .int .i64 ((a + tagK (s.drop a) : Nat) : Int)) ?_ ?_
  · rw [C_block]
    refine C_first (s.length - (a + 1)) (fun j => !(letterB (byteAt (s.drop a) (1 + j)) || decide (0 < j) && digitB (byteAt (s.drop a) (1 + j)))) (fun j st H => st 0 = .str s ∧ st 1 = .int .i64 (a : Int) ∧ st 5 = .int .i64 ((a + 1 + j : Nat) : Int)) ⟨h0, h1, h5⟩ ?_ ?_ ?_
    · clear h0 h1 h5
      rintro j st H hj hp ⟨h0, h1, h5⟩
      have hd : (((a + 1 + j : Nat) : Int) < (s.length : Int)) := by omega
      have ij := idx9 (s := s) (i := a + 1 + j) (by omega)
      have w1 : IntKind.i64.wrap (((a + 1 + j : Nat) : Int) + 1) = ((a + 1 + (j + 1) : Nat) : Int) := wrap_succ (by simp only [maxL]; omega)
      rw [byteAt_drop, ← Nat.add_assoc] at hp
      generalize byteAt s (a + 1 + j) = c at *
      have hl := p_letter4 (c.toNat : Int)
      have hg := p_digit4 (c.toNat : Int)
      unfold letterB digitB at hp
      cases b1 : letterI (c.toNat : Int)
      · rw [b1] at hp
        simp only [Bool.false_or, Bool.not_eq_false', Bool.and_eq_true, decide_eq_true_eq] at hp
        obtain ⟨hj0, b2⟩ := hp
        have hd2 : (((a + 1 : Nat) : Int) < ((a + 1 + j : Nat) : Int)) := by omega
        simp only [go_sem, Nat.reduceEqDiff, reduceCtorEq, Nat.reduceAdd, Nat.reduceSub, Nat.reduceLT, Nat.reduceLeDiff, Int.reduceAdd, Int.reduceSub, Int.reduceNeg, Int.reduceEq, Int.reduceLT, Int.reduceLE, bx, L101_0, h0, h1, h5, hd, ij, call_pure pure_96, hl, b1, wa, hd2, call_pure pure_99, hg, b2, w1]
      · simp only [go_sem, Nat.reduceEqDiff, reduceCtorEq, Nat.reduceAdd, Nat.reduceSub, Nat.reduceLT, Nat.reduceLeDiff, Int.reduceAdd, Int.reduceSub, Int.reduceNeg, Int.reduceEq, Int.reduceLT, Int.reduceLE, bx, L101_0, h0, h1, h5, hd, ij, call_pure pure_96, hl, b1, w1]
    · clear h0 h1 h5
      rintro j st H hj hno hp ⟨h0, h1, h5⟩
      have hd : (((a + 1 + j : Nat) : Int) < (s.length : Int)) := by omega
      have ij := idx9 (s := s) (i := a + 1 + j) (by omega)
      have hk : tagK (s.drop a) = 1 + j := tagK_at (fun i hi => by simpa only [Bool.not_eq_false'] using hno i hi) (.inr ⟨by simp only [List.length_drop]; omega, by simpa only [Bool.not_eq_true'] using hp⟩)
      rw [hk, ← Nat.add_assoc]
      rw [byteAt_drop, ← Nat.add_assoc] at hp
      generalize byteAt s (a + 1 + j) = c at *
      have hl := p_letter4 (c.toNat : Int)
      have hg := p_digit4 (c.toNat : Int)
      unfold letterB digitB at hp
      simp only [Bool.not_eq_true', Bool.or_eq_false_iff] at hp
      obtain ⟨b1, hp⟩ := hp
      by_cases hj0 : 0 < j
      · have hd2 : (((a + 1 : Nat) : Int) < ((a + 1 + j : Nat) : Int)) := by omega
        rw [decide_eq_true hj0, Bool.true_and] at hp
        simp only [go_sem, Nat.reduceEqDiff, reduceCtorEq, Nat.reduceAdd, Nat.reduceSub, Nat.reduceLT, Nat.reduceLeDiff, Int.reduceAdd, Int.reduceSub, Int.reduceNeg, Int.reduceEq, Int.reduceLT, Int.reduceLE, bx, L101_0, h0, h1, h5, hd, ij, call_pure pure_96, hl, b1, wa, hd2, call_pure pure_99, hg, hp]
      · have hd2 : ¬ (((a + 1 : Nat) : Int) < ((a + 1 + j : Nat) : Int)) := by omega
        simp only [go_sem, Nat.reduceEqDiff, reduceCtorEq, Nat.reduceAdd, Nat.reduceSub, Nat.reduceLT, Nat.reduceLeDiff, Int.reduceAdd, Int.reduceSub, Int.reduceNeg, Int.reduceEq, Int.reduceLT, Int.reduceLE, bx, L101_0, h0, h1, h5, hd, ij, call_pure pure_96, hl, b1, wa, hd2]
    · clear h0 h1 h5
      rintro st H hno ⟨h0, h1, h5⟩
      have hd : ¬ (((a + 1 + (s.length - (a + 1)) : Nat) : Int) < (s.length : Int)) := by omega
      have hk : tagK (s.drop a) = 1 + (s.length - (a + 1)) := tagK_at (fun i hi => by simpa only [Bool.not_eq_false'] using hno i hi) (.inl (by simp only [List.length_drop]; omega))
      rw [hk, ← Nat.add_assoc]
      simp only [go_sem, Nat.reduceEqDiff, reduceCtorEq, Nat.reduceAdd, Nat.reduceSub, Nat.reduceLT, Nat.reduceLeDiff, Int.reduceAdd, Int.reduceSub, Int.reduceNeg, Int.reduceEq, Int.reduceLT, Int.reduceLE, bx, L101_0, h0, h5, hd]
  · clear h0 h1 h5
    rintro sc Hc ⟨h0, h5⟩
    unfold tagL
    have hk := tagK_le (s.drop a)
    simp only [List.length_drop] at hk ⊢
    rw [byteAt_drop]
    generalize tagK (s.drop a) = k at *
    by_cases h1 : k < s.length - a
    · have hd : (((a + k : Nat) : Int) < (s.length : Int)) := by omega
      have ik := idx9 (s := s) (i := a + k) (by omega)
      have w1 : IntKind.i64.wrap (((a + k : Nat) : Int) + 1) = ((a + k + 1 : Nat) : Int) := wrap_succ (by simp only [maxL]; omega)
      cases b : (byteAt s (a + k) == 36)
      · have b' : (byteAt s (a + k) == UInt8.ofNat 36) = false := b
        simp only [go_sem, Nat.reduceEqDiff, reduceCtorEq, Nat.reduceAdd, Nat.reduceSub, Nat.reduceLT, Nat.reduceLeDiff, Int.reduceAdd, Int.reduceSub, Int.reduceNeg, Int.reduceEq, Int.reduceLT, Int.reduceLE, bx, h0, h5, hd, ik, e36, b', h1]
        rfl
      · have b' : (byteAt s (a + k) == UInt8.ofNat 36) = true := b
        have e : a + k + 1 = k + 1 + a := by omega
        simp only [go_sem, Nat.reduceEqDiff, reduceCtorEq, Nat.reduceAdd, Nat.reduceSub, Nat.reduceLT, Nat.reduceLeDiff, Int.reduceAdd, Int.reduceSub, Int.reduceNeg, Int.reduceEq, Int.reduceLT, Int.reduceLE, bx, h0, h5, hd, ik, e36, b', h1, w1, e]
        rfl
    · have hd : ¬ (((a + k : Nat) : Int) < (s.length : Int)) := by omega
      simp only [go_sem, Nat.reduceEqDiff, reduceCtorEq, Nat.reduceAdd, Nat.reduceSub, Nat.reduceLT, Nat.reduceLeDiff, Int.reduceAdd, Int.reduceSub, Int.reduceNeg, Int.reduceEq, Int.reduceLT, Int.reduceLE, bx, h0, h5, hd, h1, false_and]
      rfl
/-! ### dollar texts -/
def dolL (t : List UInt8) : List UInt8 → Option (List UInt8 × Nat)
  | [] => none
  | c :: r => if t.isPrefixOf (c :: r) then some ([], t.length) else (dolL t r).map fun x => (c :: x.1, x.2 + 1)
theorem dolL_hit {t : List UInt8} : ∀ {r : List UInt8} {k : Nat}, k < r.length → (∀ j, j < k → t.isPrefixOf (r.drop j) = false) → t.isPrefixOf (r.drop k) = true → dolL t r = some (r.take k, k + t.length)
  | [], k, h, _, _ => absurd h (Nat.not_lt_zero _)
  | c :: r, 0, _, _, h => by
    simp only [List.drop_zero] at h
    rw [dolL, if_pos h]
    simp
  | c :: r, k + 1, h, hno, hp => by
    have h0 := hno 0 (Nat.succ_pos _)
    simp only [List.drop_zero] at h0
    rw [dolL, if_neg (by rw [h0]; simp), dolL_hit (k := k) (by simpa using h) (fun j hj => by have := hno (j + 1) (by omega); simpa using this) (by simpa using hp)]
    simp only [Option.map_some, List.take_succ_cons]
    congr 2
    omega
theorem dolL_no {t : List UInt8} : ∀ {r : List UInt8}, (∀ j, j < r.length → t.isPrefixOf (r.drop j) = false) → dolL t r = none
  | [], _ => rfl
  | c :: r, hno => by
    have h0 := hno 0 (Nat.succ_pos _)
    simp only [List.drop_zero] at h0
    rw [dolL, if_neg (by rw [h0]; simp), dolL_no fun j hj => by have := hno (j + 1) (by simp only [List.length_cons]; omega); simpa using this]
    rfl
theorem pre_short {h r : List UInt8} (hl : r.length < h.length) : h.isPrefixOf r = false := by
  cases hb : h.isPrefixOf r with
  | false => rfl
  | true => exact absurd (pre_len hb) (by omega)
theorem p_dollar (r : List UInt8) (n : Nat) (h1 : 1 ≤ n) (hn : n ≤ r.length) (hr : r.length ≤ 10000000) : PV 92 [.str r, .int .i64 (n : Int)] = some (quoR (addQ [] n (dolL (r.take n) (r.drop n)))) := by
  refine PV_start k92 rfl (Nat.le_of_ble_eq_true rfl) ?_
  simp only [go_sem, Nat.reduceEqDiff, reduceCtorEq, Nat.reduceAdd, Nat.reduceSub, Nat.reduceLT, Nat.reduceLeDiff, Int.reduceAdd, Int.reduceSub, Int.reduceNeg, Int.reduceEq, Int.reduceLT, Int.reduceLE, bx, K92]
  have htl : (r.take n).length = n := by simp only [List.length_take]; omega
  have key : ∀ j, n + j + n ≤ r.length → ((r.take (n + j + n)).drop (n + j) == r.take n) = (r.take n).isPrefixOf ((r.drop n).drop j) := by
    intro j hj
    rw [prefix_take, htl, List.drop_drop, List.length_drop, decide_eq_true (by omega), Bool.true_and, take_drop_mid]
  refine C_first (r.length + 1 - (n + n)) (fun j => (r.take n).isPrefixOf ((r.drop n).drop j)) (fun j s H => s 0 = .str r ∧ s 1 = .int .i64 (n : Int) ∧ s 6 = .int .i64 ((n + j : Nat) : Int)) ⟨by simp only [go_sem, Nat.reduceEqDiff, reduceCtorEq, Nat.reduceAdd, Nat.reduceSub, Nat.reduceLT, Nat.reduceLeDiff, Int.reduceAdd, Int.reduceSub, Int.reduceNeg, Int.reduceEq, Int.reduceLT, Int.reduceLE, bx], by simp only [go_sem, Nat.reduceEqDiff, reduceCtorEq, Nat.reduceAdd, Nat.reduceSub, Nat.reduceLT, Nat.reduceLeDiff, Int.reduceAdd, Int.reduceSub, Int.reduceNeg, Int.reduceEq, Int.reduceLT, Int.reduceLE, bx], by simp only [go_sem, Nat.reduceEqDiff, reduceCtorEq, Nat.reduceAdd, Nat.reduceSub, Nat.reduceLT, Nat.reduceLeDiff, Int.reduceAdd, Int.reduceSub, Int.reduceNeg, Int.reduceEq, Int.reduceLT, Int.reduceLE, bx]; rfl⟩ ?_ ?_ ?_
  · rintro j s H hj hp ⟨h0, h1', h6⟩
    have w0 : IntKind.i64.wrap (((n + j : Nat) : Int) + (n : Int)) = ((n + j + n : Nat) : Int) := by rw [wrap_ok] <;> omega
    have w1 : IntKind.i64.wrap (((n + j : Nat) : Int) + 1) = ((n + (j + 1) : Nat) : Int) := wrap_succ (by simp only [maxL]; omega)
    have hd : (((n + j + n : Nat) : Int) ≤ (r.length : Int)) := by omega
    have sl1 := slice_mid (s := r) (i := n + j) (j := n + j + n) (by omega) (by omega) H
    have sl2 := slice_str r n hn H
    have hk := key j (by omega)
    rw [hp] at hk
    simp only [go_sem, Nat.reduceEqDiff, reduceCtorEq, Nat.reduceAdd, Nat.reduceSub, Nat.reduceLT, Nat.reduceLeDiff, Int.reduceAdd, Int.reduceSub, Int.reduceNeg, Int.reduceEq, Int.reduceLT, Int.reduceLE, bx, L92_0, D92_4, h0, h1', h6, w0, w1, hd, sl1, sl2, hk]
  · rintro j s H hj hno hp ⟨h0, h1', h6⟩
    have w0 : IntKind.i64.wrap (((n + j : Nat) : Int) + (n : Int)) = ((n + j + n : Nat) : Int) := by rw [wrap_ok] <;> omega
    have hd : (((n + j + n : Nat) : Int) ≤ (r.length : Int)) := by omega
    have sl1 := slice_mid (s := r) (i := n + j) (j := n + j + n) (by omega) (by omega) H
    have sl2 := slice_str r n hn H
    have sl3 := slice_mid (s := r) (i := n) (j := n + j) (by omega) (by omega) H
    rw [take_drop_mid] at sl3
    have hk := key j (by omega)
    rw [hp] at hk
    have hdol := dolL_hit (t := r.take n) (r := r.drop n) (k := j) (by simp only [List.length_drop]; omega) hno hp
    rw [hdol, htl]
    simp only [go_sem, Nat.reduceEqDiff, reduceCtorEq, Nat.reduceAdd, Nat.reduceSub, Nat.reduceLT, Nat.reduceLeDiff, Int.reduceAdd, Int.reduceSub, Int.reduceNeg, Int.reduceEq, Int.reduceLT, Int.reduceLE, bx, L92_0, D92_4, h0, h1', h6, w0, hd, sl1, sl2, sl3, hk]
    rw [show n + j + n = j + n + n by omega]
    rfl
  · rintro s H hno ⟨h0, h1', h6⟩
    have hdol : dolL (r.take n) (r.drop n) = none := dolL_no fun j hj => by
      by_cases h : j < r.length + 1 - (n + n)
      · exact hno j h
      · exact pre_short (by rw [htl]; simp only [List.length_drop]; omega)
    rw [hdol]
    by_cases hbig : n + n ≤ r.length + 1
    · have w0 : IntKind.i64.wrap (((n + (r.length + 1 - (n + n)) : Nat) : Int) + (n : Int)) = ((r.length + 1 : Nat) : Int) := by rw [wrap_ok] <;> omega
      have hd : ¬ (((r.length + 1 : Nat) : Int) ≤ (r.length : Int)) := by omega
      simp only [go_sem, Nat.reduceEqDiff, reduceCtorEq, Nat.reduceAdd, Nat.reduceSub, Nat.reduceLT, Nat.reduceLeDiff, Int.reduceAdd, Int.reduceSub, Int.reduceNeg, Int.reduceEq, Int.reduceLT, Int.reduceLE, bx, L92_0, h0, h1', h6, w0, hd]
      rfl
    · have w0 : IntKind.i64.wrap (((n + (r.length + 1 - (n + n)) : Nat) : Int) + (n : Int)) = ((n + n : Nat) : Int) := by rw [wrap_ok] <;> omega
      have hd : ¬ (((n + n : Nat) : Int) ≤ (r.length : Int)) := by omega
      simp only [go_sem, Nat.reduceEqDiff, reduceCtorEq, Nat.reduceAdd, Nat.reduceSub, Nat.reduceLT, Nat.reduceLeDiff, Int.reduceAdd, Int.reduceSub, Int.reduceNeg, Int.reduceEq, Int.reduceLT, Int.reduceLE, bx, L92_0, h0, h1', h6, w0, hd]
      rfl
theorem p_dollar4 (s : List UInt8) (a n : Nat) (h1 : 1 ≤ n) (hn : a + n ≤ s.length) (hs : s.length ≤ 10000000) : PV 102 [.str s, .int .i64 (a : Int), .int .i64 ((a + n : Nat) : Int)] = some (quoR (addQ [] (a + n) (dolL ((s.drop a).take n) (s.drop (a + n))))) := by
  refine PV_start k102 rfl (Nat.le_of_ble_eq_true rfl) ?_
  simp only [go_sem, Nat.reduceEqDiff, reduceCtorEq, Nat.reduceAdd, Nat.reduceSub, Nat.reduceLT, Nat.reduceLeDiff, Int.reduceAdd, Int.reduceSub, Int.reduceNeg, Int.reduceEq, Int.reduceLT, Int.reduceLE, bx, K102]
  have htl : ((s.drop a).take n).length = n := by simp only [List.length_take, List.length_drop]; omega
  have sl0 := fun H => slice_mid (s := s) (i := a) (j := a + n) (by omega) hn H
  rw [take_drop_mid] at sl0
  have hst := fun j (hj : a + n + j ≤ s.length) => p_starts s ((s.drop a).take n) (a + n + j) hj (by omega) (by rw [htl]; omega)
  refine C_first (s.length + 1 - (a + n)) (fun j => ((s.drop a).take n).isPrefixOf (s.drop (a + n + j))) (fun j st H => st 0 = .str s ∧ st 1 = .int .i64 (a : Int) ∧ st 2 = .int .i64 ((a + n : Nat) : Int) ∧ st 8 = .int .i64 ((a + n + j : Nat) : Int)) ⟨by simp only [go_sem, Nat.reduceEqDiff, reduceCtorEq, Nat.reduceAdd, Nat.reduceSub, Nat.reduceLT, Nat.reduceLeDiff, Int.reduceAdd, Int.reduceSub, Int.reduceNeg, Int.reduceEq, Int.reduceLT, Int.reduceLE, bx], by simp only [go_sem, Nat.reduceEqDiff, reduceCtorEq, Nat.reduceAdd, Nat.reduceSub, Nat.reduceLT, Nat.reduceLeDiff, Int.reduceAdd, Int.reduceSub, Int.reduceNeg, Int.reduceEq, Int.reduceLT, Int.reduceLE, bx], by simp only [go_sem, Nat.reduceEqDiff, reduceCtorEq, Nat.reduceAdd, Nat.reduceSub, Nat.reduceLT, Nat.reduceLeDiff, Int.reduceAdd, Int.reduceSub, Int.reduceNeg, Int.reduceEq, Int.reduceLT, Int.reduceLE, bx], by simp only [go_sem, Nat.reduceEqDiff, reduceCtorEq, Nat.reduceAdd, Nat.reduceSub, Nat.reduceLT, Nat.reduceLeDiff, Int.reduceAdd, Int.reduceSub, Int.reduceNeg, Int.reduceEq, Int.reduceLT, Int.reduceLE, bx]; rfl⟩ ?_ ?_ ?_
  · rintro j st H hj hp ⟨h0, h1', h2, h8⟩
    have w1 : IntKind.i64.wrap (((a + n + j : Nat) : Int) + 1) = ((a + n + (j + 1) : Nat) : Int) := wrap_succ (by simp only [maxL]; omega)
    have hd : (((a + n + j : Nat) : Int) ≤ (s.length : Int)) := by omega
    have hst := hst j (by omega)
    simp only [go_sem, Nat.reduceEqDiff, reduceCtorEq, Nat.reduceAdd, Nat.reduceSub, Nat.reduceLT, Nat.reduceLeDiff, Int.reduceAdd, Int.reduceSub, Int.reduceNeg, Int.reduceEq, Int.reduceLT, Int.reduceLE, bx, L102_0, h0, h1', h2, h8, w1, hd, sl0, call_pure pure_94, hst, hp]
  · rintro j st H hj hno hp ⟨h0, h1', h2, h8⟩
    have hd : (((a + n + j : Nat) : Int) ≤ (s.length : Int)) := by omega
    have hst := hst j (by omega)
    have sl3 := slice_mid (s := s) (i := a + n) (j := a + n + j) (by omega) (by omega) H
    rw [take_drop_mid] at sl3
    have w0 : IntKind.i64.wrap (((a + n + j : Nat) : Int) + ((a + n : Nat) : Int)) = ((a + n + j + (a + n) : Nat) : Int) := by rw [wrap_ok] <;> omega
    have w2 : IntKind.i64.wrap (((a + n + j + (a + n) : Nat) : Int) - (a : Int)) = ((j + n + (a + n) : Nat) : Int) := by rw [wrap_ok] <;> omega
    have hjl : j < (s.drop (a + n)).length := by
      have := pre_len hp
      rw [htl] at this
      simp only [List.length_drop] at this ⊢
      omega
    have hdol := dolL_hit (t := (s.drop a).take n) (r := s.drop (a + n)) (k := j) hjl (fun i hi => by rw [List.drop_drop]; exact hno i hi) (by rw [List.drop_drop]; exact hp)
    rw [hdol, htl]
    simp only [go_sem, Nat.reduceEqDiff, reduceCtorEq, Nat.reduceAdd, Nat.reduceSub, Nat.reduceLT, Nat.reduceLeDiff, Int.reduceAdd, Int.reduceSub, Int.reduceNeg, Int.reduceEq, Int.reduceLT, Int.reduceLE, bx, L102_0, h0, h1', h2, h8, hd, sl0, call_pure pure_94, hst, hp, sl3, w0, w2]
    rfl
  · rintro st H hno ⟨h0, h1', h2, h8⟩
    have hdol : dolL ((s.drop a).take n) (s.drop (a + n)) = none := dolL_no fun j hj => by
      simp only [List.length_drop] at hj
      rw [List.drop_drop]
      exact hno j (by omega)
    rw [hdol]
    have hd : ¬ (((a + n + (s.length + 1 - (a + n)) : Nat) : Int) ≤ (s.length : Int)) := by omega
    simp only [go_sem, Nat.reduceEqDiff, reduceCtorEq, Nat.reduceAdd, Nat.reduceSub, Nat.reduceLT, Nat.reduceLeDiff, Int.reduceAdd, Int.reduceSub, Int.reduceNeg, Int.reduceEq, Int.reduceLT, Int.reduceLE, bx, L102_0, h0, h8, hd]
    rfl
end Go.Proofs
/- The sets' layer: rows, small letters, signs. -/


set_option linter.unusedSimpArgs false
set_option linter.unusedVariables false
namespace Go.Proofs
open Go.Vam
/-! ### rows -/
def rowP (k : Int) (b : UInt8) : Bool := digitB b || (decide (k = 1) && (letterB b || b == 36) || decide (k = 4) && b == 46)
theorem rowP_word : rowP 1 = wordB := by
  funext b
  unfold rowP wordB
  cases digitB b <;> cases letterB b <;> cases (b == 36) <;> rfl
theorem rowP_num : rowP 4 = numB := by
  funext b
  unfold rowP numB
  cases digitB b <;> cases letterB b <;> cases (b == 46) <;> rfl
theorem rowP_dig : rowP 0 = digitB := by
  funext b
  unfold rowP
  cases digitB b <;> rfl
theorem p_row (s : List UInt8) (a : Nat) (k : Int) (ha : a ≤ s.length) (hs : s.length ≤ 10000000) : PV 97 [.str s, .int .i64 (a : Int), .int .i64 k] = some (.int .i64 ((a + runL (rowP k) (s.drop a) : Nat) : Int)) := by
  refine PV_start k97 rfl (Nat.le_of_ble_eq_true rfl) ?_
  have e36 := fun b => u8_lit b 36 (by decide)
  have e46 := fun b => u8_lit b 46 (by decide)
  simp only [Int.cast_ofNat_Int] at e36 e46
  simp only [go_sem, Nat.reduceEqDiff, reduceCtorEq, Nat.reduceAdd, Nat.reduceSub, Nat.reduceLT, Nat.reduceLeDiff, Int.reduceAdd, Int.reduceSub, Int.reduceNeg, Int.reduceEq, Int.reduceLT, Int.reduceLE, bx, K97]
  refine C_first (s.length - a) (fun j => !(rowP k (byteAt (s.drop a) j))) (fun j st H => st 0 = .str s ∧ st 2 = .int .i64 k ∧ st 1 = .int .i64 ((a + j : Nat) : Int)) ⟨by simp only [go_sem, Nat.reduceEqDiff, reduceCtorEq, Nat.reduceAdd, Nat.reduceSub, Nat.reduceLT, Nat.reduceLeDiff, Int.reduceAdd, Int.reduceSub, Int.reduceNeg, Int.reduceEq, Int.reduceLT, Int.reduceLE, bx], by simp only [go_sem, Nat.reduceEqDiff, reduceCtorEq, Nat.reduceAdd, Nat.reduceSub, Nat.reduceLT, Nat.reduceLeDiff, Int.reduceAdd, Int.reduceSub, Int.reduceNeg, Int.reduceEq, Int.reduceLT, Int.reduceLE, bx], by simp only [go_sem, Nat.reduceEqDiff, reduceCtorEq, Nat.reduceAdd, Nat.reduceSub, Nat.reduceLT, Nat.reduceLeDiff, Int.reduceAdd, Int.reduceSub, Int.reduceNeg, Int.reduceEq, Int.reduceLT, Int.reduceLE, bx]; rfl⟩ ?_ ?_ ?_
  · rintro j st H hj hp ⟨h0, h2, h1⟩
    have hd : (((a + j : Nat) : Int) < (s.length : Int)) := by omega
    have ij := idx9 (s := s) (i := a + j) (by omega)
    have w1 : IntKind.i64.wrap (((a + j : Nat) : Int) + 1) = ((a + (j + 1) : Nat) : Int) := wrap_succ (by simp only [maxL]; omega)
    rw [byteAt_drop] at hp
    generalize byteAt s (a + j) = c at *
    have hl := p_letter4 (c.toNat : Int)
    have hg := p_digit4 (c.toNat : Int)
    unfold rowP letterB digitB at hp
    cases b1 : digitI (c.toNat : Int)
    · cases c1 : decide (k = 1)
      · cases c4 : decide (k = 4)
        · rw [b1, c1, c4] at hp
          cases hp
        · have b5 : (c == UInt8.ofNat 46) = true := by
            rw [b1, c1, c4] at hp
            simpa using hp
          simp only [go_sem, Nat.reduceEqDiff, reduceCtorEq, Nat.reduceAdd, Nat.reduceSub, Nat.reduceLT, Nat.reduceLeDiff, Int.reduceAdd, Int.reduceSub, Int.reduceNeg, Int.reduceEq, Int.reduceLT, Int.reduceLE, bx, L97_0, h0, h1, h2, hd, ij, call_pure pure_99, hg, b1, c1, c4, e46, b5, w1]
      · cases b3 : letterI (c.toNat : Int)
        · have c4 : decide (k = 4) = false := decide_eq_false (by have := of_decide_eq_true c1; omega)
          have b5 : (c == UInt8.ofNat 36) = true := by
            rw [b1, c1, b3, c4] at hp
            simpa using hp
          simp only [go_sem, Nat.reduceEqDiff, reduceCtorEq, Nat.reduceAdd, Nat.reduceSub, Nat.reduceLT, Nat.reduceLeDiff, Int.reduceAdd, Int.reduceSub, Int.reduceNeg, Int.reduceEq, Int.reduceLT, Int.reduceLE, bx, L97_0, h0, h1, h2, hd, ij, call_pure pure_99, hg, b1, c1, call_pure pure_96, hl, b3, e36, b5, w1]
        · simp only [go_sem, Nat.reduceEqDiff, reduceCtorEq, Nat.reduceAdd, Nat.reduceSub, Nat.reduceLT, Nat.reduceLeDiff, Int.reduceAdd, Int.reduceSub, Int.reduceNeg, Int.reduceEq, Int.reduceLT, Int.reduceLE, bx, L97_0, h0, h1, h2, hd, ij, call_pure pure_99, hg, b1, c1, call_pure pure_96, hl, b3, w1]
    · simp only [go_sem, Nat.reduceEqDiff, reduceCtorEq, Nat.reduceAdd, Nat.reduceSub, Nat.reduceLT, Nat.reduceLeDiff, Int.reduceAdd, Int.reduceSub, Int.reduceNeg, Int.reduceEq, Int.reduceLT, Int.reduceLE, bx, L97_0, h0, h1, h2, hd, ij, call_pure pure_99, hg, b1, w1]
  · rintro j st H hj hno hp ⟨h0, h2, h1⟩
    have hd : (((a + j : Nat) : Int) < (s.length : Int)) := by omega
    have ij := idx9 (s := s) (i := a + j) (by omega)
    have hrun : runL (rowP k) (s.drop a) = j := runL_at (fun i hi => by simpa only [Bool.not_eq_false'] using hno i hi) (.inr ⟨by simp only [List.length_drop]; omega, by simpa only [Bool.not_eq_true'] using hp⟩)
    rw [hrun]
    rw [byteAt_drop] at hp
    generalize byteAt s (a + j) = c at *
    have hl := p_letter4 (c.toNat : Int)
    have hg := p_digit4 (c.toNat : Int)
    unfold rowP letterB digitB at hp
    simp only [Bool.not_eq_true', Bool.or_eq_false_iff] at hp
    obtain ⟨b1, hp1, hp4⟩ := hp
    cases c1 : decide (k = 1)
    · cases c4 : decide (k = 4)
      · simp only [go_sem, Nat.reduceEqDiff, reduceCtorEq, Nat.reduceAdd, Nat.reduceSub, Nat.reduceLT, Nat.reduceLeDiff, Int.reduceAdd, Int.reduceSub, Int.reduceNeg, Int.reduceEq, Int.reduceLT, Int.reduceLE, bx, L97_0, h0, h1, h2, hd, ij, call_pure pure_99, hg, b1, c1, c4]
      · rw [c4, Bool.true_and] at hp4
        have b5 : (c == UInt8.ofNat 46) = false := hp4
        simp only [go_sem, Nat.reduceEqDiff, reduceCtorEq, Nat.reduceAdd, Nat.reduceSub, Nat.reduceLT, Nat.reduceLeDiff, Int.reduceAdd, Int.reduceSub, Int.reduceNeg, Int.reduceEq, Int.reduceLT, Int.reduceLE, bx, L97_0, h0, h1, h2, hd, ij, call_pure pure_99, hg, b1, c1, c4, e46, b5]
    · have c4 : decide (k = 4) = false := decide_eq_false (by have := of_decide_eq_true c1; omega)
      rw [c1, Bool.true_and, Bool.or_eq_false_iff] at hp1
      have b5 : (c == UInt8.ofNat 36) = false := hp1.2
      simp only [go_sem, Nat.reduceEqDiff, reduceCtorEq, Nat.reduceAdd, Nat.reduceSub, Nat.reduceLT, Nat.reduceLeDiff, Int.reduceAdd, Int.reduceSub, Int.reduceNeg, Int.reduceEq, Int.reduceLT, Int.reduceLE, bx, L97_0, h0, h1, h2, hd, ij, call_pure pure_99, hg, b1, c1, c4, call_pure pure_96, hl, hp1.1, e36, b5]
  · rintro st H hno ⟨h0, h2, h1⟩
    have hd : ¬ (((a + (s.length - a) : Nat) : Int) < (s.length : Int)) := by omega
    have hrun : runL (rowP k) (s.drop a) = s.length - a := runL_at (fun i hi => by simpa only [Bool.not_eq_false'] using hno i hi) (.inl (by simp only [List.length_drop]))
    rw [hrun]
    simp only [go_sem, Nat.reduceEqDiff, reduceCtorEq, Nat.reduceAdd, Nat.reduceSub, Nat.reduceLT, Nat.reduceLeDiff, Int.reduceAdd, Int.reduceSub, Int.reduceNeg, Int.reduceEq, Int.reduceLT, Int.reduceLE, bx, L97_0, h0, h1, hd]
/-! ### small letters -/
def smallB (b : UInt8) : UInt8 := if 65 ≤ b.toNat ∧ b.toNat ≤ 90 then b + 32 else b
def smallL (s : List UInt8) : List UInt8 := s.map smallB
theorem conv_bytes (s : List UInt8) (hs : s.length ≤ 100000000) (H : AHeap) : aconvert Try.prog 9 88 (.str s) H = some (.hs H.length 0 s.length, H ++ [.arr 5 false 0 (bys s)]) := by
  unfold aconvert
  simp only [strT_9, if_true, strT_88, Bool.false_eq_true, if_false, sliceT_88]
  rw [if_pos ⟨intT_5, szOf_5, by omega⟩]
  rfl
theorem bys_get {w : List UInt8} {i : Nat} (h : i < w.length) : (bys w)[i]? = some [.int .u8 ((byteAt w i).toNat : Int)] := by
  rw [byteAt_lt h]
  simp [bys, h]
theorem idx_bys {w : List UInt8} {i n : Nat} (hn : n = w.length) (h : i < w.length) : aindexAddr Try.prog 88 (.hs 0 0 n) (.int .i64 (i : Int)) [.arr 5 false 0 (bys w)] = some (.ptr 0 i 0) := by
  subst hn
  have := indexAddr_hs Try.prog 88 [.arr 5 false 0 (bys w)] (k := .i64) (id := 0) (i0 := 0) (i := i) (n := w.length) sliceT_88 rfl h
  rw [Nat.zero_add] at this
  exact this
theorem load_bys {w : List UInt8} {i : Nat} (h : i < w.length) : aload Try.prog 5 (.ptr 0 i 0) [.arr 5 false 0 (bys w)] = some (.int .u8 ((byteAt w i).toNat : Int)) := by
  rw [load_ptr]
  simp only [List.getElem?_cons_zero]
  rw [ldObj_arr, bys_get h]
  simp only [go_sem, Nat.reduceEqDiff, reduceCtorEq, Nat.reduceAdd, Nat.reduceSub, Nat.reduceLT, Nat.reduceLeDiff, Int.reduceAdd, Int.reduceSub, Int.reduceNeg, Int.reduceEq, Int.reduceLT, Int.reduceLE]
theorem store_bys {w : List UInt8} {i : Nat} (h : i < w.length) (b : UInt8) : astore Try.prog 5 (.ptr 0 i 0) (.int .u8 (b.toNat : Int)) [.arr 5 false 0 (bys w)] = some [.arr 5 false 0 (bys (w.set i b))] := by
  unfold astore
  simp only [List.getElem?_cons_zero, bys_get h]
  rw [if_pos ⟨Nat.zero_le _, szOf_5, rfl, Nat.le_refl _⟩]
  simp [bys, AV.cells]
theorem conv_bys (w : List UInt8) (n : Nat) (hn : n = w.length) : aconvert Try.prog 88 9 (.hs 0 0 n) [.arr 5 false 0 (bys w)] = some (.str w, [.arr 5 false 0 (bys w)]) := by
  subst hn
  have hl : w.length = (bys w).length := by simp [bys]
  have he : aelems (.hs 0 0 w.length) [.arr 5 false 0 (bys w)] = some (bys w) := by
    simp only [aelems, List.getElem?_cons_zero]
    rw [if_pos (by omega), List.drop_zero, hl, List.take_length]
  have hc : aconvert Try.prog 88 9 (.hs 0 0 w.length) [.arr 5 false 0 (bys w)] = ((aelems (.hs 0 0 w.length) [.arr 5 false 0 (bys w)]).bind bytesOf).map fun s => (.str s, [.arr 5 false 0 (bys w)]) := by
    simp [aconvert, sliceT_88, strT_9, intT_5]
  rw [hc, he]
  simp [bytesOf_bys]
def smallW (r : List UInt8) (i : Nat) : List UInt8 := (r.take i).map smallB ++ r.drop i
theorem smallW_len {r : List UInt8} {i : Nat} (h : i ≤ r.length) : (smallW r i).length = r.length := by
  unfold smallW
  simp only [List.length_append, List.length_map, List.length_take, List.length_drop]
  omega
theorem smallW_at {r : List UInt8} {i : Nat} (h : i < r.length) : byteAt (smallW r i) i = byteAt r i := by
  unfold smallW byteAt
  rw [List.getElem?_append_right (by simp only [List.length_map, List.length_take]; omega), List.getElem?_drop]
  congr 2
  simp only [List.length_map, List.length_take]
  omega
theorem smallW_set {r : List UInt8} {i : Nat} (h : i < r.length) : (smallW r i).set i (smallB (byteAt r i)) = smallW r (i + 1) := by
  unfold smallW
  have hl : ((r.take i).map smallB).length = i := by simp only [List.length_map, List.length_take]; omega
  rw [List.set_append_right _ _ (by omega), hl, Nat.sub_self, drop_byte h, List.set_cons_zero, take_byte h, List.map_append, List.append_assoc]
  rfl
theorem set_self {w : List UInt8} {i : Nat} (h : i < w.length) : w.set i (byteAt w i) = w := by
  rw [byteAt_lt h, List.set_getElem_self]
theorem smallB_no {b : UInt8} (h : ¬ ((65 : Int) ≤ (b.toNat : Int) ∧ (b.toNat : Int) ≤ 90)) : smallB b = b := by
  unfold smallB
  rw [if_neg (by omega)]
theorem smallB_yes {b : UInt8} (h1 : (65 : Int) ≤ (b.toNat : Int)) (h2 : (b.toNat : Int) ≤ 90) : ((smallB b).toNat : Int) = (b.toNat : Int) + 32 := by
  unfold smallB
  rw [if_pos ⟨by omega, by omega⟩, UInt8.toNat_add]
  have : (32 : UInt8).toNat = 32 := rfl
  rw [this]
  omega
theorem p_small (r : List UInt8) (hr : r.length ≤ 10000000) : PV 88 [.str r] = some (.str (smallL r)) := by
  refine PV_start k88 rfl (Nat.le_of_ble_eq_true rfl) ?_
  have hc := conv_bytes r (by omega) []
  simp only [go_sem, Nat.reduceEqDiff, reduceCtorEq, Nat.reduceAdd, Nat.reduceSub, Nat.reduceLT, Nat.reduceLeDiff, Int.reduceAdd, Int.reduceSub, Int.reduceNeg, Int.reduceEq, Int.reduceLT, Int.reduceLE, bx] at hc
  simp only [go_sem, Nat.reduceEqDiff, reduceCtorEq, Nat.reduceAdd, Nat.reduceSub, Nat.reduceLT, Nat.reduceLeDiff, Int.reduceAdd, Int.reduceSub, Int.reduceNeg, Int.reduceEq, Int.reduceLT, Int.reduceLE, bx, K88, hc]
  refine C_for r.length (fun i s H => s 3 = .hs 0 0 r.length ∧ s 8 = .hs 0 0 r.length ∧ s 9 = .int .i64 (r.length : Int) ∧ s 10 = .int .i64 (i : Int) ∧ H = [.arr 5 false 0 (bys (smallW r i))]) ⟨by simp only [go_sem, Nat.reduceEqDiff, reduceCtorEq, Nat.reduceAdd, Nat.reduceSub, Nat.reduceLT, Nat.reduceLeDiff, Int.reduceAdd, Int.reduceSub, Int.reduceNeg, Int.reduceEq, Int.reduceLT, Int.reduceLE, bx], by simp only [go_sem, Nat.reduceEqDiff, reduceCtorEq, Nat.reduceAdd, Nat.reduceSub, Nat.reduceLT, Nat.reduceLeDiff, Int.reduceAdd, Int.reduceSub, Int.reduceNeg, Int.reduceEq, Int.reduceLT, Int.reduceLE, bx], by simp only [go_sem, Nat.reduceEqDiff, reduceCtorEq, Nat.reduceAdd, Nat.reduceSub, Nat.reduceLT, Nat.reduceLeDiff, Int.reduceAdd, Int.reduceSub, Int.reduceNeg, Int.reduceEq, Int.reduceLT, Int.reduceLE, bx], by simp only [go_sem, Nat.reduceEqDiff, reduceCtorEq, Nat.reduceAdd, Nat.reduceSub, Nat.reduceLT, Nat.reduceLeDiff, Int.reduceAdd, Int.reduceSub, Int.reduceNeg, Int.reduceEq, Int.reduceLT, Int.reduceLE, bx]; rfl, rfl⟩ ?_ ?_
  · rintro i s H hi ⟨h3, h8, h9, h10, rfl⟩
    have hd : ((i : Int) < (r.length : Int)) := by omega
    have hw : IntKind.i64.wrap ((i : Int) + 1) = ((i + 1 : Nat) : Int) := wrap_succ (by simp only [maxL]; omega)
    have hl := smallW_len (r := r) (i := i) (by omega)
    have hx := idx_bys (w := smallW r i) (i := i) hl.symm (by omega)
    have hld := load_bys (w := smallW r i) (i := i) (by omega)
    rw [smallW_at hi] at hld
    have hset := smallW_set hi
    have hst := store_bys (w := smallW r i) (i := i) (by omega) (smallB (byteAt r i))
    rw [hset] at hst
    have hself := set_self (w := smallW r i) (i := i) (by omega)
    rw [smallW_at hi] at hself
    by_cases a1 : (65 : Int) ≤ ((byteAt r i).toNat : Int)
    · by_cases a2 : ((byteAt r i).toNat : Int) ≤ 90
      · have hy := smallB_yes a1 a2
        have wa : IntKind.u8.wrap (((byteAt r i).toNat : Int) + 97) = ((byteAt r i).toNat : Int) + 97 := by rw [IntKind.wrap_u8]; omega
        have wb : IntKind.u8.wrap (((byteAt r i).toNat : Int) + 97 - 65) = ((smallB (byteAt r i)).toNat : Int) := by rw [IntKind.wrap_u8]; omega
        simp only [go_sem, Nat.reduceEqDiff, reduceCtorEq, Nat.reduceAdd, Nat.reduceSub, Nat.reduceLT, Nat.reduceLeDiff, Int.reduceAdd, Int.reduceSub, Int.reduceNeg, Int.reduceEq, Int.reduceLT, Int.reduceLE, bx, L88_0, h3, h8, h9, h10, hd, hx, hld, a1, a2, wa, wb, hst, hw]
      · have hn := smallB_no (b := byteAt r i) (fun h => a2 h.2)
        rw [hn, hself] at hset
        simp only [go_sem, Nat.reduceEqDiff, reduceCtorEq, Nat.reduceAdd, Nat.reduceSub, Nat.reduceLT, Nat.reduceLeDiff, Int.reduceAdd, Int.reduceSub, Int.reduceNeg, Int.reduceEq, Int.reduceLT, Int.reduceLE, bx, L88_0, h3, h8, h9, h10, hd, hx, hld, a1, a2, hw]
        rw [hset]
    · have hn := smallB_no (b := byteAt r i) (fun h => a1 h.1)
      rw [hn, hself] at hset
      simp only [go_sem, Nat.reduceEqDiff, reduceCtorEq, Nat.reduceAdd, Nat.reduceSub, Nat.reduceLT, Nat.reduceLeDiff, Int.reduceAdd, Int.reduceSub, Int.reduceNeg, Int.reduceEq, Int.reduceLT, Int.reduceLE, bx, L88_0, h3, h8, h9, h10, hd, hx, hld, a1, hw]
      rw [hset]
  · rintro s H ⟨h3, h8, h9, h10, rfl⟩
    have hd : ¬ ((r.length : Int) < (r.length : Int)) := by omega
    have hc := conv_bys (smallW r r.length) r.length (smallW_len (Nat.le_refl _)).symm
    simp only [go_sem, Nat.reduceEqDiff, reduceCtorEq, Nat.reduceAdd, Nat.reduceSub, Nat.reduceLT, Nat.reduceLeDiff, Int.reduceAdd, Int.reduceSub, Int.reduceNeg, Int.reduceEq, Int.reduceLT, Int.reduceLE, bx, L88_0, h3, h9, h10, hd, hc]
    unfold smallW smallL
    rw [List.take_length, List.drop_length, List.append_nil]
theorem p_small4 (r : List UInt8) (hr : r.length ≤ 10000000) : PV 98 [.str r] = some (.str (smallL r)) := by
  refine PV_start k98 rfl (Nat.le_of_ble_eq_true rfl) ?_
  have hc := conv_bytes r (by omega) []
  simp only [go_sem, Nat.reduceEqDiff, reduceCtorEq, Nat.reduceAdd, Nat.reduceSub, Nat.reduceLT, Nat.reduceLeDiff, Int.reduceAdd, Int.reduceSub, Int.reduceNeg, Int.reduceEq, Int.reduceLT, Int.reduceLE, bx] at hc
  simp only [go_sem, Nat.reduceEqDiff, reduceCtorEq, Nat.reduceAdd, Nat.reduceSub, Nat.reduceLT, Nat.reduceLeDiff, Int.reduceAdd, Int.reduceSub, Int.reduceNeg, Int.reduceEq, Int.reduceLT, Int.reduceLE, bx, K98, hc]
  refine C_for r.length (fun i s H => s 3 = .hs 0 0 r.length ∧ s 4 = .int .i64 (i : Int) ∧ H = [.arr 5 false 0 (bys (smallW r i))]) ⟨by simp only [go_sem, Nat.reduceEqDiff, reduceCtorEq, Nat.reduceAdd, Nat.reduceSub, Nat.reduceLT, Nat.reduceLeDiff, Int.reduceAdd, Int.reduceSub, Int.reduceNeg, Int.reduceEq, Int.reduceLT, Int.reduceLE, bx], by simp only [go_sem, Nat.reduceEqDiff, reduceCtorEq, Nat.reduceAdd, Nat.reduceSub, Nat.reduceLT, Nat.reduceLeDiff, Int.reduceAdd, Int.reduceSub, Int.reduceNeg, Int.reduceEq, Int.reduceLT, Int.reduceLE, bx]; rfl, rfl⟩ ?_ ?_
  · rintro i s H hi ⟨h3, h4, rfl⟩
    have hd : ((i : Int) < (r.length : Int)) := by omega
    have hw : IntKind.i64.wrap ((i : Int) + 1) = ((i + 1 : Nat) : Int) := wrap_succ (by simp only [maxL]; omega)
    have hl := smallW_len (r := r) (i := i) (by omega)
    have hx := idx_bys (w := smallW r i) (i := i) hl.symm (by omega)
    have hld := load_bys (w := smallW r i) (i := i) (by omega)
    rw [smallW_at hi] at hld
    have hset := smallW_set hi
    have hst := store_bys (w := smallW r i) (i := i) (by omega) (smallB (byteAt r i))
    rw [hset] at hst
    have hself := set_self (w := smallW r i) (i := i) (by omega)
    rw [smallW_at hi] at hself
    by_cases a1 : (65 : Int) ≤ ((byteAt r i).toNat : Int)
    · by_cases a2 : ((byteAt r i).toNat : Int) ≤ 90
      · have hy := smallB_yes a1 a2
        have wa : IntKind.u8.wrap (((byteAt r i).toNat : Int) + 32) = ((smallB (byteAt r i)).toNat : Int) := by rw [IntKind.wrap_u8]; omega
        simp only [go_sem, Nat.reduceEqDiff, reduceCtorEq, Nat.reduceAdd, Nat.reduceSub, Nat.reduceLT, Nat.reduceLeDiff, Int.reduceAdd, Int.reduceSub, Int.reduceNeg, Int.reduceEq, Int.reduceLT, Int.reduceLE, bx, L98_0, h3, h4, hd, hx, hld, a1, a2, wa, hst, hw]
      · have hn := smallB_no (b := byteAt r i) (fun h => a2 h.2)
        rw [hn, hself] at hset
        simp only [go_sem, Nat.reduceEqDiff, reduceCtorEq, Nat.reduceAdd, Nat.reduceSub, Nat.reduceLT, Nat.reduceLeDiff, Int.reduceAdd, Int.reduceSub, Int.reduceNeg, Int.reduceEq, Int.reduceLT, Int.reduceLE, bx, L98_0, h3, h4, hd, hx, hld, a1, a2, hw]
        rw [hset]
    · have hn := smallB_no (b := byteAt r i) (fun h => a1 h.1)
      rw [hn, hself] at hset
      simp only [go_sem, Nat.reduceEqDiff, reduceCtorEq, Nat.reduceAdd, Nat.reduceSub, Nat.reduceLT, Nat.reduceLeDiff, Int.reduceAdd, Int.reduceSub, Int.reduceNeg, Int.reduceEq, Int.reduceLT, Int.reduceLE, bx, L98_0, h3, h4, hd, hx, hld, a1, hw]
      rw [hset]
  · rintro s H ⟨h3, h4, rfl⟩
    have hd : ¬ ((r.length : Int) < (r.length : Int)) := by omega
    have hc := conv_bys (smallW r r.length) r.length (smallW_len (Nat.le_refl _)).symm
    simp only [go_sem, Nat.reduceEqDiff, reduceCtorEq, Nat.reduceAdd, Nat.reduceSub, Nat.reduceLT, Nat.reduceLeDiff, Int.reduceAdd, Int.reduceSub, Int.reduceNeg, Int.reduceEq, Int.reduceLT, Int.reduceLE, bx, L98_0, h3, h4, hd, hc]
    unfold smallW smallL
    rw [List.take_length, List.drop_length, List.append_nil]
/-! ### signs -/
def signsC : List UInt8 := [40, 41, 44, 59, 46, 61, 60, 62, 43, 45, 42, 47, 37, 38, 124, 94, 126, 33, 64, 35, 63, 58, 91, 93]
def signB (b : UInt8) : Bool := signsC.contains b
theorem sign_any (b : UInt8) : ((List.range 24).any fun i => byteAt signsC i == b) = signB b := by
  unfold signB
  rw [Bool.eq_iff_iff, List.any_eq_true, List.contains_iff_mem]
  constructor
  · rintro ⟨i, hi, h⟩
    have hi' : i < signsC.length := List.mem_range.1 hi
    rw [byteAt_lt hi'] at h
    rw [← eq_of_beq h]
    exact List.getElem_mem hi'
  · intro h
    obtain ⟨i, hi, rfl⟩ := List.getElem_of_mem h
    exact ⟨i, List.mem_range.2 hi, by rw [byteAt_lt hi]; exact beq_self_eq_true _⟩
theorem p_sign4 (b : UInt8) : PV 103 [.int .u8 (b.toNat : Int)] = some (.bool (signB b)) := by
  refine PV_start k103 rfl (Nat.le_of_ble_eq_true rfl) ?_
  simp only [go_sem, Nat.reduceEqDiff, reduceCtorEq, Nat.reduceAdd, Nat.reduceSub, Nat.reduceLT, Nat.reduceLeDiff, Int.reduceAdd, Int.reduceSub, Int.reduceNeg, Int.reduceEq, Int.reduceLT, Int.reduceLE, bx, K103]
  have hr := sign_any b
  generalize signB b = r at *
  refine C_any 24 (fun i => byteAt signsC i == b) (fun i s H => s 0 = .int .u8 (b.toNat : Int) ∧ s 3 = .str signsC ∧ s 4 = .int .i64 (i : Int)) hr ⟨by simp only [go_sem, Nat.reduceEqDiff, reduceCtorEq, Nat.reduceAdd, Nat.reduceSub, Nat.reduceLT, Nat.reduceLeDiff, Int.reduceAdd, Int.reduceSub, Int.reduceNeg, Int.reduceEq, Int.reduceLT, Int.reduceLE, bx], by simp only [go_sem, Nat.reduceEqDiff, reduceCtorEq, Nat.reduceAdd, Nat.reduceSub, Nat.reduceLT, Nat.reduceLeDiff, Int.reduceAdd, Int.reduceSub, Int.reduceNeg, Int.reduceEq, Int.reduceLT, Int.reduceLE, bx]; rfl, by simp only [go_sem, Nat.reduceEqDiff, reduceCtorEq, Nat.reduceAdd, Nat.reduceSub, Nat.reduceLT, Nat.reduceLeDiff, Int.reduceAdd, Int.reduceSub, Int.reduceNeg, Int.reduceEq, Int.reduceLT, Int.reduceLE, bx]; rfl⟩ ?_ ?_ ?_
  · rintro i s H hi hp ⟨h0, h3, h4⟩
    have hl : signsC.length = 24 := rfl
    have hd : ((i : Int) < (signsC.length : Int)) := by omega
    have hw : IntKind.i64.wrap ((i : Int) + 1) = ((i + 1 : Nat) : Int) := wrap_succ (by simp only [maxL]; omega)
    have hix := idx9 (s := signsC) (i := i) (by omega)
    simp only [go_sem, Nat.reduceEqDiff, reduceCtorEq, Nat.reduceAdd, Nat.reduceSub, Nat.reduceLT, Nat.reduceLeDiff, Int.reduceAdd, Int.reduceSub, Int.reduceNeg, Int.reduceEq, Int.reduceLT, Int.reduceLE, bx, L103_0, h0, h3, h4, hd, hix, u8_eq, hp, hw]
  · rintro i s H hi hp rfl ⟨h0, h3, h4⟩
    have hl : signsC.length = 24 := rfl
    have hd : ((i : Int) < (signsC.length : Int)) := by omega
    have hix := idx9 (s := signsC) (i := i) (by omega)
    simp only [go_sem, Nat.reduceEqDiff, reduceCtorEq, Nat.reduceAdd, Nat.reduceSub, Nat.reduceLT, Nat.reduceLeDiff, Int.reduceAdd, Int.reduceSub, Int.reduceNeg, Int.reduceEq, Int.reduceLT, Int.reduceLE, bx, L103_0, h0, h3, h4, hd, hix, u8_eq, hp]
  · rintro s H rfl ⟨h0, h3, h4⟩
    have hl : (signsC.length : Int) = 24 := rfl
    simp only [go_sem, Nat.reduceEqDiff, reduceCtorEq, Nat.reduceAdd, Nat.reduceSub, Nat.reduceLT, Nat.reduceLeDiff, Int.reduceAdd, Int.reduceSub, Int.reduceNeg, Int.reduceEq, Int.reduceLT, Int.reduceLE, bx, L103_0, h0, h3, h4, hl, Int.cast_ofNat_Int, Int.reduceLT]
theorem signsC_lt : ∀ i, i < 24 → (byteAt signsC i).toNat < 128 := by decide
theorem sign_dec {i : Nat} (hi : i < 24) : Utf8.decode ⟨signsC.toArray⟩ i = ((byteAt signsC i).toNat, 1) := by
  have hl : i < (ByteArray.mk signsC.toArray).size := hi
  have e : (ByteArray.mk signsC.toArray)[i]'hl = byteAt signsC i := by
    rw [byteAt_lt (by exact hi)]
    rfl
  have := decode_ascii ⟨signsC.toArray⟩ i hl (by rw [e]; exact signsC_lt i hi)
  rw [e] at this
  exact this
def signL (r : List UInt8) : Nat := if byteAt r 0 == 36 then (if 0 < runL digitB (r.drop 1) then runL digitB (r.drop 1) + 1 else 0) else if signB (byteAt r 0) then 1 else 0
theorem p_digitB (b : UInt8) : PV 87 [.int .i32 (b.toNat : Int)] = some (.bool (digitB b)) := p_digit _
theorem p_sign (r : List UInt8) (h1 : 1 ≤ r.length) (hr : r.length ≤ 10000000) : PV 93 [.str r] = some (.int .i64 ((signL r : Nat) : Int)) := by
  refine PV_start k93 rfl (Nat.le_of_ble_eq_true rfl) ?_
  have i0 := idx9 (s := r) (i := 0) (by omega)
  simp only [Int.cast_ofNat_Int] at i0
  have e36 := u8_lit (byteAt r 0) 36 (by decide)
  simp only [Int.cast_ofNat_Int] at e36
  unfold signL
  cases b : (byteAt r 0 == 36)
  · have b' : (byteAt r 0 == UInt8.ofNat 36) = false := b
    simp only [go_sem, Nat.reduceEqDiff, reduceCtorEq, Nat.reduceAdd, Nat.reduceSub, Nat.reduceLT, Nat.reduceLeDiff, Int.reduceAdd, Int.reduceSub, Int.reduceNeg, Int.reduceEq, Int.reduceLT, Int.reduceLE, bx, K93, i0, e36, b']
    have hr := sign_any (byteAt r 0)
    generalize signB (byteAt r 0) = sb at *
    generalize byteAt r 0 = c at *
    refine C_any 24 (fun i => byteAt signsC i == c) (fun i s H => s 0 = .str r ∧ s 16 = .it 0 ∧ H = [.siter signsC i]) hr ⟨by simp only [go_sem, Nat.reduceEqDiff, reduceCtorEq, Nat.reduceAdd, Nat.reduceSub, Nat.reduceLT, Nat.reduceLeDiff, Int.reduceAdd, Int.reduceSub, Int.reduceNeg, Int.reduceEq, Int.reduceLT, Int.reduceLE, bx], by simp only [go_sem, Nat.reduceEqDiff, reduceCtorEq, Nat.reduceAdd, Nat.reduceSub, Nat.reduceLT, Nat.reduceLeDiff, Int.reduceAdd, Int.reduceSub, Int.reduceNeg, Int.reduceEq, Int.reduceLT, Int.reduceLE, bx], rfl⟩ ?_ ?_ ?_
    · rintro i s H hi hp ⟨h0, h16, rfl⟩
      have hl : signsC.length = 24 := rfl
      have hd : (i < signsC.length) := by omega
      have hdc := sign_dec hi
      have hsym : (c == byteAt signsC i) = false := by
        rw [← hp, Bool.eq_iff_iff, beq_iff_eq, beq_iff_eq]
        exact eq_comm
      simp only [go_sem, Nat.reduceEqDiff, reduceCtorEq, Nat.reduceAdd, Nat.reduceSub, Nat.reduceLT, Nat.reduceLeDiff, Int.reduceAdd, Int.reduceSub, Int.reduceNeg, Int.reduceEq, Int.reduceLT, Int.reduceLE, bx, L93_0, h0, h16, nxtO, hd, hdc, i0, conv_rune, u8_eq, hsym, List.set_cons_zero]
    · rintro i s H hi hp rfl ⟨h0, h16, rfl⟩
      have hl : signsC.length = 24 := rfl
      have hd : (i < signsC.length) := by omega
      have hdc := sign_dec hi
      have hsym : (c == byteAt signsC i) = true := by
        rw [← hp, Bool.eq_iff_iff, beq_iff_eq, beq_iff_eq]
        exact eq_comm
      simp only [go_sem, Nat.reduceEqDiff, reduceCtorEq, Nat.reduceAdd, Nat.reduceSub, Nat.reduceLT, Nat.reduceLeDiff, Int.reduceAdd, Int.reduceSub, Int.reduceNeg, Int.reduceEq, Int.reduceLT, Int.reduceLE, bx, L93_0, h0, h16, nxtO, hd, hdc, i0, conv_rune, u8_eq, hsym, List.set_cons_zero]
      rfl
    · rintro s H rfl ⟨h0, h16, rfl⟩
      have hd : ¬ (24 < signsC.length) := by decide
      simp only [go_sem, Nat.reduceEqDiff, reduceCtorEq, Nat.reduceAdd, Nat.reduceSub, Nat.reduceLT, Nat.reduceLeDiff, Int.reduceAdd, Int.reduceSub, Int.reduceNeg, Int.reduceEq, Int.reduceLT, Int.reduceLE, bx, L93_0, h0, h16, nxtO, hd]
      rfl
  · have b' : (byteAt r 0 == UInt8.ofNat 36) = true := b
    have hsl := fun H => slice_from r 1 h1 H
    simp only [Int.cast_ofNat_Int] at hsl
    have hrun := p_run (g := 87) (q := digitB) rfl p_digitB (r.drop 1) (by simp only [List.length_drop]; omega)
    have hle := runL_le digitB (r.drop 1)
    simp only [List.length_drop] at hle
    generalize runL digitB (r.drop 1) = k at *
    by_cases hk : 0 < k
    · have hd : ((0 : Int) < (k : Int)) := by omega
      have hw : IntKind.i64.wrap ((k : Int) + 1) = ((k + 1 : Nat) : Int) := wrap_succ (by simp only [maxL]; omega)
      simp only [go_sem, Nat.reduceEqDiff, reduceCtorEq, Nat.reduceAdd, Nat.reduceSub, Nat.reduceLT, Nat.reduceLeDiff, Int.reduceAdd, Int.reduceSub, Int.reduceNeg, Int.reduceEq, Int.reduceLT, Int.reduceLE, bx, K93, i0, e36, b', hsl, call_pure pure_62, hrun, hd, hw, hk]
    · have hd : ¬ ((0 : Int) < (k : Int)) := by omega
      simp only [go_sem, Nat.reduceEqDiff, reduceCtorEq, Nat.reduceAdd, Nat.reduceSub, Nat.reduceLT, Nat.reduceLeDiff, Int.reduceAdd, Int.reduceSub, Int.reduceNeg, Int.reduceEq, Int.reduceLT, Int.reduceLE, bx, K93, i0, e36, b', hsl, call_pure pure_62, hrun, hd, hk]
      rfl
end Go.Proofs
/- The sets' layer: one token. -/

set_option linter.unusedSimpArgs false
set_option linter.unusedVariables false
namespace Go.Proofs
open Go.Vam
@[go_sem] theorem quoR_some (t : List UInt8) (n : Nat) : quoR (some (t, n)) = .tup [.str t, .int .i64 (n : Int)] := rfl
@[go_sem] theorem quoR_none : quoR none = .tup [.str [], .int .i64 (-1)] := rfl
def quo1 (k : Int) : Option (List UInt8 × Nat) → Int × List UInt8 × Int
  | some x => (k, x.1, x.2)
  | none => (k, [], -1)
def oneL (r : List UInt8) : Int × List UInt8 × Int :=
  if letterB (byteAt r 0) then (1, smallL (r.takeWhile wordB), (runL wordB r : Nat))
  else if digitB (byteAt r 0) then (4, r.takeWhile numB, (runL numB r : Nat))
  else if byteAt r 0 == 34 then quo1 2 (addQ [] 1 (quoL (byteAt r 0) (r.drop 1)))
  else if byteAt r 0 == 39 then quo1 3 (addQ [] 1 (quoL (byteAt r 0) (r.drop 1)))
  else match (if byteAt r 0 == 36 then tagL r else none) with
    | some n => quo1 3 (addQ [] n (dolL (r.take n) (r.drop n)))
    | none => (5, r.take (signL r), (signL r : Nat))
theorem build40 (k : Int) (t : List UInt8) : abuild Try.prog 40 [(0, .int .i64 k), (1, .str t)] = some (.agg [.int .i64 k, .str t, .int .i64 0]) := by
  unfold abuild
  rw [structT_40, zeroT_40]
  simp [afill, fldT_40_0, fldT_40_1, szOf_3, szOf_9, AV.cells, AV.isCell]
theorem build40p (k p : Int) (t : List UInt8) : abuild Try.prog 40 [(0, .int .i64 k), (1, .str t), (2, .int .i64 p)] = some (.agg [.int .i64 k, .str t, .int .i64 p]) := by
  unfold abuild
  rw [structT_40, zeroT_40]
  simp [afill, fldT_40_0, fldT_40_1, fldT_40_2, szOf_3, szOf_9, AV.cells, AV.isCell]
theorem build40z : abuild Try.prog 40 [] = some (.agg [.int .i64 0, .str [], .int .i64 0]) := by
  unfold abuild
  rw [structT_40, zeroT_40]
  simp [afill]
theorem store40 (k p : Int) (t : List UInt8) (x y z : AV) : astore Try.prog 40 (.ptr 0 0 0) (.agg [.int .i64 k, .str t, .int .i64 p]) [.arr 40 true 0 [[x, y, z]]] = some [.arr 40 true 0 [[.int .i64 k, .str t, .int .i64 p]]] := by
  unfold astore
  simp only [List.getElem?_cons_zero]
  rw [if_pos ⟨Nat.le_refl _, szOf_40, rfl, Nat.le_refl _⟩]
  rfl
theorem signL_le (r : List UInt8) (h : 1 ≤ r.length) : signL r ≤ r.length := by
  unfold signL
  have := runL_le digitB (r.drop 1)
  simp only [List.length_drop] at this
  split
  · split <;> omega
  · split <;> omega
theorem tagL_le {r : List UInt8} {n : Nat} (h : tagL r = some n) : 1 ≤ n ∧ n ≤ r.length := by
  unfold tagL at h
  split at h
  · rename_i h1
    cases h
    omega
  · cases h
theorem p_one (r : List UInt8) (h1 : 1 ≤ r.length) (hr : r.length ≤ 10000000) : PV 65 [.str r] = some (.tup [.agg [.int .i64 (oneL r).1, .str (oneL r).2.1, .int .i64 0], .int .i64 (oneL r).2.2]) := by
  refine PV_start k65 rfl (Nat.le_of_ble_eq_true rfl) ?_
  have i0 := idx9 (s := r) (i := 0) (by omega)
  simp only [Int.cast_ofNat_Int] at i0
  have hlt := p_letter ((byteAt r 0).toNat : Int)
  have hdg := p_digit ((byteAt r 0).toNat : Int)
  have e34 := u8_lit (byteAt r 0) 34 (by decide)
  have e39 := u8_lit (byteAt r 0) 39 (by decide)
  have e36 := u8_lit (byteAt r 0) 36 (by decide)
  simp only [Int.cast_ofNat_Int] at e34 e39 e36
  have hq := p_quoted r h1 hr
  have htg := p_tag r hr
  have hsg := p_sign r h1 hr
  have hsl := fun k (hk : k ≤ r.length) H => slice_str r k hk H
  unfold oneL
  cases b1 : letterB (byteAt r 0)
  · have b1' : letterI ((byteAt r 0).toNat : Int) = false := b1
    cases b2 : digitB (byteAt r 0)
    · have b2' : digitI ((byteAt r 0).toNat : Int) = false := b2
      cases b3 : (byteAt r 0 == 34)
      · have b3' : (byteAt r 0 == UInt8.ofNat 34) = false := b3
        cases b4 : (byteAt r 0 == 39)
        · have b4' : (byteAt r 0 == UInt8.ofNat 39) = false := b4
          have hsle := signL_le r h1
          have sl := fun H => hsl (signL r) hsle H
          cases b5 : (byteAt r 0 == 36)
          · have b5' : (byteAt r 0 == UInt8.ofNat 36) = false := b5
            simp only [go_sem, Nat.reduceEqDiff, reduceCtorEq, Nat.reduceAdd, Nat.reduceSub, Nat.reduceLT, Nat.reduceLeDiff, Int.reduceAdd, Int.reduceSub, Int.reduceNeg, Int.reduceEq, Int.reduceLT, Int.reduceLE, bx, K65, i0, conv_rune, call_pure pure_85, call_pure pure_87, hlt, hdg, b1', b2', e34, b3', e39, b4', e36, b5', call_pure pure_93, hsg, sl, build40, store40, Nat.le_refl]
            rfl
          · have b5' : (byteAt r 0 == UInt8.ofNat 36) = true := b5
            cases ht : tagL r with
            | none =>
              rw [ht] at htg
              simp only [optI] at htg
              have hm : decide ((-1 : Int) = -1) = true := rfl
              simp only [go_sem, Nat.reduceEqDiff, reduceCtorEq, Nat.reduceAdd, Nat.reduceSub, Nat.reduceLT, Nat.reduceLeDiff, Int.reduceAdd, Int.reduceSub, Int.reduceNeg, Int.reduceEq, Int.reduceLT, Int.reduceLE, bx, K65, i0, conv_rune, call_pure pure_85, call_pure pure_87, hlt, hdg, b1', b2', e34, b3', e39, b4', e36, b5', call_pure pure_91, htg, hm, call_pure pure_93, hsg, sl, build40, store40, Nat.le_refl]
              rfl
            | some n =>
              obtain ⟨hn1, hn2⟩ := tagL_le ht
              rw [ht] at htg
              simp only [optI] at htg
              have hm : decide ((n : Int) = -1) = false := decide_eq_false (by omega)
              have hdl := p_dollar r n hn1 hn2 hr
              cases hd : addQ [] n (dolL (r.take n) (r.drop n)) with
              | none =>
                rw [hd] at hdl
                simp only [go_sem, Nat.reduceEqDiff, reduceCtorEq, Nat.reduceAdd, Nat.reduceSub, Nat.reduceLT, Nat.reduceLeDiff, Int.reduceAdd, Int.reduceSub, Int.reduceNeg, Int.reduceEq, Int.reduceLT, Int.reduceLE, bx, K65, i0, conv_rune, call_pure pure_85, call_pure pure_87, hlt, hdg, b1', b2', e34, b3', e39, b4', e36, b5', call_pure pure_91, htg, hm, call_pure pure_92, hdl, build40, store40, Nat.le_refl]
                rw [hd]
                rfl
              | some x =>
                obtain ⟨t, k⟩ := x
                rw [hd] at hdl
                simp only [go_sem, Nat.reduceEqDiff, reduceCtorEq, Nat.reduceAdd, Nat.reduceSub, Nat.reduceLT, Nat.reduceLeDiff, Int.reduceAdd, Int.reduceSub, Int.reduceNeg, Int.reduceEq, Int.reduceLT, Int.reduceLE, bx, K65, i0, conv_rune, call_pure pure_85, call_pure pure_87, hlt, hdg, b1', b2', e34, b3', e39, b4', e36, b5', call_pure pure_91, htg, hm, call_pure pure_92, hdl, build40, store40, Nat.le_refl]
                rw [hd]
                rfl
        · have b4' : (byteAt r 0 == UInt8.ofNat 39) = true := b4
          cases hd : addQ [] 1 (quoL (byteAt r 0) (r.drop 1)) with
          | none =>
            rw [hd] at hq
            simp only [go_sem, Nat.reduceEqDiff, reduceCtorEq, Nat.reduceAdd, Nat.reduceSub, Nat.reduceLT, Nat.reduceLeDiff, Int.reduceAdd, Int.reduceSub, Int.reduceNeg, Int.reduceEq, Int.reduceLT, Int.reduceLE, bx, K65, i0, conv_rune, call_pure pure_85, call_pure pure_87, hlt, hdg, b1', b2', e34, b3', e39, b4', call_pure pure_90, hq, build40, store40, Nat.le_refl]
            rfl
          | some x =>
            obtain ⟨t, k⟩ := x
            rw [hd] at hq
            simp only [go_sem, Nat.reduceEqDiff, reduceCtorEq, Nat.reduceAdd, Nat.reduceSub, Nat.reduceLT, Nat.reduceLeDiff, Int.reduceAdd, Int.reduceSub, Int.reduceNeg, Int.reduceEq, Int.reduceLT, Int.reduceLE, bx, K65, i0, conv_rune, call_pure pure_85, call_pure pure_87, hlt, hdg, b1', b2', e34, b3', e39, b4', call_pure pure_90, hq, build40, store40, Nat.le_refl]
            rfl
      · have b3' : (byteAt r 0 == UInt8.ofNat 34) = true := b3
        cases hd : addQ [] 1 (quoL (byteAt r 0) (r.drop 1)) with
        | none =>
          rw [hd] at hq
          simp only [go_sem, Nat.reduceEqDiff, reduceCtorEq, Nat.reduceAdd, Nat.reduceSub, Nat.reduceLT, Nat.reduceLeDiff, Int.reduceAdd, Int.reduceSub, Int.reduceNeg, Int.reduceEq, Int.reduceLT, Int.reduceLE, bx, K65, i0, conv_rune, call_pure pure_85, call_pure pure_87, hlt, hdg, b1', b2', e34, b3', call_pure pure_90, hq, build40, store40, Nat.le_refl]
          rfl
        | some x =>
          obtain ⟨t, k⟩ := x
          rw [hd] at hq
          simp only [go_sem, Nat.reduceEqDiff, reduceCtorEq, Nat.reduceAdd, Nat.reduceSub, Nat.reduceLT, Nat.reduceLeDiff, Int.reduceAdd, Int.reduceSub, Int.reduceNeg, Int.reduceEq, Int.reduceLT, Int.reduceLE, bx, K65, i0, conv_rune, call_pure pure_85, call_pure pure_87, hlt, hdg, b1', b2', e34, b3', call_pure pure_90, hq, build40, store40, Nat.le_refl]
          rfl
    · have b2' : digitI ((byteAt r 0).toNat : Int) = true := b2
      have hrun := p_run (g := 89) (q := numB) rfl p_numB r (by omega)
      have sl := fun H => hsl (runL numB r) (runL_le _ _) H
      rw [take_runL] at sl
      simp only [go_sem, Nat.reduceEqDiff, reduceCtorEq, Nat.reduceAdd, Nat.reduceSub, Nat.reduceLT, Nat.reduceLeDiff, Int.reduceAdd, Int.reduceSub, Int.reduceNeg, Int.reduceEq, Int.reduceLT, Int.reduceLE, bx, K65, i0, conv_rune, call_pure pure_85, call_pure pure_87, hlt, hdg, b1', b2', call_pure pure_62, hrun, sl, build40, store40, Nat.le_refl]
      rfl
  · have b1' : letterI ((byteAt r 0).toNat : Int) = true := b1
    have hrun := p_run (g := 86) (q := wordB) rfl p_wordB r (by omega)
    have sl := fun H => hsl (runL wordB r) (runL_le _ _) H
    rw [take_runL] at sl
    have hsm := p_small (r.takeWhile wordB) (Nat.le_trans (List.takeWhile_sublist _).length_le hr)
    simp only [go_sem, Nat.reduceEqDiff, reduceCtorEq, Nat.reduceAdd, Nat.reduceSub, Nat.reduceLT, Nat.reduceLeDiff, Int.reduceAdd, Int.reduceSub, Int.reduceNeg, Int.reduceEq, Int.reduceLT, Int.reduceLE, bx, K65, i0, conv_rune, call_pure pure_85, hlt, b1', call_pure pure_62, hrun, sl, call_pure pure_88, hsm, build40, store40, Nat.le_refl]
    rfl
theorem pure_103 : E.pure 103 = true := rfl
/-! ### the reference's -/
theorem runL_pos {q : UInt8 → Bool} {r : List UInt8} (h : q (byteAt r 0) = true) (h1 : 1 ≤ r.length) : 1 ≤ runL q r := by
  cases r with
  | nil => simp at h1
  | cons c r =>
    have hc : q c = true := h
    unfold runL
    rw [List.takeWhile_cons, if_pos hc]
    simp
def zeroTok : AV := .agg [.int .i64 0, .str [], .int .i64 0]
def one4 (a : Nat) (x : Int × List UInt8 × Int) : AV :=
  if x.2.2 = -1 then .tup [zeroTok, .int .i64 0, .int .i64 6] else
  if x.2.2 = 0 then .tup [zeroTok, .int .i64 0, .int .i64 7] else .tup [.agg [.int .i64 x.1, .str x.2.1, .int .i64 (a : Int)], .int .i64 ((a : Int) + x.2.2), .int .i64 0]
theorem addQ_add (a k : Nat) (o : Option (List UInt8 × Nat)) : addQ [] (a + k) o = (addQ [] k o).map fun x => (x.1, x.2 + a) := by
  cases o with
  | none => rfl
  | some x => simp only [addQ, Option.map_some]; congr 2; omega
theorem p_one4 (s : List UInt8) (a : Nat) (ha : a < s.length) (hs : s.length ≤ 10000000) : PV 68 [.str s, .int .i64 (a : Int)] = some (one4 a (oneL (s.drop a))) := by
  refine PV_start k68 rfl (Nat.le_of_ble_eq_true rfl) ?_
  have hrl : (s.drop a).length = s.length - a := List.length_drop
  have hb0 : byteAt s a = byteAt (s.drop a) 0 := (byteAt_drop s a 0).symm
  have ia := idx9 ha
  have hq := p_quoted4 s a ha hs
  have hd1 : s.drop (a + 1) = (s.drop a).drop 1 := by rw [List.drop_drop]
  have htg := p_tag4 s a ha hs
  rw [addQ_add, hd1, hb0] at hq
  rw [hb0] at ia
  have w1 : IntKind.i64.wrap ((a : Int) + 1) = ((a + 1 : Nat) : Int) := wrap_succ (by simp only [maxL]; omega)
  have hrow := fun k => p_row s a k (by omega) hs
  have hrow0 := p_row s (a + 1) 0 (by omega) hs
  rw [rowP_dig, hd1] at hrow0
  have hsl := fun n (hn : n ≤ s.length - a) H => slice_mid (s := s) (i := a) (j := a + n) (by omega) (by omega) H
  simp only [take_drop_mid] at hsl
  have hdol := fun n (h1 : 1 ≤ n) (hn : a + n ≤ s.length) => p_dollar4 s a n h1 hn hs
  simp only [addQ_add, ← List.drop_drop] at hdol
  generalize hr : s.drop a = r at *
  have hlt := p_letter4 ((byteAt r 0).toNat : Int)
  have hdg := p_digit4 ((byteAt r 0).toNat : Int)
  have hsb := p_sign4 (byteAt r 0)
  have e34 := u8_lit (byteAt r 0) 34 (by decide)
  have e39 := u8_lit (byteAt r 0) 39 (by decide)
  have e36 := u8_lit (byteAt r 0) 36 (by decide)
  simp only [Int.cast_ofNat_Int] at e34 e39 e36
  unfold oneL
  cases b1 : letterB (byteAt r 0)
  · have b1' : letterI ((byteAt r 0).toNat : Int) = false := b1
    cases b2 : digitB (byteAt r 0)
    · have b2' : digitI ((byteAt r 0).toNat : Int) = false := b2
      cases b3 : (byteAt r 0 == 34)
      · have b3' : (byteAt r 0 == UInt8.ofNat 34) = false := b3
        cases b4 : (byteAt r 0 == 39)
        · have b4' : (byteAt r 0 == UInt8.ofNat 39) = false := b4
          cases b5 : (byteAt r 0 == 36)
          · have b5' : (byteAt r 0 == UInt8.ofNat 36) = false := b5
            simp only [Bool.false_eq_true, if_false]
            unfold signL
            rw [b5]
            cases b6 : signB (byteAt r 0)
            · simp only [go_sem, Nat.reduceEqDiff, reduceCtorEq, Nat.reduceAdd, Nat.reduceSub, Nat.reduceLT, Nat.reduceLeDiff, Int.reduceAdd, Int.reduceSub, Int.reduceNeg, Int.reduceEq, Int.reduceLT, Int.reduceLE, bx, K68, ia, call_pure pure_96, call_pure pure_99, hlt, hdg, b1', b2', e34, b3', e39, b4', e36, b5', call_pure pure_103, hsb, b6, build40z, store40, Nat.le_refl]
              rfl
            · have sl := fun H => hsl 1 (by omega) H
              simp only [go_sem, Nat.reduceEqDiff, reduceCtorEq, Nat.reduceAdd, Nat.reduceSub, Nat.reduceLT, Nat.reduceLeDiff, Int.reduceAdd, Int.reduceSub, Int.reduceNeg, Int.reduceEq, Int.reduceLT, Int.reduceLE, bx, K68, ia, call_pure pure_96, call_pure pure_99, hlt, hdg, b1', b2', e34, b3', e39, b4', e36, b5', call_pure pure_103, hsb, b6, w1, sl, build40p, store40, Nat.le_refl]
              rfl
          · have b5' : (byteAt r 0 == UInt8.ofNat 36) = true := b5
            simp only [Bool.false_eq_true, if_false, if_true]
            cases ht : tagL r with
            | none =>
              rw [ht] at htg
              simp only [Option.map_none, optI] at htg
              have hm : ¬ ((0 : Int) < -1) := by omega
              unfold signL
              rw [b5]
              have hns : signB (byteAt r 0) = false := by rw [eq_of_beq b5]; rfl
              have hrle := runL_le digitB (r.drop 1)
              simp only [List.length_drop] at hrle
              by_cases hk : 0 < runL digitB (r.drop 1)
              · have hgt : (((a + 1 : Nat) : Int) < ((a + 1 + runL digitB (r.drop 1) : Nat) : Int)) := by omega
                have sl := fun H => hsl (runL digitB (r.drop 1) + 1) (by omega) H
                rw [show a + (runL digitB (r.drop 1) + 1) = a + 1 + runL digitB (r.drop 1) by omega] at sl
                simp only [go_sem, Nat.reduceEqDiff, reduceCtorEq, Nat.reduceAdd, Nat.reduceSub, Nat.reduceLT, Nat.reduceLeDiff, Int.reduceAdd, Int.reduceSub, Int.reduceNeg, Int.reduceEq, Int.reduceLT, Int.reduceLE, bx, K68, ia, call_pure pure_96, call_pure pure_99, hlt, hdg, b1', b2', e34, b3', e39, b4', e36, b5', call_pure pure_101, htg, hm, w1, call_pure pure_97, hrow0, hgt, sl, build40p, store40, Nat.le_refl, hk]
                unfold one4
                rw [if_neg (by simp only; omega), if_neg (by simp only; omega)]
                rw [show ((a + 1 + runL digitB (r.drop 1) : Nat) : Int) = (a : Int) + ((runL digitB (r.drop 1) + 1 : Nat) : Int) by omega]
                rfl
              · have hgt : ¬ (((a + 1 : Nat) : Int) < ((a + 1 + runL digitB (r.drop 1) : Nat) : Int)) := by omega
                simp only [go_sem, Nat.reduceEqDiff, reduceCtorEq, Nat.reduceAdd, Nat.reduceSub, Nat.reduceLT, Nat.reduceLeDiff, Int.reduceAdd, Int.reduceSub, Int.reduceNeg, Int.reduceEq, Int.reduceLT, Int.reduceLE, bx, K68, ia, call_pure pure_96, call_pure pure_99, hlt, hdg, b1', b2', e34, b3', e39, b4', e36, b5', call_pure pure_101, htg, hm, w1, call_pure pure_97, hrow0, hgt, call_pure pure_103, hsb, hns, build40z, store40, Nat.le_refl, hk]
                rfl
            | some n =>
              obtain ⟨hn1, hn2⟩ := tagL_le ht
              rw [ht] at htg
              simp only [Option.map_some, optI] at htg
              have hm : ((0 : Int) < ((n + a : Nat) : Int)) := by omega
              have hdl := hdol n hn1 (by omega)
              rw [Nat.add_comm a n] at hdl
              cases hd : addQ [] n (dolL (r.take n) (r.drop n)) with
              | none =>
                rw [hd] at hdl
                simp only [Option.map_none] at hdl
                have hm2 : ((-1 : Int) < 0) := by omega
                simp only [go_sem, Nat.reduceEqDiff, reduceCtorEq, Nat.reduceAdd, Nat.reduceSub, Nat.reduceLT, Nat.reduceLeDiff, Int.reduceAdd, Int.reduceSub, Int.reduceNeg, Int.reduceEq, Int.reduceLT, Int.reduceLE, bx, K68, ia, call_pure pure_96, call_pure pure_99, hlt, hdg, b1', b2', e34, b3', e39, b4', e36, b5', call_pure pure_101, htg, hm, call_pure pure_102, hdl, hm2, build40z, store40, Nat.le_refl]
                rw [hd]
                rfl
              | some x =>
                obtain ⟨t, k⟩ := x
                have hk1 : 1 ≤ k := by
                  cases hdd : dolL (r.take n) (r.drop n) with
                  | none => rw [hdd] at hd; cases hd
                  | some y => rw [hdd] at hd; simp only [addQ, Option.map_some, Option.some.injEq, Prod.mk.injEq] at hd; omega
                rw [hd] at hdl
                simp only [Option.map_some] at hdl
                have hm2 : ¬ (((k + a : Nat) : Int) < 0) := by omega
                simp only [go_sem, Nat.reduceEqDiff, reduceCtorEq, Nat.reduceAdd, Nat.reduceSub, Nat.reduceLT, Nat.reduceLeDiff, Int.reduceAdd, Int.reduceSub, Int.reduceNeg, Int.reduceEq, Int.reduceLT, Int.reduceLE, bx, K68, ia, call_pure pure_96, call_pure pure_99, hlt, hdg, b1', b2', e34, b3', e39, b4', e36, b5', call_pure pure_101, htg, hm, call_pure pure_102, hdl, hm2, build40p, store40, Nat.le_refl]
                rw [hd]
                unfold one4 quo1
                rw [if_neg (by simp only; omega), if_neg (by simp only; omega)]
                rw [show ((k + a : Nat) : Int) = (a : Int) + (k : Int) by omega]
                rfl
        · have b4' : (byteAt r 0 == UInt8.ofNat 39) = true := b4
          cases hd : addQ [] 1 (quoL (byteAt r 0) (r.drop 1)) with
          | none =>
            rw [hd] at hq
            simp only [Option.map_none] at hq
            have hm2 : ((-1 : Int) < 0) := by omega
            simp only [go_sem, Nat.reduceEqDiff, reduceCtorEq, Nat.reduceAdd, Nat.reduceSub, Nat.reduceLT, Nat.reduceLeDiff, Int.reduceAdd, Int.reduceSub, Int.reduceNeg, Int.reduceEq, Int.reduceLT, Int.reduceLE, bx, K68, ia, call_pure pure_96, call_pure pure_99, hlt, hdg, b1', b2', e34, b3', e39, b4', call_pure pure_100, hq, hm2, build40z, store40, Nat.le_refl]
            rfl
          | some x =>
            obtain ⟨t, k⟩ := x
            have hk1 : 1 ≤ k := by
              cases hdd : quoL (byteAt r 0) (r.drop 1) with
              | none => rw [hdd] at hd; cases hd
              | some y => rw [hdd] at hd; simp only [addQ, Option.map_some, Option.some.injEq, Prod.mk.injEq] at hd; omega
            rw [hd] at hq
            simp only [Option.map_some] at hq
            have hm2 : ¬ (((k + a : Nat) : Int) < 0) := by omega
            simp only [go_sem, Nat.reduceEqDiff, reduceCtorEq, Nat.reduceAdd, Nat.reduceSub, Nat.reduceLT, Nat.reduceLeDiff, Int.reduceAdd, Int.reduceSub, Int.reduceNeg, Int.reduceEq, Int.reduceLT, Int.reduceLE, bx, K68, ia, call_pure pure_96, call_pure pure_99, hlt, hdg, b1', b2', e34, b3', e39, b4', call_pure pure_100, hq, hm2, build40p, store40, Nat.le_refl]
            unfold one4 quo1
            rw [if_neg (by simp only; omega), if_neg (by simp only; omega)]
            rw [show ((k + a : Nat) : Int) = (a : Int) + (k : Int) by omega]
            rfl
      · have b3' : (byteAt r 0 == UInt8.ofNat 34) = true := b3
        cases hd : addQ [] 1 (quoL (byteAt r 0) (r.drop 1)) with
        | none =>
          rw [hd] at hq
          simp only [Option.map_none] at hq
          have hm2 : ((-1 : Int) < 0) := by omega
          simp only [go_sem, Nat.reduceEqDiff, reduceCtorEq, Nat.reduceAdd, Nat.reduceSub, Nat.reduceLT, Nat.reduceLeDiff, Int.reduceAdd, Int.reduceSub, Int.reduceNeg, Int.reduceEq, Int.reduceLT, Int.reduceLE, bx, K68, ia, call_pure pure_96, call_pure pure_99, hlt, hdg, b1', b2', e34, b3', call_pure pure_100, hq, hm2, build40z, store40, Nat.le_refl]
          rfl
        | some x =>
          obtain ⟨t, k⟩ := x
          have hk1 : 1 ≤ k := by
            cases hdd : quoL (byteAt r 0) (r.drop 1) with
            | none => rw [hdd] at hd; cases hd
            | some y => rw [hdd] at hd; simp only [addQ, Option.map_some, Option.some.injEq, Prod.mk.injEq] at hd; omega
          rw [hd] at hq
          simp only [Option.map_some] at hq
          have hm2 : ¬ (((k + a : Nat) : Int) < 0) := by omega
          simp only [go_sem, Nat.reduceEqDiff, reduceCtorEq, Nat.reduceAdd, Nat.reduceSub, Nat.reduceLT, Nat.reduceLeDiff, Int.reduceAdd, Int.reduceSub, Int.reduceNeg, Int.reduceEq, Int.reduceLT, Int.reduceLE, bx, K68, ia, call_pure pure_96, call_pure pure_99, hlt, hdg, b1', b2', e34, b3', call_pure pure_100, hq, hm2, build40p, store40, Nat.le_refl]
          unfold one4 quo1
          rw [if_neg (by simp only; omega), if_neg (by simp only; omega)]
          rw [show ((k + a : Nat) : Int) = (a : Int) + (k : Int) by omega]
          rfl
    · have b2' : digitI ((byteAt r 0).toNat : Int) = true := b2
      have hr4 := hrow 4
      rw [rowP_num] at hr4
      have sl := fun H => hsl (runL numB r) (by rw [← hrl]; exact runL_le _ _) H
      rw [take_runL] at sl
      have hpos : 1 ≤ runL numB r := runL_pos (by unfold numB; rw [b2]; rfl) (by omega)
      simp only [go_sem, Nat.reduceEqDiff, reduceCtorEq, Nat.reduceAdd, Nat.reduceSub, Nat.reduceLT, Nat.reduceLeDiff, Int.reduceAdd, Int.reduceSub, Int.reduceNeg, Int.reduceEq, Int.reduceLT, Int.reduceLE, bx, K68, ia, call_pure pure_96, call_pure pure_99, hlt, hdg, b1', b2', call_pure pure_97, hr4, sl, build40p, store40, Nat.le_refl]
      unfold one4
      rw [if_neg (by simp only; omega), if_neg (by simp only; omega)]
      rw [show ((a + runL numB r : Nat) : Int) = (a : Int) + ((runL numB r : Nat) : Int) by omega]
      rfl
  · have b1' : letterI ((byteAt r 0).toNat : Int) = true := b1
    have hr1 := hrow 1
    rw [rowP_word] at hr1
    have sl := fun H => hsl (runL wordB r) (by rw [← hrl]; exact runL_le _ _) H
    rw [take_runL] at sl
    have hpos : 1 ≤ runL wordB r := runL_pos (by unfold wordB; rw [b1]; rfl) (by omega)
    have hsm := p_small4 (r.takeWhile wordB) (Nat.le_trans (List.takeWhile_sublist _).length_le (by omega))
    simp only [go_sem, Nat.reduceEqDiff, reduceCtorEq, Nat.reduceAdd, Nat.reduceSub, Nat.reduceLT, Nat.reduceLeDiff, Int.reduceAdd, Int.reduceSub, Int.reduceNeg, Int.reduceEq, Int.reduceLT, Int.reduceLE, bx, K68, ia, call_pure pure_96, hlt, b1', call_pure pure_97, hr1, sl, call_pure pure_98, hsm, build40p, store40, Nat.le_refl]
    unfold one4
    rw [if_neg (by simp only; omega), if_neg (by simp only; omega)]
    rw [show ((a + runL wordB r : Nat) : Int) = (a : Int) + ((runL wordB r : Nat) : Int) by omega]
    rfl
end Go.Proofs
/- The sets' layer: texts cut into tokens, plain, and by the lexer. -/

set_option linter.unusedSimpArgs false
set_option linter.unusedVariables false
namespace Go.Proofs
open Go.Vam
def spaceB (b : UInt8) : Bool := b == 32 || (b == 9 || (b == 10 || (b == 12 || b == 13)))
def scanN : Nat → List UInt8 → Nat → List Tok → List Tok × Int × Nat
  | 0, _, _, out => (out, 0, 0)
  | n + 1, r, a, out =>
    if r.length = 0 then (out, 0, 0) else
    if spaceB (byteAt r 0) then scanN n (r.drop 1) (a + 1) out else
    if [45, 45].isPrefixOf r then scanN n (r.drop (runL notLf r)) (a + runL notLf r) out else
    if [47, 42].isPrefixOf r then (match remL r with
      | some k => scanN n (r.drop k) (a + k) out
      | none => ([], 6, a)) else
    if (oneL r).2.2 = -1 then ([], 6, a) else
    if (oneL r).2.2 = 0 then ([], 7, a) else
    scanN n (r.drop (oneL r).2.2.toNat) (a + (oneL r).2.2.toNat) (out ++ [⟨(oneL r).1, (oneL r).2.1, a⟩])
def scanF (r : List UInt8) (a : Nat) (out : List Tok) : List Tok × Int × Nat := scanN r.length r a out
def scanL (s : List UInt8) : List Tok × Int × Nat := if 2000 < s.length then ([], 2, 2000) else scanF s 0 []
theorem pre2 {x y : UInt8} {r : List UInt8} (h : [x, y].isPrefixOf r = true) : 2 ≤ r.length ∧ byteAt r 0 = x ∧ byteAt r 1 = y := by
  match r, h with
  | [], h => cases h
  | [a], h =>
    rw [List.isPrefixOf_cons_cons] at h
    simp at h
  | a :: b :: r, h =>
    rw [List.isPrefixOf_cons_cons, List.isPrefixOf_cons_cons] at h
    simp only [Bool.and_eq_true, beq_iff_eq] at h
    exact ⟨by simp, h.1.symm, h.2.1.symm⟩
theorem run_pos {r : List UInt8} (h : [45, 45].isPrefixOf r = true) : 1 ≤ runL notLf r := by
  obtain ⟨h1, h2, _⟩ := pre2 h
  exact runL_pos (by rw [h2]; rfl) (by omega)
theorem remN_pos : ∀ (n : Nat) (r : List UInt8) (d : Int) (k : Nat), remN n r d = some k → 1 ≤ k ∧ k ≤ r.length
  | 0, r, d, k, h => by cases h
  | n + 1, r, d, k, h => by
    unfold remN at h
    split at h
    · cases h
    · rename_i h0
      have one : ∀ {m : Nat} {o : Option Nat} {r' : List UInt8}, (∀ k, o = some k → 1 ≤ k ∧ k ≤ r'.length) → r'.length + m ≤ r.length → 1 ≤ m → o.map (· + m) = some k → 1 ≤ k ∧ k ≤ r.length := by
        intro m o r' ho hr hm h
        cases o with
        | none => cases h
        | some x =>
          have := ho x rfl
          simp only [Option.map_some, Option.some.injEq] at h
          omega
      split at h
      · rename_i hp
        have := pre_len hp
        simp only [List.length_cons, List.length_nil] at this
        exact one (fun k => remN_pos n _ _ k) (by simp only [List.length_drop]; omega) (by omega) h
      · split at h
        · rename_i hp
          have := pre_len hp
          simp only [List.length_cons, List.length_nil] at this
          split at h
          · cases h
            omega
          · exact one (fun k => remN_pos n _ _ k) (by simp only [List.length_drop]; omega) (by omega) h
        · exact one (fun k => remN_pos n _ _ k) (by simp only [List.length_drop]; omega) (by omega) h
theorem rem_pos {r : List UInt8} {k : Nat} (h : remL r = some k) : 1 ≤ k ∧ k ≤ r.length := remN_pos _ _ _ _ h
theorem quoL_len {q : UInt8} : ∀ {r : List UInt8} {x : List UInt8 × Nat}, quoL q r = some x → x.2 ≤ r.length
  | [], x, h => by cases h
  | [c], x, h => by
    unfold quoL at h
    split at h
    · cases h; exact Nat.le_refl _
    · cases h
  | c :: c2 :: r, x, h => by
    unfold quoL at h
    split at h
    · split at h
      · cases hq : quoL q r with
        | none => rw [hq] at h; cases h
        | some y =>
          have := quoL_len hq
          rw [hq] at h
          cases h
          simp only [List.length_cons]
          omega
      · cases h
        simp
    · cases hq : quoL q (c2 :: r) with
      | none => rw [hq] at h; cases h
      | some y =>
        have := quoL_len hq
        rw [hq] at h
        cases h
        simp only [List.length_cons] at this ⊢
        omega
theorem dolL_len {t : List UInt8} : ∀ {r : List UInt8} {x : List UInt8 × Nat}, dolL t r = some x → x.2 ≤ r.length
  | [], x, h => by cases h
  | c :: r, x, h => by
    unfold dolL at h
    split at h
    · rename_i hp
      cases h
      exact pre_len hp
    · cases hq : dolL t r with
      | none => rw [hq] at h; cases h
      | some y =>
        have := dolL_len hq
        rw [hq] at h
        cases h
        simp only [List.length_cons]
        omega
/-- A token is as long as it says; its text is not longer than what is left. -/
theorem one_len {r : List UInt8} (h1 : 1 ≤ r.length) : (oneL r).2.2 = -1 ∨ (0 ≤ (oneL r).2.2 ∧ (oneL r).2.2 ≤ r.length) := by
  have quo : ∀ (k : Int) (n : Nat) (o : Option (List UInt8 × Nat)) (m : Nat), n + m ≤ r.length → (∀ x, o = some x → x.2 ≤ m) → (quo1 k (addQ [] n o)).2.2 = -1 ∨ (0 ≤ (quo1 k (addQ [] n o)).2.2 ∧ (quo1 k (addQ [] n o)).2.2 ≤ r.length) := by
    intro k n o m hm ho
    cases o with
    | none => exact .inl rfl
    | some x =>
      have := ho x rfl
      refine .inr ⟨?_, ?_⟩ <;> simp only [addQ, Option.map_some, quo1] <;> omega
  unfold oneL
  split
  · have := runL_le wordB r
    right; constructor <;> simp only <;> omega
  · split
    · have := runL_le numB r
      right; constructor <;> simp only <;> omega
    · split
      · exact quo _ _ _ (r.length - 1) (by omega) fun x hx => by have := quoL_len hx; simpa using this
      · split
        · exact quo _ _ _ (r.length - 1) (by omega) fun x hx => by have := quoL_len hx; simpa using this
        · split
          · rename_i n hn
            have : n ≤ r.length := by
              split at hn
              · exact (tagL_le hn).2
              · cases hn
            exact quo _ _ _ (r.length - n) (by omega) fun x hx => by have := dolL_len hx; simpa using this
          · have := signL_le r h1
            right; constructor <;> simp only <;> omega
theorem scan_fuel : ∀ (n m : Nat) (r : List UInt8) (a : Nat) (out : List Tok), r.length ≤ n → r.length ≤ m → scanN n r a out = scanN m r a out
  | 0, 0, r, a, out, _, _ => rfl
  | 0, m + 1, r, a, out, h1, _ => by
    unfold scanN
    rw [if_pos (by omega)]
  | n + 1, 0, r, a, out, _, h2 => by
    unfold scanN
    rw [if_pos (by omega)]
  | n + 1, m + 1, r, a, out, h1, h2 => by
    unfold scanN
    by_cases h0 : r.length = 0
    · rw [if_pos h0, if_pos h0]
    · rw [if_neg h0, if_neg h0]
      have go : ∀ k a out, 1 ≤ k → scanN n (r.drop k) a out = scanN m (r.drop k) a out := fun k a out hk => scan_fuel n m _ a out (by simp only [List.length_drop]; omega) (by simp only [List.length_drop]; omega)
      split
      · exact go 1 _ _ (Nat.le_refl _)
      · split
        · rename_i hp
          exact go _ _ _ (run_pos hp)
        · split
          · cases hk : remL r with
            | none => rfl
            | some k => exact go _ _ _ (rem_pos hk).1
          · split
            · rfl
            · split
              · rfl
              · rename_i hm hz
                have := one_len (r := r) (by omega)
                exact go _ _ _ (by omega)
theorem scan_eq {r : List UInt8} {n a : Nat} {out : List Tok} (h : r.length ≤ n) : scanN n r a out = scanF r a out := scan_fuel _ _ _ _ _ h (Nat.le_refl _)
/-- One round. -/
theorem scanF_eq (r : List UInt8) (a : Nat) (out : List Tok) : scanF r a out =
    if r.length = 0 then (out, 0, 0) else
    if spaceB (byteAt r 0) then scanF (r.drop 1) (a + 1) out else
    if [45, 45].isPrefixOf r then scanF (r.drop (runL notLf r)) (a + runL notLf r) out else
    if [47, 42].isPrefixOf r then (match remL r with
      | some k => scanF (r.drop k) (a + k) out
      | none => ([], 6, a)) else
    if (oneL r).2.2 = -1 then ([], 6, a) else
    if (oneL r).2.2 = 0 then ([], 7, a) else
    scanF (r.drop (oneL r).2.2.toNat) (a + (oneL r).2.2.toNat) (out ++ [⟨(oneL r).1, (oneL r).2.1, a⟩]) := by
  rw [← scan_eq (n := r.length + 1) (Nat.le_succ _), scanN]
  by_cases h0 : r.length = 0
  · rw [if_pos h0, if_pos h0]
  · rw [if_neg h0, if_neg h0]
    have go : ∀ k a out, scanN r.length (r.drop k) a out = scanF (r.drop k) a out := fun k a out => scan_eq (by simp only [List.length_drop]; omega)
    simp only [go]
theorem tok_pos (H : AHeap) (t : Tok) (p : Int) : astore Try.prog 3 (.ptr H.length 0 2) (.int .i64 p) (H ++ [.arr 40 true 0 [[.int .i64 t.kind, .str t.text, .int .i64 t.pos]]]) = some (H ++ [.arr 40 true 0 [[.int .i64 t.kind, .str t.text, .int .i64 p]]]) := by
  have e : (H ++ [AO.arr 40 true 0 [[.int .i64 t.kind, .str t.text, .int .i64 t.pos]]])[H.length]? = some (.arr 40 true 0 [[.int .i64 t.kind, .str t.text, .int .i64 t.pos]]) := by simp
  unfold astore
  simp only [e]
  have e2 : ([[AV.int .i64 t.kind, .str t.text, .int .i64 t.pos]] : List (List AV))[0]? = some [.int .i64 t.kind, .str t.text, .int .i64 t.pos] := rfl
  simp only [e2]
  rw [if_pos ⟨Nat.le_refl _, szOf_3, rfl, Nat.le_of_ble_eq_true rfl⟩]
  simp [AV.cells]
def scanR (x : List Tok × Int × Nat) : AV := .tup [.sl (toks x.1), .int .i64 x.2.1, .int .i64 (x.2.2 : Int)]
theorem frz_scan {H : AHeap} {v : AV} {l : List Tok} (ho : Own 40 H v (toks l)) (e p : Int) : frz depth H (.tup [v, .int .i64 e, .int .i64 p]) = some (.tup [.sl (toks l), .int .i64 e, .int .i64 p]) := by
  have hf : frz 7 H v = some (.sl (toks l)) := by
    rcases ho with ⟨rfl, h⟩ | ⟨id, rfl, h⟩
    · rw [h]; rfl
    · simp only [frz]
      rw [h]
      simp only
      rw [if_pos (by omega)]
      simp only [List.drop_zero, List.take_length]
      rw [frz_toks H l 5]
      rfl
  simp only [depth, frz, mapO, hf, Option.map_some]
theorem p_scan (s : List UInt8) (hs : s.length ≤ 10000000) : PV 37 [.str s] = some (scanR (scanL s)) := by
  refine PV_start k37 rfl (Nat.le_of_ble_eq_true rfl) ?_
  unfold scanL
  by_cases hb : 2000 < s.length
  · have hd : ((2000 : Int) < (s.length : Int)) := by omega
    rw [if_pos hb]
    simp only [go_sem, Nat.reduceEqDiff, reduceCtorEq, Nat.reduceAdd, Nat.reduceSub, Nat.reduceLT, Nat.reduceLeDiff, Int.reduceAdd, Int.reduceSub, Int.reduceNeg, Int.reduceEq, Int.reduceLT, Int.reduceLE, bx, K37, hd]
    rfl
  · have hd : ¬ ((2000 : Int) < (s.length : Int)) := by omega
    rw [if_neg hb]
    simp only [go_sem, Nat.reduceEqDiff, reduceCtorEq, Nat.reduceAdd, Nat.reduceSub, Nat.reduceLT, Nat.reduceLeDiff, Int.reduceAdd, Int.reduceSub, Int.reduceNeg, Int.reduceEq, Int.reduceLT, Int.reduceLE, bx, K37, hd]
    generalize hR : scanF s 0 [] = R
    refine C_while (fun n st H => ∃ (i : Nat) (out : List Tok), n = s.length - i ∧ out.length ≤ i ∧ i ≤ s.length ∧ scanF (s.drop i) i out = R ∧ st 0 = .str s ∧ st 6 = .int .i64 (i : Int) ∧ Own 40 H (st 5) (toks out)) ?_ s.length _ _
      ⟨0, [], rfl, Nat.zero_le _, Nat.zero_le _, hR, by simp only [go_sem, Nat.reduceEqDiff, reduceCtorEq, Nat.reduceAdd, Nat.reduceSub, Nat.reduceLT, Nat.reduceLeDiff, Int.reduceAdd, Int.reduceSub, Int.reduceNeg, Int.reduceEq, Int.reduceLT, Int.reduceLE, bx], by simp only [go_sem, Nat.reduceEqDiff, reduceCtorEq, Nat.reduceAdd, Nat.reduceSub, Nat.reduceLT, Nat.reduceLeDiff, Int.reduceAdd, Int.reduceSub, Int.reduceNeg, Int.reduceEq, Int.reduceLT, Int.reduceLE, bx]; rfl, .inl ⟨by simp only [go_sem, Nat.reduceEqDiff, reduceCtorEq, Nat.reduceAdd, Nat.reduceSub, Nat.reduceLT, Nat.reduceLeDiff, Int.reduceAdd, Int.reduceSub, Int.reduceNeg, Int.reduceEq, Int.reduceLT, Int.reduceLE, bx], rfl⟩⟩
    clear hR hd
    rintro n st H ⟨i, out, rfl, hol, hi, hR, s0, s6, ho⟩
    generalize hv : st 5 = v at ho
    by_cases hlt : i < s.length
    · have hd : ((i : Int) < (s.length : Int)) := by omega
      have ii := idx9 hlt
      have hsl := slice_from s i (by omega) H
      have hrl : (s.drop i).length = s.length - i := List.length_drop
      have hb0 : byteAt s i = byteAt (s.drop i) 0 := (byteAt_drop s i 0).symm
      rw [hb0] at ii
      have wk : ∀ k : Nat, k ≤ s.length - i → IntKind.i64.wrap ((i : Int) + (k : Int)) = ((i + k : Nat) : Int) := fun k hk => by rw [wrap_ok] <;> omega
      have next : ∀ (k : Nat) (out' : List Tok) (H' : AHeap) (v' : AV), 1 ≤ k → k ≤ s.length - i → out'.length ≤ i + k → scanF ((s.drop i).drop k) (i + k) out' = R → Own 40 H' v' (toks out') → ∃ m, m < s.length - i ∧ ∃ (j : Nat) (o : List Tok), m = s.length - j ∧ o.length ≤ j ∧ j ≤ s.length ∧ scanF (s.drop j) j o = R ∧ AV.int IntKind.i64 ((i + k : Nat) : Int) = AV.int IntKind.i64 (j : Int) ∧ Own 40 H' v' (toks o) :=
        fun k out' H' v' h1 h2 h3 h4 h5 => ⟨s.length - (i + k), by omega, i + k, out', rfl, h3, by omega, by rw [List.drop_drop] at h4; exact h4, rfl, h5⟩
      rw [scanF_eq, if_neg (by omega)] at hR
      have e32 := u8_lit (byteAt (s.drop i) 0) 32 (by decide)
      have e9 := u8_lit (byteAt (s.drop i) 0) 9 (by decide)
      have e10 := u8_lit (byteAt (s.drop i) 0) 10 (by decide)
      have e12 := u8_lit (byteAt (s.drop i) 0) 12 (by decide)
      have e13 := u8_lit (byteAt (s.drop i) 0) 13 (by decide)
      simp only [Int.cast_ofNat_Int] at e32 e9 e10 e12 e13
      have w1 := wk 1 (by omega)
      simp only [Int.cast_ofNat_Int] at w1
      have hbg := fun h => p_begins (s.drop i) h
      have hrun := p_run (g := 63) (q := notLf) rfl p_notLf (s.drop i) (by omega)
      have hrle := runL_le notLf (s.drop i)
      have wr := wk (runL notLf (s.drop i)) (by omega)
      have hrem := p_remark (s.drop i) (by omega)
      have hone := p_one (s.drop i) (by omega) (by omega)
      have hol2 := one_len (r := s.drop i) (by omega)
      generalize hr : s.drop i = r at *
      cases c32 : (byteAt r 0 == UInt8.ofNat 32)
      rotate_left
      · have hsp : spaceB (byteAt r 0) = true := by
          have e : (byteAt r 0 == 32) = true := c32
          unfold spaceB
          simp only [e, Bool.or_true, Bool.true_or]
        rw [hsp, if_pos rfl] at hR
        simp only [go_sem, Nat.reduceEqDiff, reduceCtorEq, Nat.reduceAdd, Nat.reduceSub, Nat.reduceLT, Nat.reduceLeDiff, Int.reduceAdd, Int.reduceSub, Int.reduceNeg, Int.reduceEq, Int.reduceLT, Int.reduceLE, bx, L37_0, s0, s6, hv, hd, hsl, ii, e32, c32, w1]
        exact next 1 out _ _ (Nat.le_refl _) (by omega) (by omega) hR ho
      cases c9 : (byteAt r 0 == UInt8.ofNat 9)
      rotate_left
      · have hsp : spaceB (byteAt r 0) = true := by
          have e : (byteAt r 0 == 9) = true := c9
          unfold spaceB
          simp only [e, Bool.or_true, Bool.true_or]
        rw [hsp, if_pos rfl] at hR
        simp only [go_sem, Nat.reduceEqDiff, reduceCtorEq, Nat.reduceAdd, Nat.reduceSub, Nat.reduceLT, Nat.reduceLeDiff, Int.reduceAdd, Int.reduceSub, Int.reduceNeg, Int.reduceEq, Int.reduceLT, Int.reduceLE, bx, L37_0, s0, s6, hv, hd, hsl, ii, e32, c32, e9, c9, w1]
        exact next 1 out _ _ (Nat.le_refl _) (by omega) (by omega) hR ho
      cases c10 : (byteAt r 0 == UInt8.ofNat 10)
      rotate_left
      · have hsp : spaceB (byteAt r 0) = true := by
          have e : (byteAt r 0 == 10) = true := c10
          unfold spaceB
          simp only [e, Bool.or_true, Bool.true_or]
        rw [hsp, if_pos rfl] at hR
        simp only [go_sem, Nat.reduceEqDiff, reduceCtorEq, Nat.reduceAdd, Nat.reduceSub, Nat.reduceLT, Nat.reduceLeDiff, Int.reduceAdd, Int.reduceSub, Int.reduceNeg, Int.reduceEq, Int.reduceLT, Int.reduceLE, bx, L37_0, s0, s6, hv, hd, hsl, ii, e32, c32, e9, c9, e10, c10, w1]
        exact next 1 out _ _ (Nat.le_refl _) (by omega) (by omega) hR ho
      cases c12 : (byteAt r 0 == UInt8.ofNat 12)
      rotate_left
      · have hsp : spaceB (byteAt r 0) = true := by
          have e : (byteAt r 0 == 12) = true := c12
          unfold spaceB
          simp only [e, Bool.or_true, Bool.true_or]
        rw [hsp, if_pos rfl] at hR
        simp only [go_sem, Nat.reduceEqDiff, reduceCtorEq, Nat.reduceAdd, Nat.reduceSub, Nat.reduceLT, Nat.reduceLeDiff, Int.reduceAdd, Int.reduceSub, Int.reduceNeg, Int.reduceEq, Int.reduceLT, Int.reduceLE, bx, L37_0, s0, s6, hv, hd, hsl, ii, e32, c32, e9, c9, e10, c10, e12, c12, w1]
        exact next 1 out _ _ (Nat.le_refl _) (by omega) (by omega) hR ho
      cases c13 : (byteAt r 0 == UInt8.ofNat 13)
      rotate_left
      · have hsp : spaceB (byteAt r 0) = true := by
          have e : (byteAt r 0 == 13) = true := c13
          unfold spaceB
          simp only [e, Bool.or_true, Bool.true_or]
        rw [hsp, if_pos rfl] at hR
        simp only [go_sem, Nat.reduceEqDiff, reduceCtorEq, Nat.reduceAdd, Nat.reduceSub, Nat.reduceLT, Nat.reduceLeDiff, Int.reduceAdd, Int.reduceSub, Int.reduceNeg, Int.reduceEq, Int.reduceLT, Int.reduceLE, bx, L37_0, s0, s6, hv, hd, hsl, ii, e32, c32, e9, c9, e10, c10, e12, c12, e13, c13, w1]
        exact next 1 out _ _ (Nat.le_refl _) (by omega) (by omega) hR ho
      have hsp : spaceB (byteAt r 0) = false := by
        have d32 : (byteAt r 0 == 32) = false := c32
        have d9 : (byteAt r 0 == 9) = false := c9
        have d10 : (byteAt r 0 == 10) = false := c10
        have d12 : (byteAt r 0 == 12) = false := c12
        have d13 : (byteAt r 0 == 13) = false := c13
        unfold spaceB
        rw [d32, d9, d10, d12, d13]
        rfl
      rw [hsp, if_neg (by simp)] at hR
      cases b1 : [45, 45].isPrefixOf r
      rotate_left
      · rw [b1, if_pos rfl] at hR
        simp only [go_sem, Nat.reduceEqDiff, reduceCtorEq, Nat.reduceAdd, Nat.reduceSub, Nat.reduceLT, Nat.reduceLeDiff, Int.reduceAdd, Int.reduceSub, Int.reduceNeg, Int.reduceEq, Int.reduceLT, Int.reduceLE, bx, L37_0, s0, s6, hv, hd, hsl, ii, e32, c32, e9, c9, e10, c10, e12, c12, e13, c13, call_pure pure_61, hbg, b1, call_pure pure_62, hrun, wr]
        exact next _ out _ _ (run_pos b1) (by omega) (by omega) hR ho
      rw [b1, if_neg (by simp)] at hR
      cases b2 : [47, 42].isPrefixOf r
      rotate_left
      · rw [b2, if_pos rfl] at hR
        cases hk : remL r with
        | none =>
          rw [hk] at hR hrem
          simp only [optI] at hrem
          simp only at hR
          have hm : decide ((-1 : Int) = -1) = true := rfl
          rw [← hR]
          simp only [go_sem, Nat.reduceEqDiff, reduceCtorEq, Nat.reduceAdd, Nat.reduceSub, Nat.reduceLT, Nat.reduceLeDiff, Int.reduceAdd, Int.reduceSub, Int.reduceNeg, Int.reduceEq, Int.reduceLT, Int.reduceLE, bx, L37_0, s0, s6, hv, hd, hsl, ii, e32, c32, e9, c9, e10, c10, e12, c12, e13, c13, call_pure pure_61, hbg, b1, b2, call_pure pure_64, hrem, hm]
          rfl
        | some k =>
          obtain ⟨k1, k2⟩ := rem_pos hk
          rw [hk] at hR hrem
          simp only [optI] at hrem
          simp only at hR
          have hm : decide ((k : Int) = -1) = false := decide_eq_false (by omega)
          have wk' := wk k (by omega)
          simp only [go_sem, Nat.reduceEqDiff, reduceCtorEq, Nat.reduceAdd, Nat.reduceSub, Nat.reduceLT, Nat.reduceLeDiff, Int.reduceAdd, Int.reduceSub, Int.reduceNeg, Int.reduceEq, Int.reduceLT, Int.reduceLE, bx, L37_0, s0, s6, hv, hd, hsl, ii, e32, c32, e9, c9, e10, c10, e12, c12, e13, c13, call_pure pure_61, hbg, b1, b2, call_pure pure_64, hrem, hm, wk']
          exact next k out _ _ k1 (by omega) (by omega) hR ho
      rw [b2, if_neg (by simp)] at hR
      generalize oneL r = x at *
      obtain ⟨kd, tx, n⟩ := x
      simp only at hR hone hol2
      have hput := tok_put H ⟨kd, tx, 0⟩
      have hpos := tok_pos H ⟨kd, tx, 0⟩ (i : Int)
      have hgot := tok_got H ⟨kd, tx, 0⟩
      have hgot2 := tok_got H ⟨kd, tx, (i : Int)⟩
      obtain ⟨v1, H1, e1, o1, -⟩ := append_tok ⟨kd, tx, (i : Int)⟩ (ho.lt (.arr 40 true 0 [tok ⟨kd, tx, (i : Int)⟩])) (by omega)
      have hbs := bs_tok1 ⟨kd, tx, (i : Int)⟩ (H ++ [.arr 40 true 0 [tok ⟨kd, tx, (i : Int)⟩]])
      simp only [tok] at hput hpos hgot hgot2 e1 hbs
      by_cases hm : n = -1
      · rw [if_pos hm] at hR
        rw [← hR]
        simp only [go_sem, Nat.reduceEqDiff, reduceCtorEq, Nat.reduceAdd, Nat.reduceSub, Nat.reduceLT, Nat.reduceLeDiff, Int.reduceAdd, Int.reduceSub, Int.reduceNeg, Int.reduceEq, Int.reduceLT, Int.reduceLE, bx, L37_0, s0, s6, hv, hd, hsl, ii, e32, c32, e9, c9, e10, c10, e12, c12, e13, c13, call_pure pure_61, hbg, b1, b2, call_pure pure_65, hone, PC_still, hput, decide_eq_true hm]
        rfl
      · rw [if_neg hm] at hR
        by_cases hz : n = 0
        · rw [if_pos hz] at hR
          rw [← hR]
          simp only [go_sem, Nat.reduceEqDiff, reduceCtorEq, Nat.reduceAdd, Nat.reduceSub, Nat.reduceLT, Nat.reduceLeDiff, Int.reduceAdd, Int.reduceSub, Int.reduceNeg, Int.reduceEq, Int.reduceLT, Int.reduceLE, bx, L37_0, s0, s6, hv, hd, hsl, ii, e32, c32, e9, c9, e10, c10, e12, c12, e13, c13, call_pure pure_61, hbg, b1, b2, call_pure pure_65, hone, PC_still, hput, decide_eq_false hm, decide_eq_true hz]
          rfl
        · rw [if_neg hz] at hR
          obtain ⟨k, rfl⟩ := Int.eq_ofNat_of_zero_le (by omega : 0 ≤ n)
          rw [Int.toNat_natCast] at hR
          have wk' := wk k (by omega)
          simp only [go_sem, Nat.reduceEqDiff, reduceCtorEq, Nat.reduceAdd, Nat.reduceSub, Nat.reduceLT, Nat.reduceLeDiff, Int.reduceAdd, Int.reduceSub, Int.reduceNeg, Int.reduceEq, Int.reduceLT, Int.reduceLE, bx, L37_0, s0, s6, hv, hd, hsl, ii, e32, c32, e9, c9, e10, c10, e12, c12, e13, c13, call_pure pure_61, hbg, b1, b2, call_pure pure_65, hone, PC_still, hput, decide_eq_false hm, decide_eq_false hz, hgot, hpos, hgot2, Nat.le_refl, hbs, bi_append, e1, wk']
          exact next k (out ++ [⟨kd, tx, (i : Int)⟩]) _ _ (by omega) (by omega) (by simp only [List.length_append, List.length_cons, List.length_nil]; omega) hR o1
    · have hd : ¬ ((i : Int) < (s.length : Int)) := by omega
      rw [scanF_eq, if_pos (by simp only [List.length_drop]; omega)] at hR
      rw [← hR]
      simp only [go_sem, Nat.reduceEqDiff, reduceCtorEq, Nat.reduceAdd, Nat.reduceSub, Nat.reduceLT, Nat.reduceLeDiff, Int.reduceAdd, Int.reduceSub, Int.reduceNeg, Int.reduceEq, Int.reduceLT, Int.reduceLE, bx, L37_0, s0, s6, hv, hd]
      exact frz_scan ho 0 0
end Go.Proofs
/- The sets' layer: the reference's cut of a text into tokens. -/

set_option linter.unusedSimpArgs false
set_option linter.unusedVariables false
namespace Go.Proofs
open Go.Vam
def addG (k : Nat) (x : Nat × Bool) : Nat × Bool := (x.1 + k, x.2)
def gapN : Nat → List UInt8 → Nat × Bool
  | 0, _ => (0, false)
  | n + 1, r =>
    if r.length = 0 then (0, false) else
    if spaceB (byteAt r 0) then addG 1 (gapN n (r.drop 1)) else
    if [45, 45].isPrefixOf r then addG (runL notLf r) (gapN n (r.drop (runL notLf r))) else
    if [47, 42].isPrefixOf r then (match remL r with
      | some k => addG k (gapN n (r.drop k))
      | none => (0, true)) else (0, false)
def gapF (r : List UInt8) : Nat × Bool := gapN r.length r
theorem gap_fuel : ∀ (n m : Nat) (r : List UInt8), r.length ≤ n → r.length ≤ m → gapN n r = gapN m r
  | 0, 0, r, _, _ => rfl
  | 0, m + 1, r, h1, _ => by
    unfold gapN
    rw [if_pos (by omega)]
  | n + 1, 0, r, _, h2 => by
    unfold gapN
    rw [if_pos (by omega)]
  | n + 1, m + 1, r, h1, h2 => by
    unfold gapN
    by_cases h0 : r.length = 0
    · rw [if_pos h0, if_pos h0]
    · rw [if_neg h0, if_neg h0]
      have go : ∀ k, 1 ≤ k → gapN n (r.drop k) = gapN m (r.drop k) := fun k hk => gap_fuel n m _ (by simp only [List.length_drop]; omega) (by simp only [List.length_drop]; omega)
      split
      · rw [go 1 (Nat.le_refl _)]
      · split
        · rename_i hp
          rw [go _ (run_pos hp)]
        · split
          · cases hk : remL r with
            | none => rfl
            | some k => simp only [go _ (rem_pos hk).1]
          · rfl
theorem gapF_eq (r : List UInt8) : gapF r =
    if r.length = 0 then (0, false) else
    if spaceB (byteAt r 0) then addG 1 (gapF (r.drop 1)) else
    if [45, 45].isPrefixOf r then addG (runL notLf r) (gapF (r.drop (runL notLf r))) else
    if [47, 42].isPrefixOf r then (match remL r with
      | some k => addG k (gapF (r.drop k))
      | none => (0, true)) else (0, false) := by
  have h : gapF r = gapN (r.length + 1) r := gap_fuel _ _ _ (Nat.le_refl _) (Nat.le_succ _)
  rw [h, gapN]
  by_cases h0 : r.length = 0
  · rw [if_pos h0, if_pos h0]
  · rw [if_neg h0, if_neg h0]
    have go : ∀ k, gapN r.length (r.drop k) = gapF (r.drop k) := fun k => gap_fuel _ _ _ (by simp only [List.length_drop]; omega) (Nat.le_refl _)
    simp only [go]
/-- Over what is no token, then on. -/
theorem scan_gap : ∀ (n : Nat) (r : List UInt8) (a : Nat) (out : List Tok), r.length ≤ n → (gapF r).1 ≤ r.length ∧
    (if (gapF r).2 then scanF r a out = ([], 6, a + (gapF r).1) else scanF r a out = scanF (r.drop (gapF r).1) (a + (gapF r).1) out ∧ gapF (r.drop (gapF r).1) = (0, false))
  | 0, r, a, out, h => by
    have hr : r = [] := List.length_eq_zero_iff.1 (by omega)
    subst hr
    exact ⟨Nat.le_refl _, rfl, rfl⟩
  | n + 1, r, a, out, h => by
    have hst : ∀ k, 1 ≤ k → k ≤ r.length → gapF r = addG k (gapF (r.drop k)) → scanF r a out = scanF (r.drop k) (a + k) out → (gapF r).1 ≤ r.length ∧
        (if (gapF r).2 then scanF r a out = ([], 6, a + (gapF r).1) else scanF r a out = scanF (r.drop (gapF r).1) (a + (gapF r).1) out ∧ gapF (r.drop (gapF r).1) = (0, false)) := by
      intro k k1 k2 hg hs
      have ih := scan_gap n (r.drop k) (a + k) out (by simp only [List.length_drop]; omega)
      rw [hg, hs]
      generalize gapF (r.drop k) = y at *
      obtain ⟨y1, y2⟩ := y
      simp only [addG, List.length_drop, List.drop_drop] at ih ⊢
      rw [show a + (y1 + k) = a + k + y1 by omega, show y1 + k = k + y1 by omega]
      exact ⟨by omega, ih.2⟩
    have hg := gapF_eq r
    have hs := scanF_eq r a out
    by_cases h0 : r.length = 0
    · have hr : r = [] := List.length_eq_zero_iff.1 h0
      subst hr
      exact ⟨Nat.le_refl _, rfl, rfl⟩
    · rw [if_neg h0] at hg hs
      cases b0 : spaceB (byteAt r 0)
      · rw [b0, if_neg (by simp)] at hg hs
        cases b1 : [45, 45].isPrefixOf r
        · rw [b1, if_neg (by simp)] at hg hs
          cases b2 : [47, 42].isPrefixOf r
          · rw [b2, if_neg (by simp)] at hg
            rw [hg]
            refine ⟨Nat.zero_le _, rfl, ?_⟩
            exact hg
          · rw [b2, if_pos rfl] at hg hs
            cases hk : remL r with
            | none =>
              rw [hk] at hg hs
              simp only at hg hs
              rw [hg, hs]
              exact ⟨Nat.zero_le _, rfl⟩
            | some k =>
              rw [hk] at hg hs
              exact hst k (rem_pos hk).1 (rem_pos hk).2 hg hs
        · rw [b1, if_pos rfl] at hg hs
          exact hst _ (run_pos b1) (runL_le _ _) hg hs
      · rw [b0, if_pos rfl] at hg hs
        exact hst 1 (Nat.le_refl _) (by omega) hg hs
def gapR (x : Nat × Bool) : AV := .tup [.int .i64 (x.1 : Int), .bool x.2]
theorem p_gap (s : List UInt8) (a : Nat) (ha : a ≤ s.length) (hs : s.length ≤ 10000000) : PV 67 [.str s, .int .i64 (a : Int)] = some (gapR (addG a (gapF (s.drop a)))) := by
  refine PV_start k67 rfl (Nat.le_of_ble_eq_true rfl) ?_
  simp only [go_sem, Nat.reduceEqDiff, reduceCtorEq, Nat.reduceAdd, Nat.reduceSub, Nat.reduceLT, Nat.reduceLeDiff, Int.reduceAdd, Int.reduceSub, Int.reduceNeg, Int.reduceEq, Int.reduceLT, Int.reduceLE, bx, K67]
  generalize hR : addG a (gapF (s.drop a)) = R
  refine C_while (fun n st H => ∃ (i : Nat), n = s.length - i ∧ i ≤ s.length ∧ addG i (gapF (s.drop i)) = R ∧ st 0 = .str s ∧ st 1 = .int .i64 (i : Int)) ?_ (s.length - a) _ _
    ⟨a, rfl, ha, hR, by simp only [go_sem, Nat.reduceEqDiff, reduceCtorEq, Nat.reduceAdd, Nat.reduceSub, Nat.reduceLT, Nat.reduceLeDiff, Int.reduceAdd, Int.reduceSub, Int.reduceNeg, Int.reduceEq, Int.reduceLT, Int.reduceLE, bx], by simp only [go_sem, Nat.reduceEqDiff, reduceCtorEq, Nat.reduceAdd, Nat.reduceSub, Nat.reduceLT, Nat.reduceLeDiff, Int.reduceAdd, Int.reduceSub, Int.reduceNeg, Int.reduceEq, Int.reduceLT, Int.reduceLE, bx]⟩
  clear hR
  rintro n st H ⟨i, rfl, hi, hR, s0, s1⟩
  by_cases hlt : i < s.length
  · have hd : ((i : Int) < (s.length : Int)) := by omega
    have ii := idx9 hlt
    have hrl : (s.drop i).length = s.length - i := List.length_drop
    have hb0 : byteAt s i = byteAt (s.drop i) 0 := (byteAt_drop s i 0).symm
    rw [hb0] at ii
    have w1 : IntKind.i64.wrap ((i : Int) + 1) = ((i + 1 : Nat) : Int) := wrap_succ (by simp only [maxL]; omega)
    have adds : ∀ (k : Nat) (y : Nat × Bool), addG i (addG k y) = addG (i + k) y := fun k y => by
      unfold addG
      simp only [Prod.mk.injEq, and_true]
      omega
    have next : ∀ (k : Nat), 1 ≤ k → k ≤ s.length - i → addG (i + k) (gapF ((s.drop i).drop k)) = R → ∃ m, m < s.length - i ∧ ∃ j, m = s.length - j ∧ j ≤ s.length ∧ addG j (gapF (s.drop j)) = R ∧ AV.int IntKind.i64 ((i + k : Nat) : Int) = AV.int IntKind.i64 (j : Int) :=
      fun k h1 h2 h4 => ⟨s.length - (i + k), by omega, i + k, rfl, by omega, by rw [List.drop_drop] at h4; exact h4, rfl⟩
    rw [gapF_eq, if_neg (by omega)] at hR
    have e32 := u8_lit (byteAt (s.drop i) 0) 32 (by decide)
    have e9 := u8_lit (byteAt (s.drop i) 0) 9 (by decide)
    have e10 := u8_lit (byteAt (s.drop i) 0) 10 (by decide)
    have e12 := u8_lit (byteAt (s.drop i) 0) 12 (by decide)
    have e13 := u8_lit (byteAt (s.drop i) 0) 13 (by decide)
    simp only [Int.cast_ofNat_Int] at e32 e9 e10 e12 e13
    have hst1 := p_starts s [45, 45] i (by omega) (by omega) (by decide)
    have hst2 := p_starts s [47, 42] i (by omega) (by omega) (by decide)
    have hrem := p_remark4 s i (by omega) (by omega)
    have hrle := runL_le notLf (s.drop i)
    have hbd : ∀ j, byteAt s (i + j) = byteAt (s.drop i) j := fun j => (byteAt_drop s i j).symm
    generalize hr : s.drop i = r at *
    cases c32 : (byteAt r 0 == UInt8.ofNat 32)
    rotate_left
    · have hsp : spaceB (byteAt r 0) = true := by
        have e : (byteAt r 0 == 32) = true := c32
        unfold spaceB
        simp only [e, Bool.or_true, Bool.true_or]
      rw [hsp, if_pos rfl] at hR
      simp only [go_sem, Nat.reduceEqDiff, reduceCtorEq, Nat.reduceAdd, Nat.reduceSub, Nat.reduceLT, Nat.reduceLeDiff, Int.reduceAdd, Int.reduceSub, Int.reduceNeg, Int.reduceEq, Int.reduceLT, Int.reduceLE, bx, L67_0, s0, s1, hd, ii, e32, c32, w1]
      exact next 1 (Nat.le_refl _) (by omega) (by rw [← adds]; exact hR)
    cases c9 : (byteAt r 0 == UInt8.ofNat 9)
    rotate_left
    · have hsp : spaceB (byteAt r 0) = true := by
        have e : (byteAt r 0 == 9) = true := c9
        unfold spaceB
        simp only [e, Bool.or_true, Bool.true_or]
      rw [hsp, if_pos rfl] at hR
      simp only [go_sem, Nat.reduceEqDiff, reduceCtorEq, Nat.reduceAdd, Nat.reduceSub, Nat.reduceLT, Nat.reduceLeDiff, Int.reduceAdd, Int.reduceSub, Int.reduceNeg, Int.reduceEq, Int.reduceLT, Int.reduceLE, bx, L67_0, s0, s1, hd, ii, e32, c32, e9, c9, w1]
      exact next 1 (Nat.le_refl _) (by omega) (by rw [← adds]; exact hR)
    cases c10 : (byteAt r 0 == UInt8.ofNat 10)
    rotate_left
    · have hsp : spaceB (byteAt r 0) = true := by
        have e : (byteAt r 0 == 10) = true := c10
        unfold spaceB
        simp only [e, Bool.or_true, Bool.true_or]
      rw [hsp, if_pos rfl] at hR
      simp only [go_sem, Nat.reduceEqDiff, reduceCtorEq, Nat.reduceAdd, Nat.reduceSub, Nat.reduceLT, Nat.reduceLeDiff, Int.reduceAdd, Int.reduceSub, Int.reduceNeg, Int.reduceEq, Int.reduceLT, Int.reduceLE, bx, L67_0, s0, s1, hd, ii, e32, c32, e9, c9, e10, c10, w1]
      exact next 1 (Nat.le_refl _) (by omega) (by rw [← adds]; exact hR)
    cases c12 : (byteAt r 0 == UInt8.ofNat 12)
    rotate_left
    · have hsp : spaceB (byteAt r 0) = true := by
        have e : (byteAt r 0 == 12) = true := c12
        unfold spaceB
        simp only [e, Bool.or_true, Bool.true_or]
      rw [hsp, if_pos rfl] at hR
      simp only [go_sem, Nat.reduceEqDiff, reduceCtorEq, Nat.reduceAdd, Nat.reduceSub, Nat.reduceLT, Nat.reduceLeDiff, Int.reduceAdd, Int.reduceSub, Int.reduceNeg, Int.reduceEq, Int.reduceLT, Int.reduceLE, bx, L67_0, s0, s1, hd, ii, e32, c32, e9, c9, e10, c10, e12, c12, w1]
      exact next 1 (Nat.le_refl _) (by omega) (by rw [← adds]; exact hR)
    cases c13 : (byteAt r 0 == UInt8.ofNat 13)
    rotate_left
    · have hsp : spaceB (byteAt r 0) = true := by
        have e : (byteAt r 0 == 13) = true := c13
        unfold spaceB
        simp only [e, Bool.or_true, Bool.true_or]
      rw [hsp, if_pos rfl] at hR
      simp only [go_sem, Nat.reduceEqDiff, reduceCtorEq, Nat.reduceAdd, Nat.reduceSub, Nat.reduceLT, Nat.reduceLeDiff, Int.reduceAdd, Int.reduceSub, Int.reduceNeg, Int.reduceEq, Int.reduceLT, Int.reduceLE, bx, L67_0, s0, s1, hd, ii, e32, c32, e9, c9, e10, c10, e12, c12, e13, c13, w1]
      exact next 1 (Nat.le_refl _) (by omega) (by rw [← adds]; exact hR)
    have hsp : spaceB (byteAt r 0) = false := by
      have d32 : (byteAt r 0 == 32) = false := c32
      have d9 : (byteAt r 0 == 9) = false := c9
      have d10 : (byteAt r 0 == 10) = false := c10
      have d12 : (byteAt r 0 == 12) = false := c12
      have d13 : (byteAt r 0 == 13) = false := c13
      unfold spaceB
      rw [d32, d9, d10, d12, d13]
      rfl
    rw [hsp, if_neg (by simp)] at hR
    cases b1 : [45, 45].isPrefixOf r
    rotate_left
    · rw [b1, if_pos rfl, adds] at hR
      have hrp := run_pos b1
      simp only [go_sem, Nat.reduceEqDiff, reduceCtorEq, Nat.reduceAdd, Nat.reduceSub, Nat.reduceLT, Nat.reduceLeDiff, Int.reduceAdd, Int.reduceSub, Int.reduceNeg, Int.reduceEq, Int.reduceLT, Int.reduceLE, bx, L67_0, s0, s1, hd, ii, e32, c32, e9, c9, e10, c10, e12, c12, e13, c13, call_pure pure_94, hst1, b1]
      have fin : ∀ k, runL notLf r = k → ∃ m, m < s.length - i ∧ ∃ j, m = s.length - j ∧ j ≤ s.length ∧ addG j (gapF (s.drop j)) = R ∧ AV.int IntKind.i64 ((i + k : Nat) : Int) = AV.int IntKind.i64 (j : Int) := by
        rintro k rfl
        exact next _ hrp (by omega) hR
      refine C_first (s.length - i) (fun j => !(notLf (byteAt r j))) (fun j st H => st 0 = .str s ∧ st 1 = .int .i64 ((i + j : Nat) : Int)) ⟨by simp only [go_sem, Nat.reduceEqDiff, reduceCtorEq, Nat.reduceAdd, Nat.reduceSub, Nat.reduceLT, Nat.reduceLeDiff, Int.reduceAdd, Int.reduceSub, Int.reduceNeg, Int.reduceEq, Int.reduceLT, Int.reduceLE, bx, s0], by simp only [go_sem, Nat.reduceEqDiff, reduceCtorEq, Nat.reduceAdd, Nat.reduceSub, Nat.reduceLT, Nat.reduceLeDiff, Int.reduceAdd, Int.reduceSub, Int.reduceNeg, Int.reduceEq, Int.reduceLT, Int.reduceLE, bx, s1]; rfl⟩ ?_ ?_ ?_
      · rintro j st H hj hp ⟨s0, s1⟩
        have hd : (((i + j : Nat) : Int) < (s.length : Int)) := by omega
        have ij := idx9 (s := s) (i := i + j) (by omega)
        rw [hbd] at ij
        have w1 : IntKind.i64.wrap (((i + j : Nat) : Int) + 1) = ((i + (j + 1) : Nat) : Int) := wrap_succ (by simp only [maxL]; omega)
        have ej := u8_lit (byteAt r j) 10 (by decide)
        simp only [Int.cast_ofNat_Int] at ej
        have c : (byteAt r j == UInt8.ofNat 10) = false := by
          unfold notLf at hp
          simpa using hp
        simp only [go_sem, Nat.reduceEqDiff, reduceCtorEq, Nat.reduceAdd, Nat.reduceSub, Nat.reduceLT, Nat.reduceLeDiff, Int.reduceAdd, Int.reduceSub, Int.reduceNeg, Int.reduceEq, Int.reduceLT, Int.reduceLE, bx, L67_1, s0, s1, hd, ij, ej, c, w1]
      · rintro j st H hj hno hp ⟨s0, s1⟩
        have hd : (((i + j : Nat) : Int) < (s.length : Int)) := by omega
        have ij := idx9 (s := s) (i := i + j) (by omega)
        rw [hbd] at ij
        have ej := u8_lit (byteAt r j) 10 (by decide)
        simp only [Int.cast_ofNat_Int] at ej
        have c : (byteAt r j == UInt8.ofNat 10) = true := by
          unfold notLf at hp
          simpa using hp
        have hrun : runL notLf r = j := runL_at (fun i hi => by simpa only [Bool.not_eq_false'] using hno i hi) (.inr ⟨by omega, by simpa only [Bool.not_eq_true'] using hp⟩)
        simp only [go_sem, Nat.reduceEqDiff, reduceCtorEq, Nat.reduceAdd, Nat.reduceSub, Nat.reduceLT, Nat.reduceLeDiff, Int.reduceAdd, Int.reduceSub, Int.reduceNeg, Int.reduceEq, Int.reduceLT, Int.reduceLE, bx, L67_1, s0, s1, hd, ij, ej, c]
        exact fin j hrun
      · rintro st H hno ⟨s0, s1⟩
        have hd : ¬ (((i + (s.length - i) : Nat) : Int) < (s.length : Int)) := by omega
        have hrun : runL notLf r = s.length - i := runL_at (fun i hi => by simpa only [Bool.not_eq_false'] using hno i hi) (.inl (by omega))
        simp only [go_sem, Nat.reduceEqDiff, reduceCtorEq, Nat.reduceAdd, Nat.reduceSub, Nat.reduceLT, Nat.reduceLeDiff, Int.reduceAdd, Int.reduceSub, Int.reduceNeg, Int.reduceEq, Int.reduceLT, Int.reduceLE, bx, L67_1, s0, s1, hd]
        exact fin _ hrun
    rw [b1, if_neg (by simp)] at hR
    cases b2 : [47, 42].isPrefixOf r
    rotate_left
    · rw [b2, if_pos rfl] at hR
      cases hk : remL r with
      | none =>
        rw [hk] at hR hrem
        simp only [Option.map_none, optI] at hrem
        simp only at hR
        have hm : ((-1 : Int) < 0) := by omega
        rw [← hR]
        simp only [go_sem, Nat.reduceEqDiff, reduceCtorEq, Nat.reduceAdd, Nat.reduceSub, Nat.reduceLT, Nat.reduceLeDiff, Int.reduceAdd, Int.reduceSub, Int.reduceNeg, Int.reduceEq, Int.reduceLT, Int.reduceLE, bx, L67_0, s0, s1, hd, ii, e32, c32, e9, c9, e10, c10, e12, c12, e13, c13, call_pure pure_94, hst1, hst2, b1, b2, call_pure pure_95, hrem, hm]
        simp [gapR, addG, depth, frz, mapO]
      | some k =>
        obtain ⟨k1, k2⟩ := rem_pos hk
        rw [hk] at hR hrem
        simp only [Option.map_some, optI] at hrem
        simp only at hR
        rw [adds] at hR
        have hm : ¬ (((k + i : Nat) : Int) < 0) := by omega
        simp only [go_sem, Nat.reduceEqDiff, reduceCtorEq, Nat.reduceAdd, Nat.reduceSub, Nat.reduceLT, Nat.reduceLeDiff, Int.reduceAdd, Int.reduceSub, Int.reduceNeg, Int.reduceEq, Int.reduceLT, Int.reduceLE, bx, L67_0, s0, s1, hd, ii, e32, c32, e9, c9, e10, c10, e12, c12, e13, c13, call_pure pure_94, hst1, hst2, b1, b2, call_pure pure_95, hrem, hm]
        rw [Nat.add_comm k i]
        exact next k k1 (by omega) hR
    rw [b2, if_neg (by simp)] at hR
    rw [← hR]
    simp only [go_sem, Nat.reduceEqDiff, reduceCtorEq, Nat.reduceAdd, Nat.reduceSub, Nat.reduceLT, Nat.reduceLeDiff, Int.reduceAdd, Int.reduceSub, Int.reduceNeg, Int.reduceEq, Int.reduceLT, Int.reduceLE, bx, L67_0, s0, s1, hd, ii, e32, c32, e9, c9, e10, c10, e12, c12, e13, c13, call_pure pure_94, hst1, hst2, b1, b2]
    simp [gapR, addG, depth, frz, mapO]
  · have hd : ¬ ((i : Int) < (s.length : Int)) := by omega
    rw [gapF_eq, if_pos (by simp only [List.length_drop]; omega)] at hR
    rw [← hR]
    simp only [go_sem, Nat.reduceEqDiff, reduceCtorEq, Nat.reduceAdd, Nat.reduceSub, Nat.reduceLT, Nat.reduceLeDiff, Int.reduceAdd, Int.reduceSub, Int.reduceNeg, Int.reduceEq, Int.reduceLT, Int.reduceLE, bx, L67_0, s0, s1, hd]
    simp [gapR, addG, depth, frz, mapO]
end Go.Proofs
/- The sets' layer: the reference's Scan. -/

set_option linter.unusedSimpArgs false
set_option linter.unusedVariables false
namespace Go.Proofs
open Go.Vam
theorem gap_token {r : List UInt8} (h : gapF r = (0, false)) (h0 : r.length ≠ 0) (a : Nat) (out : List Tok) : scanF r a out =
    if (oneL r).2.2 = -1 then ([], 6, a) else
    if (oneL r).2.2 = 0 then ([], 7, a) else
    scanF (r.drop (oneL r).2.2.toNat) (a + (oneL r).2.2.toNat) (out ++ [⟨(oneL r).1, (oneL r).2.1, a⟩]) := by
  rw [gapF_eq, if_neg h0] at h
  rw [scanF_eq, if_neg h0]
  have no : ∀ k y, 1 ≤ k → addG k y = (0, false) → False := fun k y hk he => by
    unfold addG at he
    simp only [Prod.mk.injEq] at he
    omega
  cases b0 : spaceB (byteAt r 0)
  · rw [b0, if_neg (by simp)] at h
    rw [if_neg (by simp)]
    cases b1 : [45, 45].isPrefixOf r
    · rw [b1, if_neg (by simp)] at h
      rw [if_neg (by simp)]
      cases b2 : [47, 42].isPrefixOf r
      · rw [if_neg (by simp)]
      · rw [b2, if_pos rfl] at h
        cases hk : remL r with
        | none => rw [hk] at h; cases h
        | some k => rw [hk] at h; exact (no _ _ (rem_pos hk).1 h).elim
    · rw [b1, if_pos rfl] at h
      exact (no _ _ (run_pos b1) h).elim
  · rw [b0, if_pos rfl] at h
    exact (no _ _ (Nat.le_refl _) h).elim
theorem p_scan4 (s : List UInt8) (hs : s.length ≤ 10000000) : PV 39 [.str s] = some (scanR (scanL s)) := by
  refine PV_start k39 rfl (Nat.le_of_ble_eq_true rfl) ?_
  unfold scanL
  by_cases hb : 2000 < s.length
  · have hd : ((2000 : Int) < (s.length : Int)) := by omega
    rw [if_pos hb]
    simp only [go_sem, Nat.reduceEqDiff, reduceCtorEq, Nat.reduceAdd, Nat.reduceSub, Nat.reduceLT, Nat.reduceLeDiff, Int.reduceAdd, Int.reduceSub, Int.reduceNeg, Int.reduceEq, Int.reduceLT, Int.reduceLE, bx, K39, hd]
    rfl
  · have hd : ¬ ((2000 : Int) < (s.length : Int)) := by omega
    rw [if_neg hb]
    have hg := p_gap s 0 (Nat.zero_le _) hs
    have hsg := scan_gap s.length s 0 [] (Nat.le_refl _)
    simp only [List.drop_zero, Int.cast_ofNat_Int, Nat.zero_add] at hg hsg
    unfold gapR addG at hg
    simp only [Nat.add_zero] at hg
    simp only [go_sem, Nat.reduceEqDiff, reduceCtorEq, Nat.reduceAdd, Nat.reduceSub, Nat.reduceLT, Nat.reduceLeDiff, Int.reduceAdd, Int.reduceSub, Int.reduceNeg, Int.reduceEq, Int.reduceLT, Int.reduceLE, bx, K39, hd, call_pure pure_67, hg]
    generalize hR : scanF s 0 [] = R at *
    generalize gapF s = g at *
    obtain ⟨g1, g2⟩ := g
    simp only at hsg
    refine C_while (fun n st H => ∃ (i : Nat) (bad : Bool) (out : List Tok), n = s.length - i ∧ out.length ≤ i ∧ i ≤ s.length ∧ (if bad then R = ([], 6, i) else R = scanF (s.drop i) i out ∧ gapF (s.drop i) = (0, false)) ∧ st 0 = .str s ∧ st 6 = .int .i64 (i : Int) ∧ st 7 = .bool bad ∧ Own 40 H (st 5) (toks out)) ?_ (s.length - g1) _ _
      ⟨g1, g2, [], rfl, Nat.zero_le _, hsg.1, hsg.2, by simp only [go_sem, Nat.reduceEqDiff, reduceCtorEq, Nat.reduceAdd, Nat.reduceSub, Nat.reduceLT, Nat.reduceLeDiff, Int.reduceAdd, Int.reduceSub, Int.reduceNeg, Int.reduceEq, Int.reduceLT, Int.reduceLE, bx], by simp only [go_sem, Nat.reduceEqDiff, reduceCtorEq, Nat.reduceAdd, Nat.reduceSub, Nat.reduceLT, Nat.reduceLeDiff, Int.reduceAdd, Int.reduceSub, Int.reduceNeg, Int.reduceEq, Int.reduceLT, Int.reduceLE, bx], by simp only [go_sem, Nat.reduceEqDiff, reduceCtorEq, Nat.reduceAdd, Nat.reduceSub, Nat.reduceLT, Nat.reduceLeDiff, Int.reduceAdd, Int.reduceSub, Int.reduceNeg, Int.reduceEq, Int.reduceLT, Int.reduceLE, bx], .inl ⟨by simp only [go_sem, Nat.reduceEqDiff, reduceCtorEq, Nat.reduceAdd, Nat.reduceSub, Nat.reduceLT, Nat.reduceLeDiff, Int.reduceAdd, Int.reduceSub, Int.reduceNeg, Int.reduceEq, Int.reduceLT, Int.reduceLE, bx], rfl⟩⟩
    clear hR hd hsg hg
    rintro n st H ⟨i, bad, out, rfl, hol, hi, hR, s0, s6, s7, ho⟩
    generalize hv : st 5 = v at ho
    by_cases hlt : i < s.length
    · have hd : ((i : Int) < (s.length : Int)) := by omega
      cases bad
      rotate_left
      · simp only [if_true] at hR
        rw [hR]
        simp only [go_sem, Nat.reduceEqDiff, reduceCtorEq, Nat.reduceAdd, Nat.reduceSub, Nat.reduceLT, Nat.reduceLeDiff, Int.reduceAdd, Int.reduceSub, Int.reduceNeg, Int.reduceEq, Int.reduceLT, Int.reduceLE, bx, L39_0, s0, s6, s7, hv, hd]
        rfl
      simp only [Bool.false_eq_true, if_false] at hR
      obtain ⟨hR, hgp⟩ := hR
      have hrl : (s.drop i).length = s.length - i := List.length_drop
      rw [gap_token hgp (by omega)] at hR
      have hone := p_one4 s i hlt hs
      have hol2 := one_len (r := s.drop i) (by omega)
      generalize oneL (s.drop i) = x at *
      obtain ⟨kd, tx, n⟩ := x
      simp only at hR hol2
      unfold one4 at hone
      by_cases hm : n = -1
      · rw [if_pos hm] at hR hone
        rw [hR]
        have hput := tok_put H ⟨0, [], 0⟩
        simp only [tok] at hput
        unfold zeroTok at hone
        simp only [go_sem, Nat.reduceEqDiff, reduceCtorEq, Nat.reduceAdd, Nat.reduceSub, Nat.reduceLT, Nat.reduceLeDiff, Int.reduceAdd, Int.reduceSub, Int.reduceNeg, Int.reduceEq, Int.reduceLT, Int.reduceLE, bx, L39_0, s0, s6, s7, hv, hd, call_pure pure_68, hone, PC_still, hput]
        rfl
      · rw [if_neg hm] at hR hone
        by_cases hz : n = 0
        · rw [if_pos hz] at hR hone
          rw [hR]
          have hput := tok_put H ⟨0, [], 0⟩
          simp only [tok] at hput
          unfold zeroTok at hone
          simp only [go_sem, Nat.reduceEqDiff, reduceCtorEq, Nat.reduceAdd, Nat.reduceSub, Nat.reduceLT, Nat.reduceLeDiff, Int.reduceAdd, Int.reduceSub, Int.reduceNeg, Int.reduceEq, Int.reduceLT, Int.reduceLE, bx, L39_0, s0, s6, s7, hv, hd, call_pure pure_68, hone, PC_still, hput]
          rfl
        · rw [if_neg hz] at hR hone
          obtain ⟨k, rfl⟩ := Int.eq_ofNat_of_zero_le (by omega : 0 ≤ n)
          rw [Int.toNat_natCast] at hR
          simp only [← Int.natCast_add] at hone
          have hput := tok_put H ⟨kd, tx, (i : Int)⟩
          have hgot := tok_got H ⟨kd, tx, (i : Int)⟩
          obtain ⟨v1, H1, e1, o1, -⟩ := append_tok ⟨kd, tx, (i : Int)⟩ (ho.lt (.arr 40 true 0 [tok ⟨kd, tx, (i : Int)⟩])) (by omega)
          have hbs := bs_tok1 ⟨kd, tx, (i : Int)⟩ (H ++ [.arr 40 true 0 [tok ⟨kd, tx, (i : Int)⟩]])
          simp only [tok] at hput hgot e1 hbs
          have hg := p_gap s (i + k) (by omega) hs
          have hsg := scan_gap (s.drop (i + k)).length (s.drop (i + k)) (i + k) (out ++ [⟨kd, tx, (i : Int)⟩]) (Nat.le_refl _)
          rw [List.drop_drop] at hR
          unfold gapR addG at hg
          rw [← hR] at hsg
          simp only [List.drop_drop, List.length_drop] at hsg
          generalize gapF (s.drop (i + k)) = g at *
          obtain ⟨g1, g2⟩ := g
          simp only at hsg hg
          simp only [go_sem, Nat.reduceEqDiff, reduceCtorEq, Nat.reduceAdd, Nat.reduceSub, Nat.reduceLT, Nat.reduceLeDiff, Int.reduceAdd, Int.reduceSub, Int.reduceNeg, Int.reduceEq, Int.reduceLT, Int.reduceLE, bx, L39_0, s0, s6, s7, hv, hd, call_pure pure_68, hone, PC_still, hput, hgot, Nat.le_refl, hbs, bi_append, e1, call_pure pure_67, hg]
          rw [Nat.add_comm g1 (i + k)]
          exact ⟨s.length - (i + k + g1), by omega, i + k + g1, g2, out ++ [⟨kd, tx, (i : Int)⟩], rfl, by simp only [List.length_append, List.length_cons, List.length_nil]; omega, by omega, hsg.2, rfl, rfl, o1⟩
    · have hd : ¬ ((i : Int) < (s.length : Int)) := by omega
      cases bad
      · simp only [Bool.false_eq_true, if_false] at hR
        obtain ⟨hR, _⟩ := hR
        rw [scanF_eq, if_pos (by simp only [List.length_drop]; omega)] at hR
        rw [hR]
        simp only [go_sem, Nat.reduceEqDiff, reduceCtorEq, Nat.reduceAdd, Nat.reduceSub, Nat.reduceLT, Nat.reduceLeDiff, Int.reduceAdd, Int.reduceSub, Int.reduceNeg, Int.reduceEq, Int.reduceLT, Int.reduceLE, bx, L39_0, s0, s6, s7, hv, hd]
        exact frz_scan ho 0 0
      · simp only [if_true] at hR
        rw [hR]
        simp only [go_sem, Nat.reduceEqDiff, reduceCtorEq, Nat.reduceAdd, Nat.reduceSub, Nat.reduceLT, Nat.reduceLeDiff, Int.reduceAdd, Int.reduceSub, Int.reduceNeg, Int.reduceEq, Int.reduceLT, Int.reduceLE, bx, L39_0, s0, s6, s7, hv, hd]
        rfl
end Go.Proofs
