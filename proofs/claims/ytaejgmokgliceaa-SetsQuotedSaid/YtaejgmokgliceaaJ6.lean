/- What several laws of this seat need, part 6: an abstract machine for the program's code, that it is sound, and what it tells of the layer's functions. -/
import Derived.Test.YtaejgmokgliceaaJ5
import Derived.KernelRfl
/- The sets' layer: tokens, split into statements. -/

set_option linter.unusedSimpArgs false
set_option linter.unusedVariables false
namespace Go.Proofs
open Go.Vam
/-- APPENDING ONE ELEMENT, and where it then lies. -/
theorem append_oneF {t e : TypeId} {by_ m : Nat} {z : List AV} (hT : sliceT Try.prog t = some e) (hb : bytesT Try.prog e = some by_) (hz : szOf Try.prog e = some (m + 1)) (hzt : zeroT Try.prog e = some z) (hby : by_ ≤ 1000) {H : AHeap} {v : AV} {es : List (List AV)} {c : List AV}
    (ho : Own e H v es) (hl : es.length < 100000000) (hc : c.length = m + 1) (hcell : c.all AV.isCell = true) :
    ∃ H', aappend Try.prog t t v (.hs H.length 0 1) (H ++ [.arr e true 0 [c]]) = some (.hs (H.length + 1) 0 (es.length + 1), H') ∧ H'[H.length + 1]? = some (.arr e true 0 (es ++ [c])) ∧ KeepBut v H H' := by
  have hsrc : asrc (.hs H.length 0 1) (H ++ [.arr e true 0 [c]]) = some [c] := by
    simp [asrc, aelems]
  have hni := notInt_of_slice hT
  have hm1 : 1 * by_ ≤ 140737488355328 := by omega
  have hm2 : (es.length + 1) * by_ ≤ 140737488355328 := by
    have : (es.length + 1) * by_ ≤ 100000000 * 1000 := Nat.mul_le_mul (by omega) hby
    omega
  have hlen : (H ++ [AO.arr e true 0 [c]]).length = H.length + 1 := by simp
  rcases ho with ⟨rfl, rfl⟩ | ⟨id, rfl, h⟩
  · refine ⟨(H ++ [.arr e true 0 [c]]) ++ [.arr e true 0 [c]], ?_, ?_, ?_⟩
    · unfold aappend
      rw [hT, hsrc]
      simp only
      rw [hb, hz]
      simp only
      rw [if_pos ⟨fun x hx => by simp at hx; subst hx; exact ⟨by rw [hc], hcell⟩, hni, by rw [hzt]; rfl⟩]
      rw [if_pos ⟨by simp, by simpa using hm1⟩, if_neg (by simp), hlen]
      rfl
    · rw [List.getElem?_append_right (by omega), hlen, Nat.sub_self]
      rfl
    · intro id o h _
      rw [List.append_assoc, List.getElem?_append_left (List.getElem?_eq_some_iff.1 h).1]
      exact h
  · have hlt := (List.getElem?_eq_some_iff.1 h).1
    have h' : (H ++ [.arr e true 0 [c]])[id]? = some (.arr e true 0 es) := by rw [List.getElem?_append_left hlt]; exact h
    refine ⟨(H ++ [AO.arr e true 0 [c]]).set id AO.dead ++ [AO.arr e true 0 (es ++ [c])], ?_, ?_, ?_⟩
    · unfold aappend
      rw [hT, hsrc]
      simp only
      rw [hb, hz]
      simp only
      rw [if_pos ⟨fun x hx => by simp at hx; subst hx; exact ⟨by rw [hc], hcell⟩, hni, by rw [hzt]; rfl⟩, h']
      simp only
      rw [if_pos ⟨trivial, trivial, trivial, trivial, Nat.zero_le _, by simp; omega, by simpa using hm2⟩, if_neg (by simp), hlen]
      simp
    · rw [List.getElem?_append_right (by simp)]
      simp
    · intro id' o h1 h2
      have hne : id' ≠ id := fun q => h2 es.length (by rw [q])
      rw [List.getElem?_append_left (by simp; have := (List.getElem?_eq_some_iff.1 h1).1; omega), List.getElem?_set_ne (Ne.symm hne), List.getElem?_append_left (List.getElem?_eq_some_iff.1 h1).1]
      exact h1
/-! ### lists of lists of tokens, as they are gathered -/
def cells1 (vs : List AV) : List (List AV) := vs.map fun v => [v]
/-- Whole slices of tokens of their own, none of them v. -/
def Elems (H : AHeap) (v : AV) (vs : List AV) (ls : List (List Tok)) : Prop :=
  vs.length = ls.length ∧ ∀ (k : Nat) (u : AV) (l : List Tok), vs[k]? = some u → ls[k]? = some l → ∃ id : Nat, u = AV.hs id 0 l.length ∧ H[id]? = some (AO.arr 40 true 0 (toks l)) ∧ ∀ n, v ≠ AV.hs id 0 n
/-- What is split so far: the statements, and what is gathered. -/
structure Split (H : AHeap) (vo vn : AV) (lo : Nat) (cur : List Tok) (done : List (List Tok)) : Prop where
  now : Own 40 H vn (toks cur)
  out : (vo = .nils ∧ done = []) ∨ ∃ id vs, vo = .hs id 0 done.length ∧ lo ≤ id ∧ H[id]? = some (.arr 22 true 0 (cells1 vs)) ∧ Elems H vn vs done
theorem Own.keep {e : TypeId} {H H' : AHeap} {u v : AV} {es : List (List AV)} (h : Own e H u es) (hk : KeepBut v H H') (ha : ∀ id : Nat, u = AV.hs id 0 es.length → ∀ n, v ≠ AV.hs id 0 n) : Own e H' u es := by
  rcases h with ⟨h1, h2⟩ | ⟨id, h1, h2⟩
  · exact .inl ⟨h1, h2⟩
  · exact .inr ⟨id, h1, hk id _ h2 (ha id h1)⟩
theorem keep_app (H : AHeap) (x : AO) (v : AV) : KeepBut v H (H ++ [x]) := fun id o h _ => by
  rw [List.getElem?_append_left (List.getElem?_eq_some_iff.1 h).1]
  exact h
theorem Split.app {H : AHeap} {vo vn : AV} {lo : Nat} {cur : List Tok} {done : List (List Tok)} (h : Split H vo vn lo cur done) (x : AO) : Split (H ++ [x]) vo vn lo cur done := by
  refine ⟨h.now.lt x, ?_⟩
  have up : ∀ {id : Nat} {o : AO}, H[id]? = some o → (H ++ [x])[id]? = some o := fun h => by rw [List.getElem?_append_left (List.getElem?_eq_some_iff.1 h).1]; exact h
  rcases h.out with h | ⟨id, vs, h1, h2, h3, h4, h5⟩
  · exact .inl h
  · refine .inr ⟨id, vs, h1, h2, up h3, h4, fun k u l hu hl => ?_⟩
    obtain ⟨i, e1, e2, e3⟩ := h5 k u l hu hl
    exact ⟨i, e1, up e2, e3⟩
/-- A token more. -/
theorem Split.tok {H : AHeap} {vo vn : AV} {lo : Nat} {cur : List Tok} {done : List (List Tok)} (h : Split H vo vn lo cur done) (x : Tok) (hl : cur.length < 10000000) :
    ∃ v' H', aappend Try.prog 22 22 vn (.hs H.length 0 1) (H ++ [.arr 40 true 0 [tok x]]) = some (v', H') ∧ Split H' vo v' lo (cur ++ [x]) done ∧ KeepBut vn H H' := by
  obtain ⟨H', h1, h2, h3⟩ := append_oneF (m := 2) sliceT_22 bytesT_40 szOf_40 zeroT_40 (by decide) h.now (by rw [toks_len]; omega) (c := Go.Proofs.tok x) rfl rfl
  rw [toks_len] at h1
  refine ⟨_, H', h1, ⟨.inr ⟨H.length + 1, by simp [toks], by simpa [toks] using h2⟩, ?_⟩, h3⟩
  rcases h.out with h | ⟨id, vs, g1, g2, g3, g4, g5⟩
  · exact .inl h
  · have hne : ∀ n, vn ≠ .hs id 0 n := by
      rcases h.now with ⟨e, _⟩ | ⟨i, e, he⟩
      · rw [e]; simp
      · rw [e]
        intro n hn
        cases hn
        rw [g3] at he
        cases he
    refine .inr ⟨id, vs, g1, g2, h3 id _ g3 hne, g4, fun k u l hu hl => ?_⟩
    obtain ⟨i, e1, e2, e3⟩ := g5 k u l hu hl
    have hi := (List.getElem?_eq_some_iff.1 e2).1
    refine ⟨i, e1, h3 i _ e2 e3, fun n hn => ?_⟩
    cases hn
    omega
theorem bs_sl1 (v : AV) (H : AHeap) (hv : v.cells = [v]) (hc : v.isCell = true) : abuildSlice Try.prog 54 1 [(0, v)] H = some (.hs H.length 0 1, H ++ [.arr 22 true 0 [[v]]]) := by
  have := bs_gen (t := 54) (e := 22) (z := [.nils]) (n := 1) (parts := [(0, v)]) (q := fun x => decide (x.cells.length = 1) && x.cells.all AV.isCell) sliceT_54 zeroT_22 (fun x hx => by
    simp only [Bool.and_eq_true, decide_eq_true_eq] at hx
    exact ⟨hx.1, hx.2⟩) H (by simp) (by simp [isIdx, hv, hc])
  simp only [List.map_cons, List.map_nil, hv] at this
  exact this
/-- A statement more. -/
theorem Split.stmt {H : AHeap} {vo vn : AV} {lo : Nat} {cur : List Tok} {done : List (List Tok)} (h : Split H vo vn lo cur done) (hcur : cur ≠ []) (hlo : lo ≤ H.length) (hl : done.length < 10000000) :
    ∃ v' H', aappend Try.prog 54 54 vo (.hs H.length 0 1) (H ++ [.arr 22 true 0 [[vn]]]) = some (v', H') ∧ Split H' v' .nils lo [] (done ++ [cur]) ∧ KeepBut vo H H' := by
  obtain ⟨i, e1, e2⟩ : ∃ id, vn = .hs id 0 (toks cur).length ∧ H[id]? = some (.arr 40 true 0 (toks cur)) := by
    rcases h.now with ⟨_, e⟩ | e
    · exact absurd (List.map_eq_nil_iff.1 e) hcur
    · exact e
  rw [toks_len] at e1
  obtain ⟨vs, ho, hvl, hel⟩ : ∃ vs, Own 22 H vo (cells1 vs) ∧ vs.length = done.length ∧ ∀ (k : Nat) (u : AV) (l : List Tok), vs[k]? = some u → done[k]? = some l → ∃ id : Nat, u = AV.hs id 0 l.length ∧ H[id]? = some (AO.arr 40 true 0 (toks l)) := by
    rcases h.out with ⟨g1, g2⟩ | ⟨id, vs, g1, g2, g3, g4, g5⟩
    · exact ⟨[], .inl ⟨g1, rfl⟩, by rw [g2]; rfl, fun k u l hu => by simp at hu⟩
    · refine ⟨vs, .inr ⟨id, by rw [g1]; simp [cells1, g4], g3⟩, g4, fun k u l hu hl => ?_⟩
      obtain ⟨j, f1, f2, _⟩ := g5 k u l hu hl
      exact ⟨j, f1, f2⟩
  have hcl : (cells1 vs).length = done.length := by simp [cells1, hvl]
  obtain ⟨H', h1, h2, h3⟩ := append_oneF (m := 0) sliceT_54 bytesT_22 szOf_22 zeroT_22 (by decide) ho (by omega) (c := [vn]) rfl (by rw [e1]; rfl)
  rw [hcl] at h1
  have hno : ∀ j l, H[j]? = some (.arr 40 true 0 (toks l)) → ∀ n, vo ≠ .hs j 0 n := by
    intro j l hj n hn
    rcases ho with ⟨e, _⟩ | ⟨id, e, he⟩
    · rw [e] at hn; cases hn
    · rw [e] at hn
      cases hn
      rw [hj] at he
      cases he
  refine ⟨_, H', h1, ⟨.inl ⟨rfl, rfl⟩, .inr ⟨H.length + 1, vs ++ [vn], by simp, by omega, by rw [h2]; simp [cells1], by simp [hvl], fun k u l hu hl => ?_⟩⟩, h3⟩
  by_cases hk : k < vs.length
  · rw [List.getElem?_append_left hk] at hu
    rw [List.getElem?_append_left (by omega)] at hl
    obtain ⟨j, f1, f2⟩ := hel k u l hu hl
    exact ⟨j, f1, h3 j _ f2 (hno j l f2), by simp⟩
  · have hk' : k = vs.length := by
      have := (List.getElem?_eq_some_iff.1 hu).1
      simp at this
      omega
    subst hk'
    rw [List.getElem?_append_right (Nat.le_refl _), Nat.sub_self] at hu
    rw [hvl, List.getElem?_append_right (Nat.le_refl _), Nat.sub_self] at hl
    simp only [List.getElem?_cons_zero, Option.some.injEq] at hu hl
    subst hu
    subst hl
    exact ⟨i, e1, h3 i _ e2 (hno i _ e2), by simp⟩
def tokss (ls : List (List Tok)) : List (List AV) := ls.map fun l => [.sl (toks l)]
theorem frz_split {H : AHeap} {vo vn : AV} {lo : Nat} {cur : List Tok} {done : List (List Tok)} (h : Split H vo vn lo cur done) : frz depth H vo = some (.sl (tokss done)) := by
  rcases h.out with ⟨rfl, rfl⟩ | ⟨id, vs, rfl, _, g3, g4, g5⟩
  · rfl
  · have key : ∀ (vs : List AV) (done : List (List Tok)), vs.length = done.length → (∀ (k : Nat) (u : AV) (l : List Tok), vs[k]? = some u → done[k]? = some l → ∃ id : Nat, u = AV.hs id 0 l.length ∧ H[id]? = some (AO.arr 40 true 0 (toks l))) → mapO (fun e => mapO (frz 7 H) e) (cells1 vs) = some (tokss done) := by
      intro vs
      induction vs with
      | nil =>
        intro done hl _
        cases done with
        | nil => rfl
        | cons a l => cases hl
      | cons u vs ih =>
        intro done hl hel
        cases done with
        | nil => cases hl
        | cons l done =>
          obtain ⟨i, e1, e2⟩ := hel 0 u l rfl rfl
          have ih' := ih done (by simpa using hl) fun k u' l' h1 h2 => hel (k + 1) u' l' h1 h2
          have hu : frz 7 H u = some (.sl (toks l)) := by
            rw [e1]
            simp only [frz]
            rw [e2]
            simp only
            rw [if_pos (by rw [toks_len]; omega)]
            have hlt : l.length = (toks l).length := (toks_len l).symm
            rw [List.drop_zero, hlt, List.take_length, frz_toks H l 5]
            rfl
          simp only [cells1, List.map_cons, mapO, hu] at ih' ⊢
          rw [ih']
          rfl
    simp only [depth, frz]
    rw [g3]
    simp only
    have hcl : (cells1 vs).length = done.length := by simp [cells1, g4]
    rw [if_pos (by omega), List.drop_zero, ← hcl, List.take_length, key vs done g4 fun k u l hu hl => by
      obtain ⟨j, f1, f2, _⟩ := g5 k u l hu hl
      exact ⟨j, f1, f2⟩]
    rfl
/-- Statements, plain. -/
def splitS : List Tok → List Tok → List (List Tok) → List (List Tok)
  | [], cur, done => if cur = [] then done else done ++ [cur]
  | t :: l, cur, done => if semi t then splitS l [] (if cur = [] then done else done ++ [cur]) else splitS l (cur ++ [t]) done
def splitL (l : List Tok) : List (List Tok) := splitS l [] []
theorem Split.len {H : AHeap} {vo vn : AV} {lo : Nat} {cur : List Tok} {done : List (List Tok)} (h : Split H vo vn lo cur done) : abuiltin Try.prog .len [22] [vn] H = some (.int .i64 (cur.length : Int), H) := by
  rcases h.now with ⟨rfl, e⟩ | ⟨id, rfl, e⟩
  · have : cur = [] := List.map_eq_nil_iff.1 e
    subst this
    simp only [go_sem, Nat.reduceEqDiff, reduceCtorEq, Nat.reduceAdd, Nat.reduceSub, Nat.reduceLT, Nat.reduceLeDiff, Int.reduceAdd, Int.reduceSub, Int.reduceNeg, Int.reduceEq, Int.reduceLT, Int.reduceLE]
    rfl
  · simp only [go_sem, Nat.reduceEqDiff, reduceCtorEq, Nat.reduceAdd, Nat.reduceSub, Nat.reduceLT, Nat.reduceLeDiff, Int.reduceAdd, Int.reduceSub, Int.reduceNeg, Int.reduceEq, Int.reduceLT, Int.reduceLE]
theorem p_split4 (l : List Tok) (hl : l.length ≤ 3000) : PV 40 [.sl (toks l)] = some (.sl (tokss (splitL l))) := by
  refine PV_start k40 rfl (Nat.le_of_ble_eq_true rfl) ?_
  generalize hR : splitL l = R
  simp only [go_sem, Nat.reduceEqDiff, reduceCtorEq, Nat.reduceAdd, Nat.reduceSub, Nat.reduceLT, Nat.reduceLeDiff, Int.reduceAdd, Int.reduceSub, Int.reduceNeg, Int.reduceEq, Int.reduceLT, Int.reduceLE, bx, K40]
  refine C_while (fun n s H => ∃ (i : Nat) (cur : List Tok) (done : List (List Tok)), i + n = l.length + 1 ∧ cur.length + done.length ≤ i ∧ (if i ≤ l.length then splitS (l.drop i) cur done = R else cur = [] ∧ done = R) ∧ s 0 = .sl (toks l) ∧ s 5 = .int .i64 (i : Int) ∧ Split H (s 3) (s 4) 0 cur done) ?_ (l.length + 1) _ _
    ⟨0, [], [], by omega, Nat.le_refl _, by rw [if_pos (Nat.zero_le _)]; exact hR, by simp only [go_sem, Nat.reduceEqDiff, reduceCtorEq, Nat.reduceAdd, Nat.reduceSub, Nat.reduceLT, Nat.reduceLeDiff, Int.reduceAdd, Int.reduceSub, Int.reduceNeg, Int.reduceEq, Int.reduceLT, Int.reduceLE, bx], by simp only [go_sem, Nat.reduceEqDiff, reduceCtorEq, Nat.reduceAdd, Nat.reduceSub, Nat.reduceLT, Nat.reduceLeDiff, Int.reduceAdd, Int.reduceSub, Int.reduceNeg, Int.reduceEq, Int.reduceLT, Int.reduceLE, bx]; rfl, ⟨.inl ⟨by simp only [go_sem, Nat.reduceEqDiff, reduceCtorEq, Nat.reduceAdd, Nat.reduceSub, Nat.reduceLT, Nat.reduceLeDiff, Int.reduceAdd, Int.reduceSub, Int.reduceNeg, Int.reduceEq, Int.reduceLT, Int.reduceLE, bx], rfl⟩, .inl ⟨by simp only [go_sem, Nat.reduceEqDiff, reduceCtorEq, Nat.reduceAdd, Nat.reduceSub, Nat.reduceLT, Nat.reduceLeDiff, Int.reduceAdd, Int.reduceSub, Int.reduceNeg, Int.reduceEq, Int.reduceLT, Int.reduceLE, bx], rfl⟩⟩⟩
  clear hR
  rintro n s H ⟨i, cur, done, hin, hcl, hR, s0, s5, hsp⟩
  generalize hvo : s 3 = vo at hsp
  generalize hvn : s 4 = vn at hsp
  by_cases hle : i ≤ l.length
  · rw [if_pos hle] at hR
    have hd : ((i : Int) ≤ (l.length : Int)) := by omega
    have w1 : IntKind.i64.wrap ((i : Int) + 1) = ((i + 1 : Nat) : Int) := wrap_succ (by simp only [maxL]; omega)
    have hlen := hsp.len
    obtain ⟨m, rfl⟩ : ∃ m, n = m + 1 := ⟨n - 1, by omega⟩
    have next : ∀ (cur' : List Tok) (done' : List (List Tok)) (H' : AHeap) (vo' vn' : AV), cur'.length + done'.length ≤ i + 1 → (if i + 1 ≤ l.length then splitS (l.drop (i + 1)) cur' done' = R else cur' = [] ∧ done' = R) → Split H' vo' vn' 0 cur' done' → ∃ m', m' < m + 1 ∧ ∃ (j : Nat) (c : List Tok) (d : List (List Tok)), j + m' = l.length + 1 ∧ c.length + d.length ≤ j ∧ (if j ≤ l.length then splitS (l.drop j) c d = R else c = [] ∧ d = R) ∧ AV.int IntKind.i64 ((i + 1 : Nat) : Int) = AV.int IntKind.i64 (j : Int) ∧ Split H' vo' vn' 0 c d :=
      fun c d H' a b h1 h2 h3 => ⟨m, Nat.lt_succ_self m, i + 1, c, d, by omega, h1, h2, rfl, h3⟩
    have hvc : vn.cells = [vn] ∧ vn.isCell = true := by
      rcases hsp.now with ⟨e, _⟩ | ⟨id, e, _⟩ <;> rw [e] <;> exact ⟨rfl, rfl⟩
    have hbs2 := bs_sl1 vn H hvc.1 hvc.2
    have emp : cur = [] → Split H vo .nils 0 [] done := by
      intro _
      refine ⟨.inl ⟨rfl, rfl⟩, ?_⟩
      rcases hsp.out with h | ⟨id, vs, g1, g2, g3, g4, g5⟩
      · exact .inl h
      · refine .inr ⟨id, vs, g1, g2, g3, g4, fun k u x hu hx => ?_⟩
        obtain ⟨j, f1, f2, _⟩ := g5 k u x hu hx
        exact ⟨j, f1, f2, by simp⟩
    have nxt : ∀ d, splitS (l.drop (i + 1)) [] d = R → (if i + 1 ≤ l.length then splitS (l.drop (i + 1)) [] d = R else ([] : List Tok) = [] ∧ d = R) := by
      intro d h
      by_cases h1 : i + 1 ≤ l.length
      · rw [if_pos h1]; exact h
      · rw [if_neg h1]
        rw [List.drop_of_length_le (by omega)] at h
        exact ⟨rfl, h⟩
    by_cases hlt : i < l.length
    · have hdl : ((i : Int) < (l.length : Int)) := by omega
      have hg := indexAddr_22 l .i64 (i : Int) H (by omega) hdl
      have hdr : l.drop i = tokAt l i :: l.drop (i + 1) := by
        rw [tokAt_nat hlt]
        exact List.drop_eq_getElem_cons hlt
      rw [hdr] at hR
      unfold splitS semi at hR
      generalize tokAt l i = t at *
      obtain ⟨v1, H1, e1, sp1, -⟩ := hsp.tok t (by omega)
      have hbs := bs_tok1 t H
      simp only [tok] at hg e1 hbs
      cases b1 : decide (t.kind = 5)
      · rw [b1] at hR
        simp only [Bool.false_and, Bool.false_eq_true, if_false] at hR
        simp only [go_sem, Nat.reduceEqDiff, reduceCtorEq, Nat.reduceAdd, Nat.reduceSub, Nat.reduceLT, Nat.reduceLeDiff, Int.reduceAdd, Int.reduceSub, Int.reduceNeg, Int.reduceEq, Int.reduceLT, Int.reduceLE, bx, L40_0, s0, s5, hvo, hvn, hd, hdl, hg, tok, b1, Nat.le_refl, hbs, bi_append, e1, w1]
        exact next _ _ _ _ _ (by simp only [List.length_append, List.length_cons, List.length_nil]; omega) (by rw [if_pos (by omega)]; exact hR) sp1
      · cases b2 : (t.text == [59])
        · rw [b1, b2] at hR
          simp only [Bool.and_false, Bool.false_eq_true, if_false] at hR
          simp only [go_sem, Nat.reduceEqDiff, reduceCtorEq, Nat.reduceAdd, Nat.reduceSub, Nat.reduceLT, Nat.reduceLeDiff, Int.reduceAdd, Int.reduceSub, Int.reduceNeg, Int.reduceEq, Int.reduceLT, Int.reduceLE, bx, L40_0, s0, s5, hvo, hvn, hd, hdl, hg, tok, b1, b2, Nat.le_refl, hbs, bi_append, e1, w1]
          exact next _ _ _ _ _ (by simp only [List.length_append, List.length_cons, List.length_nil]; omega) (by rw [if_pos (by omega)]; exact hR) sp1
        · rw [b1, b2] at hR
          simp only [Bool.and_self, if_true] at hR
          by_cases hc : cur = []
          · rw [if_pos hc] at hR
            have hd0 : ¬ ((0 : Int) < (cur.length : Int)) := by rw [hc]; simp
            simp only [go_sem, Nat.reduceEqDiff, reduceCtorEq, Nat.reduceAdd, Nat.reduceSub, Nat.reduceLT, Nat.reduceLeDiff, Int.reduceAdd, Int.reduceSub, Int.reduceNeg, Int.reduceEq, Int.reduceLT, Int.reduceLE, bx, L40_0, s0, s5, hvo, hvn, hd, hdl, hg, tok, b1, b2, hlen, hd0, w1]
            exact next _ _ _ _ _ (by simp only [List.length_nil]; omega) (nxt _ hR) (emp hc)
          · rw [if_neg hc] at hR
            have hd0 : ((0 : Int) < (cur.length : Int)) := by have := List.length_pos_iff.2 hc; omega
            have hcp := List.length_pos_iff.2 hc
            obtain ⟨v2, H2, e2, sp2, -⟩ := hsp.stmt hc (Nat.zero_le _) (by omega)
            simp only [go_sem, Nat.reduceEqDiff, reduceCtorEq, Nat.reduceAdd, Nat.reduceSub, Nat.reduceLT, Nat.reduceLeDiff, Int.reduceAdd, Int.reduceSub, Int.reduceNeg, Int.reduceEq, Int.reduceLT, Int.reduceLE, bx, L40_0, s0, s5, hvo, hvn, hd, hdl, hg, tok, b1, b2, hlen, hd0, hbs2, bi_append, e2, w1]
            exact next _ _ _ _ _ (by simp only [List.length_append, List.length_cons, List.length_nil]; omega) (nxt _ hR) sp2
    · have hdl : ¬ ((i : Int) < (l.length : Int)) := by omega
      rw [List.drop_of_length_le (by omega)] at hR
      unfold splitS at hR
      by_cases hc : cur = []
      · rw [if_pos hc] at hR
        have hd0 : ¬ ((0 : Int) < (cur.length : Int)) := by rw [hc]; simp
        simp only [go_sem, Nat.reduceEqDiff, reduceCtorEq, Nat.reduceAdd, Nat.reduceSub, Nat.reduceLT, Nat.reduceLeDiff, Int.reduceAdd, Int.reduceSub, Int.reduceNeg, Int.reduceEq, Int.reduceLT, Int.reduceLE, bx, L40_0, s0, s5, hvo, hvn, hd, hdl, hlen, hd0, w1]
        exact next _ _ _ _ _ (by simp only [List.length_nil]; omega) (by rw [if_neg (by omega)]; exact ⟨rfl, hR⟩) (emp hc)
      · rw [if_neg hc] at hR
        have hd0 : ((0 : Int) < (cur.length : Int)) := by have := List.length_pos_iff.2 hc; omega
        have hcp := List.length_pos_iff.2 hc
        obtain ⟨v2, H2, e2, sp2, -⟩ := hsp.stmt hc (Nat.zero_le _) (by omega)
        simp only [go_sem, Nat.reduceEqDiff, reduceCtorEq, Nat.reduceAdd, Nat.reduceSub, Nat.reduceLT, Nat.reduceLeDiff, Int.reduceAdd, Int.reduceSub, Int.reduceNeg, Int.reduceEq, Int.reduceLT, Int.reduceLE, bx, L40_0, s0, s5, hvo, hvn, hd, hdl, hlen, hd0, hbs2, bi_append, e2, w1]
        exact next _ _ _ _ _ (by simp only [List.length_append, List.length_cons, List.length_nil]; omega) (by rw [if_neg (by omega)]; exact ⟨rfl, hR⟩) sp2
  · rw [if_neg hle] at hR
    obtain ⟨rfl, rfl⟩ := hR
    have hd : ¬ ((i : Int) ≤ (l.length : Int)) := by omega
    have hf := frz_split hsp
    simp only [go_sem, Nat.reduceEqDiff, reduceCtorEq, Nat.reduceAdd, Nat.reduceSub, Nat.reduceLT, Nat.reduceLeDiff, Int.reduceAdd, Int.reduceSub, Int.reduceNeg, Int.reduceEq, Int.reduceLT, Int.reduceLE, bx, L40_0, s0, s5, hvo, hvn, hd, hf]
end Go.Proofs
/- The sets' layer: lexer.Split, its closure. -/

set_option linter.unusedSimpArgs false
set_option linter.unusedVariables false
namespace Go.Proofs
open Go.Vam
theorem Split.set {H : AHeap} {vo vn : AV} {cur : List Tok} {done : List (List Tok)} (h : Split H vo vn 2 cur done) {j : Nat} {ty : TypeId} {es : List (List AV)} (hj : j < 2) (hH : H[j]? = some (.arr ty true 0 es)) (ht : ty ≠ 40) (o : AO) : Split (H.set j o) vo vn 2 cur done := by
  have keep : ∀ (id : Nat) (x : List (List AV)), H[id]? = some (.arr 40 true 0 x) → (H.set j o)[id]? = some (.arr 40 true 0 x) := by
    intro id x hx
    have hne : j ≠ id := by
      rintro rfl
      rw [hH] at hx
      cases hx
      exact ht rfl
    rw [List.getElem?_set_ne hne]
    exact hx
  refine ⟨?_, ?_⟩
  · rcases h.now with h | ⟨id, h1, h2⟩
    · exact .inl h
    · exact .inr ⟨id, h1, keep _ _ h2⟩
  · rcases h.out with h | ⟨id, vs, g1, g2, g3, g4, g5⟩
    · exact .inl h
    · refine .inr ⟨id, vs, g1, g2, by rw [List.getElem?_set_ne (by omega)]; exact g3, g4, fun k u l hu hl => ?_⟩
      obtain ⟨i, e1, e2, e3⟩ := g5 k u l hu hl
      exact ⟨i, e1, keep _ _ e2, e3⟩
theorem Split.nil {H : AHeap} {vo vn : AV} {lo : Nat} {cur : List Tok} {done : List (List Tok)} (h : Split H vo vn lo cur done) : Split H vo .nils lo [] done := by
  refine ⟨.inl ⟨rfl, rfl⟩, ?_⟩
  rcases h.out with h | ⟨id, vs, g1, g2, g3, g4, g5⟩
  · exact .inl h
  · refine .inr ⟨id, vs, g1, g2, g3, g4, fun k u x hu hx => ?_⟩
    obtain ⟨j, f1, f2, _⟩ := g5 k u x hu hx
    exact ⟨j, f1, f2, by simp⟩
structure VarSplit (H : AHeap) (cur : List Tok) (done : List (List Tok)) (vo vn : AV) : Prop where
  h0 : H[0]? = some (.arr 54 true 0 [[vo]])
  h1 : H[1]? = some (.arr 22 true 0 [[vn]])
  sp : Split H vo vn 2 cur done
theorem load_var {H : AHeap} {V ty : Nat} {v : AV} (h : H[V]? = some (.arr ty true 0 [[v]])) (ha : aggT Try.prog ty = some false) : aload Try.prog ty (.ptr V 0 0) H = some v := by
  rw [load_ptr, h, ldObj_arr]
  simp only [go_sem, Nat.reduceEqDiff, reduceCtorEq, Nat.reduceAdd, Nat.reduceSub, Nat.reduceLT, Nat.reduceLeDiff, Int.reduceAdd, Int.reduceSub, Int.reduceNeg, Int.reduceEq, Int.reduceLT, Int.reduceLE, ha]
theorem store_var {H : AHeap} {V ty : Nat} {v u : AV} (h : H[V]? = some (.arr ty true 0 [[v]])) (hz : szOf Try.prog ty = some 1) (hu : u.cells = [u]) (hc : u.isCell = true) : astore Try.prog ty (.ptr V 0 0) u H = some (H.set V (.arr ty true 0 [[u]])) := by
  unfold astore
  simp only [h]
  have e2 : ([[v]] : List (List AV))[0]? = some [v] := rfl
  simp only [e2]
  rw [hu]
  rw [if_pos ⟨Nat.le_refl _, hz, by simp [hc], Nat.le_refl _⟩]
  simp
theorem VarSplit.now_ne {H : AHeap} {cur : List Tok} {done : List (List Tok)} {vo vn : AV} (h : VarSplit H cur done vo vn) : ∀ j, j < 2 → ∀ n, vn ≠ .hs j 0 n := by
  intro j hj n hn
  rcases h.sp.now with ⟨e, _⟩ | ⟨id, e, he⟩
  · rw [e] at hn; cases hn
  · rw [e] at hn
    cases hn
    rcases (by omega : j = 0 ∨ j = 1) with rfl | rfl
    · rw [h.h0] at he; cases he
    · rw [h.h1] at he; cases he
theorem VarSplit.out_ne {H : AHeap} {cur : List Tok} {done : List (List Tok)} {vo vn : AV} (h : VarSplit H cur done vo vn) : ∀ j, j < 2 → ∀ n, vo ≠ .hs j 0 n := by
  intro j hj n hn
  rcases h.sp.out with ⟨e, _⟩ | ⟨id, vs, e, he, _⟩
  · rw [e] at hn; cases hn
  · rw [e] at hn
    cases hn
    omega
theorem VarSplit.cell {H : AHeap} {cur : List Tok} {done : List (List Tok)} {vo vn : AV} (h : VarSplit H cur done vo vn) : vn.cells = [vn] ∧ vn.isCell = true := by
  rcases h.sp.now with ⟨e, _⟩ | ⟨id, e, _⟩ <;> rw [e] <;> exact ⟨rfl, rfl⟩
theorem Split.cello {H : AHeap} {vo vn : AV} {lo : Nat} {cur : List Tok} {done : List (List Tok)} (h : Split H vo vn lo cur done) : vo.cells = [vo] ∧ vo.isCell = true := by
  rcases h.out with ⟨e, _⟩ | ⟨id, vs, e, _⟩ <;> rw [e] <;> exact ⟨rfl, rfl⟩
theorem Split.celln {H : AHeap} {vo vn : AV} {lo : Nat} {cur : List Tok} {done : List (List Tok)} (h : Split H vo vn lo cur done) : vn.cells = [vn] ∧ vn.isCell = true := by
  rcases h.now with ⟨e, _⟩ | ⟨id, e, _⟩ <;> rw [e] <;> exact ⟨rfl, rfl⟩
theorem t_flush {H : AHeap} {cur : List Tok} {done : List (List Tok)} {vo vn : AV} (h : VarSplit H cur done vo vn) (hl : cur.length + done.length < 1000000) :
    ∃ r H' vo' vn', callV E 66 [.ptr 1 0 0, .ptr 0 0 0] H = some (r, H') ∧ VarSplit H' [] (if cur = [] then done else done ++ [cur]) vo' vn' := by
  have l1 := load_var h.h1 aggT_22
  have l0 := load_var h.h0 aggT_54
  have hlen := h.sp.len
  by_cases hc : cur = []
  · have : Tells E 66 [.ptr 1 0 0, .ptr 0 0 0] H fun r H' => H' = H.set 1 (.arr 22 true 0 [[.nils]]) := by
      refine tells_at k66 rfl (Nat.le_of_ble_eq_true rfl) ?_
      have hd0 : ¬ ((0 : Int) < (cur.length : Int)) := by rw [hc]; simp
      have hst := store_var (u := .nils) h.h1 szOf_22 rfl rfl
      simp only [go_sem, Nat.reduceEqDiff, reduceCtorEq, Nat.reduceAdd, Nat.reduceSub, Nat.reduceLT, Nat.reduceLeDiff, Int.reduceAdd, Int.reduceSub, Int.reduceNeg, Int.reduceEq, Int.reduceLT, Int.reduceLE, bx, K66, l1, hlen, hd0, hst]
    obtain ⟨r, H', h1, rfl⟩ := this
    have hlt := (List.getElem?_eq_some_iff.1 h.h1).1
    refine ⟨r, _, vo, .nils, h1, ?_, List.getElem?_set_self hlt, ?_⟩
    · rw [List.getElem?_set_ne (by omega)]; exact h.h0
    · rw [if_pos hc]
      exact (h.sp.set (by omega) h.h1 (by decide) _).nil
  · obtain ⟨v2, H2, e2, sp2, k2⟩ := h.sp.stmt hc (by have := (List.getElem?_eq_some_iff.1 h.h1).1; omega) (by omega)
    have g0 := k2 0 _ h.h0 (h.out_ne 0 (by omega))
    have g1 := k2 1 _ h.h1 (h.out_ne 1 (by omega))
    have hcp := List.length_pos_iff.2 hc
    have hlt0 := (List.getElem?_eq_some_iff.1 g0).1
    have hlt1 := (List.getElem?_eq_some_iff.1 g1).1
    have g1' : (H2.set 0 (.arr 54 true 0 [[v2]]))[1]? = some (.arr 22 true 0 [[vn]]) := by rw [List.getElem?_set_ne (by omega)]; exact g1
    have : Tells E 66 [.ptr 1 0 0, .ptr 0 0 0] H fun r H' => H' = (H2.set 0 (.arr 54 true 0 [[v2]])).set 1 (.arr 22 true 0 [[.nils]]) := by
      refine tells_at k66 rfl (Nat.le_of_ble_eq_true rfl) ?_
      have hd0 : ((0 : Int) < (cur.length : Int)) := by omega
      have hbs := bs_sl1 vn H h.cell.1 h.cell.2
      have st0 := store_var (u := v2) g0 szOf_54 sp2.cello.1 sp2.cello.2
      have st1 := store_var (u := .nils) g1' szOf_22 rfl rfl
      simp only [go_sem, Nat.reduceEqDiff, reduceCtorEq, Nat.reduceAdd, Nat.reduceSub, Nat.reduceLT, Nat.reduceLeDiff, Int.reduceAdd, Int.reduceSub, Int.reduceNeg, Int.reduceEq, Int.reduceLT, Int.reduceLE, bx, K66, l1, l0, hlen, hd0, hbs, bi_append, e2, st0, st1]
    obtain ⟨r, H', h1, rfl⟩ := this
    have s1 := sp2.set (j := 0) (by omega) g0 (by decide) (.arr 54 true 0 [[v2]])
    have s2 := s1.set (j := 1) (by omega) g1' (by decide) (.arr 22 true 0 [[.nils]])
    refine ⟨r, _, v2, .nils, h1, ?_, List.getElem?_set_self (by simpa using hlt1), ?_⟩
    · rw [List.getElem?_set_ne (by omega)]
      exact List.getElem?_set_self hlt0
    · rw [if_neg hc]
      exact s2
theorem p_split (l : List Tok) (hl : l.length ≤ 3000) : PV 38 [.sl (toks l)] = some (.sl (tokss (splitL l))) := by
  refine PV_start k38 rfl (Nat.le_of_ble_eq_true rfl) ?_
  generalize hR : splitL l = R
  simp only [go_sem, Nat.reduceEqDiff, reduceCtorEq, Nat.reduceAdd, Nat.reduceSub, Nat.reduceLT, Nat.reduceLeDiff, Int.reduceAdd, Int.reduceSub, Int.reduceNeg, Int.reduceEq, Int.reduceLT, Int.reduceLE, bx, K38]
  refine C_for l.length (fun i s H => ∃ (cur : List Tok) (done : List (List Tok)) (vo vn : AV), cur.length + done.length ≤ i ∧ splitS (l.drop i) cur done = R ∧ s 3 = .ptr 0 0 0 ∧ s 4 = .ptr 1 0 0 ∧ s 5 = .fn 66 [.ptr 1 0 0, .ptr 0 0 0] ∧ s 9 = .sl (toks l) ∧ s 10 = .int .i64 (l.length : Int) ∧ s 11 = .int .i64 (i : Int) ∧ VarSplit H cur done vo vn)
    ⟨[], [], .nils, .nils, Nat.le_refl _, hR, by simp only [go_sem, Nat.reduceEqDiff, reduceCtorEq, Nat.reduceAdd, Nat.reduceSub, Nat.reduceLT, Nat.reduceLeDiff, Int.reduceAdd, Int.reduceSub, Int.reduceNeg, Int.reduceEq, Int.reduceLT, Int.reduceLE, bx], by simp only [go_sem, Nat.reduceEqDiff, reduceCtorEq, Nat.reduceAdd, Nat.reduceSub, Nat.reduceLT, Nat.reduceLeDiff, Int.reduceAdd, Int.reduceSub, Int.reduceNeg, Int.reduceEq, Int.reduceLT, Int.reduceLE, bx], by simp only [go_sem, Nat.reduceEqDiff, reduceCtorEq, Nat.reduceAdd, Nat.reduceSub, Nat.reduceLT, Nat.reduceLeDiff, Int.reduceAdd, Int.reduceSub, Int.reduceNeg, Int.reduceEq, Int.reduceLT, Int.reduceLE, bx], by simp only [go_sem, Nat.reduceEqDiff, reduceCtorEq, Nat.reduceAdd, Nat.reduceSub, Nat.reduceLT, Nat.reduceLeDiff, Int.reduceAdd, Int.reduceSub, Int.reduceNeg, Int.reduceEq, Int.reduceLT, Int.reduceLE, bx], by simp only [go_sem, Nat.reduceEqDiff, reduceCtorEq, Nat.reduceAdd, Nat.reduceSub, Nat.reduceLT, Nat.reduceLeDiff, Int.reduceAdd, Int.reduceSub, Int.reduceNeg, Int.reduceEq, Int.reduceLT, Int.reduceLE, bx], by simp only [go_sem, Nat.reduceEqDiff, reduceCtorEq, Nat.reduceAdd, Nat.reduceSub, Nat.reduceLT, Nat.reduceLeDiff, Int.reduceAdd, Int.reduceSub, Int.reduceNeg, Int.reduceEq, Int.reduceLT, Int.reduceLE, bx]; rfl, ⟨rfl, rfl, ⟨.inl ⟨rfl, rfl⟩, .inl ⟨rfl, rfl⟩⟩⟩⟩ ?_ ?_
  · clear hR
    rintro i s H hi ⟨cur, done, vo, vn, hcl, hR, s3, s4, s5, s9, s10, s11, hv⟩
    have hd : ((i : Int) < (l.length : Int)) := by omega
    have w1 : IntKind.i64.wrap ((i : Int) + 1) = ((i + 1 : Nat) : Int) := wrap_succ (by simp only [maxL]; omega)
    have hg := indexAddr_22 l .i64 (i : Int) H (by omega) hd
    have hdr : l.drop i = tokAt l i :: l.drop (i + 1) := by
      rw [tokAt_nat hi]
      exact List.drop_eq_getElem_cons hi
    rw [hdr] at hR
    unfold splitS semi at hR
    generalize tokAt l i = t at *
    have hput := tok_put H t
    have hgot := tok_got H t
    have up : ∀ {id : Nat} {o : AO}, H[id]? = some o → (H ++ [.arr 40 true 0 [tok t]])[id]? = some o := fun h => by rw [List.getElem?_append_left (List.getElem?_eq_some_iff.1 h).1]; exact h
    have hv' : VarSplit (H ++ [.arr 40 true 0 [tok t]]) cur done vo vn := ⟨up hv.h0, up hv.h1, hv.sp.app _⟩
    simp only [tok] at hg hput hgot
    have plain : (decide (t.kind = 5) && (t.text == [59])) = false → C (cxV E) L38_0 s H (nrmQ fun s H => ∃ (cur : List Tok) (done : List (List Tok)) (vo vn : AV), cur.length + done.length ≤ i + 1 ∧ splitS (l.drop (i + 1)) cur done = R ∧ s 3 = .ptr 0 0 0 ∧ s 4 = .ptr 1 0 0 ∧ s 5 = .fn 66 [.ptr 1 0 0, .ptr 0 0 0] ∧ s 9 = .sl (toks l) ∧ s 10 = .int .i64 (l.length : Int) ∧ s 11 = .int .i64 ((i + 1 : Nat) : Int) ∧ VarSplit H cur done vo vn) := by
      intro hb
      rw [hb] at hR
      simp only [Bool.false_eq_true, if_false] at hR
      obtain ⟨v1, H1, e1, sp1, k1⟩ := hv'.sp.tok t (by omega)
      have hbs := bs_tok1 t (H ++ [.arr 40 true 0 [tok t]])
      have ld1 := load_var hv'.h1 aggT_22
      have g0 := k1 0 _ hv'.h0 (hv'.now_ne 0 (by omega))
      have g1 := k1 1 _ hv'.h1 (hv'.now_ne 1 (by omega))
      have st1 := store_var (u := v1) g1 szOf_22 sp1.celln.1 sp1.celln.2
      have fin : VarSplit (H1.set 1 (.arr 22 true 0 [[v1]])) (cur ++ [t]) done vo v1 := ⟨by rw [List.getElem?_set_ne (by omega)]; exact g0, List.getElem?_set_self (List.getElem?_eq_some_iff.1 g1).1, sp1.set (by omega) g1 (by decide) _⟩
      simp only [tok] at hbs e1 ld1
      cases b1 : decide (t.kind = 5)
      · simp only [go_sem, Nat.reduceEqDiff, reduceCtorEq, Nat.reduceAdd, Nat.reduceSub, Nat.reduceLT, Nat.reduceLeDiff, Int.reduceAdd, Int.reduceSub, Int.reduceNeg, Int.reduceEq, Int.reduceLT, Int.reduceLE, bx, L38_0, s3, s4, s5, s9, s10, s11, hd, hg, hput, hgot, tok, Nat.le_refl, b1, ld1, hbs, bi_append, e1, st1, w1]
        exact ⟨cur ++ [t], done, vo, v1, by simp only [List.length_append, List.length_cons, List.length_nil]; omega, hR, fin⟩
      · rw [b1, Bool.true_and] at hb
        simp only [go_sem, Nat.reduceEqDiff, reduceCtorEq, Nat.reduceAdd, Nat.reduceSub, Nat.reduceLT, Nat.reduceLeDiff, Int.reduceAdd, Int.reduceSub, Int.reduceNeg, Int.reduceEq, Int.reduceLT, Int.reduceLE, bx, L38_0, s3, s4, s5, s9, s10, s11, hd, hg, hput, hgot, tok, Nat.le_refl, b1, hb, ld1, hbs, bi_append, e1, st1, w1]
        exact ⟨cur ++ [t], done, vo, v1, by simp only [List.length_append, List.length_cons, List.length_nil]; omega, hR, fin⟩
    cases b1 : decide (t.kind = 5)
    · exact plain (by rw [b1]; rfl)
    · cases b2 : (t.text == [59])
      · exact plain (by rw [b1, b2]; rfl)
      · rw [b1, b2] at hR
        simp only [Bool.and_self, if_true] at hR
        obtain ⟨r, H', vo', vn', h1, hv2⟩ := t_flush hv' (by omega)
        simp only [tok] at h1
        simp only [go_sem, Nat.reduceEqDiff, reduceCtorEq, Nat.reduceAdd, Nat.reduceSub, Nat.reduceLT, Nat.reduceLeDiff, Int.reduceAdd, Int.reduceSub, Int.reduceNeg, Int.reduceEq, Int.reduceLT, Int.reduceLE, bx, L38_0, s3, s4, s5, s9, s10, s11, hd, hg, hput, hgot, tok, Nat.le_refl, b1, b2, call_imp (f := 66) rfl, h1, w1]
        refine ⟨[], _, vo', vn', ?_, hR, hv2⟩
        split
        · simp only [List.length_nil]; omega
        · rename_i hc
          have := List.length_pos_iff.2 hc
          simp only [List.length_nil, List.length_append, List.length_cons]; omega
  · rintro s H ⟨cur, done, vo, vn, hcl, hR', s3, s4, s5, s9, s10, s11, hv⟩
    have hd : ¬ ((l.length : Int) < (l.length : Int)) := by omega
    rw [List.drop_length] at hR'
    unfold splitS at hR'
    obtain ⟨r, H', vo', vn', h1, hv2⟩ := t_flush hv (by omega)
    rw [hR'] at hv2
    have ld0 := load_var hv2.h0 aggT_54
    have hf := frz_split hv2.sp
    simp only [go_sem, Nat.reduceEqDiff, reduceCtorEq, Nat.reduceAdd, Nat.reduceSub, Nat.reduceLT, Nat.reduceLeDiff, Int.reduceAdd, Int.reduceSub, Int.reduceNeg, Int.reduceEq, Int.reduceLT, Int.reduceLE, bx, L38_0, s3, s5, s10, s11, hd, call_imp (f := 66) rfl, h1, ld0, hf]
end Go.Proofs
/- The sets' layer: what is known of a text; whether lists meet. -/

set_option linter.unusedSimpArgs false
set_option linter.unusedVariables false
namespace Go.Proofs
open Go.Vam
@[go_sem] theorem still_nils : stillV .nils = true := rfl
/-! ### texts' tokens are few, and short -/
theorem quoL_text {q : UInt8} : ∀ {r : List UInt8} {x : List UInt8 × Nat}, quoL q r = some x → x.1.length ≤ r.length
  | [], x, h => by cases h
  | [c], x, h => by
    unfold quoL at h
    split at h
    · cases h; simp
    · cases h
  | c :: c2 :: r, x, h => by
    unfold quoL at h
    split at h
    · split at h
      · cases hq : quoL q r with
        | none => rw [hq] at h; cases h
        | some y =>
          have := quoL_text hq
          rw [hq] at h
          cases h
          simp only [List.length_cons]
          omega
      · cases h
        simp
    · cases hq : quoL q (c2 :: r) with
      | none => rw [hq] at h; cases h
      | some y =>
        have := quoL_text hq
        rw [hq] at h
        cases h
        simp only [List.length_cons] at this ⊢
        omega
theorem dolL_text {t : List UInt8} : ∀ {r : List UInt8} {x : List UInt8 × Nat}, dolL t r = some x → x.1.length ≤ r.length
  | [], x, h => by cases h
  | c :: r, x, h => by
    unfold dolL at h
    split at h
    · cases h
      simp
    · cases hq : dolL t r with
      | none => rw [hq] at h; cases h
      | some y =>
        have := dolL_text hq
        rw [hq] at h
        cases h
        simp only [List.length_cons]
        omega
theorem one_text (r : List UInt8) : (oneL r).2.1.length ≤ r.length := by
  have quo : ∀ (k : Int) (n : Nat) (o : Option (List UInt8 × Nat)), (∀ x, o = some x → x.1.length ≤ r.length) → (quo1 k (addQ [] n o)).2.1.length ≤ r.length := by
    intro k n o ho
    cases o with
    | none => exact Nat.zero_le _
    | some x =>
      have := ho x rfl
      simpa [addQ, quo1] using this
  have tw : ∀ q : UInt8 → Bool, (r.takeWhile q).length ≤ r.length := fun q => (List.takeWhile_sublist _).length_le
  unfold oneL
  split
  · simp only [smallL, List.length_map]
    exact tw _
  · split
    · exact tw _
    · split
      · exact quo _ _ _ fun x hx => by have := quoL_text hx; simp only [List.length_drop] at this; omega
      · split
        · exact quo _ _ _ fun x hx => by have := quoL_text hx; simp only [List.length_drop] at this; omega
        · split
          · exact quo _ _ _ fun x hx => by have := dolL_text hx; simp only [List.length_drop] at this; omega
          · simp only [List.length_take]
            omega
theorem scan_small (N : Nat) : ∀ (n : Nat) (r : List UInt8) (a : Nat) (out : List Tok), r.length ≤ n → r.length ≤ N → (∀ t ∈ out, t.text.length ≤ N) → (scanF r a out).1.length ≤ out.length + r.length ∧ ∀ t ∈ (scanF r a out).1, t.text.length ≤ N
  | 0, r, a, out, h, hN, ho => by
    rw [scanF_eq, if_pos (by omega)]
    exact ⟨Nat.le_add_right _ _, ho⟩
  | n + 1, r, a, out, h, hN, ho => by
    rw [scanF_eq]
    have go : ∀ k a, 1 ≤ k → (scanF (r.drop k) a out).1.length ≤ out.length + r.length ∧ ∀ t ∈ (scanF (r.drop k) a out).1, t.text.length ≤ N := fun k a hk => by
      have := scan_small N n (r.drop k) a out (by simp only [List.length_drop]; omega) (by simp only [List.length_drop]; omega) ho
      simp only [List.length_drop] at this
      exact ⟨by omega, this.2⟩
    split
    · exact ⟨Nat.le_add_right _ _, ho⟩
    · rename_i h0
      split
      · exact go 1 _ (Nat.le_refl _)
      · split
        · rename_i hp
          exact go _ _ (run_pos hp)
        · split
          · cases hk : remL r with
            | none => exact ⟨Nat.zero_le _, by simp⟩
            | some k => exact go _ _ (rem_pos hk).1
          · split
            · exact ⟨Nat.zero_le _, by simp⟩
            · split
              · exact ⟨Nat.zero_le _, by simp⟩
              · rename_i hm hz
                have h1 := one_len (r := r) (by omega)
                have ht := one_text r
                have := scan_small N n (r.drop (oneL r).2.2.toNat) (a + (oneL r).2.2.toNat) (out ++ [⟨(oneL r).1, (oneL r).2.1, a⟩]) (by simp only [List.length_drop]; omega) (by simp only [List.length_drop]; omega) (by
                  intro t htm
                  rcases List.mem_append.1 htm with h' | h'
                  · exact ho t h'
                  · rw [List.mem_singleton] at h'
                    subst h'
                    simp only
                    omega)
                simp only [List.length_drop, List.length_append, List.length_cons, List.length_nil] at this
                exact ⟨by omega, this.2⟩
theorem scanL_small (s : List UInt8) : (scanL s).1.length ≤ 2000 ∧ ∀ t ∈ (scanL s).1, t.text.length ≤ 2000 := by
  unfold scanL
  split
  · exact ⟨Nat.zero_le _, by simp⟩
  · have := scan_small 2000 s.length s 0 [] (Nat.le_refl _) (by omega) (by simp)
    simp only [List.length_nil, Nat.zero_add] at this
    exact ⟨by omega, this.2⟩
theorem split_mem : ∀ (l cur : List Tok) (done : List (List Tok)) (x : List Tok), x ∈ splitS l cur done → x ∈ done ∨ (x.length ≤ cur.length + l.length ∧ ∀ t ∈ x, t ∈ cur ∨ t ∈ l)
  | [], cur, done, x, h => by
    unfold splitS at h
    split at h
    · exact .inl h
    · rcases List.mem_append.1 h with h | h
      · exact .inl h
      · rw [List.mem_singleton] at h
        subst h
        exact .inr ⟨Nat.le_add_right _ _, fun t ht => .inl ht⟩
  | t :: l, cur, done, x, h => by
    unfold splitS at h
    have fromDone : x ∈ (if cur = [] then done else done ++ [cur]) → x ∈ done ∨ (x.length ≤ cur.length + (t :: l).length ∧ ∀ u ∈ x, u ∈ cur ∨ u ∈ t :: l) := by
      intro h
      split at h
      · exact .inl h
      · rcases List.mem_append.1 h with h | h
        · exact .inl h
        · rw [List.mem_singleton] at h
          subst h
          exact .inr ⟨by omega, fun u hu => .inl hu⟩
    split at h
    · rcases split_mem l [] _ x h with h | ⟨h1, h2⟩
      · exact fromDone h
      · refine .inr ⟨by simp only [List.length_nil, List.length_cons] at h1 ⊢; omega, fun u hu => ?_⟩
        rcases h2 u hu with h' | h'
        · cases h'
        · exact .inr (List.mem_cons_of_mem _ h')
    · rcases split_mem l _ _ x h with h | ⟨h1, h2⟩
      · exact .inl h
      · refine .inr ⟨by simp only [List.length_append, List.length_cons, List.length_nil] at h1 ⊢; omega, fun u hu => ?_⟩
        rcases h2 u hu with h' | h'
        · rcases List.mem_append.1 h' with h' | h'
          · exact .inl h'
          · rw [List.mem_singleton] at h'
            exact .inr (by rw [h']; exact List.mem_cons_self)
        · exact .inr (List.mem_cons_of_mem _ h')
theorem piece_small {s : List UInt8} {x : List Tok} (h : x ∈ splitL (scanL s).1) : Small x := by
  obtain ⟨h1, h2⟩ := scanL_small s
  rcases split_mem _ _ _ _ h with h | ⟨h3, h4⟩
  · cases h
  · simp only [List.length_nil, Nat.zero_add] at h3
    refine ⟨by omega, fun t ht => ?_⟩
    rcases h4 t ht with h' | h'
    · cases h'
    · have := h2 t h'
      omega
theorem small_nil : Small [] := ⟨Nat.zero_le _, by simp⟩
/-! ### Parse -/
def zeroS : Stm := ⟨0, [], [], []⟩
def parseL (s : List UInt8) : Stm × Int :=
  if (scanL s).2.1 = 0 then match splitL (scanL s).1 with
    | [] => (ofS [], 0)
    | [x] => (ofS x, 0)
    | _ => (zeroS, 4)
  else (zeroS, (scanL s).2.1)
def parseR (x : Stm × Int) : AV := .tup [stm x.1, .int .i64 x.2]
theorem build30z : abuild Try.prog 30 [] = some (.agg [.int .i64 0, .nils, .nils, .str []]) := by
  unfold abuild
  rw [structT_30, zeroT_30]
  simp [afill]
theorem store30s (c d : List AV) (hd : d.length = 4) (hc : d.all AV.isCell = true) (hl : c.length = 4) : astore Try.prog 30 (.ptr 0 0 0) (.agg d) [.arr 30 true 0 [c]] = some [.arr 30 true 0 [d]] := by
  unfold astore
  simp only [List.getElem?_cons_zero]
  rw [if_pos ⟨Nat.le_refl _, by rw [szOf_30]; exact congrArg some hd.symm, hc, by simp only [AV.cells]; omega⟩]
  simp only [AV.cells, hd, List.take_zero, List.nil_append, List.set_cons_zero]
  rw [List.drop_of_length_le (by omega), List.append_nil]
@[go_sem] theorem tokss_len (ls : List (List Tok)) : (tokss ls).length = ls.length := by simp [tokss]
theorem idx54 (x : List Tok) (H : AHeap) : aindexAddr Try.prog 54 (.sl (tokss [x])) (.int .i64 0) H = some (.ip [.sl (toks x)]) :=
  indexAddr_sl Try.prog 54 H (k := .i64) (i := 0) (e := 22) sliceT_54 rfl (by rw [szOf_22]; rfl)
theorem p_parse (s : List UInt8) (hs : s.length ≤ 10000000) : PV 19 [.str s] = some (parseR (parseL s)) := by
  refine PV_start k19 rfl (Nat.le_of_ble_eq_true rfl) ?_
  have hsc := p_scan s hs
  have hsm := scanL_small s
  have hpc := fun x => piece_small (s := s) (x := x)
  unfold parseL
  generalize scanL s = sc at *
  obtain ⟨l, e, p⟩ := sc
  unfold scanR at hsc
  simp only at hsc hsm hpc ⊢
  cases he : decide (e = 0)
  · have hz := store30s [.int .i64 0, .nils, .nils, .str []] [.int .i64 0, .nils, .nils, .str []] rfl rfl rfl
    rw [if_neg (of_decide_eq_false he)]
    simp only [go_sem, Nat.reduceEqDiff, reduceCtorEq, Nat.reduceAdd, Nat.reduceSub, Nat.reduceLT, Nat.reduceLeDiff, Int.reduceAdd, Int.reduceSub, Int.reduceNeg, Int.reduceEq, Int.reduceLT, Int.reduceLE, bx, K19, call_pure pure_37, hsc, PC_still, he, build30z, hz, Nat.le_refl]
    rfl
  · have e0 := of_decide_eq_true he
    subst e0
    rw [if_pos rfl]
    have hsp := p_split l (by omega)
    cases hpl : splitL l with
    | nil =>
      rw [hpl] at hsp
      have hof : PV 16 [.sl []] = some (stm (ofS [])) := p_of [] small_nil
      simp only [stm] at hof
      have hst := store30s [.int .i64 0, .nils, .nils, .str []] [.int .i64 (ofS []).cls, .sl (strs (ofS []).reads), .sl (strs (ofS []).writes), .str (ofS []).norm] rfl rfl rfl
      simp only [go_sem, Nat.reduceEqDiff, reduceCtorEq, Nat.reduceAdd, Nat.reduceSub, Nat.reduceLT, Nat.reduceLeDiff, Int.reduceAdd, Int.reduceSub, Int.reduceNeg, Int.reduceEq, Int.reduceLT, Int.reduceLE, bx, K19, call_pure pure_37, hsc, PC_still, he, call_pure pure_38, hsp, call_pure pure_16, hof, hst, Nat.le_refl, Int.cast_ofNat_Int, decide_true, decide_false]
      rfl
    | cons x ls =>
      cases ls with
      | nil =>
        rw [hpl] at hsp
        have hof := p_of x (hpc x (by rw [hpl]; simp))
        have hix := fun H => idx54 x H
        simp only [stm] at hof
        have hst := store30s [.int .i64 0, .nils, .nils, .str []] [.int .i64 (ofS x).cls, .sl (strs (ofS x).reads), .sl (strs (ofS x).writes), .str (ofS x).norm] rfl rfl rfl
        simp only [go_sem, Nat.reduceEqDiff, reduceCtorEq, Nat.reduceAdd, Nat.reduceSub, Nat.reduceLT, Nat.reduceLeDiff, Int.reduceAdd, Int.reduceSub, Int.reduceNeg, Int.reduceEq, Int.reduceLT, Int.reduceLE, bx, K19, call_pure pure_37, hsc, PC_still, he, call_pure pure_38, hsp, call_pure pure_16, hof, hix, hst, Nat.le_refl, Int.cast_ofNat_Int, decide_true, decide_false]
        rfl
      | cons y ls =>
        rw [hpl] at hsp
        have hd0 : decide (((ls.length + 1 + 1 : Nat) : Int) = 0) = false := decide_eq_false (by omega)
        have hd1 : decide (((ls.length + 1 + 1 : Nat) : Int) = 1) = false := decide_eq_false (by omega)
        have hz := store30s [.int .i64 0, .nils, .nils, .str []] [.int .i64 0, .nils, .nils, .str []] rfl rfl rfl
        simp only [go_sem, Nat.reduceEqDiff, reduceCtorEq, Nat.reduceAdd, Nat.reduceSub, Nat.reduceLT, Nat.reduceLeDiff, Int.reduceAdd, Int.reduceSub, Int.reduceNeg, Int.reduceEq, Int.reduceLT, Int.reduceLE, bx, K19, call_pure pure_37, hsc, PC_still, he, call_pure pure_38, hsp, hd0, hd1, build30z, hz, Nat.le_refl]
        rfl
theorem p_parse7 (s : List UInt8) (hs : s.length ≤ 10000000) : PV 20 [.str s] = some (parseR (parseL s)) := by
  refine PV_start k20 rfl (Nat.le_of_ble_eq_true rfl) ?_
  have hsc := p_scan4 s hs
  have hsm := scanL_small s
  have hpc := fun x => piece_small (s := s) (x := x)
  unfold parseL
  generalize scanL s = sc at *
  obtain ⟨l, e, p⟩ := sc
  unfold scanR at hsc
  simp only at hsc hsm hpc ⊢
  cases he : decide (e = 0)
  · have hz := store30s [.int .i64 0, .nils, .nils, .str []] [.int .i64 0, .nils, .nils, .str []] rfl rfl rfl
    rw [if_neg (of_decide_eq_false he)]
    simp only [go_sem, Nat.reduceEqDiff, reduceCtorEq, Nat.reduceAdd, Nat.reduceSub, Nat.reduceLT, Nat.reduceLeDiff, Int.reduceAdd, Int.reduceSub, Int.reduceNeg, Int.reduceEq, Int.reduceLT, Int.reduceLE, bx, K20, call_pure pure_39, hsc, PC_still, he, build30z, hz, Nat.le_refl]
    rfl
  · have e0 := of_decide_eq_true he
    subst e0
    rw [if_pos rfl]
    have hsp := p_split4 l (by omega)
    cases hpl : splitL l with
    | nil =>
      rw [hpl] at hsp
      have hof : PV 17 [.sl []] = some (stm (ofS [])) := p_of7 [] small_nil
      simp only [stm] at hof
      have hst := store30s [.int .i64 0, .nils, .nils, .str []] [.int .i64 (ofS []).cls, .sl (strs (ofS []).reads), .sl (strs (ofS []).writes), .str (ofS []).norm] rfl rfl rfl
      simp only [go_sem, Nat.reduceEqDiff, reduceCtorEq, Nat.reduceAdd, Nat.reduceSub, Nat.reduceLT, Nat.reduceLeDiff, Int.reduceAdd, Int.reduceSub, Int.reduceNeg, Int.reduceEq, Int.reduceLT, Int.reduceLE, bx, K20, call_pure pure_39, hsc, PC_still, he, call_pure pure_40, hsp, call_pure pure_17, hof, hst, Nat.le_refl, Int.cast_ofNat_Int, decide_true, decide_false]
      rfl
    | cons x ls =>
      cases ls with
      | nil =>
        rw [hpl] at hsp
        have hof := p_of7 x (hpc x (by rw [hpl]; simp))
        have hix := fun H => idx54 x H
        simp only [stm] at hof
        have hst := store30s [.int .i64 0, .nils, .nils, .str []] [.int .i64 (ofS x).cls, .sl (strs (ofS x).reads), .sl (strs (ofS x).writes), .str (ofS x).norm] rfl rfl rfl
        simp only [go_sem, Nat.reduceEqDiff, reduceCtorEq, Nat.reduceAdd, Nat.reduceSub, Nat.reduceLT, Nat.reduceLeDiff, Int.reduceAdd, Int.reduceSub, Int.reduceNeg, Int.reduceEq, Int.reduceLT, Int.reduceLE, bx, K20, call_pure pure_39, hsc, PC_still, he, call_pure pure_40, hsp, call_pure pure_17, hof, hix, hst, Nat.le_refl, Int.cast_ofNat_Int, decide_true, decide_false]
        rfl
      | cons y ls =>
        rw [hpl] at hsp
        have hd1 : decide ((1 : Int) < ((ls.length + 1 + 1 : Nat) : Int)) = true := decide_eq_true (by omega)
        have hz := store30s [.int .i64 0, .nils, .nils, .str []] [.int .i64 0, .nils, .nils, .str []] rfl rfl rfl
        simp only [go_sem, Nat.reduceEqDiff, reduceCtorEq, Nat.reduceAdd, Nat.reduceSub, Nat.reduceLT, Nat.reduceLeDiff, Int.reduceAdd, Int.reduceSub, Int.reduceNeg, Int.reduceEq, Int.reduceLT, Int.reduceLE, bx, K20, call_pure pure_39, hsc, PC_still, he, call_pure pure_40, hsp, hd1, build30z, hz, Nat.le_refl]
        rfl
theorem p_toks (s : List UInt8) (hs : s.length ≤ 10000000) : PV 24 [.str s] = some (.sl (toks (scanL s).1)) := by
  refine PV_start k24 rfl (Nat.le_of_ble_eq_true rfl) ?_
  have hsc := p_scan4 s hs
  unfold scanR at hsc
  simp only [go_sem, Nat.reduceEqDiff, reduceCtorEq, Nat.reduceAdd, Nat.reduceSub, Nat.reduceLT, Nat.reduceLeDiff, Int.reduceAdd, Int.reduceSub, Int.reduceNeg, Int.reduceEq, Int.reduceLT, Int.reduceLE, bx, K24, call_pure pure_39, hsc, PC_still]
/-! ### Meets -/
theorem count_bump (n m : List UInt8) (l : List (List UInt8 × Int)) : count n (bump m l) = if n == m then IntKind.i64.wrap (count m l + 1) else count n l := by
  unfold bump
  generalize IntKind.i64.wrap (count m l + 1) = c
  induction l with
  | nil =>
    simp only [setKv, count]
  | cons a l ih =>
    obtain ⟨k, d⟩ := a
    simp only [setKv]
    by_cases h1 : m = k
    · subst h1
      simp only [beq_self_eq_true, if_true, count]
      split <;> rfl
    · have h1' : (m == k) = false := by simpa using h1
      rw [h1']
      simp only [Bool.false_eq_true, if_false, count]
      by_cases h2 : n = k
      · subst h2
        have h3 : (n == m) = false := by simpa using fun e => h1 e.symm
        rw [h3]
        simp only [beq_self_eq_true, if_true, Bool.false_eq_true, if_false]
      · have h2' : (n == k) = false := by simpa using h2
        rw [h2']
        simp only [Bool.false_eq_true, if_false]
        exact ih
theorem count_bumps (n : List UInt8) : ∀ (names : List (List UInt8)) (l : List (List UInt8 × Int)), 0 ≤ count n l → count n l + names.length ≤ 1000000 → count n (bumps l names) = count n l + names.count n
  | [], l, _, _ => by simp [bumps]
  | m :: names, l, h0, h => by
    show count n (bumps (bump m l) names) = _
    have hb := count_bump n m l
    simp only [List.length_cons] at h
    by_cases e : n = m
    · subst e
      rw [if_pos (by simp)] at hb
      have hw : IntKind.i64.wrap (count n l + 1) = count n l + 1 := wrap_ok (by omega) (by omega)
      rw [hw] at hb
      rw [count_bumps n names _ (by omega) (by omega), hb, List.count_cons_self]
      omega
    · have e' : (n == m) = false := by simpa using e
      rw [e'] at hb
      simp only [Bool.false_eq_true, if_false] at hb
      rw [count_bumps n names _ (by omega) (by omega), hb, List.count_cons_of_ne (fun q => e q.symm)]
theorem p_meets (a b : List (List UInt8)) (ha : a.length ≤ 100000) (hb : b.length ≤ 100000) : PV 21 [.sl (strs a), .sl (strs b)] = some (.bool (b.any fun x => a.contains x)) := by
  refine PV_start k21 rfl (Nat.le_of_ble_eq_true rfl) ?_
  simp only [go_sem, Nat.reduceEqDiff, reduceCtorEq, Nat.reduceAdd, Nat.reduceSub, Nat.reduceLT, Nat.reduceLeDiff, Int.reduceAdd, Int.reduceSub, Int.reduceNeg, Int.reduceEq, Int.reduceLT, Int.reduceLE, bx, K21]
  refine C_for a.length (fun i s H => s 1 = .sl (strs b) ∧ s 5 = .mp 0 ∧ s 11 = .sl (strs a) ∧ s 12 = .int .i64 (a.length : Int) ∧ s 13 = .int .i64 (i : Int) ∧ H = [.map (kvs (bumps [] (a.take i)))]) ⟨by simp only [go_sem, Nat.reduceEqDiff, reduceCtorEq, Nat.reduceAdd, Nat.reduceSub, Nat.reduceLT, Nat.reduceLeDiff, Int.reduceAdd, Int.reduceSub, Int.reduceNeg, Int.reduceEq, Int.reduceLT, Int.reduceLE, bx], by simp only [go_sem, Nat.reduceEqDiff, reduceCtorEq, Nat.reduceAdd, Nat.reduceSub, Nat.reduceLT, Nat.reduceLeDiff, Int.reduceAdd, Int.reduceSub, Int.reduceNeg, Int.reduceEq, Int.reduceLT, Int.reduceLE, bx], by simp only [go_sem, Nat.reduceEqDiff, reduceCtorEq, Nat.reduceAdd, Nat.reduceSub, Nat.reduceLT, Nat.reduceLeDiff, Int.reduceAdd, Int.reduceSub, Int.reduceNeg, Int.reduceEq, Int.reduceLT, Int.reduceLE, bx], by simp only [go_sem, Nat.reduceEqDiff, reduceCtorEq, Nat.reduceAdd, Nat.reduceSub, Nat.reduceLT, Nat.reduceLeDiff, Int.reduceAdd, Int.reduceSub, Int.reduceNeg, Int.reduceEq, Int.reduceLT, Int.reduceLE, bx], by simp only [go_sem, Nat.reduceEqDiff, reduceCtorEq, Nat.reduceAdd, Nat.reduceSub, Nat.reduceLT, Nat.reduceLeDiff, Int.reduceAdd, Int.reduceSub, Int.reduceNeg, Int.reduceEq, Int.reduceLT, Int.reduceLE, bx]; rfl, rfl⟩ ?_ ?_
  · rintro i s H hi ⟨h1, h5, h11, h12, h13, rfl⟩
    have hd : ((i : Int) < (a.length : Int)) := by omega
    have hw : IntKind.i64.wrap ((i : Int) + 1) = ((i + 1 : Nat) : Int) := wrap_succ (by simp only [maxL]; omega)
    have hg := strs_at' (H := [.map (kvs (bumps [] (a.take i)))]) hi
    have hbs : bumps [] (a.take (i + 1)) = bump (strAt a i) (bumps [] (a.take i)) := by
      unfold bumps
      rw [List.take_add_one, List.getElem?_eq_getElem hi, List.foldl_append, strAt_lt hi]
      rfl
    have hlk := lookup_kvs (H := [.map (kvs (bumps [] (a.take i)))]) (M := 0) (l := bumps [] (a.take i)) rfl (strAt a i)
    have hup := update_kvs (H := [.map (kvs (bumps [] (a.take i)))]) (M := 0) (l := bumps [] (a.take i)) rfl (strAt a i) (IntKind.i64.wrap (count (strAt a i) (bumps [] (a.take i)) + 1))
    rw [hbs]
    unfold bump
    simp only [go_sem, Nat.reduceEqDiff, reduceCtorEq, Nat.reduceAdd, Nat.reduceSub, Nat.reduceLT, Nat.reduceLeDiff, Int.reduceAdd, Int.reduceSub, Int.reduceNeg, Int.reduceEq, Int.reduceLT, Int.reduceLE, bx, L21_0, h1, h5, h11, h12, h13, hd, hg, hlk, hup, hw, List.set_cons_zero]
  · rintro s H ⟨h1, h5, h11, h12, h13, rfl⟩
    have hd : ¬ ((a.length : Int) < (a.length : Int)) := by omega
    rw [List.take_length]
    simp only [go_sem, Nat.reduceEqDiff, reduceCtorEq, Nat.reduceAdd, Nat.reduceSub, Nat.reduceLT, Nat.reduceLeDiff, Int.reduceAdd, Int.reduceSub, Int.reduceNeg, Int.reduceEq, Int.reduceLT, Int.reduceLE, bx, L21_0, h1, h12, h13, hd]
    have hlk := fun n => lookup_kvs (H := [.map (kvs (bumps [] a))]) (M := 0) (l := bumps [] a) rfl n
    have hcn : ∀ n, decide ((0 : Int) < count n (bumps [] a)) = a.contains n := by
      intro n
      rw [count_bumps n a [] (Int.le_refl _) (by show (0 : Int) + _ ≤ _; omega)]
      show decide ((0 : Int) < 0 + _) = _
      rw [Bool.eq_iff_iff, decide_eq_true_eq, List.contains_iff_mem, ← List.count_pos_iff]
      omega
    generalize bumps [] a = m at *
    have hr : (List.range b.length).any (fun i => a.contains (strAt b i)) = b.any fun x => a.contains x := by
      rw [Bool.eq_iff_iff, List.any_eq_true, List.any_eq_true]
      constructor
      · rintro ⟨i, hi, h⟩
        have hi' := List.mem_range.1 hi
        rw [strAt_lt hi'] at h
        exact ⟨_, List.getElem_mem hi', h⟩
      · rintro ⟨x, hx, h⟩
        obtain ⟨i, hi, rfl⟩ := List.getElem_of_mem hx
        exact ⟨i, List.mem_range.2 hi, by rw [strAt_lt hi]; exact h⟩
    generalize (b.any fun x => a.contains x) = r at *
    refine C_any b.length _ (fun i s H => s 5 = .mp 0 ∧ s 22 = .sl (strs b) ∧ s 23 = .int .i64 (b.length : Int) ∧ s 24 = .int .i64 (i : Int) ∧ H = [.map (kvs m)]) hr ⟨by simp only [go_sem, Nat.reduceEqDiff, reduceCtorEq, Nat.reduceAdd, Nat.reduceSub, Nat.reduceLT, Nat.reduceLeDiff, Int.reduceAdd, Int.reduceSub, Int.reduceNeg, Int.reduceEq, Int.reduceLT, Int.reduceLE, bx, h5], by simp only [go_sem, Nat.reduceEqDiff, reduceCtorEq, Nat.reduceAdd, Nat.reduceSub, Nat.reduceLT, Nat.reduceLeDiff, Int.reduceAdd, Int.reduceSub, Int.reduceNeg, Int.reduceEq, Int.reduceLT, Int.reduceLE, bx], by simp only [go_sem, Nat.reduceEqDiff, reduceCtorEq, Nat.reduceAdd, Nat.reduceSub, Nat.reduceLT, Nat.reduceLeDiff, Int.reduceAdd, Int.reduceSub, Int.reduceNeg, Int.reduceEq, Int.reduceLT, Int.reduceLE, bx], by simp only [go_sem, Nat.reduceEqDiff, reduceCtorEq, Nat.reduceAdd, Nat.reduceSub, Nat.reduceLT, Nat.reduceLeDiff, Int.reduceAdd, Int.reduceSub, Int.reduceNeg, Int.reduceEq, Int.reduceLT, Int.reduceLE, bx]; rfl, rfl⟩ ?_ ?_ ?_
    · rintro i s H hi hp ⟨h5, h22, h23, h24, rfl⟩
      have hd : ((i : Int) < (b.length : Int)) := by omega
      have hw : IntKind.i64.wrap ((i : Int) + 1) = ((i + 1 : Nat) : Int) := wrap_succ (by simp only [maxL]; omega)
      have hg := strs_at' (H := [.map (kvs m)]) hi
      rw [← hcn] at hp
      simp only [go_sem, Nat.reduceEqDiff, reduceCtorEq, Nat.reduceAdd, Nat.reduceSub, Nat.reduceLT, Nat.reduceLeDiff, Int.reduceAdd, Int.reduceSub, Int.reduceNeg, Int.reduceEq, Int.reduceLT, Int.reduceLE, bx, L21_1, h5, h22, h23, h24, hd, hg, hlk, hp, hw]
    · rintro i s H hi hp rfl ⟨h5, h22, h23, h24, rfl⟩
      have hd : ((i : Int) < (b.length : Int)) := by omega
      have hg := strs_at' (H := [.map (kvs m)]) hi
      rw [← hcn] at hp
      simp only [go_sem, Nat.reduceEqDiff, reduceCtorEq, Nat.reduceAdd, Nat.reduceSub, Nat.reduceLT, Nat.reduceLeDiff, Int.reduceAdd, Int.reduceSub, Int.reduceNeg, Int.reduceEq, Int.reduceLT, Int.reduceLE, bx, L21_1, h5, h22, h23, h24, hd, hg, hlk, hp]
    · rintro s H rfl ⟨h5, h22, h23, h24, rfl⟩
      have hd : ¬ ((b.length : Int) < (b.length : Int)) := by omega
      simp only [go_sem, Nat.reduceEqDiff, reduceCtorEq, Nat.reduceAdd, Nat.reduceSub, Nat.reduceLT, Nat.reduceLeDiff, Int.reduceAdd, Int.reduceSub, Int.reduceNeg, Int.reduceEq, Int.reduceLT, Int.reduceLE, bx, L21_1, h23, h24, hd]
/-! ### light, ref04.Same -/
def lightB (l : List Tok) : Bool := decide (l.length ≤ 100) && l.all fun t => decide (t.text.length ≤ 100)
theorem light_small {l : List Tok} (h : lightB l = true) : Small l := by
  unfold lightB at h
  rw [Bool.and_eq_true, decide_eq_true_eq, List.all_eq_true] at h
  exact ⟨by omega, fun t ht => by have := h.2 t ht; simp only [decide_eq_true_eq] at this; omega⟩
theorem p_light (l : List Tok) : PV 8 [.sl (toks l)] = some (.bool (lightB l)) := by
  refine PV_start k8 rfl (Nat.le_of_ble_eq_true rfl) ?_
  unfold lightB
  by_cases h : (100 : Int) < (l.length : Int)
  · rw [decide_eq_false (by omega), Bool.false_and]
    simp only [go_sem, Nat.reduceEqDiff, reduceCtorEq, Nat.reduceAdd, Nat.reduceSub, Nat.reduceLT, Nat.reduceLeDiff, Int.reduceAdd, Int.reduceSub, Int.reduceNeg, Int.reduceEq, Int.reduceLT, Int.reduceLE, bx, K8, h]
  · rw [decide_eq_true (by omega), Bool.true_and]
    have hr : (List.range l.length).any (fun i => decide ((100 : Int) < ((tokAt l i).text.length : Int))) = !(l.all fun t => decide (t.text.length ≤ 100)) := by
      rw [List.not_all_eq_any_not, Bool.eq_iff_iff, List.any_eq_true, List.any_eq_true]
      constructor
      · rintro ⟨i, hi, h⟩
        have hi' := List.mem_range.1 hi
        rw [tokAt_nat hi'] at h
        have := of_decide_eq_true h
        exact ⟨_, List.getElem_mem hi', by simp only [Bool.not_eq_true', decide_eq_false_iff_not]; omega⟩
      · rintro ⟨x, hx, h⟩
        obtain ⟨i, hi, rfl⟩ := List.getElem_of_mem hx
        simp only [Bool.not_eq_true', decide_eq_false_iff_not] at h
        exact ⟨i, List.mem_range.2 hi, by rw [tokAt_nat hi]; exact decide_eq_true (by omega)⟩
    generalize hq : (l.all fun t => decide (t.text.length ≤ 100)) = r at *
    simp only [go_sem, Nat.reduceEqDiff, reduceCtorEq, Nat.reduceAdd, Nat.reduceSub, Nat.reduceLT, Nat.reduceLeDiff, Int.reduceAdd, Int.reduceSub, Int.reduceNeg, Int.reduceEq, Int.reduceLT, Int.reduceLE, bx, K8, h]
    refine C_any l.length _ (fun i s H => s 0 = .sl (toks l) ∧ s 3 = .int .i64 (i : Int)) hr ⟨by simp only [go_sem, Nat.reduceEqDiff, reduceCtorEq, Nat.reduceAdd, Nat.reduceSub, Nat.reduceLT, Nat.reduceLeDiff, Int.reduceAdd, Int.reduceSub, Int.reduceNeg, Int.reduceEq, Int.reduceLT, Int.reduceLE, bx], by simp only [go_sem, Nat.reduceEqDiff, reduceCtorEq, Nat.reduceAdd, Nat.reduceSub, Nat.reduceLT, Nat.reduceLeDiff, Int.reduceAdd, Int.reduceSub, Int.reduceNeg, Int.reduceEq, Int.reduceLT, Int.reduceLE, bx]; rfl⟩ ?_ ?_ ?_
    · rintro i s H hi hp ⟨h0, h3⟩
      have hd : ((i : Int) < (l.length : Int)) := by omega
      have hw : IntKind.i64.wrap ((i : Int) + 1) = ((i + 1 : Nat) : Int) := wrap_succ (by simp only [maxL]; omega)
      have hg := fun H => indexAddr_22 l .i64 (i : Int) H (by omega) hd
      simp only [go_sem, Nat.reduceEqDiff, reduceCtorEq, Nat.reduceAdd, Nat.reduceSub, Nat.reduceLT, Nat.reduceLeDiff, Int.reduceAdd, Int.reduceSub, Int.reduceNeg, Int.reduceEq, Int.reduceLT, Int.reduceLE, bx, L8_0, h0, h3, hd, hg, tok, hp, hw]
    · rintro i s H hi hp hr ⟨h0, h3⟩
      have hd : ((i : Int) < (l.length : Int)) := by omega
      have hg := fun H => indexAddr_22 l .i64 (i : Int) H (by omega) hd
      have hr' : r = false := by simpa using hr
      rw [hr']
      simp only [go_sem, Nat.reduceEqDiff, reduceCtorEq, Nat.reduceAdd, Nat.reduceSub, Nat.reduceLT, Nat.reduceLeDiff, Int.reduceAdd, Int.reduceSub, Int.reduceNeg, Int.reduceEq, Int.reduceLT, Int.reduceLE, bx, L8_0, h0, h3, hd, hg, tok, hp]
    · rintro s H hr ⟨h0, h3⟩
      have hd : ¬ ((l.length : Int) < (l.length : Int)) := by omega
      have hr' : r = true := by simpa using hr
      rw [hr']
      simp only [go_sem, Nat.reduceEqDiff, reduceCtorEq, Nat.reduceAdd, Nat.reduceSub, Nat.reduceLT, Nat.reduceLeDiff, Int.reduceAdd, Int.reduceSub, Int.reduceNeg, Int.reduceEq, Int.reduceLT, Int.reduceLE, bx, L8_0, h0, h3, hd]
theorem p_same4 (l : List Tok) (hl : l.length ≤ 1000000) : PV 18 [.sl (toks l), .sl (toks l), .bool true] = some (.bool true) := by
  refine PV_start k18 rfl (Nat.le_of_ble_eq_true rfl) ?_
  simp only [go_sem, Nat.reduceEqDiff, reduceCtorEq, Nat.reduceAdd, Nat.reduceSub, Nat.reduceLT, Nat.reduceLeDiff, Int.reduceAdd, Int.reduceSub, Int.reduceNeg, Int.reduceEq, Int.reduceLT, Int.reduceLE, bx, K18, decide_true]
  refine C_for l.length (fun i s H => s 0 = .sl (toks l) ∧ s 1 = .sl (toks l) ∧ s 2 = .bool true ∧ s 7 = .int .i64 (i : Int)) ⟨by simp only [go_sem, Nat.reduceEqDiff, reduceCtorEq, Nat.reduceAdd, Nat.reduceSub, Nat.reduceLT, Nat.reduceLeDiff, Int.reduceAdd, Int.reduceSub, Int.reduceNeg, Int.reduceEq, Int.reduceLT, Int.reduceLE, bx], by simp only [go_sem, Nat.reduceEqDiff, reduceCtorEq, Nat.reduceAdd, Nat.reduceSub, Nat.reduceLT, Nat.reduceLeDiff, Int.reduceAdd, Int.reduceSub, Int.reduceNeg, Int.reduceEq, Int.reduceLT, Int.reduceLE, bx], by simp only [go_sem, Nat.reduceEqDiff, reduceCtorEq, Nat.reduceAdd, Nat.reduceSub, Nat.reduceLT, Nat.reduceLeDiff, Int.reduceAdd, Int.reduceSub, Int.reduceNeg, Int.reduceEq, Int.reduceLT, Int.reduceLE, bx], by simp only [go_sem, Nat.reduceEqDiff, reduceCtorEq, Nat.reduceAdd, Nat.reduceSub, Nat.reduceLT, Nat.reduceLeDiff, Int.reduceAdd, Int.reduceSub, Int.reduceNeg, Int.reduceEq, Int.reduceLT, Int.reduceLE, bx]; rfl⟩ ?_ ?_
  · rintro i s H hi ⟨h0, h1, h2, h7⟩
    have hd : ((i : Int) < (l.length : Int)) := by omega
    have hw : IntKind.i64.wrap ((i : Int) + 1) = ((i + 1 : Nat) : Int) := wrap_succ (by simp only [maxL]; omega)
    have hg := fun H => indexAddr_22 l .i64 (i : Int) H (by omega) hd
    simp only [go_sem, Nat.reduceEqDiff, reduceCtorEq, Nat.reduceAdd, Nat.reduceSub, Nat.reduceLT, Nat.reduceLeDiff, Int.reduceAdd, Int.reduceSub, Int.reduceNeg, Int.reduceEq, Int.reduceLT, Int.reduceLE, bx, L18_0, D18_6, h0, h1, h2, h7, hd, hg, tok, hw, decide_true, beq_self_eq_true]
  · rintro s H ⟨h0, h1, h2, h7⟩
    have hd : ¬ ((l.length : Int) < (l.length : Int)) := by omega
    simp only [go_sem, Nat.reduceEqDiff, reduceCtorEq, Nat.reduceAdd, Nat.reduceSub, Nat.reduceLT, Nat.reduceLeDiff, Int.reduceAdd, Int.reduceSub, Int.reduceNeg, Int.reduceEq, Int.reduceLT, Int.reduceLE, bx, L18_0, h0, h7, hd]
end Go.Proofs
/- The sets' layer: what must come of fixed calls. -/


set_option linter.unusedSimpArgs false
set_option linter.unusedVariables false
namespace Go.Proofs
open Go.Vam
def t1 : List UInt8 := [115, 101, 108, 101, 99, 116, 32, 42, 32, 102, 114, 111, 109, 32, 97, 44, 32, 98, 32, 120, 32, 106, 111, 105, 110, 32, 34, 67, 34, 32, 117, 115, 105, 110, 103, 32, 40, 107, 41, 59]
def t2 : List UInt8 := [105, 110, 115, 101, 114, 116, 32, 105, 110, 116, 111, 32, 115, 46, 116, 32, 115, 101, 108, 101, 99, 116, 32, 49, 32, 102, 114, 111, 109, 32, 117]
def t3 : List UInt8 := [115, 101, 108, 101, 99, 116, 32, 49, 59, 32, 115, 101, 108, 101, 99, 116, 32, 50]
def t4 : List UInt8 := [39]
def t5 : List UInt8 := [98, 101, 103, 105, 110]
def t6 : List UInt8 := [100, 101, 108, 101, 116, 101, 32, 102, 114, 111, 109, 32, 120]
def n1 : List UInt8 := [115, 101, 108, 101, 99, 116, 32, 42, 32, 102, 114, 111, 109, 32, 97, 32, 44, 32, 98, 32, 120, 32, 106, 111, 105, 110, 32, 34, 67, 34, 32, 117, 115, 105, 110, 103, 32, 40, 32, 107, 32, 41]
def n2 : List UInt8 := [105, 110, 115, 101, 114, 116, 32, 105, 110, 116, 111, 32, 115, 32, 46, 32, 116, 32, 115, 101, 108, 101, 99, 116, 32, 49, 32, 102, 114, 111, 109, 32, 117]
def S1 : Stm := ⟨1, [[67], [97], [98]], [], n1⟩
def S2 : Stm := ⟨2, [[117]], [[115, 46, 116]], n2⟩
def n5 : List UInt8 := [98, 101, 103, 105, 110]
def S5 : Stm := ⟨3, [], [], n5⟩
theorem kn1 : parseL t1 = (S1, 0) := by kernel_rfl
theorem kn2 : parseL t2 = (S2, 0) := by kernel_rfl
theorem kn3 : parseL t3 = (zeroS, 4) := by kernel_rfl
theorem kn4 : parseL t4 = (zeroS, 6) := by kernel_rfl
theorem kn5 : parseL t5 = (S5, 0) := by kernel_rfl
theorem kn6r : readsR (scanL t6).1 (scanL t6).1.length 0 [] = [] := by kernel_rfl
theorem kn6w : writesR (scanL t6).1 (scanL t6).1.length 0 [] = [[120]] := by kernel_rfl
theorem scan_Small (s : List UInt8) : Small (scanL s).1 := ⟨by have := (scanL_small s).1; omega, fun t ht => by have := (scanL_small s).2 t ht; omega⟩
theorem pk1 : PV 19 [.str t1] = some (.tup [.agg [.int .i64 1, .sl (strs S1.reads), .sl (strs S1.writes), .str n1], .int .i64 0]) := by
  rw [p_parse t1 (by decide), kn1]
  rfl
theorem pk2 : PV 19 [.str t2] = some (.tup [.agg [.int .i64 2, .sl (strs S2.reads), .sl (strs S2.writes), .str n2], .int .i64 0]) := by
  rw [p_parse t2 (by decide), kn2]
  rfl
theorem pk3 : PV 19 [.str t3] = some (.tup [.agg [.int .i64 0, .sl (strs []), .sl (strs []), .str []], .int .i64 4]) := by
  rw [p_parse t3 (by decide), kn3]
  rfl
theorem pk4 : PV 19 [.str t4] = some (.tup [.agg [.int .i64 0, .sl (strs []), .sl (strs []), .str []], .int .i64 6]) := by
  rw [p_parse t4 (by decide), kn4]
  rfl
theorem pk5 : PV 19 [.str t5] = some (.tup [.agg [.int .i64 3, .sl (strs []), .sl (strs []), .str n5], .int .i64 0]) := by
  rw [p_parse t5 (by decide), kn5]
  rfl
theorem pk6 : PV 24 [.str t6] = some (.sl (toks (scanL t6).1)) := p_toks t6 (by decide)
theorem pk7 : PV 11 [.sl (toks (scanL t6).1)] = some (.sl []) := by
  rw [p_reads _ (scan_Small _), kn6r]
  rfl
theorem pk8 : PV 13 [.sl (toks (scanL t6).1)] = some (.sl (strs [[120]])) := by
  rw [p_writes' _ (scan_Small _), kn6w]
theorem new30 (c : Int) (x y : AV) (n : List UInt8) (hx : x.isCell = true) (hy : y.isCell = true) (H : AHeap) : astore Try.prog 30 (.ptr H.length 0 0) (.agg [.int .i64 c, x, y, .str n]) (H ++ [.arr 30 true 0 [[.int .i64 0, .nils, .nils, .str []]]]) = some (H ++ [.arr 30 true 0 [[.int .i64 c, x, y, .str n]]]) :=
  store_agg (c := [.int .i64 c, x, y, .str n]) (z := [.int .i64 0, .nils, .nils, .str []]) szOf_30 (by simp only [List.all_cons, List.all_nil, hx, hy]; rfl) rfl H
theorem frz_lit (H : AHeap) (r : List (List UInt8)) (c : Int) (n : List UInt8) (k : Nat) (hk : k = r.length) : frz depth (H ++ [.arr 9 true 0 (strs r)]) (.agg [.int .i64 c, .hs H.length 0 k, .nils, .str n]) = some (.agg [.int .i64 c, .sl (strs r), .sl [], .str n]) := by
  subst hk
  have h7 : frz 7 (H ++ [.arr 9 true 0 (strs r)]) (.hs H.length 0 r.length) = some (.sl (strs r)) := by
    simp only [frz]
    rw [List.getElem?_append_right (by simp)]
    simp only [Nat.sub_self, List.getElem?_cons_zero, strs_len, Nat.zero_add, Nat.le_refl, if_true, List.drop_zero]
    rw [show (strs r).take r.length = strs r from List.take_of_length_le (by rw [strs_len]; exact Nat.le_refl _)]
    rw [frz_strs _ r 5]
    rfl
  generalize H ++ [AO.arr 9 true 0 (strs r)] = H' at *
  have e : frz depth H' (.agg [.int .i64 c, .hs H.length 0 r.length, .nils, .str n]) = (mapO (frz 7 H') [.int .i64 c, .hs H.length 0 r.length, .nils, .str n]).map .agg := rfl
  have e1 : frz 7 H' (.int .i64 c) = some (.int .i64 c) := rfl
  have e2 : frz 7 H' .nils = some (.sl []) := rfl
  have e3 : frz 7 H' (.str n) = some (.str n) := rfl
  rw [e]
  simp only [mapO, e1, e2, e3, h7, Option.map_some]
theorem frz_agg (H : AHeap) (c : Int) (n : List UInt8) (x y : List (List AV)) : frz depth H (.agg [.int .i64 c, .sl x, .sl y, .str n]) = some (.agg [.int .i64 c, .sl x, .sl y, .str n]) := rfl
theorem build30r (c : Int) (i j k : Nat) (n : List UInt8) : abuild Try.prog 30 [(0, .int .i64 c), (1, .hs i j k), (3, .str n)] = some (.agg [.int .i64 c, .hs i j k, .nils, .str n]) := by
  unfold abuild
  rw [structT_30, zeroT_30]
  simp [afill, fldT_30_0, fldT_30_1, fldT_30_3, szOf_3, szOf_9, szOf_26, AV.cells, AV.isCell]
theorem p_known : PV 9 [] = some (.bool true) := by
  refine PV_start k9 rfl (Nat.le_of_ble_eq_true rfl) ?_
  rw [K9]
  refine C_then (fun s H => H = []) (by simp only [go_sem, Nat.reduceEqDiff, reduceCtorEq, Nat.reduceAdd, Nat.reduceSub, Nat.reduceLT, Nat.reduceLeDiff, Int.reduceAdd, Int.reduceSub, Int.reduceNeg, Int.reduceEq, Int.reduceLT, Int.reduceLE, bx]) ?_
  rintro s H rfl
  have x1 := pk1
  have x2 := pk2
  have x3 := pk3
  have x4 := pk4
  have x5 := pk5
  simp only [t1, t2, t3, t4, t5] at x1 x2 x3 x4 x5
  have st1 := new30 1 (.sl (strs S1.reads)) (.sl (strs S1.writes)) n1 rfl rfl []
  simp only [go_sem, Nat.reduceEqDiff, reduceCtorEq, Nat.reduceAdd, Nat.reduceSub, Nat.reduceLT, Nat.reduceLeDiff, Int.reduceAdd, Int.reduceSub, Int.reduceNeg, Int.reduceEq, Int.reduceLT, Int.reduceLE, bx] at st1
  refine C_then (fun s H => s 1 = .ptr 0 0 0 ∧ s 2 = .int .i64 0 ∧ H = [.arr 30 true 0 [[.int .i64 1, .sl (strs S1.reads), .sl (strs S1.writes), .str n1]]]) (by simp only [go_sem, Nat.reduceEqDiff, reduceCtorEq, Nat.reduceAdd, Nat.reduceSub, Nat.reduceLT, Nat.reduceLeDiff, Int.reduceAdd, Int.reduceSub, Int.reduceNeg, Int.reduceEq, Int.reduceLT, Int.reduceLE, bx, call_pure pure_19, x1, PC_still, st1]) ?_
  clear s st1
  rintro s H ⟨s1, s2, rfl⟩
  generalize ho1 : AO.arr 30 true 0 [[.int .i64 1, .sl (strs S1.reads), .sl (strs S1.writes), .str n1]] = o1
  have st2 := new30 2 (.sl (strs S2.reads)) (.sl (strs S2.writes)) n2 rfl rfl [o1]
  simp only [go_sem, Nat.reduceEqDiff, reduceCtorEq, Nat.reduceAdd, Nat.reduceSub, Nat.reduceLT, Nat.reduceLeDiff, Int.reduceAdd, Int.reduceSub, Int.reduceNeg, Int.reduceEq, Int.reduceLT, Int.reduceLE, bx] at st2
  refine C_then (fun s H => s 1 = .ptr 0 0 0 ∧ s 2 = .int .i64 0 ∧ s 3 = .ptr 1 0 0 ∧ s 4 = .int .i64 0 ∧ H = [o1, .arr 30 true 0 [[.int .i64 2, .sl (strs S2.reads), .sl (strs S2.writes), .str n2]]]) (by simp only [go_sem, Nat.reduceEqDiff, reduceCtorEq, Nat.reduceAdd, Nat.reduceSub, Nat.reduceLT, Nat.reduceLeDiff, Int.reduceAdd, Int.reduceSub, Int.reduceNeg, Int.reduceEq, Int.reduceLT, Int.reduceLE, bx, s1, s2, call_pure pure_19, x2, PC_still, st2]) ?_
  clear s s1 s2 st2
  rintro s H ⟨s1, s2, s3, s4, rfl⟩
  generalize ho2 : AO.arr 30 true 0 [[.int .i64 2, .sl (strs S2.reads), .sl (strs S2.writes), .str n2]] = o2
  have st3 := new30 0 (.sl (strs [])) (.sl (strs [])) [] rfl rfl [o1, o2]
  simp only [go_sem, Nat.reduceEqDiff, reduceCtorEq, Nat.reduceAdd, Nat.reduceSub, Nat.reduceLT, Nat.reduceLeDiff, Int.reduceAdd, Int.reduceSub, Int.reduceNeg, Int.reduceEq, Int.reduceLT, Int.reduceLE, bx] at st3
  refine C_then (fun s H => s 1 = .ptr 0 0 0 ∧ s 2 = .int .i64 0 ∧ s 3 = .ptr 1 0 0 ∧ s 4 = .int .i64 0 ∧ s 6 = .int .i64 4 ∧ H = [o1, o2, .arr 30 true 0 [[.int .i64 0, .sl (strs []), .sl (strs []), .str []]]]) (by simp only [go_sem, Nat.reduceEqDiff, reduceCtorEq, Nat.reduceAdd, Nat.reduceSub, Nat.reduceLT, Nat.reduceLeDiff, Int.reduceAdd, Int.reduceSub, Int.reduceNeg, Int.reduceEq, Int.reduceLT, Int.reduceLE, bx, s1, s2, s3, s4, call_pure pure_19, x3, PC_still, st3]) ?_
  clear s s1 s2 s3 s4 st3
  rintro s H ⟨s1, s2, s3, s4, s6, rfl⟩
  generalize ho3 : AO.arr 30 true 0 [[.int .i64 0, .sl (strs []), .sl (strs []), .str []]] = o3
  have st4 := new30 0 (.sl (strs [])) (.sl (strs [])) [] rfl rfl [o1, o2, o3]
  simp only [go_sem, Nat.reduceEqDiff, reduceCtorEq, Nat.reduceAdd, Nat.reduceSub, Nat.reduceLT, Nat.reduceLeDiff, Int.reduceAdd, Int.reduceSub, Int.reduceNeg, Int.reduceEq, Int.reduceLT, Int.reduceLE, bx] at st4
  refine C_then (fun s H => s 1 = .ptr 0 0 0 ∧ s 2 = .int .i64 0 ∧ s 3 = .ptr 1 0 0 ∧ s 4 = .int .i64 0 ∧ s 6 = .int .i64 4 ∧ s 8 = .int .i64 6 ∧ H = [o1, o2, o3, .arr 30 true 0 [[.int .i64 0, .sl (strs []), .sl (strs []), .str []]]]) (by simp only [go_sem, Nat.reduceEqDiff, reduceCtorEq, Nat.reduceAdd, Nat.reduceSub, Nat.reduceLT, Nat.reduceLeDiff, Int.reduceAdd, Int.reduceSub, Int.reduceNeg, Int.reduceEq, Int.reduceLT, Int.reduceLE, bx, s1, s2, s3, s4, s6, call_pure pure_19, x4, PC_still, st4]) ?_
  clear s s1 s2 s3 s4 s6 st4
  rintro s H ⟨s1, s2, s3, s4, s6, s8, rfl⟩
  rw [ho3]
  have st5 := new30 3 (.sl (strs [])) (.sl (strs [])) n5 rfl rfl [o1, o2, o3, o3]
  simp only [go_sem, Nat.reduceEqDiff, reduceCtorEq, Nat.reduceAdd, Nat.reduceSub, Nat.reduceLT, Nat.reduceLeDiff, Int.reduceAdd, Int.reduceSub, Int.reduceNeg, Int.reduceEq, Int.reduceLT, Int.reduceLE, bx] at st5
  refine C_then (fun s H => s 1 = .ptr 0 0 0 ∧ s 2 = .int .i64 0 ∧ s 3 = .ptr 1 0 0 ∧ s 4 = .int .i64 0 ∧ s 6 = .int .i64 4 ∧ s 8 = .int .i64 6 ∧ s 9 = .ptr 4 0 0 ∧ s 10 = .int .i64 0 ∧ H = [o1, o2, o3, o3, .arr 30 true 0 [[.int .i64 3, .sl (strs []), .sl (strs []), .str n5]]]) (by simp only [go_sem, Nat.reduceEqDiff, reduceCtorEq, Nat.reduceAdd, Nat.reduceSub, Nat.reduceLT, Nat.reduceLeDiff, Int.reduceAdd, Int.reduceSub, Int.reduceNeg, Int.reduceEq, Int.reduceLT, Int.reduceLE, bx, s1, s2, s3, s4, s6, s8, call_pure pure_19, x5, PC_still, st5]) ?_
  clear s s1 s2 s3 s4 s6 s8 st5 x1 x2 x3 x4 x5
  rintro s H ⟨s1, s2, s3, s4, s6, s8, s9, s10, hH⟩
  have h0 : H[0]? = some (.arr 30 true 0 [[.int .i64 1, .sl (strs S1.reads), .sl (strs S1.writes), .str n1]]) := by rw [hH, ← ho1]; rfl
  have h1 : ∀ x, (H ++ [x])[1]? = some (.arr 30 true 0 [[.int .i64 2, .sl (strs S2.reads), .sl (strs S2.writes), .str n2]]) := by intro x; rw [hH, ← ho2]; rfl
  have h2 : ∀ x y, (H ++ [x] ++ [y])[1]? = some (.arr 30 true 0 [[.int .i64 2, .sl (strs S2.reads), .sl (strs S2.writes), .str n2]]) := by intro x y; rw [hH, ← ho2]; rfl
  have h4 : ∀ x y z, (H ++ [x] ++ [y] ++ [z])[4]? = some (.arr 30 true 0 [[.int .i64 3, .sl (strs []), .sl (strs []), .str n5]]) := by intro x y z; rw [hH]; rfl
  clear hH ho1 ho2 ho3
  have b30 := fun H : AHeap => build30r 1 H.length 0 3 n1
  have fl := fun H => frz_lit H [[67], [97], [98]] 1 n1 3 rfl
  have sm : PV 15 [.agg [.int .i64 1, .sl (strs S1.reads), .sl (strs S1.writes), .str n1], .agg [.int .i64 1, .sl (strs [[67], [97], [98]]), .sl [], .str n1]] = some (.bool true) := p_same S1 S1 (by decide) (by decide)
  have tx1 : PV 10 [.sl (strs S2.reads), .sl (strs [[117]])] = some (.bool true) := p_texts [[117]] [[117]] (by decide)
  have tx2 : PV 10 [.sl (strs S2.writes), .sl (strs [[115, 46, 116]])] = some (.bool true) := p_texts [[115, 46, 116]] [[115, 46, 116]] (by decide)
  have tx3 : PV 10 [.sl [], .sl []] = some (.bool true) := p_texts [] [] (by decide)
  have tx4 : PV 10 [.sl (strs [[120]]), .sl (strs [[120]])] = some (.bool true) := p_texts [[120]] [[120]] (by decide)
  have m1 : PV 21 [.sl (strs [[97]]), .sl (strs [[98], [97]])] = some (.bool true) := p_meets [[97]] [[98], [97]] (by decide) (by decide)
  have m2 : PV 21 [.sl [], .sl (strs [[97]])] = some (.bool false) := p_meets [] [[97]] (by decide) (by decide)
  have f1 := fun H x => frz_last H [x] 1 rfl
  have f2 := fun H => frz_last H [[98], [97]] 2 rfl
  have f2' := fun (H : AHeap) (z : AO) => (show frz depth (H ++ [.arr 9 true 0 (strs [[97]])] ++ [z]) (.hs H.length 0 1) = some (.sl (strs [[97]])) from by
    have := frz_own (H := H ++ [.arr 9 true 0 (strs [[97]])] ++ [z]) (v := .hs H.length 0 1) (l := [[97]]) (.inr ⟨H.length, rfl, by
      rw [List.getElem?_append_left (by simp), List.getElem?_append_right (Nat.le_refl _), Nat.sub_self]
      rfl⟩)
    exact this)
  have g1 := pk6
  have g2 := pk7
  have g3 := pk8
  simp only [t6] at g1 g2 g3
  simp only [n1] at b30 fl sm h0
  simp only [go_sem, Nat.reduceEqDiff, reduceCtorEq, Nat.reduceAdd, Nat.reduceSub, Nat.reduceLT, Nat.reduceLeDiff, Int.reduceAdd, Int.reduceSub, Int.reduceNeg, Int.reduceEq, Int.reduceLT, Int.reduceLE, bx, s1, s2, s3, s4, s6, s8, s9, s10, h0, decide_true, Nat.le_refl, bs_str, b30, call_pure pure_15, fl, frz_agg, sm, h1, call_pure pure_10, f1, tx1, h2, tx2, h4, f2, f2', call_pure pure_21, m1, m2, call_pure pure_24, g1, call_pure pure_11, g2, PC_still, tx3, call_pure pure_13, g3, tx4]
end Go.Proofs
/- The sets' layer: SetsTells, SetsParses. -/

set_option linter.unusedSimpArgs false
set_option linter.unusedVariables false
namespace Go.Proofs
open Go.Vam
/-- A slice of these tokens, be they written any more or not. -/
def OwnF (H : AHeap) (v : AV) (l : List Tok) : Prop := ∃ id fz, v = .hs id 0 l.length ∧ H[id]? = some (.arr 40 true fz (toks l))
theorem OwnF.frz {H : AHeap} {v : AV} {l : List Tok} (h : OwnF H v l) : frz depth H v = some (.sl (toks l)) := by
  obtain ⟨id, fz, rfl, h⟩ := h
  simp only [depth, Go.Vam.frz]
  rw [h]
  simp only
  rw [if_pos (by rw [toks_len]; omega), List.drop_zero, show l.length = (toks l).length from (toks_len l).symm, List.take_length, frz_toks H l 6]
  rfl
theorem reach_tok (H : AHeap) (l : List Tok) : ∀ n, (toks l).flatMap (fun e => e.flatMap (reach n H)) = [] := by
  intro n
  rw [List.flatMap_eq_nil_iff]
  intro e he
  obtain ⟨t, _, rfl⟩ := List.mem_map.1 he
  cases n <;> rfl
theorem OwnF.call {H : AHeap} {v : AV} {l : List Tok} (h : OwnF H v l) (z : AV) : ∃ H', PC [v] H (some z) = some (z, H') ∧ OwnF H' v l := by
  obtain ⟨id, fz, rfl, h⟩ := h
  rw [PC_some]
  cases hl : leads depth z with
  | false => exact ⟨H, rfl, id, fz, rfl, h⟩
  | true =>
    have hr : [AV.hs id 0 l.length].flatMap (reach depth H) = [id] := by
      simp only [List.flatMap_cons, List.flatMap_nil, List.append_nil]
      show id :: (match H[id]? with
        | some (.arr _ _ _ es) => es.flatMap fun e => e.flatMap (reach 7 H)
        | _ => []) = [id]
      rw [h]
      simp only
      rw [reach_tok]
    rw [hr]
    refine ⟨_, rfl, id, max fz (toks l).length, rfl, ?_⟩
    simp only [if_true, List.foldl_cons, List.foldl_nil, settle1, h]
    exact List.getElem?_set_self (List.getElem?_eq_some_iff.1 h).1
theorem append_own (l : List Tok) (hl : l.length ≤ 1000000) : ∃ v H', aappend Try.prog 22 22 (.hs 0 0 0) (.sl (toks l)) [.arr 40 true 0 []] = some (v, H') ∧ OwnF H' v l := by
  have hni : notIntT Try.prog 22 = true := notIntT_22
  have hz : (zeroT Try.prog 40).isSome = true := by rw [zeroT_40]; rfl
  have hall : ∀ c ∈ toks l, szOf Try.prog 40 = some c.length ∧ c.all AV.isCell = true := by
    intro c hc
    obtain ⟨t, _, rfl⟩ := List.mem_map.1 hc
    exact ⟨szOf_40, rfl⟩
  unfold aappend
  rw [sliceT_22]
  simp only [asrc, aelems]
  rw [bytesT_40, szOf_40]
  simp only
  rw [if_pos ⟨by rw [← szOf_40]; exact hall, hni, hz⟩]
  simp only [List.getElem?_cons_zero, toks_len, List.length_nil, Nat.zero_add, List.nil_append]
  rw [if_pos ⟨trivial, trivial, trivial, trivial, Nat.le_refl _, by omega, by omega⟩]
  by_cases h0 : l.length = 0
  · rw [if_pos h0]
    have : l = [] := List.length_eq_zero_iff.1 h0
    subst this
    exact ⟨_, _, rfl, 0, 0, rfl, rfl⟩
  · rw [if_neg h0]
    exact ⟨_, _, rfl, 1, 0, rfl, rfl⟩
theorem bs_tok0 : abuildSlice Try.prog 22 0 [] [] = some (.hs 0 0 0, [.arr 40 true 0 []]) := by
  unfold abuildSlice
  rw [sliceT_22]
  simp only
  rw [zeroT_40]
  simp [afillS]
theorem putS_text {N : Nat} : ∀ (more l : List (List UInt8)), (∀ y ∈ l, y.length ≤ N) → (∀ y ∈ more, y.length ≤ N) → ∀ y ∈ putS l more, y.length ≤ N := by
  intro more l h1 h2 y hy
  rcases putS_mem more l y hy with h | h
  · exact h1 y h
  · exact h2 y h
theorem reads_text {l : List Tok} (hs : Small l) : ∀ (n : Nat) (i : Int) (out : List (List UInt8)), (∀ y ∈ out, y.length ≤ 3000000) → out.length ≤ 100000000 → ∀ y ∈ readsR l n i out, y.length ≤ 3000000
  | 0, i, out, h, _ => h
  | n + 1, i, out, h, hl => by
    unfold readsR
    have hf := from_text hs (l.length + 1) (i + 1)
    cases readsAt l i
    · exact reads_text hs n _ _ h hl
    · intro y hy
      have key : ∀ (n : Nat) (i : Int) (out : List (List UInt8)), (∀ y ∈ out, y.length ≤ 3000000) → ∀ y ∈ readsR l n i out, y.length ≤ 3000000 := by
        intro n
        induction n with
        | zero => intro i out h; exact h
        | succ n ih =>
          intro i out h
          unfold readsR
          refine ih _ _ ?_
          split
          · exact putS_text _ _ h (from_text hs (l.length + 1) (i + 1))
          · exact h
      exact key _ _ _ (putS_text _ _ h hf) y hy
theorem reads_len (l : List Tok) : ∀ (n : Nat) (i : Int) (out : List (List UInt8)), (readsR l n i out).length ≤ out.length + n * (l.length + 1)
  | 0, i, out => by simp [readsR]
  | n + 1, i, out => by
    unfold readsR
    have ih := reads_len l n (i + 1) (if readsAt l i then putS out (namesAt l (i + 1)) else out)
    have h1 := putS_len (namesAt l (i + 1)) out
    have h2 := from_len l (l.length + 1) (i + 1)
    have h3 : (namesAt l (i + 1)).length ≤ l.length + 1 := h2
    rw [Nat.succ_mul]
    generalize readsAt l i = q at *
    cases q <;> simp only [if_true, Bool.false_eq_true, if_false] at ih ⊢ <;> omega
theorem writes_len (l : List Tok) : ∀ (n : Nat) (i : Int) (out : List (List UInt8)), (writesR l n i out).length ≤ out.length + n * (l.length + 2)
  | 0, i, out => by simp [writesR]
  | n + 1, i, out => by
    unfold writesR
    have ih := writes_len l n (i + 1) (wStep l i out)
    have h3 : (namesAt l (i + 1)).length ≤ l.length + 1 := from_len l (l.length + 1) (i + 1)
    have hw : (wStep l i out).length ≤ out.length + (l.length + 2) := by
      unfold wStep
      have h1 := putS_len (namesAt l (i + 1)) out
      have h4 := putS_len ((namesAt l (i + 1)).take 1) (putS out (namesAt l (i + 1)))
      have h5 := putS_len ((namesAt l (i + 1)).take 1) out
      have h6 : ((namesAt l (i + 1)).take 1).length ≤ 1 := by simp only [List.length_take]; omega
      cases moreAt l i <;> cases oneAt l i <;> simp only [if_true, Bool.false_eq_true, if_false] <;> omega
    rw [Nat.succ_mul]
    omega
theorem small_mul {l : List Tok} (hs : Small l) : l.length * (l.length + 1) ≤ 10000000 ∧ l.length * (l.length + 2) ≤ 10000000 := by
  have := hs.len
  exact ⟨Nat.le_trans (Nat.mul_le_mul this (by omega : l.length + 1 ≤ 3001)) (by decide), Nat.le_trans (Nat.mul_le_mul this (by omega : l.length + 2 ≤ 3002)) (by decide)⟩
theorem reads_max {l : List Tok} (hs : Small l) : (readsR l l.length 0 []).length ≤ 10000000 := by
  have := reads_len l l.length 0 []
  have := (small_mul hs).1
  simp only [List.length_nil] at *
  omega
theorem writes_max {l : List Tok} (hs : Small l) : (writesR l l.length 0 []).length ≤ 10000000 := by
  have := writes_len l l.length 0 []
  have := (small_mul hs).2
  simp only [List.length_nil] at *
  omega
theorem of_max {l : List Tok} (hs : Small l) : (ofS l).reads.length ≤ 10000000 ∧ (ofS l).writes.length ≤ 10000000 := by
  unfold ofS
  constructor
  · simp only
    split
    · exact reads_max hs
    · exact Nat.zero_le _
  · simp only
    split
    · exact writes_max hs
    · exact Nat.zero_le _
theorem law_tells (l : List Tok) : PV 3 [.sl (toks l)] = some (.bool true) := by
  refine PV_start k3 rfl (Nat.le_of_ble_eq_true rfl) ?_
  have h8 := p_light l
  have h9 := p_known
  cases hlt : lightB l
  · simp only [go_sem, Nat.reduceEqDiff, reduceCtorEq, Nat.reduceAdd, Nat.reduceSub, Nat.reduceLT, Nat.reduceLeDiff, Int.reduceAdd, Int.reduceSub, Int.reduceNeg, Int.reduceEq, Int.reduceLT, Int.reduceLE, bx, K3, call_pure pure_8, h8, hlt, call_pure pure_9, h9]
  · have hs := light_small hlt
    have hlen := hs.len
    obtain ⟨v, H0, e0, o0⟩ := append_own l (by omega)
    have h11 := p_reads l hs
    have h12 := p_rreads l hs
    have h13 := p_writes' l hs
    have h14 := p_rwrites l hs
    have h16 := p_of l hs
    have h17 := p_of7 l hs
    have h18 := p_same4 l (by omega)
    have hom := of_max hs
    have t1 := p_texts (readsR l l.length 0 []) (readsR l l.length 0 []) (by have := reads_max hs; simp only [maxL]; omega)
    have t2 := p_texts (writesR l l.length 0 []) (writesR l l.length 0 []) (by have := writes_max hs; simp only [maxL]; omega)
    have t3 := p_same (ofS l) (ofS l) (by simp only [maxL]; omega) (by simp only [maxL]; omega)
    rw [decide_eq_true rfl] at t1 t2 t3
    obtain ⟨H1, e1, o1⟩ := o0.call (.sl (strs (readsR l l.length 0 [])))
    obtain ⟨H2, e2, o2⟩ := o1.call (.sl (strs (writesR l l.length 0 [])))
    obtain ⟨H3, e3, o3⟩ := o2.call (stm (ofS l))
    have f0 := o0.frz
    have f1 := o1.frz
    have f2 := o2.frz
    have f3 := o3.frz
    have hfs : ∀ H, frz depth H (stm (ofS l)) = some (stm (ofS l)) := fun H => rfl
    generalize stm (ofS l) = so at *
    simp only [go_sem, Nat.reduceEqDiff, reduceCtorEq, Nat.reduceAdd, Nat.reduceSub, Nat.reduceLT, Nat.reduceLeDiff, Int.reduceAdd, Int.reduceSub, Int.reduceNeg, Int.reduceEq, Int.reduceLT, Int.reduceLE, bx, K3, call_pure pure_8, h8, hlt, bs_tok0, bi_append, e0, call_pure pure_11, f0, h11, e1, call_pure pure_12, h12, PC_still, call_pure pure_10, t1, call_pure pure_13, f1, h13, e2, call_pure pure_14, h14, t2, call_pure pure_16, f2, h16, e3, call_pure pure_17, h17, hfs, call_pure pure_15, t3, f3, call_pure pure_18, h18, call_pure pure_9, h9]
theorem meets_sym (a b : List (List UInt8)) : (a.any fun x => b.contains x) = (b.any fun x => a.contains x) := by
  rw [Bool.eq_iff_iff, List.any_eq_true, List.any_eq_true]
  constructor <;> rintro ⟨x, hx, h⟩ <;> exact ⟨x, List.contains_iff_mem.1 h, List.contains_iff_mem.2 hx⟩
theorem parse_max (s : List UInt8) : (parseL s).1.reads.length ≤ 10000000 ∧ (parseL s).1.writes.length ≤ 10000000 := by
  unfold parseL
  have hpc := fun x => piece_small (s := s) (x := x)
  split
  · cases hpl : splitL (scanL s).1 with
    | nil => exact of_max small_nil
    | cons x ls =>
      cases ls with
      | nil => exact of_max (hpc x (by rw [hpl]; simp))
      | cons y ls => exact ⟨Nat.zero_le _, Nat.zero_le _⟩
  · exact ⟨Nat.zero_le _, Nat.zero_le _⟩
@[go_sem] theorem b_beql (P : Program) (t : TypeId) (a b : Bool) : abin P .eql t (.bool a) (.bool b) = if boolT P t then some (.bool (a == b)) else none := rfl
theorem law_parses (s : List UInt8) (a b : List (List UInt8)) : PV 4 [.str s, .sl (strs a), .sl (strs b)] = some (.bool true) := by
  refine PV_start k4 rfl (Nat.le_of_ble_eq_true rfl) ?_
  have h9 := p_known
  by_cases c1 : (2100 : Int) < (s.length : Int)
  · simp only [go_sem, Nat.reduceEqDiff, reduceCtorEq, Nat.reduceAdd, Nat.reduceSub, Nat.reduceLT, Nat.reduceLeDiff, Int.reduceAdd, Int.reduceSub, Int.reduceNeg, Int.reduceEq, Int.reduceLT, Int.reduceLE, bx, K4, c1, call_pure pure_9, h9]
  by_cases c2 : (60 : Int) < (a.length : Int)
  · simp only [go_sem, Nat.reduceEqDiff, reduceCtorEq, Nat.reduceAdd, Nat.reduceSub, Nat.reduceLT, Nat.reduceLeDiff, Int.reduceAdd, Int.reduceSub, Int.reduceNeg, Int.reduceEq, Int.reduceLT, Int.reduceLE, bx, K4, c1, c2, call_pure pure_9, h9]
  by_cases c3 : (60 : Int) < (b.length : Int)
  · simp only [go_sem, Nat.reduceEqDiff, reduceCtorEq, Nat.reduceAdd, Nat.reduceSub, Nat.reduceLT, Nat.reduceLeDiff, Int.reduceAdd, Int.reduceSub, Int.reduceNeg, Int.reduceEq, Int.reduceLT, Int.reduceLE, bx, K4, c1, c2, c3, call_pure pure_9, h9]
  have p1 := p_parse s (by omega)
  have p2 := p_parse7 s (by omega)
  have hm := parse_max s
  have m1 := p_meets a b (by omega) (by omega)
  have m2 := p_meets b a (by omega) (by omega)
  have m3 := p_rmeets a b (by simp only [maxL]; omega) (by simp only [maxL]; omega)
  unfold meets at m3
  rw [meets_sym b a] at m1
  generalize (a.any fun x => b.contains x) = mb at *
  have t3 := p_same (parseL s).1 (parseL s).1 (by simp only [maxL]; omega) (by simp only [maxL]; omega)
  rw [decide_eq_true rfl] at t3
  unfold parseR at p1 p2
  generalize parseL s = x at *
  obtain ⟨S, e⟩ := x
  simp only [stm] at p1 p2 t3
  have st1 := new30 S.cls (.sl (strs S.reads)) (.sl (strs S.writes)) S.norm rfl rfl []
  simp only [go_sem, Nat.reduceEqDiff, reduceCtorEq, Nat.reduceAdd, Nat.reduceSub, Nat.reduceLT, Nat.reduceLeDiff, Int.reduceAdd, Int.reduceSub, Int.reduceNeg, Int.reduceEq, Int.reduceLT, Int.reduceLE, bx] at st1
  generalize ho : AO.arr 30 true 0 [[.int .i64 S.cls, .sl (strs S.reads), .sl (strs S.writes), .str S.norm]] = o at *
  have st2 := new30 S.cls (.sl (strs S.reads)) (.sl (strs S.writes)) S.norm rfl rfl [o]
  simp only [go_sem, Nat.reduceEqDiff, reduceCtorEq, Nat.reduceAdd, Nat.reduceSub, Nat.reduceLT, Nat.reduceLeDiff, Int.reduceAdd, Int.reduceSub, Int.reduceNeg, Int.reduceEq, Int.reduceLT, Int.reduceLE, bx] at st2
  rw [ho] at st2
  have l0 : aload Try.prog 30 (.ptr 0 0 0) [o, o] = some (.agg [.int .i64 S.cls, .sl (strs S.reads), .sl (strs S.writes), .str S.norm]) := by
    rw [load_ptr, ← ho]
    simp only [go_sem, Nat.reduceEqDiff, reduceCtorEq, Nat.reduceAdd, Nat.reduceSub, Nat.reduceLT, Nat.reduceLeDiff, Int.reduceAdd, Int.reduceSub, Int.reduceNeg, Int.reduceEq, Int.reduceLT, Int.reduceLE, bx, Nat.le_refl]
  have l1 : aload Try.prog 30 (.ptr 1 0 0) [o, o] = some (.agg [.int .i64 S.cls, .sl (strs S.reads), .sl (strs S.writes), .str S.norm]) := by
    rw [load_ptr, ← ho]
    simp only [go_sem, Nat.reduceEqDiff, reduceCtorEq, Nat.reduceAdd, Nat.reduceSub, Nat.reduceLT, Nat.reduceLeDiff, Int.reduceAdd, Int.reduceSub, Int.reduceNeg, Int.reduceEq, Int.reduceLT, Int.reduceLE, bx, Nat.le_refl]
  have heq : (mb == mb) = true := beq_self_eq_true mb
  simp only [go_sem, Nat.reduceEqDiff, reduceCtorEq, Nat.reduceAdd, Nat.reduceSub, Nat.reduceLT, Nat.reduceLeDiff, Int.reduceAdd, Int.reduceSub, Int.reduceNeg, Int.reduceEq, Int.reduceLT, Int.reduceLE, bx, K4, c1, c2, c3, call_pure pure_19, p1, PC_still, st1, call_pure pure_20, p2, st2, l0, l1, frz_agg, call_pure pure_15, t3, decide_true, call_pure pure_21, call_pure pure_22, m1, m2, m3, heq, call_pure pure_9, h9]
end Go.Proofs
