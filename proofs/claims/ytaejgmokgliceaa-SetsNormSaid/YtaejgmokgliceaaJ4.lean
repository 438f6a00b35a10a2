/- What several laws of this seat need, part 4: an abstract machine for the program's code, that it is sound, and what it tells of the layer's functions. -/
import Derived.Test.YtaejgmokgliceaaJ3
import Derived.Test.YtaejgmokgliceaaJ2
import Derived.Lib.DecodeN
/- The sets' layer: sets.sorted, by hand: what it makes of a map's names, whatever the tape says. -/


set_option linter.unusedSimpArgs false
set_option linter.unusedVariables false
namespace Go.Proofs
open Go.Vam
theorem mixed : Try.prog.follows .mixedOrders = true := by kernel_rfl
theorem less_irr : ∀ a : List UInt8, Op.bytesLess a a = false
  | [] => rfl
  | a :: x => by
    simp only [Op.bytesLess, beq_self_eq_true, Bool.true_and, less_irr x, Bool.or_false]
    exact decide_eq_false (UInt8.lt_irrefl a)
theorem less_tra : ∀ {a b c : List UInt8}, Op.bytesLess a b = true → Op.bytesLess b c = true → Op.bytesLess a c = true
  | _, [], _, h, _ => by simp [Op.bytesLess] at h
  | _, _ :: _, [], _, h => by simp [Op.bytesLess] at h
  | [], _ :: _, _ :: _, _, _ => rfl
  | a :: x, b :: y, c :: z, h1, h2 => by
    simp only [Op.bytesLess, Bool.or_eq_true, Bool.and_eq_true, decide_eq_true_eq, beq_iff_eq] at h1 h2 ⊢
    rcases h1 with h1 | ⟨rfl, h1⟩ <;> rcases h2 with h2 | ⟨rfl, h2⟩
    · exact .inl (UInt8.lt_trans h1 h2)
    · exact .inl h1
    · exact .inl h2
    · exact .inr ⟨rfl, less_tra h1 h2⟩
theorem less_tot : ∀ {a b : List UInt8}, Op.bytesLess a b = false → Op.bytesLess b a = false → a = b
  | [], [], _, _ => rfl
  | [], _ :: _, h, _ => by simp [Op.bytesLess] at h
  | _ :: _, [], _, h => by simp [Op.bytesLess] at h
  | a :: x, b :: y, h, g => by
    simp only [Op.bytesLess, Bool.or_eq_false_iff, Bool.and_eq_false_iff, decide_eq_false_iff_not, beq_eq_false_iff_ne] at h g
    have e : a = b := by
      rcases Nat.lt_trichotomy a.toNat b.toNat with q | q | q
      · exact absurd (UInt8.lt_iff_toNat_lt.2 q) h.1
      · exact UInt8.toNat_inj.1 q
      · exact absurd (UInt8.lt_iff_toNat_lt.2 q) g.1
    subst e
    rw [less_tot (h.2.resolve_left (by simp)) (g.2.resolve_left (by simp))]
theorem leastK_eq {ks : List (List UInt8)} {b : List UInt8} (hb : b ∈ ks) (h : ∀ x ∈ ks, Op.bytesLess x b = false) : leastK ks = b := by
  unfold leastK
  cases hf : ks.find? fun b => ks.all fun x => !Op.bytesLess x b with
  | none =>
    have := List.find?_eq_none.1 hf b hb
    exact absurd (List.all_eq_true.2 fun x hx => by rw [h x hx]; rfl) this
  | some c =>
    have h1 := List.mem_of_find?_eq_some hf
    have h2 := List.find?_some hf
    have h3 := List.all_eq_true.1 h2 b hb
    simp only [Bool.not_eq_true'] at h3
    exact less_tot (h c h1) h3
theorem keysOf_at : ∀ {es : List (AV × AV)} {ks : List (List UInt8)}, keysOf es = some ks → ks.length = es.length ∧ ∀ (i : Nat) (k v : AV), es[i]? = some (k, v) → ∃ kk, k = .str kk ∧ ks[i]? = some kk
  | [], ks, h => by
    simp only [keysOf, Option.some.injEq] at h
    subst h
    exact ⟨rfl, by simp⟩
  | (.str s, v) :: es, ks, h => by
    simp only [keysOf] at h
    cases hk : keysOf es with
    | none => rw [hk] at h; cases h
    | some ks' =>
      rw [hk] at h
      simp only [Option.map_some, Option.some.injEq] at h
      subst h
      obtain ⟨h1, h2⟩ := keysOf_at hk
      refine ⟨by simp [h1], fun i k v' hi => ?_⟩
      cases i with
      | zero => simp at hi; exact ⟨s, hi.1.symm, rfl⟩
      | succ i => simpa using h2 i k v' (by simpa using hi)
  | (.junk, v) :: es, ks, h => by cases h
  | (.int .., v) :: es, ks, h => by cases h
  | (.bool _, v) :: es, ks, h => by cases h
  | (.agg _, v) :: es, ks, h => by cases h
  | (.tup _, v) :: es, ks, h => by cases h
  | (.sl _, v) :: es, ks, h => by cases h
  | (.hs .., v) :: es, ks, h => by cases h
  | (.nils, v) :: es, ks, h => by cases h
  | (.ptr .., v) :: es, ks, h => by cases h
  | (.ip _, v) :: es, ks, h => by cases h
  | (.nilp, v) :: es, ks, h => by cases h
  | (.fn .., v) :: es, ks, h => by cases h
  | (.nilf, v) :: es, ks, h => by cases h
  | (.mp _, v) :: es, ks, h => by cases h
  | (.nilm, v) :: es, ks, h => by cases h
  | (.pm _, v) :: es, ks, h => by cases h
  | (.it _, v) :: es, ks, h => by cases h
theorem seen_left {es : Array MapEntry} {seen : Array Nat} (h : (leftOf es seen).size = 0) {e : MapEntry} (he : e ∈ es.toList) : seen.contains e.born = true := by
  have h0 : leftOf es seen = #[] := Array.eq_empty_of_size_eq_zero h
  unfold leftOf at h0
  rw [Array.filter_eq_empty_iff] at h0
  have := h0 (a := e) (Array.mem_toList_iff.1 he)
  simpa using this
section
variable {B : Nat} {ok0 : Nat → Nat → Prop} {M : Nat} {p : Nat × Nat}
theorem min28 {s : Slots} {H : AHeap} {es : List (AV × AV)} {ks : List (List UInt8)} {R : QT} (hM : H[M]? = some (.map es)) (hk : keysOf es = some ks) (hne : ks ≠ []) (h0 : s 0 = .mp M) (h4 : s 4 = .str []) (h5 : s 5 = .bool false)
    (hR : ∀ s' : Slots, s' 0 = .mp M → s' 3 = s 3 → s' 4 = .str (leastK ks) → R .nrm s' (H ++ [.dead])) :
    G Try.prog B ok0 31 M p (.seq (.reg [⟨some 10, none, .move (.tmp 0)⟩, ⟨some 11, none, .range 43 (.tmp 10)⟩]) (.block 2 (.loop L28_1))) s H R := by
  obtain ⟨hkl, hka⟩ := keysOf_at hk
  have hML : M < H.length := (List.getElem?_eq_some_iff.1 hM).1
  refine G_raw hM fun ents ck hbn hl hkeys => ?_
  have hkey : ∀ e ∈ ents, ∃ kb : ByteArray, e.key = .string kb ∧ kb.data.toList ∈ ks := by
    intro e he
    obtain ⟨i, hi, rfl⟩ := List.getElem_of_mem he
    have hie : i < es.length := by omega
    obtain ⟨kk, e1, e2⟩ := hka i es[i].1 es[i].2 (List.getElem?_eq_getElem hie)
    obtain ⟨kb, e3, e4⟩ := hkeys i kk es[i].2 (by rw [List.getElem?_eq_getElem hie, ← e1])
    have e5 : ents.getD i default = ents[i] := by simp [List.getD, hi]
    rw [e5] at e3
    exact ⟨kb, e3, by rw [e4]; exact List.mem_of_getElem? e2⟩
  have hall : ∀ x ∈ ks, ∃ e ∈ ents, ∃ kb : ByteArray, e.key = .string kb ∧ kb.data.toList = x := by
    intro x hx
    obtain ⟨i, hi, rfl⟩ := List.getElem_of_mem hx
    have hie : i < es.length := by omega
    have hin : i < ents.length := by omega
    obtain ⟨kk, e1, e2⟩ := hka i es[i].1 es[i].2 (List.getElem?_eq_getElem hie)
    obtain ⟨kb, e3, e4⟩ := hkeys i kk es[i].2 (by rw [List.getElem?_eq_getElem hie, ← e1])
    have e5 : ents.getD i default = ents[i] := by simp [List.getD, hin]
    rw [e5] at e3
    rw [List.getElem?_eq_getElem hi] at e2
    simp only [Option.some.injEq] at e2
    exact ⟨_, List.getElem_mem hin, kb, e3, by rw [e4, e2]⟩
  refine G_die (G_seq (G_reg (GX_one (H1 := H.set M (.raw (.map ents.toArray ck))) (v := .mp M) (by simp only [go_sem, h0]) (GX_range (es := ents.toArray) (ck := ck) mapT_43 (by simp only [go_sem]) (by rw [List.getElem?_set_self hML]) (GX_X ?_)))))
  simp only [go_sem, bx, List.length_set]
  refine G_block (G_loop (fun n st Hh => ∃ (seen : Array Nat) (best : List UInt8) (f : Bool), n = (leftOf ents.toArray seen).size ∧ st 0 = .mp M ∧ st 3 = s 3 ∧ st 11 = .it H.length ∧ st 4 = .str best ∧ st 5 = .bool f ∧
    Hh = H.set M (.raw (.map ents.toArray ck)) ++ [.raw (.mapIter (some p.1) ck seen ck)] ∧ (f = false → ∀ e ∈ ents, seen.contains e.born = false) ∧
    (f = true → best ∈ ks ∧ ∀ e ∈ ents, seen.contains e.born = true → ∀ kb : ByteArray, e.key = .string kb → Op.bytesLess kb.data.toList best = false)) ?_ _ _ _ ⟨#[], [], false, rfl, by simp only [go_sem, bx, h0], by simp only [go_sem, bx], by simp only [go_sem, bx], by simp only [go_sem, bx, h4], by simp only [go_sem, bx, h5], rfl, fun _ e _ => by simp, fun h => by cases h⟩)
  rintro n st Hh ⟨seen, best, f, rfl, t0, t3, t11, t4, t5, rfl, hf0, hf1⟩
  have hI : ∀ o : Obj, (H.set M (.raw (.map ents.toArray ck)) ++ [AO.raw o])[H.length]? = some (.raw o) := fun o => by rw [List.getElem?_append_right (by simp)]; simp
  have hMM : ∀ o : Obj, (H.set M (.raw (.map ents.toArray ck)) ++ [AO.raw o])[M]? = some (.raw (.map ents.toArray ck)) := fun o => by
    rw [List.getElem?_append_left (by simpa using hML), List.getElem?_set_self hML]
  refine G_seq (G_reg (GX_next (es := ents.toArray) (ck := ck) (seen := seen) t11 (hI _) (hMM _) (fun x hx => hbn.2 x (by simpa using hx)) (fun h0 => GX_X ?_) (fun e he => GX_X ?_)))
  · simp only [go_sem, bx]
    refine G_C mixed ?_
    simp only [go_sem, bx]
    have hfin : ∀ e ∈ ents, seen.contains e.born = true := fun e he => seen_left h0 (by simpa using he)
    have hft : f = true := by
      cases f with
      | true => rfl
      | false =>
        obtain ⟨x, hx⟩ : ∃ x, x ∈ ks := List.exists_mem_of_ne_nil _ hne
        obtain ⟨e, he, _⟩ := hall x hx
        have h1 := hf0 rfl e he
        rw [hfin e he] at h1
        cases h1
    obtain ⟨hb1, hb2⟩ := hf1 hft
    have hle : leastK ks = best := leastK_eq hb1 fun x hx => by
      obtain ⟨e, he, kb, e1, e2⟩ := hall x hx
      rw [← e2]
      exact hb2 e he (hfin e he) kb e1
    refine ⟨H.length, by simp, ?_, ?_⟩
    · rw [List.getElem?_set_ne (by omega)]
      exact hMM _
    · have hH : ((H.set M (.raw (.map ents.toArray ck)) ++ [AO.raw (.mapIter (some p.1) ck seen ck)]).set H.length .dead).set M (.map es) = H ++ [.dead] := by
        apply List.ext_getElem?
        intro i
        by_cases e1 : i = M
        · subst e1
          rw [List.getElem?_set_self (by simp; omega), List.getElem?_append_left hML, hM]
        · rw [List.getElem?_set_ne (Ne.symm e1)]
          by_cases e2 : i = H.length
          · subst e2
            rw [List.getElem?_set_self (by simp)]
            simp
          · rw [List.getElem?_set_ne (Ne.symm e2)]
            by_cases e3 : i < H.length
            · rw [List.getElem?_append_left (by simpa using e3), List.getElem?_append_left e3, List.getElem?_set_ne (Ne.symm e1)]
            · rw [List.getElem?_eq_none (by simp; omega), List.getElem?_eq_none (by simp; omega)]
      rw [hH]
      exact hR _ (by simp only [go_sem, bx, t0]) (by simp only [go_sem, bx, t3]) (by simp only [go_sem, bx, t4, hle])
  · have he' : e ∈ ents := by simpa using (mem_left he).1
    have hns := (mem_left he).2
    obtain ⟨kb, hkb, hmem⟩ := hkey e he'
    have hset : (H.set M (.raw (.map ents.toArray ck)) ++ [AO.raw (.mapIter (some p.1) ck seen ck)]).set H.length (.raw (.mapIter (some p.1) ck (seen.push e.born) ck)) = H.set M (.raw (.map ents.toArray ck)) ++ [AO.raw (.mapIter (some p.1) ck (seen.push e.born) ck)] := by
      rw [List.set_append_right _ _ (by simp)]
      simp
    have hlt := left_shrinks ents.toArray seen e he
    simp only [go_sem, bx, hset]
    refine G_seq (G_C mixed ?_)
    simp only [go_sem, bx]
    refine G_block (G_seq (G_reg (GX_entry (es := ents.toArray) (ck := ck) (seen := seen) (by simp only [go_sem, bx, t11]) (hI _) (hMM _) (by simpa using hbn.1) (by simpa using he') hkb (GX_X ?_))))
    simp only [go_sem, bx]
    refine G_C mixed ?_
    have hsc : ∀ e1 ∈ ents, (seen.push e.born).contains e1.born = true → seen.contains e1.born = true ∨ e1 = e := by
      intro e1 h1 h2
      rw [contains_push, Bool.or_eq_true, beq_iff_eq] at h2
      rcases h2 with h2 | h2
      · exact .inl h2
      · right
        have f1 := find_born e1 ents hbn.1 h1
        have f2 := find_born e ents hbn.1 he'
        rw [h2, f2] at f1
        exact (Option.some.inj f1).symm
    cases f with
    | false =>
      simp only [go_sem, bx, t5, Glp_nrm]
      refine ⟨_, hlt, seen.push e.born, kb.data.toList, true, rfl, by simp only [go_sem, bx, t0], by simp only [go_sem, bx, t3], by simp only [go_sem, bx, t11], by simp only [go_sem, bx], by simp only [go_sem, bx], rfl, fun h => by (cases h), fun _ => ⟨hmem, fun e1 h1 h2 kb1 h3 => ?_⟩⟩
      rcases hsc e1 h1 h2 with h | rfl
      · rw [hf0 rfl e1 h1] at h; cases h
      · rw [hkb] at h3
        cases h3
        exact less_irr _
    | true =>
      obtain ⟨g1, g2⟩ := hf1 rfl
      cases hb : Op.bytesLess kb.data.toList best with
      | true =>
        simp only [go_sem, bx, t4, t5, hb, Glp_nrm]
        refine ⟨_, hlt, seen.push e.born, kb.data.toList, true, rfl, by simp only [go_sem, bx, t0], by simp only [go_sem, bx, t3], by simp only [go_sem, bx, t11], by simp only [go_sem, bx], by simp only [go_sem, bx], rfl, fun h => by (cases h), fun _ => ⟨hmem, fun e1 h1 h2 kb1 h3 => ?_⟩⟩
        rcases hsc e1 h1 h2 with h | rfl
        · cases hc : Op.bytesLess kb1.data.toList kb.data.toList with
          | false => rfl
          | true =>
            have := g2 e1 h1 h kb1 h3
            rw [less_tra hc hb] at this
            cases this
        · rw [hkb] at h3
          cases h3
          exact less_irr _
      | false =>
        simp only [go_sem, bx, t4, t5, hb, Glp_nrm]
        refine ⟨_, hlt, seen.push e.born, best, true, rfl, by simp only [go_sem, bx, t0], by simp only [go_sem, bx, t3], by simp only [go_sem, bx, t11], by simp only [go_sem, bx, t4], by simp only [go_sem, bx, t5], rfl, fun h => by (cases h), fun _ => ⟨g1, fun e1 h1 h2 kb1 h3 => ?_⟩⟩
        rcases hsc e1 h1 h2 with h | rfl
        · exact g2 e1 h1 h kb1 h3
        · rw [hkb] at h3
          cases h3
          exact hb
end
end Go.Proofs
/- The sets' layer: sets.sorted, by hand: the whole. -/

set_option linter.unusedSimpArgs false
set_option linter.unusedVariables false
namespace Go.Proofs
open Go.Vam
theorem told28 {xs : List AV} {H : AHeap} {r : AV} {H' : AHeap} (h : sortedG xs H = some (r, H')) : Vam.Told Try.prog 28 xs H r H' := by
  unfold sortedG at h
  split at h
  · rename_i M
    split at h
    · rename_i es hM
      refine told_G k28 (by decide) fun B ok0 p => ?_
      unfold K28
      refine G_seq (G_C mixed ?_)
      simp only [go_sem, bx]
      refine G_seq (G_C mixed ?_)
      simp only [go_sem, bx]
      refine G_seq (G_block (G_loop (fun n st Hh => st 0 = .mp M ∧ sortN M n (st 3) Hh = some (r, H')) ?_ es.length _ _ ⟨by simp only [go_sem, bx], by simp only [go_sem, bx]; exact h⟩))
      clear hM h es H
      rintro n st H ⟨t0, hs⟩
      unfold L28_0
      cases n with
      | zero =>
        unfold sortN at hs
        split at hs
        · rename_i hM
          simp only [Option.some.injEq, Prod.mk.injEq] at hs
          obtain ⟨hs1, rfl⟩ := hs
          refine G_C mixed ?_
          have hl : alen (.mp M) H = some (0 : Int) := by simp [alen, hM]
          simp only [go_sem, bx, t0, hl]
          refine G_C mixed ?_
          simp only [go_sem, bx, hs1]
        · cases hs
      | succ n =>
        unfold sortN at hs
        split at hs
        · rename_i es hM
          split at hs
          · rename_i ks hk
            split at hs
            · rename_i hlen
              cases hr : sortR M (st 3) H (leastK ks) with
              | none => rw [hr] at hs; cases hs
              | some y =>
                obtain ⟨v1, H1⟩ := y
                rw [hr] at hs
                simp only [Option.bind_some] at hs
                have hl : alen (.mp M) H = some ((n : Int) + 1) := by
                  have := (keysOf_at hk).1
                  simp only [alen, hM, Option.some.injEq]
                  omega
                have hpos : (0 : Int) < (n : Int) + 1 := by omega
                refine G_seq (G_C mixed ?_)
                simp only [go_sem, bx, t0, hl, hpos]
                refine G_block (G_seq (G_C mixed ?_))
                simp only [go_sem, bx]
                refine G_seq (min28 hM hk (fun e => by subst e; simp at hlen) (by simp only [go_sem, bx, t0]) (by simp only [go_sem, bx]) (by simp only [go_sem, bx]) fun s' u0 u3 u4 => ?_)
                simp only [go_sem, bx] at u3
                simp only [Gseq_nrm]
                unfold sortR at hr
                cases hd : adelete Try.prog 43 (.mp M) (.str (leastK ks)) (H ++ [.dead]) with
                | none => rw [hd] at hr; cases hr
                | some H2 =>
                  rw [hd] at hr
                  simp only [Option.bind_some] at hr
                  cases hb : abuildSlice Try.prog 26 1 [(0, .str (leastK ks))] H2 with
                  | none => rw [hb] at hr; cases hr
                  | some y =>
                    obtain ⟨u, H3⟩ := y
                    rw [hb] at hr
                    simp only [Option.bind_some] at hr
                    have hdel : abuiltin Try.prog .delete [43, 9] [.mp M, .str (leastK ks)] (H ++ [.dead]) = some (.tup [], H2) := by
                      simp only [abuiltin, hd, Option.map_some]
                    refine G_C mixed ?_
                    simp only [go_sem, bx, u0, u3, u4, hdel, hb, hr, Glp_nrm]
                    exact ⟨n, Nat.lt_succ_self n, hs⟩
            · cases hs
          · cases hs
        · cases hs
    · cases h
  · cases h
theorem ext_ok : ExtOk E := by
  intro f g hg xs H r H' h
  by_cases e : f = 28
  · subst e
    have : E.ext 28 = some sortedG := rfl
    rw [this] at hg
    cases hg
    exact told28 h
  · have : E.ext f = none := by
      show (if f = 28 then some sortedG else none) = none
      rw [if_neg e]
    rw [this] at hg
    cases hg
/-- WHAT THE ABSTRACT MACHINE TELLS OF THE LAYER's CALLS, THE CALLS DO. -/
theorem told {f : FuncId} {xs : List AV} {H : AHeap} {r : AV} {H' : AHeap} (h : callV E f xs H = some (r, H')) : Vam.Told Try.prog f xs H r H' := callV_told (E := E) mixed ext_ok h
end Go.Proofs
/- The sets' layer: small functions. -/

set_option linter.unusedSimpArgs false
set_option linter.unusedVariables false
namespace Go.Proofs
open Go.Vam
abbrev maxL : Nat := 9223372036854775807
theorem wrap_nat {n : Nat} (h : n ≤ maxL) : IntKind.i64.wrap (n : Int) = (n : Int) := by
  simp only [maxL] at h
  rw [wrap_ok] <;> omega
theorem wrap_succ {n : Nat} (h : n < maxL) : IntKind.i64.wrap ((n : Int) + 1) = ((n + 1 : Nat) : Int) := by
  simp only [maxL] at h
  rw [wrap_ok] <;> omega
/-! ### ref07.in -/
def I41 (l : List (List UInt8)) (x : List UInt8) (n : Nat) (s : Slots) (H : AHeap) : Prop :=
  ∃ i : Nat, n = l.length - i ∧ i ≤ l.length ∧ x ∉ l.take i ∧ s 0 = .sl (strs l) ∧ s 1 = .str x ∧ s 5 = .int .i64 i ∧ H = []
theorem take_not {α : Type} {l : List α} {x : α} {i : Nat} (h : i < l.length) (h1 : x ∉ l.take i) (h2 : ¬ l[i] = x) : x ∉ l.take (i + 1) := by
  rw [List.take_add_one, List.getElem?_eq_getElem h]
  simp only [Option.toList_some, List.mem_append, List.mem_singleton, not_or]
  exact ⟨h1, fun e => h2 e.symm⟩
theorem p_in (l : List (List UInt8)) (x : List UInt8) (hl : l.length ≤ maxL) : PV 41 [.sl (strs l), .str x] = some (.bool (l.contains x)) := by
  refine PV_start k41 rfl (Nat.le_of_ble_eq_true rfl) ?_
  simp only [go_sem, K41]
  refine C_while (I41 l x) ?_ (l.length - 0) _ _ ⟨0, rfl, Nat.zero_le _, by simp, rfl, rfl, rfl, rfl⟩
  rintro n s H ⟨i, rfl, hi, hnot, h0, h1, h5, rfl⟩
  by_cases hlt : i < l.length
  · have hd : ((i : Int) < (l.length : Int)) := by omega
    have hg : aindexAddr Try.prog 26 (.sl (strs l)) (.int .i64 (i : Int)) [] = some (.ip [.str l[i]]) := indexAddr_sl _ _ _ (e := 9) (by simp only [go_sem]) (strs_get (List.getElem?_eq_getElem hlt)) (by simp only [go_sem])
    by_cases hx : l[i] = x
    · have hb : (l[i] == x) = true := by simpa using hx
      simp only [go_sem, L41_0, h0, h1, h5, hd, hg, hb]
      have : l.contains x = true := by simpa using hx ▸ List.getElem_mem hlt
      rw [this]
    · have hb : (l[i] == x) = false := by simpa using hx
      simp only [go_sem, L41_0, h0, h1, h5, hd, hg, hb, wrap_succ (Nat.lt_of_lt_of_le hlt hl)]
      exact ⟨l.length - (i + 1), by omega, i + 1, rfl, hlt, take_not hlt hnot hx, h0, h1, rfl, rfl⟩
  · have hd : ¬ ((i : Int) < (l.length : Int)) := by omega
    have hall : l.contains x = false := by
      rw [List.take_of_length_le (by omega)] at hnot
      simpa using hnot
    simp only [go_sem, L41_0, h0, h1, h5, hd]
    rw [hall]
/-! ### sets.is -/
def isAt (l : List Tok) (i k : Int) (x : List UInt8) : Bool := decide (0 ≤ i) && decide (i < l.length) && decide ((tokAt l i).kind = k) && ((tokAt l i).text == x)
theorem p_is (l : List Tok) (i k : Int) (x : List UInt8) : PV 42 [.sl (toks l), .int .i64 i, .int .i64 k, .str x] = some (.bool (isAt l i k x)) := by
  refine PV_start k42 rfl (Nat.le_of_ble_eq_true rfl) ?_
  unfold isAt
  by_cases h0 : 0 ≤ i
  · by_cases h1 : i < l.length
    · have hg := indexAddr_42 l .i64 i [] h0 h1
      by_cases h2 : (tokAt l i).kind = k
      · simp only [go_sem, K42, h0, h1, h2, hg, tok]
        rfl
      · simp only [go_sem, K42, h0, h1, h2, hg, tok]
        rfl
    · simp only [go_sem, K42, h0, h1]
      rfl
  · simp only [go_sem, K42, h0]
    rfl
end Go.Proofs
/- The sets' layer: key words. -/

set_option linter.unusedSimpArgs false
set_option linter.unusedVariables false
namespace Go.Proofs
open Go.Vam
/-- The key words. -/
def keysL : List (List UInt8) := W69_0.map (·.2) ++ W69_1.map (·.2) ++ W69_2.map (·.2)
theorem p_key (x : List UInt8) : PV 69 [.str x] = some (.bool (keysL.contains x)) := by
  refine PV_start k69 rfl (Nat.le_of_ble_eq_true rfl) ?_
  have e : keysL.contains x = ((W69_0.map (·.2)).contains x || (W69_1.map (·.2)).contains x || (W69_2.map (·.2)).contains x) := by
    unfold keysL
    rw [List.contains_append, List.contains_append]
  rw [e]
  cases h0 : (W69_0.map (·.2)).contains x
  · cases h1 : (W69_1.map (·.2)).contains x
    · cases h2 : (W69_2.map (·.2)).contains x
      · simp only [go_sem, K69, h0, h1, h2, true_or, or_true]
        rfl
      · simp only [go_sem, K69, h0, h1, h2, true_or, or_true]
        rfl
    · simp only [go_sem, K69, h0, h1, true_or, or_true]
      rfl
  · simp only [go_sem, K69, h0, true_or, or_true]
    rfl
end Go.Proofs
/- The sets' layer: slices of texts that are built; name parts. -/

set_option linter.unusedSimpArgs false
set_option linter.unusedVariables false
namespace Go.Proofs
open Go.Vam
/-! ### slices as they are written -/
def isIdx (q : AV → Bool) : Nat → Nat → List (Nat × AV) → Bool
  | k, n, [] => k == n
  | k, n, (i, x) :: l => i == k && q x && isIdx q (k + 1) n l
attribute [go_sem] isIdx beq_self_eq_true Bool.true_and
theorem fill_idx {q : AV → Bool} {m : Nat} (hq : ∀ x, q x = true → x.cells.length = m ∧ x.cells.all AV.isCell = true) {z : List AV} : ∀ (parts : List (Nat × AV)) (k n : Nat) (es : List (List AV)), es.length = k → isIdx q k n parts = true →
    afillS m parts (es ++ List.replicate (n - k) z) = some (es ++ parts.map fun p => p.2.cells)
  | [], k, n, es, hk, h => by
    simp only [isIdx, beq_iff_eq] at h
    subst h
    simp [afillS]
  | (i, x) :: l, k, n, es, hk, h => by
    simp only [isIdx, Bool.and_eq_true, beq_iff_eq] at h
    obtain ⟨⟨rfl, hx⟩, hl⟩ := h
    have hle : ∀ (l : List (Nat × AV)) (k n : Nat), isIdx q k n l = true → k ≤ n := by
      intro l
      induction l with
      | nil => intro k n h; simp only [isIdx, beq_iff_eq] at h; omega
      | cons a l ih =>
        intro k n h
        obtain ⟨i, x⟩ := a
        simp only [isIdx, Bool.and_eq_true] at h
        have := ih _ _ h.2
        omega
    have hn := hle l _ _ hl
    obtain ⟨h1, h2⟩ := hq x hx
    have hrep : List.replicate (n - i) z = z :: List.replicate (n - (i + 1)) z := by
      rw [show n - i = (n - (i + 1)) + 1 by omega, List.replicate_succ]
    rw [hrep]
    unfold afillS
    rw [if_pos ⟨by simp; omega, h1, h2⟩]
    have hset : (es ++ z :: List.replicate (n - (i + 1)) z).set i x.cells = (es ++ [x.cells]) ++ List.replicate (n - (i + 1)) z := by
      rw [List.set_append_right _ _ (by omega), hk, Nat.sub_self]
      simp
    rw [hset, fill_idx hq l (i + 1) n (es ++ [x.cells]) (by simp [hk]) hl]
    simp
theorem bs_gen {q : AV → Bool} {t e : TypeId} {z : List AV} (hT : sliceT Try.prog t = some e) (hz : zeroT Try.prog e = some z) (hq : ∀ x, q x = true → x.cells.length = z.length ∧ x.cells.all AV.isCell = true) {n : Nat} {parts : List (Nat × AV)} (H : AHeap) (hn : n * z.length ≤ 16777216) (h : isIdx q 0 n parts = true) :
    abuildSlice Try.prog t n parts H = some (.hs H.length 0 n, H ++ [.arr e true 0 (parts.map fun p => p.2.cells)]) := by
  unfold abuildSlice
  rw [hT]
  simp only
  rw [hz]
  simp only
  rw [if_pos hn]
  have := fill_idx (z := z) hq parts 0 n [] rfl h
  simp only [List.nil_append, Nat.sub_zero] at this
  rw [this]
  rfl
theorem bs_str (n : Nat) (parts : List (Nat × AV)) (H : AHeap) (hn : n ≤ 1000) (h : isIdx isStr 0 n parts = true) : abuildSlice Try.prog 26 n parts H = some (.hs H.length 0 n, H ++ [.arr 9 true 0 (strs (parts.map fun p => strOf p.2))]) := by
  rw [bs_gen sliceT_26 zeroT_9 (q := isStr) (fun x hx => by cases x <;> first | exact ⟨rfl, rfl⟩ | cases hx) H (by simp; omega) h]
  have : parts.map (fun p => p.2.cells) = strs (parts.map fun p => strOf p.2) := by
    have key : ∀ (l : List (Nat × AV)) (k : Nat), isIdx isStr k n l = true → l.map (fun p => p.2.cells) = strs (l.map fun p => strOf p.2) := by
      intro l
      induction l with
      | nil => intro k h; rfl
      | cons a l ih =>
        intro k h
        obtain ⟨i, x⟩ := a
        simp only [isIdx, Bool.and_eq_true] at h
        have hx := h.1.2
        simp only [List.map_cons, strs]
        rw [ih _ h.2]
        cases x <;> first | rfl | cases hx
    exact key parts 0 h
  rw [this]
theorem p_keys : PV 70 [] = some (.sl (strs keysL)) := by
  refine PV_start k70 rfl (Nat.le_of_ble_eq_true rfl) ?_
  simp only [go_sem, K70, bs_str]
  rfl
/-! ### name parts -/
def partAt (l : List Tok) (i : Int) : Bool := decide (i < l.length) && (decide ((tokAt l i).kind = 2) || decide ((tokAt l i).kind = 1) && !keysL.contains (tokAt l i).text)
theorem p_part (l : List Tok) (i : Int) (h0 : 0 ≤ i) : PV 43 [.sl (toks l), .int .i64 i] = some (.bool (partAt l i)) := by
  refine PV_start k43 rfl (Nat.le_of_ble_eq_true rfl) ?_
  unfold partAt
  by_cases h1 : i < l.length
  · have hg := indexAddr_42 l .i64 i [] h0 h1
    by_cases h2 : (tokAt l i).kind = 2
    · simp only [go_sem, K43, h0, h1, h2, hg, tok]
      rfl
    · by_cases h3 : (tokAt l i).kind = 1
      · simp only [go_sem, K43, h0, h1, h2, h3, hg, tok, call_pure pure_69, p_key, List.append_nil]
        cases keysL.contains (tokAt l i).text <;> rfl
      · simp only [go_sem, K43, h0, h1, h2, h3, hg, tok]
        rfl
  · simp only [go_sem, K43, h0, h1]
    rfl
theorem p_rpart (l : List Tok) (i : Int) (h0 : 0 ≤ i) : PV 45 [.sl (toks l), .int .i64 i] = some (.bool (partAt l i)) := by
  refine PV_start k45 rfl (Nat.le_of_ble_eq_true rfl) ?_
  unfold partAt
  by_cases h1 : i < l.length
  · have hg := indexAddr_22 l .i64 i [] h0 h1
    by_cases h2 : (tokAt l i).kind = 2
    · simp only [go_sem, K45, D45_1, h0, h1, h2, hg, tok]
      rfl
    · by_cases h3 : (tokAt l i).kind = 1
      · have hin := p_in keysL (tokAt l i).text (by decide)
        simp only [go_sem, K45, D45_1, h0, h1, h2, h3, hg, tok, call_pure pure_70, call_pure pure_41, p_keys, hin, List.append_nil]
        cases keysL.contains (tokAt l i).text <;> rfl
      · simp only [go_sem, K45, D45_1, h0, h1, h2, h3, hg, tok]
        rfl
  · simp only [go_sem, K45, D45_1, h0, h1]
    rfl
/-! ### ref07.word, ref07.sign -/
theorem p_rword (l : List Tok) (i : Int) (x : List UInt8) : PV 29 [.sl (toks l), .int .i64 i, .str x] = some (.bool (isAt l i 1 x)) := by
  refine PV_start k29 rfl (Nat.le_of_ble_eq_true rfl) ?_
  unfold isAt
  by_cases h0 : 0 ≤ i
  · by_cases h1 : i < l.length
    · have hg := indexAddr_22 l .i64 i [] h0 h1
      by_cases h2 : (tokAt l i).kind = 1
      · simp only [go_sem, K29, h0, h1, h2, hg, tok]
        all_goals rfl
      · simp only [go_sem, K29, h0, h1, h2, hg, tok]
        all_goals rfl
    · simp only [go_sem, K29, h0, h1]
      all_goals rfl
  · simp only [go_sem, K29, h0]
    all_goals rfl
theorem p_rsign (l : List Tok) (i : Int) (x : List UInt8) (h0 : 0 ≤ i) : PV 46 [.sl (toks l), .int .i64 i, .str x] = some (.bool (isAt l i 5 x)) := by
  refine PV_start k46 rfl (Nat.le_of_ble_eq_true rfl) ?_
  unfold isAt
  by_cases h1 : i < l.length
  · have hg := indexAddr_22 l .i64 i [] h0 h1
    by_cases h2 : (tokAt l i).kind = 5
    · simp only [go_sem, K46, h0, h1, h2, hg, tok]
      all_goals rfl
    · simp only [go_sem, K46, h0, h1, h2, hg, tok]
      all_goals rfl
  · simp only [go_sem, K46, h0, h1]
    all_goals rfl
end Go.Proofs
/- The sets' layer: slices that grow; names, in the reference's words. -/

set_option linter.unusedSimpArgs false
set_option linter.unusedVariables false
namespace Go.Proofs
open Go.Vam
/-! ### slices that grow -/
/-- v is a slice of its own, of these elements. -/
def Own (e : TypeId) (H : AHeap) (v : AV) (es : List (List AV)) : Prop :=
  (v = .nils ∧ es = []) ∨ ∃ id, v = .hs id 0 es.length ∧ H[id]? = some (.arr e true 0 es)
def KeepBut (v : AV) (H H' : AHeap) : Prop := ∀ (id : Nat) (o : AO), H[id]? = some o → (∀ n, v ≠ .hs id 0 n) → H'[id]? = some o
theorem Own.lt {e : TypeId} {H : AHeap} {v : AV} {es : List (List AV)} (h : Own e H v es) (x : AO) : Own e (H ++ [x]) v es := by
  rcases h with ⟨rfl, rfl⟩ | ⟨id, rfl, h⟩
  · exact .inl ⟨rfl, rfl⟩
  · refine .inr ⟨id, rfl, ?_⟩
    rw [List.getElem?_append_left (List.getElem?_eq_some_iff.1 h).1]
    exact h
theorem notInt_of_slice {t e : TypeId} (h : sliceT Try.prog t = some e) : notIntT Try.prog t = true := by
  unfold sliceT at h
  unfold notIntT
  split at h
  · rename_i e' h'
    rw [h']
  · cases h
/-- APPENDING ONE ELEMENT that has just been built. -/
theorem append_one {t e : TypeId} {by_ m : Nat} {z : List AV} (hT : sliceT Try.prog t = some e) (hb : bytesT Try.prog e = some by_) (hz : szOf Try.prog e = some (m + 1)) (hzt : zeroT Try.prog e = some z) (hby : by_ ≤ 1000) {H : AHeap} {v : AV} {es : List (List AV)} {c : List AV}
    (ho : Own e H v es) (hl : es.length < 100000000) (hc : c.length = m + 1) (hcell : c.all AV.isCell = true) :
    ∃ v' H', aappend Try.prog t t v (.hs H.length 0 1) (H ++ [.arr e true 0 [c]]) = some (v', H') ∧ Own e H' v' (es ++ [c]) ∧ KeepBut v H H' := by
  have hsrc : asrc (.hs H.length 0 1) (H ++ [.arr e true 0 [c]]) = some [c] := by
    simp [asrc, aelems]
  have hni := notInt_of_slice hT
  have hm1 : 1 * by_ ≤ 140737488355328 := by omega
  have hm2 : (es.length + 1) * by_ ≤ 140737488355328 := by
    have : (es.length + 1) * by_ ≤ 100000000 * 1000 := Nat.mul_le_mul (by omega) hby
    omega
  rcases ho with ⟨rfl, rfl⟩ | ⟨id, rfl, h⟩
  · refine ⟨.hs (H ++ [AO.arr e true 0 [c]]).length 0 1, (H ++ [.arr e true 0 [c]]) ++ [.arr e true 0 [c]], ?_, .inr ⟨(H ++ [AO.arr e true 0 [c]]).length, rfl, by simp⟩, ?_⟩
    · unfold aappend
      rw [hT, hsrc]
      simp only
      rw [hb, hz]
      simp only
      rw [if_pos ⟨fun x hx => by simp at hx; subst hx; exact ⟨by rw [hc], hcell⟩, hni, by rw [hzt]; rfl⟩]
      rw [if_pos ⟨by simp, by simpa using hm1⟩, if_neg (by simp)]
      rfl
    · intro id o h _
      rw [List.append_assoc, List.getElem?_append_left (List.getElem?_eq_some_iff.1 h).1]
      exact h
  · have hlt := (List.getElem?_eq_some_iff.1 h).1
    have h' : (H ++ [.arr e true 0 [c]])[id]? = some (.arr e true 0 es) := by rw [List.getElem?_append_left hlt]; exact h
    refine ⟨.hs (H ++ [AO.arr e true 0 [c]]).length 0 (es.length + 1), (H ++ [AO.arr e true 0 [c]]).set id AO.dead ++ [AO.arr e true 0 (es ++ [c])], ?_, .inr ⟨(H ++ [AO.arr e true 0 [c]]).length, by simp, ?_⟩, ?_⟩
    · unfold aappend
      rw [hT, hsrc]
      simp only
      rw [hb, hz]
      simp only
      rw [if_pos ⟨fun x hx => by simp at hx; subst hx; exact ⟨by rw [hc], hcell⟩, hni, by rw [hzt]; rfl⟩, h']
      simp only
      rw [if_pos ⟨trivial, trivial, trivial, trivial, Nat.zero_le _, by simp; omega, by simpa using hm2⟩, if_neg (by simp)]
      simp
    · rw [List.getElem?_append_right (by simp)]
      simp
    · intro id' o h1 h2
      have hne : id' ≠ id := fun q => h2 es.length (by rw [q])
      rw [List.getElem?_append_left (by simp; have := (List.getElem?_eq_some_iff.1 h1).1; omega), List.getElem?_set_ne (Ne.symm hne), List.getElem?_append_left (List.getElem?_eq_some_iff.1 h1).1]
      exact h1
theorem append_str {H : AHeap} {v : AV} {l : List (List UInt8)} (x : List UInt8) (ho : Own 9 H v (strs l)) (hl : l.length < 100000000) :
    ∃ v' H', aappend Try.prog 26 26 v (.hs H.length 0 1) (H ++ [.arr 9 true 0 (strs [x])]) = some (v', H') ∧ Own 9 H' v' (strs (l ++ [x])) ∧ KeepBut v H H' := by
  obtain ⟨v', H', h1, h2, h3⟩ := append_one (m := 0) sliceT_26 bytesT_9 szOf_9 zeroT_9 (by decide) ho (by simpa [strs] using hl) (c := [.str x]) rfl rfl
  exact ⟨v', H', h1, by simpa [strs] using h2, h3⟩
/-- What is handed out of such a slice of texts. -/
theorem frz_strs (H : AHeap) (l : List (List UInt8)) : ∀ n, mapO (fun e => mapO (frz (n + 1) H) e) (strs l) = some (strs l) := by
  intro n
  induction l with
  | nil => rfl
  | cons a l ih =>
    simp only [strs, List.map_cons, mapO] at ih ⊢
    rw [ih]
    rfl
theorem frz_own {H : AHeap} {v : AV} {l : List (List UInt8)} (ho : Own 9 H v (strs l)) : frz depth H v = some (.sl (strs l)) := by
  rcases ho with ⟨rfl, h⟩ | ⟨id, rfl, h⟩
  · rw [h]; rfl
  · simp only [depth, frz]
    rw [h]
    simp only
    rw [if_pos (by omega)]
    simp only [List.drop_zero, List.take_length]
    rw [frz_strs H l 6]
    rfl
/-! ### names -/
/-- Tokens that are few, and short. -/
structure Small (l : List Tok) : Prop where
  len : l.length ≤ 3000
  text : ∀ t ∈ l, t.text.length ≤ 1000000
theorem Small.at {l : List Tok} (h : Small l) (i : Int) : (tokAt l i).text.length ≤ 1000000 := by
  unfold tokAt
  cases hg : l[i.toNat]? with
  | none => simp
  | some t => exact h.text t (List.mem_of_getElem? hg)
def nameAt (l : List Tok) (i : Int) : List UInt8 × Int :=
  if partAt l i then
    if isAt l (i + 1) 5 [46] && partAt l (i + 2) then ((tokAt l i).text ++ [46] ++ (tokAt l (i + 2)).text, i + 3) else ((tokAt l i).text, i + 1)
  else ([], i)
theorem part_lt {l : List Tok} {i : Int} (h : partAt l i = true) : i < l.length := by
  unfold partAt at h
  simp only [Bool.and_eq_true, decide_eq_true_eq] at h
  exact h.1
theorem is_lt {l : List Tok} {i k : Int} {x : List UInt8} (h : isAt l i k x = true) : 0 ≤ i ∧ i < l.length := by
  unfold isAt at h
  simp only [Bool.and_eq_true, decide_eq_true_eq] at h
  exact ⟨h.1.1.1, h.1.1.2⟩
theorem wrap_small {n : Int} (h0 : 0 ≤ n) (h1 : n ≤ 9000000000) : IntKind.i64.wrap n = n := wrap_ok (by omega) (by omega)
theorem p_name (l : List Tok) (i : Int) (hs : Small l) (h0 : 0 ≤ i) (h9 : i ≤ 2000000) : PV 44 [.sl (toks l), .int .i64 i] = some (.tup [.str (nameAt l i).1, .int .i64 (nameAt l i).2]) := by
  refine PV_start k44 rfl (Nat.le_of_ble_eq_true rfl) ?_
  unfold nameAt
  have hp := p_rpart l i h0
  cases h1 : partAt l i
  · simp only [go_sem, K44, call_pure pure_45, hp, h1, List.append_nil, u_not]
    all_goals rfl
  · have hlt := part_lt h1
    have hg := indexAddr_22 l .i64 i [] h0 hlt
    have w1 : IntKind.i64.wrap (i + 1) = i + 1 := wrap_small (by omega) (by omega)
    have w2 : IntKind.i64.wrap (i + 2) = i + 2 := wrap_small (by omega) (by omega)
    have w3 : IntKind.i64.wrap (i + 3) = i + 3 := wrap_small (by omega) (by omega)
    have hsg := p_rsign l (i + 1) [46] (by omega)
    cases h2 : isAt l (i + 1) 5 [46]
    · simp only [go_sem, K44, call_pure pure_45, call_pure pure_46, hp, h1, hsg, h2, hg, w1, w2, tok, List.append_nil]
      all_goals rfl
    · have hp2 := p_rpart l (i + 2) (by omega)
      cases h3 : partAt l (i + 2)
      · simp only [go_sem, K44, call_pure pure_45, call_pure pure_46, hp, h1, hsg, h2, hp2, h3, hg, w1, w2, tok, List.append_nil]
        all_goals rfl
      · have hg2 := indexAddr_22 l .i64 (i + 2) [] (by omega) (part_lt h3)
        have b1 : (tokAt l i).text.length + ([46] : List UInt8).length ≤ 9223372036854775807 := by have := hs.at i; simp; omega
        have b2 : ((tokAt l i).text ++ [46]).length + (tokAt l (i + 2)).text.length ≤ 9223372036854775807 := by have := hs.at i; have := hs.at (i + 2); simp; omega
        simp only [go_sem, K44, D44_4, call_pure pure_45, call_pure pure_46, hp, h1, hsg, h2, hp2, h3, hg, hg2, w1, w2, w3, tok, b_sadd _ _ _ _ b1, b_sadd _ _ _ _ b2, List.append_nil]
        all_goals rfl
end Go.Proofs
/- The sets' layer: sets.word, ref07.from. -/

set_option linter.unusedSimpArgs false
set_option linter.unusedVariables false
namespace Go.Proofs
open Go.Vam
/-- A slice that was the last to be built, as it goes into a call. -/
theorem frz_last (H : AHeap) (l : List (List UInt8)) (n : Nat) (h : n = l.length) : frz depth (H ++ [.arr 9 true 0 (strs l)]) (.hs H.length 0 n) = some (.sl (strs l)) := by
  subst h
  simp only [depth, frz]
  rw [List.getElem?_append_right (by simp)]
  simp only [Nat.sub_self, List.getElem?_cons_zero, strs_len, Nat.zero_add, Nat.le_refl, if_true, List.drop_zero]
  rw [show (strs l).take l.length = strs l from List.take_of_length_le (by rw [strs_len]; exact Nat.le_refl _)]
  rw [frz_strs _ l 6]
  rfl
def wordAt (l : List Tok) (i : Int) (ws : List (List UInt8)) : Bool := ws.any fun w => isAt l i 1 w
def I26 (l : List Tok) (i : Int) (ws : List (List UInt8)) (n : Nat) (s : Slots) (H : AHeap) : Prop :=
  ∃ j : Nat, n = ws.length - j ∧ j ≤ ws.length ∧ (ws.take j).any (fun w => isAt l i 1 w) = false ∧ s 0 = .sl (toks l) ∧ s 1 = .int .i64 i ∧ s 9 = .sl (strs ws) ∧ s 10 = .int .i64 (ws.length : Int) ∧ s 11 = .int .i64 (j : Int) ∧ H = []
theorem any_take {α : Type} {p : α → Bool} {l : List α} {i : Nat} (h : i < l.length) (h1 : (l.take i).any p = false) (h2 : p l[i] = false) : (l.take (i + 1)).any p = false := by
  rw [List.take_add_one, List.getElem?_eq_getElem h]
  simp only [Option.toList_some, List.any_append, h1, List.any_cons, h2, List.any_nil, Bool.or_self]
theorem p_word (l : List Tok) (i : Int) (ws : List (List UInt8)) (hl : ws.length ≤ 1000) : PV 26 [.sl (toks l), .int .i64 i, .sl (strs ws)] = some (.bool (wordAt l i ws)) := by
  refine PV_start k26 rfl (Nat.le_of_ble_eq_true rfl) ?_
  simp only [go_sem, K26]
  refine C_while (I26 l i ws) ?_ (ws.length - 0) _ _ ⟨0, rfl, Nat.zero_le _, rfl, rfl, rfl, rfl, by simp only [go_sem], rfl, rfl⟩
  rintro n s H ⟨j, rfl, hj, hnot, h0, h1, h9, h10, h11, rfl⟩
  unfold wordAt
  by_cases hlt : j < ws.length
  · have hd : ((j : Int) < (ws.length : Int)) := by omega
    have hg : aindexAddr Try.prog 26 (.sl (strs ws)) (.int .i64 (j : Int)) [] = some (.ip [.str ws[j]]) := indexAddr_sl _ _ _ (e := 9) sliceT_26 (strs_get (List.getElem?_eq_getElem hlt)) szOf_9
    have his := p_is l i 1 ws[j]
    cases hx : isAt l i 1 ws[j]
    · have hw := wrap_succ (n := j) (by simp only [maxL]; omega)
      simp only [go_sem, L26_0, h0, h1, h9, h10, h11, hd, hg, call_pure pure_42, his, hx, hw, List.append_nil]
      exact ⟨ws.length - (j + 1), by omega, j + 1, rfl, hlt, any_take hlt hnot hx, h0, h1, h9, h10, rfl, rfl⟩
    · have : ws.any (fun w => isAt l i 1 w) = true := List.any_eq_true.2 ⟨ws[j], List.getElem_mem hlt, hx⟩
      rw [this]
      simp only [go_sem, L26_0, h0, h1, h9, h10, h11, hd, hg, call_pure pure_42, his, hx, List.append_nil]
      all_goals rfl
  · have hd : ¬ ((j : Int) < (ws.length : Int)) := by omega
    rw [List.take_of_length_le (by omega)] at hnot
    rw [hnot]
    simp only [go_sem, L26_0, h0, h1, h9, h10, h11, hd]
    all_goals rfl
/-! ### ref07.from -/
def onlyW : List UInt8 := [111, 110, 108, 121]
def tableW : List UInt8 := [116, 97, 98, 108, 101]
def asW : List UInt8 := [97, 115]
/-- Behind 'only', or 'table'. -/
def skip1 (l : List Tok) (i : Int) : Int := if isAt l i 1 onlyW || isAt l i 1 tableW then i + 1 else i
/-- Behind 'as', and one more name. -/
def skip2 (l : List Tok) (i : Int) : Int :=
  let j := if isAt l i 1 asW then i + 1 else i
  if partAt l j then j + 1 else j
def fromAt (l : List Tok) : Nat → Int → List (List UInt8)
  | 0, _ => []
  | n + 1, i =>
    if partAt l (skip1 l i) then
      (nameAt l (skip1 l i)).1 :: (if isAt l (skip2 l (nameAt l (skip1 l i)).2) 5 [44] then fromAt l n (skip2 l (nameAt l (skip1 l i)).2 + 1) else [])
    else []
def thenQ (P : Slots → AHeap → Prop) (Q : QT) : QT
  | .nrm, s, H => P s H
  | .ext i, s, H => Q (.ext i) s H
  | .ret, s, H => Q .ret s H
section
variable (P : Slots → AHeap → Prop) (Q : QT) (s : Slots) (H : AHeap)
@[go_sem] theorem thenQ_nrm : thenQ P Q .nrm s H = P s H := rfl
@[go_sem] theorem thenQ_ext (i : Nat) : thenQ P Q (.ext i) s H = Q (.ext i) s H := rfl
@[go_sem] theorem thenQ_ret : thenQ P Q .ret s H = Q .ret s H := rfl
end
/-- A part of the code, by what holds behind it; then the rest. -/
theorem C_then {a b : AC} {s : Slots} {H : AHeap} {Q : QT} (P : Slots → AHeap → Prop) (h1 : C (cxV E) a s H (thenQ P Q)) (h2 : ∀ s' H', P s' H' → C (cxV E) b s' H' Q) : C (cxV E) (.seq a b) s H Q := by
  rw [C_seq]
  refine C_mono h1 fun x s' H' h => ?_
  cases x with
  | nrm => exact h2 s' H' h
  | ext i => exact h
  | ret => exact h
theorem name_to {l : List Tok} {i : Int} (h : partAt l i = true) : (nameAt l i).2 ≠ i ∧ i < (nameAt l i).2 ∧ (nameAt l i).2 ≤ i + 3 ∧ (nameAt l i).2 ≤ l.length := by
  have hl := part_lt h
  unfold nameAt
  rw [if_pos h]
  split
  · rename_i h2
    simp only [Bool.and_eq_true] at h2
    have := part_lt h2.2
    simp only
    omega
  · simp only
    omega
theorem name_no {l : List Tok} {i : Int} (h : partAt l i = false) : (nameAt l i).2 = i := by
  unfold nameAt
  rw [if_neg (by rw [h]; simp)]
theorem skip1_le (l : List Tok) (i : Int) : i ≤ skip1 l i ∧ skip1 l i ≤ i + 1 := by
  unfold skip1
  split <;> omega
theorem skip2_le (l : List Tok) (i : Int) : i ≤ skip2 l i ∧ skip2 l i ≤ i + 2 := by
  unfold skip2
  simp only
  split <;> split <;> omega
def I31 (l : List Tok) (R : List (List UInt8)) (n : Nat) (s : Slots) (H : AHeap) : Prop :=
  ∃ (i : Int) (out : List (List UInt8)), 0 ≤ i ∧ i ≤ 1000010 ∧ (l.length : Int) + 1 ≤ i + n ∧ (out.length : Int) ≤ i ∧ out ++ fromAt l n i = R ∧ s 0 = .sl (toks l) ∧ s 1 = .int .i64 i ∧ Own 9 H (s 5) (strs out)
theorem p_from (l : List Tok) (i : Int) (hs : Small l) (h0 : 0 ≤ i) (h9 : i ≤ 1000010) : PV 31 [.sl (toks l), .int .i64 i] = some (.sl (strs (fromAt l (l.length + 1) i))) := by
  refine PV_start k31 rfl (Nat.le_of_ble_eq_true rfl) ?_
  simp only [go_sem, K31]
  generalize hR : fromAt l (l.length + 1) i = R
  refine C_while (I31 l R) ?_ (l.length + 1) _ _ ⟨i, [], h0, h9, by omega, by simpa using h0, by simpa using hR, rfl, rfl, .inl ⟨rfl, rfl⟩⟩
  clear hR h0 h9 i
  rintro n s H ⟨i, out, h0, h9, hn, hol, hR, s0, s1, ho⟩
  have hlen := hs.len
  rw [L31_0, C_block]
  have w1 : IntKind.i64.wrap (i + 1) = i + 1 := wrap_small (by omega) (by omega)
  refine C_then (fun s' H' => s' 0 = .sl (toks l) ∧ s' 1 = .int .i64 (skip1 l i) ∧ s' 5 = s 5 ∧ H' = H) ?_ ?_
  · have ha := p_rword l i onlyW
    have hb := p_rword l i tableW
    unfold onlyW at ha
    unfold tableW at hb
    unfold skip1
    cases h1 : isAt l i 1 onlyW
    · cases h2 : isAt l i 1 tableW
      · unfold onlyW at h1
        unfold tableW at h2
        simp only [go_sem, call_pure pure_29, s0, s1, ha, hb, h1, h2, List.append_nil, Bool.or_self, true_and, and_self]
      · unfold onlyW at h1
        unfold tableW at h2
        simp only [go_sem, call_pure pure_29, s0, s1, ha, hb, h1, h2, w1, List.append_nil, Bool.or_self, Bool.or_true, true_and, and_self]
    · unfold onlyW at h1
      simp only [go_sem, call_pure pure_29, s0, s1, ha, h1, w1, List.append_nil, Bool.true_or, true_and, and_self]
  · rintro s2 H2 ⟨t0, t1, t5, rfl⟩
    have hk := skip1_le l i
    generalize hi1 : skip1 l i = i1 at *
    have hname := p_name l i1 hs (by omega) (by omega)
    cases hp : partAt l i1
    · have hto := name_no hp
      have hres : R = out := by
        rw [← hR]
        cases n with
        | zero => simp [fromAt]
        | succ n => simp [fromAt, hi1, hp]
      have hfr := frz_own ho
      rw [hto] at hname
      simp only [go_sem, call_pure pure_44, t0, t1, t5, hname, List.append_nil]
      rw [hres]
      exact hfr
    · obtain ⟨k1, k2, k3, k4⟩ := name_to hp
      generalize hnm : (nameAt l i1).1 = nm at *
      generalize hto : (nameAt l i1).2 = to at *
      obtain ⟨v', H', happ, hown, _⟩ := append_str nm ho (by omega)
      have hne : ¬ to = i1 := k1
      refine C_then (fun s' H' => s' 0 = .sl (toks l) ∧ s' 1 = .int .i64 i1 ∧ s' 5 = s 5 ∧ s' 6 = .str nm ∧ s' 7 = .int .i64 to ∧ H' = H2) ?_ ?_
      · simp only [go_sem, call_pure pure_44, t0, t1, t5, hname, List.append_nil, and_self, true_and]
      rintro s3 H3 ⟨u0, u1, u5, u6, u7, rfl⟩
      refine C_then (fun s' H' => s' 0 = .sl (toks l) ∧ s' 5 = s 5 ∧ s' 6 = .str nm ∧ s' 7 = .int .i64 to ∧ H' = H3) ?_ ?_
      · simp only [go_sem, u0, u1, u5, u6, u7, hne, and_self, true_and]
      rintro s4 H4 ⟨u0, u5, u6, u7, rfl⟩
      refine C_then (fun s' H'' => s' 0 = .sl (toks l) ∧ s' 5 = v' ∧ s' 7 = .int .i64 to ∧ H'' = H') ?_ ?_
      · simp only [go_sem, u0, u5, u6, u7, bs_str, Nat.reduceLeDiff, happ, and_self, true_and]
      rintro s5 H5 ⟨u0, u5, u7, rfl⟩
      have w2 : IntKind.i64.wrap (to + 1) = to + 1 := wrap_small (by omega) (by omega)
      generalize hj : (if isAt l to 1 asW then to + 1 else to) = j
      have hjk : to ≤ j ∧ j ≤ to + 1 := by rw [← hj]; split <;> omega
      refine C_then (fun s' H'' => s' 0 = .sl (toks l) ∧ s' 5 = v' ∧ s' 7 = .int .i64 j ∧ H'' = H5) ?_ ?_
      · have ha := p_rword l to asW
        rw [← hj]
        unfold asW at ha ⊢
        cases h1 : isAt l to 1 [97, 115]
        · simp only [go_sem, call_pure pure_29, u0, u5, u7, ha, h1, List.append_nil, and_self, true_and]
        · simp only [go_sem, call_pure pure_29, u0, u5, u7, ha, h1, w2, List.append_nil, and_self, true_and]
      rintro s6 H6 ⟨u0, u5, u7, rfl⟩
      have hsk : skip2 l to = if partAt l j then j + 1 else j := by unfold skip2; simp only [hj]
      have w3 : IntKind.i64.wrap (j + 1) = j + 1 := wrap_small (by omega) (by omega)
      have hk2 := skip2_le l to
      generalize hq : skip2 l to = q at *
      refine C_then (fun s' H'' => s' 0 = .sl (toks l) ∧ s' 5 = v' ∧ s' 7 = .int .i64 q ∧ H'' = H6) ?_ ?_
      · have ha := p_rpart l j (by omega)
        rw [hsk]
        cases h1 : partAt l j
        · simp only [go_sem, call_pure pure_45, u0, u5, u7, ha, h1, List.append_nil, and_self, true_and]
        · simp only [go_sem, call_pure pure_45, u0, u5, u7, ha, h1, w3, List.append_nil, and_self, true_and]
      rintro s7 H7 ⟨u0, u5, u7, rfl⟩
      have w4 : IntKind.i64.wrap (q + 1) = q + 1 := wrap_small (by omega) (by omega)
      have ha := p_rsign l q [44] (by omega)
      obtain ⟨m, rfl⟩ : ∃ m, n = m + 1 := ⟨n - 1, by omega⟩
      have hfr := frz_own hown
      have hR' : R = out ++ nm :: (if isAt l q 5 [44] then fromAt l m (q + 1) else []) := by
        rw [← hR]
        simp only [fromAt, hi1, hp, if_true, hnm, hto, hq]
      cases h1 : isAt l q 5 [44]
      · simp only [go_sem, call_pure pure_46, u0, u5, u7, ha, h1, List.append_nil]
        rw [hR', h1]
        simpa using hfr
      · obtain ⟨c1, c2⟩ := is_lt h1
        simp only [go_sem, call_pure pure_46, u0, u5, u7, ha, h1, w4, List.append_nil]
        refine ⟨m, Nat.lt_succ_self m, q + 1, out ++ [nm], by omega, by omega, by push_cast at hn; omega, by simp; omega, ?_, u0, rfl, ?_⟩
        · rw [hR', h1]
          simp
        · show Own 9 H7 _ _
          simp only [go_sem, u5]
          exact hown
end Go.Proofs
/- The sets' layer: the order of texts; lists in order. -/

set_option linter.unusedSimpArgs false
set_option linter.unusedVariables false
namespace Go.Proofs
open Go.Vam
theorem less_at {a b : List UInt8} : ∀ {i : Nat} (ha : i < a.length) (hb : i < b.length), a.take i = b.take i → a[i] ≠ b[i] → Op.bytesLess a b = decide (a[i] < b[i]) := by
  induction a generalizing b with
  | nil => intro i ha; simp at ha
  | cons x a ih =>
    intro i ha hb ht hne
    cases b with
    | nil => simp at hb
    | cons y b =>
      cases i with
      | zero =>
        simp only [List.getElem_cons_zero] at hne ⊢
        simp [Op.bytesLess, hne]
      | succ i =>
        simp only [List.take_succ_cons, List.cons.injEq] at ht
        obtain ⟨rfl, ht⟩ := ht
        simp only [List.getElem_cons_succ] at hne ⊢
        have := ih (by simpa using ha) (by simpa using hb) ht hne
        simp [Op.bytesLess, this]
theorem less_end {a b : List UInt8} : ∀ {i : Nat}, a.take i = b.take i → i ≤ a.length → i ≤ b.length → (i = a.length ∨ i = b.length) → Op.bytesLess a b = decide (a.length < b.length) := by
  induction a generalizing b with
  | nil =>
    intro i ht ha hb h
    cases b with
    | nil => rfl
    | cons y b => simp [Op.bytesLess]
  | cons x a ih =>
    intro i ht ha hb h
    cases b with
    | nil => simp [Op.bytesLess]
    | cons y b =>
      cases i with
      | zero => simp at h
      | succ i =>
        simp only [List.take_succ_cons, List.cons.injEq] at ht
        obtain ⟨rfl, ht⟩ := ht
        have := ih ht (by simpa using ha) (by simpa using hb) (by simpa using h)
        simp [Op.bytesLess, this]
def I23 (a b : List UInt8) (n : Nat) (s : Slots) (H : AHeap) : Prop :=
  ∃ i : Nat, n = a.length - i ∧ i ≤ a.length ∧ i ≤ b.length ∧ a.take i = b.take i ∧ s 0 = .str a ∧ s 1 = .str b ∧ s 5 = .int .i64 i ∧ H = []
theorem take_eq {α : Type} {a b : List α} {i : Nat} (ha : i < a.length) (hb : i < b.length) (ht : a.take i = b.take i) (h : a[i] = b[i]) : a.take (i + 1) = b.take (i + 1) := by
  rw [List.take_add_one, List.take_add_one, List.getElem?_eq_getElem ha, List.getElem?_eq_getElem hb, ht, h]
theorem p_less (a b : List UInt8) (ha : a.length ≤ maxL) (hb : b.length ≤ maxL) : PV 23 [.str a, .str b] = some (.bool (Op.bytesLess a b)) := by
  refine PV_start k23 rfl (Nat.le_of_ble_eq_true rfl) ?_
  simp only [go_sem, K23]
  refine C_while (I23 a b) ?_ (a.length - 0) _ _ ⟨0, rfl, Nat.zero_le _, Nat.zero_le _, rfl, rfl, rfl, rfl, rfl⟩
  rintro n s H ⟨i, rfl, hi, hj, ht, h0, h1, h5, rfl⟩
  have hlen : (decide ((a.length : Int) < (b.length : Int))) = decide (a.length < b.length) := by
    rw [Bool.eq_iff_iff]; simp
  by_cases hlt : i < a.length
  · have hd : ((i : Int) < (a.length : Int)) := by omega
    by_cases hlt2 : i < b.length
    · have hd2 : ((i : Int) < (b.length : Int)) := by omega
      have g1 := index_str Try.prog 9 (k := .i64) strT_9 (List.getElem?_eq_getElem hlt)
      have g2 := index_str Try.prog 9 (k := .i64) strT_9 (List.getElem?_eq_getElem hlt2)
      by_cases hx : a[i] = b[i]
      · have hd3 : ((a[i].toNat : Int) = (b[i].toNat : Int)) := by rw [hx]
        simp only [go_sem, L23_0, D23_4, h0, h1, h5, hd, hd2, g1, g2, hd3, wrap_succ (Nat.lt_of_lt_of_le hlt ha)]
        exact ⟨a.length - (i + 1), by omega, i + 1, rfl, hlt, hlt2, take_eq hlt hlt2 ht hx, h0, h1, rfl, rfl⟩
      · have hd3 : ¬ ((a[i].toNat : Int) = (b[i].toNat : Int)) := fun e => hx (UInt8.toNat_inj.1 (by exact_mod_cast e))
        rw [less_at hlt hlt2 ht hx]
        simp only [go_sem, L23_0, D23_4, D23_5, h0, h1, h5, hd, hd2, g1, g2, hd3]
        congr 3
        apply propext
        rw [UInt8.lt_iff_toNat_lt]
        exact Int.ofNat_lt
    · have hd2 : ¬ ((i : Int) < (b.length : Int)) := by omega
      rw [less_end ht hi hj (.inr (by omega))]
      simp only [go_sem, L23_0, h0, h1, h5, hd, hd2, hlen]
  · have hd : ¬ ((i : Int) < (a.length : Int)) := by omega
    rw [less_end ht hi hj (.inl (by omega))]
    simp only [go_sem, L23_0, h0, h1, h5, hd, hlen]
/-! ### slices of texts, wherever they lie -/
def IsStrs (H : AHeap) (v : AV) (l : List (List UInt8)) : Prop := v = .sl (strs l) ∨ Own 9 H v (strs l)
/-- Two slices have not one object. -/
def Apart (u v : AV) : Prop := ∀ id n m, u = .hs id 0 n → v ≠ .hs id 0 m
theorem IsStrs.frz {H : AHeap} {v : AV} {l : List (List UInt8)} (h : IsStrs H v l) : frz depth H v = some (.sl (strs l)) := by
  rcases h with rfl | h
  · rfl
  · exact frz_own h
theorem IsStrs.len {H : AHeap} {v : AV} {l : List (List UInt8)} (h : IsStrs H v l) : abuiltin Try.prog .len [26] [v] H = some (.int .i64 (l.length : Int), H) := by
  rcases h with rfl | ⟨rfl, h⟩ | ⟨id, rfl, h⟩
  · simp only [go_sem]
  · have : l = [] := by cases l with | nil => rfl | cons a l => simp [strs] at h
    subst this
    simp only [go_sem]
    rfl
  · simp only [go_sem]
theorem IsStrs.at {H : AHeap} {v : AV} {l : List (List UInt8)} (h : IsStrs H v l) {i : Nat} (hi : i < l.length) (k : IntKind) : ∃ p, aindexAddr Try.prog 26 v (.int k i) H = some p ∧ aload Try.prog 9 p H = some (.str l[i]) := by
  have hg := strs_get (List.getElem?_eq_getElem hi)
  rcases h with rfl | ⟨rfl, h⟩ | ⟨id, rfl, h⟩
  · exact ⟨.ip [.str l[i]], indexAddr_sl _ _ _ (e := 9) sliceT_26 hg szOf_9, by simp only [go_sem]⟩
  · have : l = [] := by cases l with | nil => rfl | cons a l => simp [strs] at h
    subst this
    simp at hi
  · refine ⟨.ptr id (0 + i) 0, indexAddr_hs _ _ _ (e := 9) sliceT_26 h (by rw [strs_len]; exact hi), ?_⟩
    rw [Nat.zero_add]
    simp only [go_sem, h, hg]
theorem IsStrs.from_ {H : AHeap} {v : AV} {l : List (List UInt8)} (h : IsStrs H v l) {i : Nat} (hi : i ≤ l.length) (hn : v ≠ .nils) : ∃ y, aslice Try.prog 26 v (some (.int .i64 i)) none H = some y ∧ asrc y H = some (strs (l.drop i)) := by
  rcases h with rfl | ⟨rfl, h⟩ | ⟨id, rfl, h⟩
  · refine ⟨.sl (strs (l.drop i)), ?_, rfl⟩
    unfold aslice
    simp only
    rw [sliceT_26]
    simp only
    rw [szOf_9]
    simp only [asBound, Int.natCast_nonneg, if_true, Int.toNat_natCast, strs_len]
    rw [if_pos ⟨hi, Nat.le_refl _, fun c hc => by
      simp only [strs, List.mem_map] at hc
      obtain ⟨x, _, rfl⟩ := hc
      rfl⟩]
    rw [List.take_of_length_le (by rw [strs_len]; exact Nat.le_refl _)]
    simp [strs]
  · exact absurd rfl hn
  · unfold aslice
    simp only
    rw [sliceT_26, h]
    simp only [asBound, Int.natCast_nonneg, if_true, Int.toNat_natCast, strs_len]
    rw [if_pos ⟨hi, Nat.le_refl _, trivial⟩]
    by_cases hz : 0 < i ∧ l.length ≤ i
    · rw [if_pos hz]
      have : i = l.length := by omega
      subst this
      exact ⟨.sl [], rfl, by simp [asrc, aelems, strs]⟩
    · rw [if_neg hz]
      refine ⟨.hs id (0 + i) (l.length - i), rfl, ?_⟩
      simp only [asrc, aelems, h, Nat.zero_add, strs_len]
      rw [if_pos (by omega)]
      congr 1
      rw [List.take_of_length_le (by rw [List.length_drop, strs_len]; exact Nat.le_refl _)]
      simp [strs]
theorem IsStrs.keep {H H' : AHeap} {u v : AV} {l : List (List UInt8)} (h : IsStrs H u l) (hk : KeepBut v H H') (ha : Apart u v) : IsStrs H' u l := by
  rcases h with rfl | ⟨rfl, h⟩ | ⟨id, rfl, h⟩
  · exact .inl rfl
  · exact .inr (.inl ⟨rfl, h⟩)
  · exact .inr (.inr ⟨id, rfl, hk id _ h fun n e => ha id _ n rfl e⟩)
theorem IsStrs.app {H : AHeap} {u : AV} {l : List (List UInt8)} (h : IsStrs H u l) (x : AO) : IsStrs (H ++ [x]) u l := by
  rcases h with rfl | h
  · exact .inl rfl
  · exact .inr (h.lt x)
/-- APPENDING some elements. -/
theorem append_many {H : AHeap} {v y : AV} {l more : List (List UInt8)} (ho : Own 9 H v (strs l)) (hy : asrc y H = some (strs more)) (hl : l.length + more.length < 100000000) :
    ∃ v' H', aappend Try.prog 26 26 v y H = some (v', H') ∧ Own 9 H' v' (strs (l ++ more)) ∧ KeepBut v H H' ∧ (v' = v ∨ ∀ id n, v' = .hs id 0 n → H.length ≤ id) := by
  have hni := notInt_of_slice sliceT_26
  have hcond : (∀ c ∈ strs more, some 1 = some c.length ∧ c.all AV.isCell = true) ∧ notIntT Try.prog 26 = true ∧ (zeroT Try.prog 9).isSome = true :=
    ⟨fun c hc => by
      simp only [strs, List.mem_map] at hc
      obtain ⟨x, _, rfl⟩ := hc
      exact ⟨rfl, rfl⟩, hni, by rw [zeroT_9]; rfl⟩
  have app : strs (l ++ more) = strs l ++ strs more := by simp [strs]
  by_cases hm : more = []
  · subst hm
    refine ⟨v, H, ?_, by simpa using ho, fun id o h _ => h, .inl rfl⟩
    unfold aappend
    rw [sliceT_26, hy]
    simp only
    rw [bytesT_9, szOf_9]
    simp only
    rw [if_pos hcond]
    rcases ho with ⟨rfl, h⟩ | ⟨id, rfl, h⟩
    · simp [strs]
    · simp only
      rw [h]
      simp only
      rw [if_pos ⟨trivial, trivial, trivial, trivial, Nat.zero_le _, by simp [strs]; simp [strs] at hl; omega, by simp [strs]; simp [strs] at hl; omega⟩]
      simp [strs]
  · have hne : ¬ (strs more).length = 0 := by rw [strs_len]; simpa using hm
    rcases ho with ⟨rfl, h⟩ | ⟨id, rfl, h⟩
    · have hl0 : l = [] := by cases l with | nil => rfl | cons a l => simp [strs] at h
      subst hl0
      refine ⟨.hs H.length 0 (strs more).length, H ++ [.arr 9 true 0 (strs more)], ?_, .inr ⟨H.length, by simp, by simp⟩, fun id o h _ => ?_, .inr fun id n e => by cases e; exact Nat.le_refl _⟩
      · unfold aappend
        rw [sliceT_26, hy]
        simp only
        rw [bytesT_9, szOf_9]
        simp only
        rw [if_pos hcond, if_pos ⟨by simp [strs]; simp [strs] at hl; omega, by simp [strs]; simp [strs] at hl; omega⟩, if_neg hne]
      · rw [List.getElem?_append_left (List.getElem?_eq_some_iff.1 h).1]
        exact h
    · have hlt := (List.getElem?_eq_some_iff.1 h).1
      refine ⟨.hs H.length 0 ((strs l).length + (strs more).length), H.set id .dead ++ [.arr 9 true 0 (strs l ++ strs more)], ?_, .inr ⟨H.length, by rw [app]; simp, by rw [app, List.getElem?_append_right (by simp)]; simp⟩, fun id' o h1 h2 => ?_, .inr fun id n e => by cases e; exact Nat.le_refl _⟩
      · unfold aappend
        rw [sliceT_26, hy]
        simp only
        rw [bytesT_9, szOf_9]
        simp only
        rw [if_pos hcond, h]
        simp only
        rw [if_pos ⟨trivial, trivial, trivial, trivial, Nat.zero_le _, by simp only [strs_len]; omega, by simp only [strs_len]; omega⟩, if_neg hne]
      · have hne' : id' ≠ id := fun q => h2 (strs l).length (by rw [q])
        rw [List.getElem?_append_left (by simp; exact (List.getElem?_eq_some_iff.1 h1).1), List.getElem?_set_ne (Ne.symm hne')]
        exact h1
end Go.Proofs
/- The sets' layer: ref07.put. -/

set_option linter.unusedSimpArgs false
set_option linter.unusedVariables false
namespace Go.Proofs
open Go.Vam
theorem Apart.fresh {H : AHeap} {u v v' : AV} {l : List (List UInt8)} (h : IsStrs H u l) (ha : Apart u v) (hv : v' = v ∨ ∀ id n, v' = .hs id 0 n → H.length ≤ id) : Apart u v' := by
  intro id n m e e'
  rcases hv with rfl | hv
  · exact ha id n m e e'
  · have := hv id m e'
    subst e
    rcases h with h | ⟨h, _⟩ | ⟨id', h, h2⟩
    · cases h
    · cases h
    · cases h
      have := (List.getElem?_eq_some_iff.1 h2).1
      omega
/-- APPENDING ONE TEXT that has just been built. -/
theorem append_text {H : AHeap} {v : AV} {l : List (List UInt8)} (x : List UInt8) (ho : Own 9 H v (strs l)) (hl : l.length < 90000000) :
    ∃ v' H', aappend Try.prog 26 26 v (.hs H.length 0 1) (H ++ [.arr 9 true 0 (strs [x])]) = some (v', H') ∧ Own 9 H' v' (strs (l ++ [x])) ∧ (∀ u m, IsStrs H u m → Apart u v → IsStrs H' u m ∧ Apart u v') := by
  have hy : asrc (.hs H.length 0 1) (H ++ [.arr 9 true 0 (strs [x])]) = some (strs [x]) := by
    simp [asrc, aelems, strs]
  obtain ⟨v', H', h1, h2, h3, h4⟩ := append_many (ho.lt (.arr 9 true 0 (strs [x]))) hy (by simp; omega)
  refine ⟨v', H', h1, h2, fun u m hu ha => ⟨(hu.app _).keep h3 ha, Apart.fresh (hu.app (.arr 9 true 0 (strs [x]))) ha h4⟩⟩
/-- A text in its place in a list that rises. -/
def below (x : List UInt8) (y : List UInt8) : Bool := Op.bytesLess y x
def insAt (x : List UInt8) (l : List (List UInt8)) : List (List UInt8) := l.takeWhile (below x) ++ x :: l.dropWhile (below x)
def putS (l more : List (List UInt8)) : List (List UInt8) := more.foldl (fun l x => if l.contains x then l else insAt x l) l
theorem span_at {α : Type} {p : α → Bool} {l : List α} {i : Nat} (h1 : (l.take i).all p = true) (h2 : i = l.length ∨ ∃ h : i < l.length, p l[i] = false) : l.takeWhile p = l.take i ∧ l.dropWhile p = l.drop i := by
  induction l generalizing i with
  | nil => simp
  | cons a l ih =>
    cases i with
    | zero =>
      rcases h2 with h2 | ⟨h, h2⟩
      · simp at h2
      · simp only [List.getElem_cons_zero] at h2
        simp [h2]
    | succ i =>
      simp only [List.take_succ_cons, List.all_cons, Bool.and_eq_true] at h1
      have := ih h1.2 (by
        rcases h2 with h2 | ⟨h, h2⟩
        · left; simpa using h2
        · right; exact ⟨by simpa using h, by simpa using h2⟩)
      simp [h1.1, this.1, this.2]
def J30 (cur more : List (List UInt8)) (x : List UInt8) (k : Nat) (v0 : AV) (n : Nat) (s : Slots) (H : AHeap) : Prop :=
  ∃ (i : Nat) (v : AV), n = cur.length - i ∧ i ≤ cur.length ∧ (cur.take i).all (below x) = true ∧ s 0 = v0 ∧ s 1 = .sl (strs more) ∧ s 5 = .int .i64 (k : Int) ∧ s 6 = .str x ∧ s 7 = v ∧ s 8 = .int .i64 (i : Int) ∧ IsStrs H v0 cur ∧ Own 9 H v (strs (cur.take i)) ∧ Apart v0 v
theorem put_inner {cur more : List (List UInt8)} {x : List UInt8} {k : Nat} {v0 : AV} {Q : QT} (hc : cur.length < 80000000) (hx : x.length ≤ maxL) (hcur : ∀ y ∈ cur, y.length ≤ maxL)
    (hq : ∀ s H (i : Nat) v, i ≤ cur.length → cur.take i = cur.takeWhile (below x) → cur.drop i = cur.dropWhile (below x) → s 0 = v0 → s 1 = .sl (strs more) → s 5 = .int .i64 (k : Int) → s 6 = .str x → s 7 = v → s 8 = .int .i64 (i : Int) → IsStrs H v0 cur → Own 9 H v (strs (cur.take i)) → Apart v0 v → Q (.ext 2) s H) :
    ∀ n s H, J30 cur more x k v0 n s H → C (cxV E) (.loop L30_1) s H Q := by
  refine C_while (J30 cur more x k v0) ?_
  rintro n s H ⟨i, v, rfl, hi, hall, h0, h1, h5, h6, h7, h8, hv0, hv, hap⟩
  have hlen := hv0.len
  by_cases hlt : i < cur.length
  · have hd : ((i : Int) < (cur.length : Int)) := by omega
    obtain ⟨p, g1, g2⟩ := hv0.at hlt .i64
    have hls := p_less cur[i] x (hcur _ (List.getElem_mem hlt)) hx
    cases hb : Op.bytesLess cur[i] x
    · have hsp := span_at (p := below x) (l := cur) hall (.inr ⟨hlt, hb⟩)
      simp only [go_sem, L30_1, h0, h6, h7, h8, hlen, hd, g1, g2, call_pure pure_23, hls, hb, List.append_nil]
      refine hq _ _ i v hi hsp.1.symm hsp.2.symm ?_ ?_ ?_ ?_ ?_ ?_ hv0 hv hap <;> simp only [go_sem, h0, h1, h5, h6, h7, h8]
    · obtain ⟨v', H', ha, hown, hkeep⟩ := append_text cur[i] hv (by simp; omega)
      obtain ⟨k1, k2⟩ := hkeep v0 cur hv0 hap
      simp only [go_sem, L30_1, h0, h6, h7, h8, hlen, hd, g1, g2, call_pure pure_23, hls, hb, bs_str, ha, wrap_succ (n := i) (by simp only [maxL]; omega), List.append_nil]
      refine ⟨cur.length - (i + 1), by omega, i + 1, v', rfl, hlt, ?_, ?_, ?_, ?_, ?_, ?_, ?_, k1, ?_, k2⟩
      · rw [List.take_add_one, List.getElem?_eq_getElem hlt]
        simp only [Option.toList_some, List.all_append, hall, List.all_cons, List.all_nil, Bool.true_and, Bool.and_true]
        exact hb
      all_goals first | (simp only [go_sem, h0, h1, h5, h6]; done) | skip
      · rw [List.take_add_one, List.getElem?_eq_getElem hlt]
        exact hown
  · have hd : ¬ ((i : Int) < (cur.length : Int)) := by omega
    have hie : i = cur.length := by omega
    have hsp := span_at (p := below x) (l := cur) hall (.inl hie)
    simp only [go_sem, L30_1, h0, h8, hlen, hd]
    refine hq _ _ i v hi hsp.1.symm hsp.2.symm ?_ ?_ ?_ ?_ ?_ ?_ hv0 hv hap <;> simp only [go_sem, h0, h1, h5, h6, h7, h8]
theorem mem_insAt {x y : List UInt8} {l : List (List UInt8)} (h : y ∈ insAt x l) : y = x ∨ y ∈ l := by
  unfold insAt at h
  rcases List.mem_append.1 h with h | h
  · exact .inr ((List.takeWhile_sublist _).subset h)
  · rcases List.mem_cons.1 h with h | h
    · exact .inl h
    · exact .inr ((List.dropWhile_sublist _).subset h)
theorem len_insAt (x : List UInt8) (l : List (List UInt8)) : (insAt x l).length = l.length + 1 := by
  unfold insAt
  rw [List.length_append, List.length_cons]
  have := congrArg List.length (List.takeWhile_append_dropWhile (p := below x) (l := l))
  rw [List.length_append] at this
  omega
def I30 (l more R : List (List UInt8)) (n : Nat) (s : Slots) (H : AHeap) : Prop :=
  ∃ (k : Nat) (cur : List (List UInt8)) (v0 : AV), n = more.length - k ∧ k ≤ more.length ∧ cur.length ≤ l.length + k ∧ (∀ y ∈ cur, y.length ≤ maxL) ∧ putS cur (more.drop k) = R ∧ s 0 = v0 ∧ s 1 = .sl (strs more) ∧ s 5 = .int .i64 (k : Int) ∧ IsStrs H v0 cur ∧ v0 ≠ .nils
theorem p_put (l more : List (List UInt8)) (hl : l.length ≤ 30000000) (hm : more.length ≤ 30000000) (h1 : ∀ y ∈ l, y.length ≤ maxL) (h2 : ∀ y ∈ more, y.length ≤ maxL) : PV 30 [.sl (strs l), .sl (strs more)] = some (.sl (strs (putS l more))) := by
  refine PV_start k30 rfl (Nat.le_of_ble_eq_true rfl) ?_
  generalize hR : putS l more = R
  simp only [go_sem, K30]
  refine C_while (I30 l more R) ?_ (more.length - 0) _ _ ⟨0, l, .sl (strs l), rfl, Nat.zero_le _, Nat.le_refl _, h1, by simpa using hR, rfl, rfl, rfl, .inl rfl, by simp⟩
  clear hR
  rintro n s H ⟨k, cur, v0, rfl, hk, hcl, hct, hR, s0, s1, s5, hv0, hnn⟩
  have hfr := hv0.frz
  by_cases hlt : k < more.length
  · have hd : ((k : Int) < (more.length : Int)) := by omega
    have hg : aindexAddr Try.prog 26 (.sl (strs more)) (.int .i64 (k : Int)) H = some (.ip [.str more[k]]) := indexAddr_sl _ _ _ (e := 9) sliceT_26 (strs_get (List.getElem?_eq_getElem hlt)) szOf_9
    have hin := p_in cur more[k] (by simp only [maxL]; omega)
    have hxm := h2 more[k] (List.getElem_mem hlt)
    have hw := wrap_succ (n := k) (by simp only [maxL]; omega)
    have hdrop : more.drop k = more[k] :: more.drop (k + 1) := (List.getElem_cons_drop hlt).symm
    cases hc : cur.contains more[k]
    · rw [hdrop] at hR
      simp only [putS, List.foldl_cons, hc, Bool.false_eq_true, if_false] at hR
      simp only [go_sem, L30_0, s0, s1, s5, hd, hg, call_pure pure_41, hfr, hin, hc, List.append_nil]
      refine put_inner (cur := cur) (more := more) (x := more[k]) (k := k) (v0 := v0) (by omega) hxm hct ?_ (cur.length - 0) _ _ ⟨0, .nils, rfl, Nat.zero_le _, rfl, ?_, ?_, ?_, ?_, ?_, ?_, hv0, .inl ⟨rfl, rfl⟩, ?_⟩
      · intro s' H' i v hi hT hD t0 t1 t5 t6 t7 t8 hv0' hv hap
        obtain ⟨v2, H2, a1, a2, a3⟩ := append_text more[k] hv (by simp; omega)
        obtain ⟨b1, b2⟩ := a3 v0 cur hv0' hap
        obtain ⟨y, c1, c2⟩ := b1.from_ hi hnn
        obtain ⟨v3, H3, d1, d2, d3, d4⟩ := append_many a2 c2 (by simp; omega)
        simp only [go_sem, t0, t1, t5, t6, t7, t8, bs_str, a1, c1, d1, hw]
        have hlist : cur.take i ++ [more[k]] ++ cur.drop i = insAt more[k] cur := by
          unfold insAt
          rw [hT, hD]
          simp
        rw [hlist] at d2
        refine ⟨more.length - (k + 1), by omega, k + 1, insAt more[k] cur, v3, rfl, hlt, by rw [len_insAt]; omega, ?_, hR, ?_, ?_, ?_, .inr d2, ?_⟩
        · intro y hy
          rcases mem_insAt hy with rfl | hy
          · exact hxm
          · exact hct y hy
        · simp only [go_sem]
        · simp only [go_sem, t1]
        · simp only [go_sem]
        · rcases d2 with ⟨_, h⟩ | ⟨id, h, _⟩
          · have := congrArg List.length h
            rw [strs_len, len_insAt] at this
            simp at this
          · rw [h]; simp
      all_goals first | (simp only [go_sem, s0, s1, s5]; done) | rfl | (intro id n m e e'; cases e')
    · rw [hdrop] at hR
      simp only [putS, List.foldl_cons, hc, if_true] at hR
      simp only [go_sem, L30_0, s0, s1, s5, hd, hg, call_pure pure_41, hfr, hin, hc, hw, List.append_nil]
      exact ⟨more.length - (k + 1), by omega, k + 1, cur, v0, rfl, hlt, by omega, hct, hR, by simp only [go_sem, s0], by simp only [go_sem, s1], by simp only [go_sem], hv0, hnn⟩
  · have hd : ¬ ((k : Int) < (more.length : Int)) := by omega
    rw [List.drop_of_length_le (by omega)] at hR
    simp only [putS, List.foldl_nil] at hR
    simp only [go_sem, L30_0, s0, s1, s5, hd]
    rw [← hR]
    exact hfr
end Go.Proofs
/- The sets' layer: which tables are read, and written, in the reference's words. -/

set_option linter.unusedSimpArgs false
set_option linter.unusedVariables false
namespace Go.Proofs
open Go.Vam
def fromW : List UInt8 := [102, 114, 111, 109]
def deleteW : List UInt8 := [100, 101, 108, 101, 116, 101]
def joinW : List UInt8 := [106, 111, 105, 110]
def usingW : List UInt8 := [117, 115, 105, 110, 103]
def readsAt (l : List Tok) (i : Int) : Bool :=
  isAt l i 1 [102, 114, 111, 109] && !isAt l (i - 1) 1 [100, 101, 108, 101, 116, 101] || isAt l i 1 [106, 111, 105, 110] || isAt l i 1 [117, 115, 105, 110, 103] || decide (i = 0) && isAt l i 1 [116, 97, 98, 108, 101]
def namesAt (l : List Tok) (i : Int) : List (List UInt8) := fromAt l (l.length + 1) i
def readsR (l : List Tok) : Nat → Int → List (List UInt8) → List (List UInt8)
  | 0, _, out => out
  | n + 1, i, out => readsR l n (i + 1) (if readsAt l i then putS out (namesAt l (i + 1)) else out)
theorem name_len {l : List Tok} (h : Small l) (i : Int) : (nameAt l i).1.length ≤ 3000000 := by
  unfold nameAt
  have h1 := h.at i
  have h2 := h.at (i + 2)
  split
  · split <;> simp <;> omega
  · simp
theorem from_text {l : List Tok} (h : Small l) : ∀ (n : Nat) (i : Int), ∀ y ∈ fromAt l n i, y.length ≤ 3000000
  | 0, i, y, hy => by simp [fromAt] at hy
  | n + 1, i, y, hy => by
    unfold fromAt at hy
    split at hy
    · rcases List.mem_cons.1 hy with rfl | hy
      · exact name_len h _
      · split at hy
        · exact from_text h n _ y hy
        · cases hy
    · cases hy
theorem from_len (l : List Tok) : ∀ (n : Nat) (i : Int), (fromAt l n i).length ≤ n
  | 0, i => by simp [fromAt]
  | n + 1, i => by
    unfold fromAt
    split
    · simp only [List.length_cons]
      split
      · have := from_len l n (skip2 l (nameAt l (skip1 l i)).2 + 1)
        omega
      · simp
    · simp
theorem putS_len (more : List (List UInt8)) : ∀ (l : List (List UInt8)), (putS l more).length ≤ l.length + more.length := by
  induction more with
  | nil => intro l; simp [putS]
  | cons a more ih =>
    intro l
    simp only [putS, List.foldl_cons, List.length_cons] at ih ⊢
    split
    · have := ih l; omega
    · have := ih (insAt a l)
      rw [len_insAt] at this
      omega
theorem putS_mem (more : List (List UInt8)) : ∀ (l : List (List UInt8)), ∀ y ∈ putS l more, y ∈ l ∨ y ∈ more := by
  induction more with
  | nil => intro l y hy; exact .inl hy
  | cons a more ih =>
    intro l y hy
    simp only [putS, List.foldl_cons] at ih hy
    split at hy
    · rcases ih l y hy with h | h
      · exact .inl h
      · exact .inr (List.mem_cons_of_mem _ h)
    · rcases ih _ y hy with h | h
      · rcases mem_insAt h with rfl | h
        · exact .inr (List.mem_cons_self)
        · exact .inl h
      · exact .inr (List.mem_cons_of_mem _ h)
def IsOut (v : AV) (out : List (List UInt8)) : Prop := (v = .nils ∧ out = []) ∨ v = .sl (strs out)
theorem IsOut.frz {v : AV} {out : List (List UInt8)} (h : IsOut v out) (H : AHeap) : frz depth H v = some (.sl (strs out)) := by
  rcases h with ⟨rfl, rfl⟩ | rfl <;> rfl
def I12 (l : List Tok) (R : List (List UInt8)) (n : Nat) (s : Slots) (H : AHeap) : Prop :=
  ∃ (i : Nat) (out : List (List UInt8)), i + n = l.length ∧ out.length ≤ i * 3001 ∧ (∀ y ∈ out, y.length ≤ 3000000) ∧ readsR l n i out = R ∧ s 0 = .sl (toks l) ∧ IsOut (s 3) out ∧ s 4 = .int .i64 (i : Int) ∧ H = []
theorem p_rreads (l : List Tok) (hs : Small l) : PV 12 [.sl (toks l)] = some (.sl (strs (readsR l l.length 0 []))) := by
  refine PV_start k12 rfl (Nat.le_of_ble_eq_true rfl) ?_
  have hlen := hs.len
  generalize hR : readsR l l.length 0 [] = R
  simp only [go_sem, K12]
  refine C_while (I12 l R) ?_ l.length _ _ ⟨0, [], by omega, by simp, by simp, hR, rfl, .inl ⟨rfl, rfl⟩, rfl, rfl⟩
  clear hR
  rintro n s H ⟨i, out, hin, hol, hot, hR, s0, s3, s4, rfl⟩
  have hfr := s3.frz []
  by_cases hlt : i < l.length
  · obtain ⟨m, rfl⟩ : ∃ m, n = m + 1 := ⟨n - 1, by omega⟩
    have hd : ((i : Int) < (l.length : Int)) := by omega
    rw [L12_0]
    refine C_then (fun s' H' => s' 0 = .sl (toks l) ∧ s' 3 = s 3 ∧ s' 4 = .int .i64 (i : Int) ∧ H' = []) ?_ ?_
    · simp only [go_sem, s0, s4, hd, and_self, true_and]
    rintro s1 H1 ⟨t0, t3, t4, rfl⟩
    have hnew : ∀ (b : Bool) (out' : List (List UInt8)), b = readsAt l i → out' = (if b then putS out (namesAt l (i + 1)) else out) → out'.length ≤ (i + 1) * 3001 ∧ (∀ y ∈ out', y.length ≤ 3000000) ∧ readsR l m ((i + 1 : Nat) : Int) out' = R := by
      intro b out' hb ho
      subst hb
      have hfl := from_len l (l.length + 1) ((i : Int) + 1)
      have hpl := putS_len (fromAt l (l.length + 1) ((i : Int) + 1)) out
      have hR' : readsR l m ((i + 1 : Nat) : Int) out' = R := by
        rw [← hR, ho]
        rfl
      cases hb : readsAt l i
      · rw [hb] at ho
        have ho' : out' = out := ho
        subst ho'
        exact ⟨Nat.le_trans hol (Nat.mul_le_mul_right _ (Nat.le_succ i)), hot, hR'⟩
      · rw [hb] at ho
        have ho' : out' = putS out (fromAt l (l.length + 1) ((i : Int) + 1)) := ho
        subst ho'
        refine ⟨Nat.le_trans hpl (by rw [Nat.succ_mul]; exact Nat.add_le_add hol (Nat.le_trans hfl (by omega))), fun y hy => ?_, hR'⟩
        rcases putS_mem _ _ y hy with h | h
        · exact hot y h
        · exact from_text hs _ _ y h
    refine C_then (fun s' H' => ∃ out', out'.length ≤ (i + 1) * 3001 ∧ (∀ y ∈ out', y.length ≤ 3000000) ∧ readsR l m ((i + 1 : Nat) : Int) out' = R ∧ s' 0 = .sl (toks l) ∧ IsOut (s' 3) out' ∧ s' 4 = .int .i64 (i : Int) ∧ H' = []) ?_ ?_
    · rw [C_block]
      refine C_then (fun s' H' => s' 0 = .sl (toks l) ∧ s' 3 = s 3 ∧ s' 4 = .int .i64 (i : Int) ∧ s' 39 = .bool (readsAt l i) ∧ H' = []) ?_ ?_
      · have a1 := p_rword l i [102, 114, 111, 109]
        have a2 := p_rword l ((i : Int) - 1) [100, 101, 108, 101, 116, 101]
        have a3 := p_rword l i [106, 111, 105, 110]
        have a4 := p_rword l i [117, 115, 105, 110, 103]
        have a5 := p_rword l i [116, 97, 98, 108, 101]
        have w1 : IntKind.i64.wrap ((i : Int) - 1) = (i : Int) - 1 := wrap_ok (by omega) (by omega)
        unfold readsAt
        cases b3 : isAt l i 1 [106, 111, 105, 110] <;> cases b4 : isAt l i 1 [117, 115, 105, 110, 103] <;> cases b1 : isAt l i 1 [102, 114, 111, 109] <;> cases b2 : isAt l ((i : Int) - 1) 1 [100, 101, 108, 101, 116, 101] <;> cases h0 : decide ((i : Int) = 0) <;>
          simp only [go_sem, call_pure pure_29, t0, t3, t4, a1, a2, a3, a4, a5, b1, b2, b3, b4, w1, h0, List.append_nil, and_self, true_and, Bool.false_or, Bool.or_false, Bool.true_or, Bool.or_true, Bool.false_and, Bool.true_and, Bool.and_true, Bool.and_false]
      · rintro s2 H2 ⟨u0, u3, u4, u39, rfl⟩
        cases hb : readsAt l i
        · obtain ⟨o1, o2, o3⟩ := hnew false out hb.symm rfl
          rw [hb] at u39
          simp only [go_sem, u39]
          exact ⟨out, o1, o2, o3, u0, by rw [u3]; exact s3, u4, by first | rfl | trivial⟩
        · obtain ⟨o1, o2, o3⟩ := hnew true _ hb.symm rfl
          rw [hb] at u39
          have hfr' := hfr
          rw [← u3] at hfr'
          have a1 := p_from l ((i : Int) + 1) hs (by omega) (by omega)
          have hfl := from_len l (l.length + 1) ((i : Int) + 1)
          have a2 := p_put out (fromAt l (l.length + 1) ((i : Int) + 1)) (by omega) (by omega) (fun y hy => Nat.le_trans (hot y hy) (by simp only [maxL]; omega)) (fun y hy => Nat.le_trans (from_text hs _ _ y hy) (by simp only [maxL]; omega))
          have w1 : IntKind.i64.wrap ((i : Int) + 1) = (i : Int) + 1 := wrap_small (by omega) (by omega)
          simp only [go_sem, u39, u0, u4, w1, call_pure pure_31, call_pure pure_30, a1, hfr', a2, List.append_nil]
          exact ⟨_, o1, o2, o3, by simp only [go_sem, u0], .inr (by simp only [go_sem]; rfl), by simp only [go_sem, u4], by first | rfl | trivial⟩
    · rintro s2 H2 ⟨out', o1, o2, o3, u0, u3, u4, rfl⟩
      simp only [go_sem, u4, wrap_succ (n := i) (by simp only [maxL]; omega)]
      exact ⟨m, Nat.lt_succ_self m, i + 1, out', by omega, o1, o2, o3, by simp only [go_sem, u0], by simpa only [go_sem] using u3, by simp only [go_sem], rfl⟩
  · have hd : ¬ ((i : Int) < (l.length : Int)) := by omega
    obtain rfl : n = 0 := by omega
    simp only [go_sem, L12_0, s0, s4, hd]
    rw [← hR]
    exact hfr
end Go.Proofs
/- The sets' layer: which tables are written, in the reference's words. -/

set_option linter.unusedSimpArgs false
set_option linter.unusedVariables false
namespace Go.Proofs
open Go.Vam
def moreAt (l : List Tok) (i : Int) : Bool := isAt l i 1 [116, 114, 117, 110, 99, 97, 116, 101]
def oneAt (l : List Tok) (i : Int) : Bool :=
  isAt l i 1 [105, 110, 116, 111] || isAt l i 1 [117, 112, 100, 97, 116, 101] && !isAt l (i - 1) 1 [102, 111, 114] || isAt l i 1 [102, 114, 111, 109] && isAt l (i - 1) 1 [100, 101, 108, 101, 116, 101]
def wStep (l : List Tok) (i : Int) (out : List (List UInt8)) : List (List UInt8) :=
  let o1 := if moreAt l i then putS out (namesAt l (i + 1)) else out
  if oneAt l i then putS o1 ((namesAt l (i + 1)).take 1) else o1
def writesR (l : List Tok) : Nat → Int → List (List UInt8) → List (List UInt8)
  | 0, _, out => out
  | n + 1, i, out => writesR l n (i + 1) (wStep l i out)
theorem min_one (n : Nat) (H : AHeap) : abuiltin Try.prog .min [3, 3] [.int .i64 (n : Int), .int .i64 1] H = some (.int .i64 ((min n 1 : Nat) : Int), H) := by
  unfold abuiltin
  simp only [if_true, Option.some.injEq, Prod.mk.injEq, AV.int.injEq, true_and, and_true]
  split <;> omega
theorem slice_to (f : List (List UInt8)) (k : Nat) (hk : k ≤ f.length) (H : AHeap) : aslice Try.prog 26 (.sl (strs f)) none (some (.int .i64 (k : Int))) H = some (.sl (strs (f.take k))) := by
  unfold aslice
  simp only
  rw [sliceT_26]
  simp only
  rw [szOf_9]
  simp only [asBound, Int.natCast_nonneg, if_true, Int.toNat_natCast, strs_len]
  rw [if_pos ⟨Nat.zero_le _, hk, fun c hc => by
    simp only [strs, List.mem_map] at hc
    obtain ⟨x, _, rfl⟩ := hc
    rfl⟩]
  simp [strs]
/-- Lists that are short, of short texts. -/
structure Lite (n : Nat) (out : List (List UInt8)) : Prop where
  len : out.length ≤ n
  text : ∀ y ∈ out, y.length ≤ 3000000
theorem Lite.put {n : Nat} {out more : List (List UInt8)} (h : Lite n out) (h1 : more.length ≤ 3001) (h2 : ∀ y ∈ more, y.length ≤ 3000000) : Lite (n + 3001) (putS out more) := by
  refine ⟨?_, fun y hy => ?_⟩
  · have := putS_len more out
    have := h.len
    omega
  · rcases putS_mem _ _ y hy with h' | h'
    · exact h.text y h'
    · exact h2 y h'
theorem Lite.p_put {n : Nat} {out more : List (List UInt8)} (h : Lite n out) (hn : n ≤ 20000000) (h1 : more.length ≤ 3001) (h2 : ∀ y ∈ more, y.length ≤ 3000000) : PV 30 [.sl (strs out), .sl (strs more)] = some (.sl (strs (putS out more))) :=
  Go.Proofs.p_put out more (by have := h.len; omega) (by omega) (fun y hy => Nat.le_trans (h.text y hy) (by simp only [maxL]; omega)) (fun y hy => Nat.le_trans (h2 y hy) (by simp only [maxL]; omega))
theorem Lite.mono {n m : Nat} {out : List (List UInt8)} (h : Lite n out) (hm : n ≤ m) : Lite m out := ⟨Nat.le_trans h.len hm, h.text⟩
def I14 (l : List Tok) (R : List (List UInt8)) (n : Nat) (s : Slots) (H : AHeap) : Prop :=
  ∃ (i : Nat) (out : List (List UInt8)), i + n = l.length ∧ Lite (i * 6002) out ∧ writesR l n i out = R ∧ s 0 = .sl (toks l) ∧ IsOut (s 3) out ∧ s 4 = .int .i64 (i : Int) ∧ H = []
theorem p_rwrites (l : List Tok) (hs : Small l) : PV 14 [.sl (toks l)] = some (.sl (strs (writesR l l.length 0 []))) := by
  refine PV_start k14 rfl (Nat.le_of_ble_eq_true rfl) ?_
  have hlen := hs.len
  generalize hR : writesR l l.length 0 [] = R
  simp only [go_sem, K14]
  refine C_while (I14 l R) ?_ l.length _ _ ⟨0, [], by omega, ⟨by simp, by simp⟩, hR, rfl, .inl ⟨rfl, rfl⟩, rfl, rfl⟩
  clear hR
  rintro n s H ⟨i, out, hin, hlite, hR, s0, s3, s4, rfl⟩
  have hfr := s3.frz []
  by_cases hlt : i < l.length
  · obtain ⟨m, rfl⟩ : ∃ m, n = m + 1 := ⟨n - 1, by omega⟩
    have hd : ((i : Int) < (l.length : Int)) := by omega
    have hbig : i * 6002 ≤ 19000000 := Nat.le_trans (Nat.mul_le_mul_right _ (show i ≤ 3000 by omega)) (by decide)
    have hfl := from_len l (l.length + 1) ((i : Int) + 1)
    have hft := from_text hs (l.length + 1) ((i : Int) + 1)
    have pf := p_from l ((i : Int) + 1) hs (by omega) (by omega)
    have w1 : IntKind.i64.wrap ((i : Int) + 1) = (i : Int) + 1 := wrap_small (by omega) (by omega)
    have w0 : IntKind.i64.wrap ((i : Int) - 1) = (i : Int) - 1 := wrap_ok (by omega) (by omega)
    rw [L14_0]
    refine C_then (fun s' H' => s' 0 = .sl (toks l) ∧ s' 3 = s 3 ∧ s' 4 = .int .i64 (i : Int) ∧ H' = []) ?_ ?_
    · simp only [go_sem, s0, s4, hd, and_self, true_and]
    rintro s1 H1 ⟨t0, t3, t4, rfl⟩
    have hfr' := hfr
    rw [← t3] at hfr'
    refine C_then (fun s' H' => s' 0 = .sl (toks l) ∧ IsOut (s' 3) (wStep l i out) ∧ Lite ((i + 1) * 6002) (wStep l i out) ∧ s' 4 = .int .i64 (i : Int) ∧ H' = []) ?_ ?_
    · rw [C_block]
      generalize ho1 : (if moreAt l i then putS out (fromAt l (l.length + 1) ((i : Int) + 1)) else out) = o1
      have hl1 : Lite (i * 6002 + 3001) o1 := by
        rw [← ho1]
        split
        · exact hlite.put (by omega) hft
        · exact hlite.mono (Nat.le_add_right _ _)
      refine C_then (fun s' H' => s' 0 = .sl (toks l) ∧ IsOut (s' 3) o1 ∧ s' 4 = .int .i64 (i : Int) ∧ H' = []) ?_ ?_
      · have a1 := p_rword l i [116, 114, 117, 110, 99, 97, 116, 101]
        have a2 := hlite.p_put (Nat.le_trans hbig (by decide)) (more := fromAt l (l.length + 1) ((i : Int) + 1)) (by omega) hft
        unfold moreAt at ho1
        cases b1 : isAt l i 1 [116, 114, 117, 110, 99, 97, 116, 101]
        · rw [b1] at ho1
          simp only [go_sem, call_pure pure_29, t0, t4, a1, b1, List.append_nil]
          refine ⟨trivial, ?_, trivial, trivial⟩
          rw [t3, ← ho1]
          exact s3
        · rw [b1] at ho1
          simp only [go_sem, call_pure pure_29, call_pure pure_31, call_pure pure_30, t0, t4, a1, b1, pf, hfr', a2, w1, List.append_nil]
          refine ⟨trivial, ?_, trivial, trivial⟩
          rw [← ho1]
          exact .inr rfl
      rintro s2 H2 ⟨u0, u3, u4, rfl⟩
      refine C_then (fun s' H' => s' 0 = .sl (toks l) ∧ s' 3 = s2 3 ∧ s' 4 = .int .i64 (i : Int) ∧ s' 46 = .bool (oneAt l i) ∧ H' = []) ?_ ?_
      · have a1 := p_rword l i [105, 110, 116, 111]
        have a2 := p_rword l i [117, 112, 100, 97, 116, 101]
        have a3 := p_rword l ((i : Int) - 1) [102, 111, 114]
        have a4 := p_rword l i [102, 114, 111, 109]
        have a5 := p_rword l ((i : Int) - 1) [100, 101, 108, 101, 116, 101]
        unfold oneAt
        cases b1 : isAt l i 1 [105, 110, 116, 111] <;> cases b2 : isAt l i 1 [117, 112, 100, 97, 116, 101] <;> cases b3 : isAt l ((i : Int) - 1) 1 [102, 111, 114] <;> cases b4 : isAt l i 1 [102, 114, 111, 109] <;> cases b5 : isAt l ((i : Int) - 1) 1 [100, 101, 108, 101, 116, 101] <;>
          simp only [go_sem, call_pure pure_29, u0, u3, u4, a1, a2, a3, a4, a5, b1, b2, b3, b4, b5, w0, List.append_nil, and_self, true_and, Bool.false_or, Bool.or_false, Bool.true_or, Bool.or_true, Bool.false_and, Bool.true_and, Bool.and_true, Bool.and_false]
      rintro s3' H3 ⟨v0, v3, v4, v46, rfl⟩
      have hst : wStep l i out = if oneAt l i then putS o1 ((fromAt l (l.length + 1) ((i : Int) + 1)).take 1) else o1 := by
        unfold wStep namesAt
        simp only [ho1]
      have hlm : (i + 1) * 6002 = i * 6002 + 3001 + 3001 := by rw [Nat.succ_mul]
      cases hb : oneAt l i
      · rw [hb] at v46
        simp only [go_sem, v46]
        rw [hst, hb]
        refine ⟨v0, by rw [v3]; exact u3, ?_, v4, by first | rfl | trivial⟩
        rw [hlm]
        exact hl1.mono (Nat.le_add_right _ _)
      · rw [hb] at v46
        have hfr2 := u3.frz []
        rw [← v3] at hfr2
        have htl : ((fromAt l (l.length + 1) ((i : Int) + 1)).take 1).length ≤ 3001 := by rw [List.length_take]; omega
        have htt : ∀ y ∈ (fromAt l (l.length + 1) ((i : Int) + 1)).take 1, y.length ≤ 3000000 := fun y hy => hft y (List.mem_of_mem_take hy)
        have a2 := hl1.p_put (Nat.le_trans (Nat.add_le_add_right hbig 3001) (by decide)) htl htt
        have hsl := slice_to (fromAt l (l.length + 1) ((i : Int) + 1)) (min (fromAt l (l.length + 1) ((i : Int) + 1)).length 1) (Nat.min_le_left _ _) []
        have htk : (fromAt l (l.length + 1) ((i : Int) + 1)).take (min (fromAt l (l.length + 1) ((i : Int) + 1)).length 1) = (fromAt l (l.length + 1) ((i : Int) + 1)).take 1 := by
          rw [List.take_eq_take_iff]
          omega
        rw [htk] at hsl
        simp only [go_sem, v46, v0, v4, w1, call_pure pure_31, call_pure pure_30, pf, hfr2, a2, min_one, hsl, List.append_nil]
        rw [hst, hb]
        refine ⟨by first | trivial | exact v0, .inr rfl, ?_, by first | trivial | exact v4, by first | rfl | trivial⟩
        rw [hlm]
        exact hl1.put htl htt
    · rintro s2 H2 ⟨u0, u3, u5, u4, rfl⟩
      simp only [go_sem, u4, wrap_succ (n := i) (by simp only [maxL]; omega)]
      exact ⟨m, Nat.lt_succ_self m, i + 1, wStep l i out, by omega, u5, by rw [← hR]; rfl, by simp only [go_sem, u0], by simpa only [go_sem] using u3, by simp only [go_sem], rfl⟩
  · have hd : ¬ ((i : Int) < (l.length : Int)) := by omega
    obtain rfl : n = 0 := by omega
    simp only [go_sem, L14_0, s0, s4, hd]
    rw [← hR]
    exact hfr
end Go.Proofs
/- The sets' layer: lists of texts, compared. -/

set_option linter.unusedSimpArgs false
set_option linter.unusedVariables false
namespace Go.Proofs
open Go.Vam
theorem strs_at {H : AHeap} {l : List (List UInt8)} {i : Nat} (h : i < l.length) : aindexAddr Try.prog 26 (.sl (strs l)) (.int .i64 (i : Int)) H = some (.ip [.str l[i]]) :=
  indexAddr_sl _ _ _ (e := 9) sliceT_26 (strs_get (List.getElem?_eq_getElem h)) szOf_9
theorem eq_of_take {α : Type} [DecidableEq α] {a b : List α} (hl : a.length = b.length) (h : a.take a.length = b.take a.length) : a = b := by
  rw [List.take_length, hl, List.take_length] at h
  exact h
/-! ### ref07.Texts -/
def I10 (a b : List (List UInt8)) (n : Nat) (s : Slots) (H : AHeap) : Prop :=
  ∃ i : Nat, i + n = a.length ∧ a.length = b.length ∧ a.take i = b.take i ∧ s 0 = .sl (strs a) ∧ s 1 = .sl (strs b) ∧ s 5 = .int .i64 (i : Int) ∧ H = []
theorem p_texts (a b : List (List UInt8)) (ha : a.length ≤ maxL) : PV 10 [.sl (strs a), .sl (strs b)] = some (.bool (decide (a = b))) := by
  refine PV_start k10 rfl (Nat.le_of_ble_eq_true rfl) ?_
  by_cases hl : a.length = b.length
  · have hd : ((a.length : Int) = (b.length : Int)) := by omega
    simp only [go_sem, K10, hd]
    refine C_while (I10 a b) ?_ a.length _ _ ⟨0, by omega, hl, rfl, ?_, ?_, ?_, rfl⟩
    rotate_left
    · simp only [go_sem]
    · simp only [go_sem]
    · simp only [go_sem]; rfl
    rintro n s H ⟨i, hin, hl, ht, h0, h1, h5, rfl⟩
    by_cases hlt : i < a.length
    · have hd : ((i : Int) < (a.length : Int)) := by omega
      have g1 := strs_at (H := []) hlt
      have g2 := strs_at (H := []) (l := b) (i := i) (by omega)
      have hw := wrap_succ (n := i) (Nat.lt_of_lt_of_le hlt ha)
      cases hx : (a[i] == b[i]'(by omega))
      · have hne : a ≠ b := by
          intro e
          subst e
          simp at hx
        simp only [go_sem, L10_0, D10_6, h0, h1, h5, hd, g1, g2, hx, hne]
      · obtain ⟨m, rfl⟩ : ∃ m, n = m + 1 := ⟨n - 1, by omega⟩
        simp only [go_sem, L10_0, D10_6, h0, h1, h5, hd, g1, g2, hx, hw]
        exact ⟨m, Nat.lt_succ_self m, i + 1, by omega, hl, take_eq hlt (by omega) ht (by simpa using hx), by simp only [go_sem, h0], by simp only [go_sem, h1], by simp only [go_sem], rfl⟩
    · have hd : ¬ ((i : Int) < (a.length : Int)) := by omega
      have hie : i = a.length := by omega
      subst hie
      have : decide (a = b) = true := by simpa using eq_of_take hl ht
      rw [this]
      simp only [go_sem, L10_0, h0, h5, hd]
  · have hd : ¬ ((a.length : Int) = (b.length : Int)) := by omega
    have hne : ¬ a = b := fun e => hl (by rw [e])
    simp only [go_sem, K10, hd, hne]
/-! ### ref07.Meets -/
def meets (a b : List (List UInt8)) : Bool := a.any fun x => b.contains x
def I22 (a b : List (List UInt8)) (n : Nat) (s : Slots) (H : AHeap) : Prop :=
  ∃ i : Nat, i + n = a.length ∧ (a.take i).any (fun x => b.contains x) = false ∧ s 0 = .sl (strs a) ∧ s 1 = .sl (strs b) ∧ s 5 = .int .i64 (i : Int) ∧ H = []
theorem p_rmeets (a b : List (List UInt8)) (ha : a.length ≤ maxL) (hb : b.length ≤ maxL) : PV 22 [.sl (strs a), .sl (strs b)] = some (.bool (meets a b)) := by
  refine PV_start k22 rfl (Nat.le_of_ble_eq_true rfl) ?_
  unfold meets
  simp only [go_sem, K22]
  refine C_while (I22 a b) ?_ a.length _ _ ⟨0, by omega, rfl, ?_, ?_, ?_, rfl⟩
  rotate_left
  · simp only [go_sem]
  · simp only [go_sem]
  · simp only [go_sem]; rfl
  rintro n s H ⟨i, hin, ht, h0, h1, h5, rfl⟩
  by_cases hlt : i < a.length
  · have hd : ((i : Int) < (a.length : Int)) := by omega
    have g1 := strs_at (H := []) hlt
    have pin := p_in b a[i] hb
    have hw := wrap_succ (n := i) (Nat.lt_of_lt_of_le hlt ha)
    cases hx : b.contains a[i]
    · obtain ⟨m, rfl⟩ : ∃ m, n = m + 1 := ⟨n - 1, by omega⟩
      simp only [go_sem, L22_0, h0, h1, h5, hd, g1, call_pure pure_41, pin, hx, hw, List.append_nil]
      exact ⟨m, Nat.lt_succ_self m, i + 1, by omega, any_take hlt ht hx, by simp only [go_sem, h0], by simp only [go_sem, h1], by simp only [go_sem], rfl⟩
    · have : a.any (fun x => b.contains x) = true := List.any_eq_true.2 ⟨a[i], List.getElem_mem hlt, hx⟩
      rw [this]
      simp only [go_sem, L22_0, h0, h1, h5, hd, g1, call_pure pure_41, pin, hx, List.append_nil]
  · have hd : ¬ ((i : Int) < (a.length : Int)) := by omega
    rw [List.take_of_length_le (by omega)] at ht
    rw [ht]
    simp only [go_sem, L22_0, h0, h5, hd]
end Go.Proofs
/- The sets' layer: counts of names in a map, closures that count. -/

set_option linter.unusedSimpArgs false
set_option linter.unusedVariables false
namespace Go.Proofs
open Go.Vam
def kvs (l : List (List UInt8 × Int)) : List (AV × AV) := l.map fun p => (.str p.1, .int .i64 p.2)
def count (n : List UInt8) : List (List UInt8 × Int) → Int
  | [] => 0
  | (k, c) :: l => if n == k then c else count n l
def setKv (n : List UInt8) (c : Int) : List (List UInt8 × Int) → List (List UInt8 × Int)
  | [] => [(n, c)]
  | (k, d) :: l => if n == k then (n, c) :: l else (k, d) :: setKv n c l
def bump (n : List UInt8) (l : List (List UInt8 × Int)) : List (List UInt8 × Int) := setKv n (IntKind.i64.wrap (count n l + 1)) l
theorem find_kvs (n : List UInt8) : ∀ l, findKey (.str n) (kvs l) = some none ∧ count n l = 0 ∨ findKey (.str n) (kvs l) = some (some (.int .i64 (count n l)))
  | [] => .inl ⟨rfl, rfl⟩
  | (k, c) :: l => by
    simp only [kvs, List.map_cons, findKey, cellEq, count]
    cases h : (n == k) with
    | true => simp
    | false =>
      simp only [Bool.false_eq_true, if_false]
      exact find_kvs n l
theorem put_kvs (n : List UInt8) (c : Int) : ∀ l, putKey (.str n) (.int .i64 c) (kvs l) = some (kvs (setKv n c l))
  | [] => rfl
  | (k, d) :: l => by
    simp only [kvs, List.map_cons, putKey, cellEq, setKv]
    cases h : (n == k) with
    | true => simp
    | false =>
      have ih := put_kvs n c l
      simp only [kvs] at ih
      simp only [Bool.false_eq_true, if_false, ih, Option.map_some, List.map_cons]
theorem lookup_kvs {H : AHeap} {M : Nat} {l : List (List UInt8 × Int)} (h : H[M]? = some (.map (kvs l))) (n : List UInt8) : alookup Try.prog 43 (.mp M) (.str n) false H = some (.int .i64 (count n l)) := by
  unfold alookup
  rw [mapT_43]
  simp only [ents, h, keyT_str, strT_9, if_true]
  rcases find_kvs n l with ⟨h1, h2⟩ | h1
  · rw [h1]
    simp only
    rw [zeroV_3, h2]
    rfl
  · rw [h1]
    rfl
theorem update_kvs {H : AHeap} {M : Nat} {l : List (List UInt8 × Int)} (h : H[M]? = some (.map (kvs l))) (n : List UInt8) (c : Int) : amapUpdate Try.prog 43 (.mp M) (.str n) (.int .i64 c) H = some (H.set M (.map (kvs (setKv n c l)))) := by
  unfold amapUpdate
  rw [mapT_43]
  simp only [h, keyT_str, strT_9, if_true]
  rw [put_kvs]
  rfl
/-- A map of counts, its variable. -/
structure Cnt (H : AHeap) (V M : Nat) (l : List (List UInt8 × Int)) : Prop where
  var : H[V]? = some (.arr 43 true 0 [[.mp M]])
  map : H[M]? = some (.map (kvs l))
theorem Cnt.app {H : AHeap} {V M : Nat} {l : List (List UInt8 × Int)} (h : Cnt H V M l) (x : AO) : Cnt (H ++ [x]) V M l :=
  ⟨by rw [List.getElem?_append_left (List.getElem?_eq_some_iff.1 h.var).1]; exact h.var, by rw [List.getElem?_append_left (List.getElem?_eq_some_iff.1 h.map).1]; exact h.map⟩
theorem Cnt.set {H : AHeap} {V M : Nat} {l l' : List (List UInt8 × Int)} (h : Cnt H V M l) : Cnt (H.set M (.map (kvs l'))) V M l' := by
  have hne : M ≠ V := fun e => by
    have h1 := h.var
    have h2 := h.map
    rw [e] at h2
    rw [h1] at h2
    cases h2
  exact ⟨by rw [List.getElem?_set_ne hne]; exact h.var, List.getElem?_set_self (List.getElem?_eq_some_iff.1 h.map).1⟩
theorem t_count {H : AHeap} {V M : Nat} {l : List (List UInt8 × Int)} (h : Cnt H V M l) (n : List UInt8) : callV E 25 [.str n, .ptr V 0 0] H = some (.bool true, H.set M (.map (kvs (bump n l)))) := by
  have : Tells E 25 [.str n, .ptr V 0 0] H fun r H' => r = .bool true ∧ H' = H.set M (.map (kvs (bump n l))) := by
    refine tells_at k25 rfl (Nat.le_of_ble_eq_true rfl) ?_
    simp only [go_sem, K25, h.var, lookup_kvs h.map, update_kvs h.map]
    exact ⟨trivial, rfl⟩
  obtain ⟨r, H', h1, rfl, rfl⟩ := this
  exact h1
theorem t_count2 {H : AHeap} {V M W : Nat} {more : Bool} {l : List (List UInt8 × Int)} (h : Cnt H V M l) (hw : H[W]? = some (.arr 4 true 0 [[.bool more]])) (n : List UInt8) : callV E 32 [.str n, .ptr V 0 0, .ptr W 0 0] H = some (.bool more, H.set M (.map (kvs (bump n l)))) := by
  have hne : M ≠ W := fun e => by
    have h2 := h.map
    rw [e, hw] at h2
    cases h2
  have hw' : (H.set M (.map (kvs (setKv n (IntKind.i64.wrap (count n l + 1)) l))))[W]? = some (.arr 4 true 0 [[.bool more]]) := by rw [List.getElem?_set_ne hne]; exact hw
  have : Tells E 32 [.str n, .ptr V 0 0, .ptr W 0 0] H fun r H' => r = .bool more ∧ H' = H.set M (.map (kvs (bump n l))) := by
    refine tells_at k32 rfl (Nat.le_of_ble_eq_true rfl) ?_
    simp only [go_sem, K32, h.var, lookup_kvs h.map, update_kvs h.map, hw']
    exact ⟨trivial, rfl⟩
  obtain ⟨r, H', h1, rfl, rfl⟩ := this
  exact h1
theorem call_imp {f : FuncId} (h : E.pure f = false) (xs : List AV) (H : AHeap) : acallf (cxV E) f xs H = callV E f xs H := by
  unfold acallf
  have h' : (cxV E).pure f = false := h
  rw [if_neg (by rw [h']; simp)]
  rfl
end Go.Proofs
/- The sets' layer: sets.names, whatever it hands names on to that counts them. -/

set_option linter.unusedSimpArgs false
set_option linter.unusedVariables false
namespace Go.Proofs
open Go.Vam
/-- What a closure does that counts names: it is called, and says b. -/
structure Counts (g : Nat) (cap : List AV) (b : Bool) (V M : Nat) (Inv : AHeap → Prop) : Prop where
  call : ∀ H l n, Cnt H V M l → Inv H → acallf (cxV E) g (.str n :: cap) H = some (.bool b, H.set M (.map (kvs (bump n l))))
  app : ∀ H x, Inv H → Inv (H ++ [x])
  set : ∀ H l n, Cnt H V M l → Inv H → Inv (H.set M (.map (kvs (bump n l))))
def bumps (l : List (List UInt8 × Int)) (names : List (List UInt8)) : List (List UInt8 × Int) := names.foldl (fun l n => bump n l) l
/-- The names that are handed on. -/
def handed (b : Bool) (names : List (List UInt8)) : List (List UInt8) := if b then names else names.take 1
def I27 (l : List Tok) (g : Nat) (cap : List AV) (b : Bool) (V M : Nat) (Inv : AHeap → Prop) (R : List (List UInt8 × Int)) (n : Nat) (s : Slots) (H : AHeap) : Prop :=
  ∃ (i : Int) (cur : List (List UInt8 × Int)), 0 ≤ i ∧ i ≤ 1000010 ∧ (l.length : Int) + 1 ≤ i + n ∧ bumps cur (handed b (fromAt l n i)) = R ∧ s 0 = .sl (toks l) ∧ s 1 = .int .i64 i ∧ s 2 = .fn g cap ∧ Cnt H V M cur ∧ Inv H
/-- A word of two, asked of the machine. -/
theorem word2 (l : List Tok) (i : Int) (a b : List UInt8) (H : AHeap) : acallf (cxV E) 26 [.sl (toks l), .int .i64 i, .hs H.length 0 2] (H ++ [.arr 9 true 0 (strs [a, b])]) = some (.bool (isAt l i 1 a || isAt l i 1 b), H ++ [.arr 9 true 0 (strs [a, b])]) := by
  have h1 := p_word l i [a, b] (by simp)
  have h2 := frz_last H [a, b] 2 rfl
  simp only [wordAt, List.any_cons, List.any_nil, Bool.or_false] at h1
  rw [call_pure pure_26]
  simp only [go_sem, h2, h1]
theorem word1 (l : List Tok) (i : Int) (a : List UInt8) (H : AHeap) : acallf (cxV E) 26 [.sl (toks l), .int .i64 i, .hs H.length 0 1] (H ++ [.arr 9 true 0 (strs [a])]) = some (.bool (isAt l i 1 a), H ++ [.arr 9 true 0 (strs [a])]) := by
  have h1 := p_word l i [a] (by simp)
  have h2 := frz_last H [a] 1 rfl
  simp only [wordAt, List.any_cons, List.any_nil, Bool.or_false] at h1
  rw [call_pure pure_26]
  simp only [go_sem, h2, h1]
theorem t_names {l : List Tok} {g : Nat} {cap : List AV} {b : Bool} {V M : Nat} {Inv : AHeap → Prop} (hc : Counts g cap b V M Inv) (hs : Small l) (i : Int) (h0 : 0 ≤ i) (h9 : i ≤ 1000010) {H : AHeap} {cur : List (List UInt8 × Int)} (hcnt : Cnt H V M cur) (hinv : Inv H) :
    Tells E 27 [.sl (toks l), .int .i64 i, .fn g cap] H fun r H' => r = .tup [] ∧ Cnt H' V M (bumps cur (handed b (namesAt l i))) ∧ Inv H' := by
  refine tells_at k27 rfl (Nat.le_of_ble_eq_true rfl) ?_
  simp only [go_sem, K27]
  generalize hR : bumps cur (handed b (namesAt l i)) = R
  refine C_while (I27 l g cap b V M Inv R) ?_ (l.length + 1) _ _ ⟨i, cur, h0, h9, by omega, hR, rfl, rfl, rfl, hcnt, hinv⟩
  clear hR h0 h9 hcnt hinv cur i H
  rintro n s H ⟨i, cur, h0, h9, hn, hR, s0, s1, s2, hcnt, hinv⟩
  have hlen := hs.len
  rw [L27_0, C_block]
  have w1 : IntKind.i64.wrap (i + 1) = i + 1 := wrap_small (by omega) (by omega)
  refine C_then (fun s' H' => s' 0 = .sl (toks l) ∧ s' 1 = .int .i64 (skip1 l i) ∧ s' 2 = .fn g cap ∧ Cnt H' V M cur ∧ Inv H') ?_ ?_
  · have ha := word2 l i [111, 110, 108, 121] [116, 97, 98, 108, 101] H
    have hcnt' := hcnt.app (.arr 9 true 0 (strs [[111, 110, 108, 121], [116, 97, 98, 108, 101]]))
    have hinv' := hc.app H (.arr 9 true 0 (strs [[111, 110, 108, 121], [116, 97, 98, 108, 101]])) hinv
    unfold skip1 onlyW tableW
    cases hb : (isAt l i 1 [111, 110, 108, 121] || isAt l i 1 [116, 97, 98, 108, 101])
    · rw [hb] at ha
      simp only [go_sem, bs_str, s0, s1, s2, ha, List.append_nil]
      exact ⟨by first | trivial | exact s0, by first | trivial | exact s1, by first | trivial | exact s2, hcnt', hinv'⟩
    · rw [hb] at ha
      simp only [go_sem, bs_str, s0, s1, s2, ha, w1, List.append_nil]
      exact ⟨by first | trivial | exact s0, by first | trivial | rfl, by first | trivial | exact s2, hcnt', hinv'⟩
  clear hinv hcnt H
  rintro s3 H ⟨t0, t1, t2, hcnt, hinv⟩
  have hk := skip1_le l i
  generalize hi1 : skip1 l i = i1 at *
  have hpart := p_part l i1 (by omega)
  refine C_then (fun s' H' => partAt l i1 = true ∧ s' 0 = .sl (toks l) ∧ s' 1 = .int .i64 i1 ∧ s' 2 = .fn g cap ∧ H' = H) ?_ ?_
  · cases hp : partAt l i1
    · have hres : R = cur := by
        rw [← hR]
        cases n with
        | zero => cases b <;> rfl
        | succ n => cases b <;> simp [fromAt, hi1, hp, handed, bumps]
      simp only [go_sem, call_pure pure_43, t0, t1, hpart, hp, List.append_nil]
      rw [hres]
      exact ⟨by first | trivial | rfl, hcnt, hinv⟩
    · simp only [go_sem, call_pure pure_43, t0, t1, t2, hpart, hp, List.append_nil]
      exact ⟨by first | trivial | rfl, by first | trivial | rfl, by first | trivial | rfl, by first | trivial | rfl, by first | trivial | rfl⟩
  rintro s4 H' ⟨hp, t0, t1, t2, rfl⟩
  have hpl := part_lt hp
  obtain ⟨k1, k2, k3, k4⟩ := name_to hp
  have hg := indexAddr_42 l .i64 i1 H' (by omega) hpl
  refine C_then (fun s' H => s' 0 = .sl (toks l) ∧ s' 1 = .int .i64 i1 ∧ s' 2 = .fn g cap ∧ s' 6 = .str (tokAt l i1).text ∧ H = H') ?_ ?_
  · simp only [go_sem, t0, t1, t2, hg, tok]
    exact ⟨by first | trivial | rfl, by first | trivial | rfl, by first | trivial | rfl, by first | trivial | rfl, by first | trivial | rfl⟩
  rintro s5 H ⟨t0, t1, t2, t6, rfl⟩
  have w2 : IntKind.i64.wrap (i1 + 1) = i1 + 1 := wrap_small (by omega) (by omega)
  refine C_then (fun s' H' => s' 0 = .sl (toks l) ∧ s' 1 = .int .i64 (i1 + 1) ∧ s' 2 = .fn g cap ∧ s' 6 = .str (tokAt l i1).text ∧ H' = H) ?_ ?_
  · simp only [go_sem, t0, t1, t2, t6, w2]
    exact ⟨by first | trivial | rfl, by first | trivial | rfl, by first | trivial | rfl, by first | trivial | rfl, by first | trivial | rfl⟩
  rintro s6 H' ⟨t0, t1, t2, t6, rfl⟩
  refine C_then (fun s' H => s' 0 = .sl (toks l) ∧ s' 1 = .int .i64 (nameAt l i1).2 ∧ s' 2 = .fn g cap ∧ s' 6 = .str (nameAt l i1).1 ∧ H = H') ?_ ?_
  · have w3 : IntKind.i64.wrap (i1 + 1 + 1) = i1 + 2 := by rw [show i1 + 1 + 1 = i1 + 2 by omega]; exact wrap_small (by omega) (by omega)
    have w4 : IntKind.i64.wrap (i1 + 1 + 2) = i1 + 3 := by rw [show i1 + 1 + 2 = i1 + 3 by omega]; exact wrap_small (by omega) (by omega)
    have ha := p_is l (i1 + 1) 5 [46]
    have hb := p_part l (i1 + 2) (by omega)
    unfold nameAt
    rw [if_pos hp]
    cases h1 : isAt l (i1 + 1) 5 [46]
    · simp only [go_sem, call_pure pure_42, t0, t1, t2, t6, ha, h1, List.append_nil, Bool.false_and]
      exact ⟨by first | trivial | rfl, by first | trivial | rfl, by first | trivial | rfl, by first | trivial | rfl, by first | trivial | rfl⟩
    · cases h2 : partAt l (i1 + 2)
      · simp only [go_sem, call_pure pure_42, call_pure pure_43, t0, t1, t2, t6, ha, hb, h1, h2, w3, List.append_nil, Bool.true_and]
        exact ⟨by first | trivial | rfl, by first | trivial | rfl, by first | trivial | rfl, by first | trivial | rfl, by first | trivial | rfl⟩
      · have hg2 := indexAddr_42 l .i64 (i1 + 2) H' (by omega) (part_lt h2)
        have b1 : ([46] : List UInt8).length + (tokAt l (i1 + 2)).text.length ≤ 9223372036854775807 := by have := hs.at (i1 + 2); simp; omega
        have b2 : (tokAt l i1).text.length + (46 :: (tokAt l (i1 + 2)).text).length ≤ 9223372036854775807 := by have := hs.at i1; have := hs.at (i1 + 2); simp; omega
        simp only [go_sem, call_pure pure_42, call_pure pure_43, t0, t1, t2, t6, ha, hb, h1, h2, w3, w4, hg2, tok, b_sadd _ _ _ _ b1, b_sadd _ _ _ _ b2, List.append_nil, Bool.and_self, List.append_assoc]
        exact ⟨by first | trivial | rfl, by first | trivial | rfl, by first | trivial | rfl, by first | trivial | rfl, by first | trivial | rfl⟩
  rintro s7 H ⟨t0, t1, t2, t6, rfl⟩
  generalize hnm : (nameAt l i1).1 = nm at *
  generalize hto : (nameAt l i1).2 = to at *
  obtain ⟨m, rfl⟩ : ∃ m, n = m + 1 := ⟨n - 1, by omega⟩
  have hcall := hc.call H cur nm hcnt hinv
  have hcnt2 : Cnt (H.set M (.map (kvs (bump nm cur)))) V M (bump nm cur) := hcnt.set
  have hinv2 := hc.set H cur nm hcnt hinv
  generalize hH2 : H.set M (.map (kvs (bump nm cur))) = H2 at *
  refine C_then (fun s' H' => b = true ∧ s' 0 = .sl (toks l) ∧ s' 1 = .int .i64 to ∧ s' 2 = .fn g cap ∧ H' = H2) ?_ ?_
  · cases hb : b
    · rw [hb] at hcall hR
      have hres : R = bump nm cur := by
        rw [← hR]
        simp [fromAt, hi1, hp, handed, bumps, hnm]
      simp only [go_sem, t2, t6, hcall]
      rw [hres]
      exact ⟨by first | trivial | rfl, hcnt2, hinv2⟩
    · rw [hb] at hcall
      simp only [go_sem, t0, t1, t2, t6, hcall]
      exact ⟨by first | trivial | rfl, by first | trivial | rfl, by first | trivial | rfl, by first | trivial | rfl, by first | trivial | rfl⟩
  rintro s8 H' ⟨rfl, t0, t1, t2, rfl⟩
  have w2 : IntKind.i64.wrap (to + 1) = to + 1 := wrap_small (by omega) (by omega)
  generalize hj : (if isAt l to 1 asW then to + 1 else to) = j
  have hjk : to ≤ j ∧ j ≤ to + 1 := by rw [← hj]; split <;> omega
  refine C_then (fun s' H => s' 0 = .sl (toks l) ∧ s' 1 = .int .i64 j ∧ s' 2 = .fn g cap ∧ Cnt H V M (bump nm cur) ∧ Inv H) ?_ ?_
  · have ha := word1 l to [97, 115] H'
    have hcnt' := hcnt2.app (.arr 9 true 0 (strs [[97, 115]]))
    have hinv' := hc.app H' (.arr 9 true 0 (strs [[97, 115]])) hinv2
    rw [← hj]
    unfold asW
    cases h1 : isAt l to 1 [97, 115]
    · rw [h1] at ha
      simp only [go_sem, bs_str, t0, t1, t2, ha, List.append_nil]
      exact ⟨by first | trivial | rfl, by first | trivial | rfl, by first | trivial | rfl, hcnt', hinv'⟩
    · rw [h1] at ha
      simp only [go_sem, bs_str, t0, t1, t2, ha, w2, List.append_nil]
      exact ⟨by first | trivial | rfl, by first | trivial | rfl, by first | trivial | rfl, hcnt', hinv'⟩
  clear hcnt2 hinv2 hcall hH2 hcnt hinv hg H
  rintro s9 H ⟨t0, t1, t2, hcnt, hinv⟩
  have hsk : skip2 l to = if partAt l j then j + 1 else j := by unfold skip2; simp only [hj]
  have w3 : IntKind.i64.wrap (j + 1) = j + 1 := wrap_small (by omega) (by omega)
  have hk2 := skip2_le l to
  generalize hq : skip2 l to = q at *
  refine C_then (fun s' H' => s' 0 = .sl (toks l) ∧ s' 1 = .int .i64 q ∧ s' 2 = .fn g cap ∧ H' = H) ?_ ?_
  · have ha := p_part l j (by omega)
    rw [hsk]
    cases h1 : partAt l j
    · simp only [go_sem, call_pure pure_43, t0, t1, t2, ha, h1, List.append_nil]
      exact ⟨by first | trivial | rfl, by first | trivial | rfl, by first | trivial | rfl, by first | trivial | rfl⟩
    · simp only [go_sem, call_pure pure_43, t0, t1, t2, ha, h1, w3, List.append_nil]
      exact ⟨by first | trivial | rfl, by first | trivial | rfl, by first | trivial | rfl, by first | trivial | rfl⟩
  rintro s10 H'' ⟨t0, t1, t2, rfl⟩
  have w4 : IntKind.i64.wrap (q + 1) = q + 1 := wrap_small (by omega) (by omega)
  have ha := p_is l q 5 [44]
  have hR' : R = bumps (bump nm cur) (if isAt l q 5 [44] then fromAt l m (q + 1) else []) := by
    rw [← hR]
    simp only [fromAt, hi1, hp, if_true, hnm, hto, hq, handed, bumps, List.foldl_cons]
  cases h1 : isAt l q 5 [44]
  · simp only [go_sem, call_pure pure_42, t0, t1, ha, h1, List.append_nil]
    rw [hR', h1]
    exact ⟨by first | trivial | rfl, hcnt, hinv⟩
  · obtain ⟨c1, c2⟩ := is_lt h1
    simp only [go_sem, call_pure pure_42, t0, t1, ha, h1, w4, List.append_nil]
    refine ⟨m, Nat.lt_succ_self m, q + 1, bump nm cur, by omega, by omega, by push_cast at hn; omega, ?_, by simp only [go_sem, t0], by simp only [go_sem], by simp only [go_sem, t2], hcnt, hinv⟩
    rw [hR', h1]
    rfl
end Go.Proofs
/- The sets' layer: sets.Reads. -/


set_option linter.unusedSimpArgs false
set_option linter.unusedVariables false
namespace Go.Proofs
open Go.Vam
theorem word3 (l : List Tok) (i : Int) (a b c : List UInt8) (H : AHeap) : acallf (cxV E) 26 [.sl (toks l), .int .i64 i, .hs H.length 0 3] (H ++ [.arr 9 true 0 (strs [a, b, c])]) = some (.bool (isAt l i 1 a || (isAt l i 1 b || isAt l i 1 c)), H ++ [.arr 9 true 0 (strs [a, b, c])]) := by
  have h1 := p_word l i [a, b, c] (by simp)
  have h2 := frz_last H [a, b, c] 3 rfl
  simp only [wordAt, List.any_cons, List.any_nil, Bool.or_false] at h1
  rw [call_pure pure_26]
  simp only [go_sem, h2, h1]
theorem counts25 (V M : Nat) : Counts 25 [.ptr V 0 0] true V M (fun _ => True) :=
  ⟨fun H l n h _ => by rw [call_imp rfl]; exact t_count h n, fun _ _ _ => trivial, fun _ _ _ _ _ => trivial⟩
/-- The names of a map of counts. -/
theorem keys_kvs : ∀ l : List (List UInt8 × Int), keysOf (kvs l) = some (l.map (·.1))
  | [] => rfl
  | (k, c) :: l => by
    have ih := keys_kvs l
    simp only [kvs] at ih
    simp only [kvs, List.map_cons, keysOf, ih, Option.map_some]
theorem insertS_len (x : List UInt8) : ∀ l, (insertS x l).length = l.length + 1
  | [] => rfl
  | y :: l => by
    unfold insertS
    split
    · rfl
    · simp [insertS_len x l]
theorem sortS_len (l : List (List UInt8)) : (sortS l).length = l.length := by
  induction l with
  | nil => rfl
  | cons a l ih =>
    simp only [sortS, List.foldr_cons, List.length_cons] at ih ⊢
    rw [insertS_len, ih]
/-- The names without one. -/
def delKv (b : List UInt8) : List (List UInt8 × Int) → List (List UInt8 × Int)
  | [] => []
  | (k, c) :: l => if b == k then l else (k, c) :: delKv b l
theorem del_kvs (b : List UInt8) : ∀ l, delKey (.str b) (kvs l) = some (kvs (delKv b l))
  | [] => rfl
  | (k, c) :: l => by
    have ih := del_kvs b l
    simp only [kvs] at ih
    simp only [kvs, List.map_cons, delKey, cellEq, delKv]
    cases h : (b == k) with
    | true => simp
    | false => simp [ih]
theorem ins_least {b : List UInt8} : ∀ {l : List (List UInt8)}, (∀ x ∈ l, Op.bytesLess x b = false) → insertS b l = b :: l
  | [], _ => rfl
  | y :: l, h => by
    unfold insertS
    cases hb : Op.bytesLess b y with
    | true => rfl
    | false =>
      have e : y = b := less_tot (h y List.mem_cons_self) hb
      subst e
      simp only [Bool.false_eq_true, if_false]
      rw [ins_least fun x hx => h x (List.mem_cons_of_mem _ hx)]
theorem mem_insS {x y : List UInt8} : ∀ {l : List (List UInt8)}, y ∈ insertS x l → y = x ∨ y ∈ l
  | [], h => by simpa [insertS] using h
  | a :: l, h => by
    unfold insertS at h
    split at h
    · simpa using h
    · rcases List.mem_cons.1 h with h | h
      · exact .inr (by simp [h])
      · rcases mem_insS h with h | h
        · exact .inl h
        · exact .inr (List.mem_cons_of_mem _ h)
theorem mem_sS {y : List UInt8} : ∀ {l : List (List UInt8)}, y ∈ sortS l → y ∈ l
  | [], h => h
  | a :: l, h => by
    rcases mem_insS (l := sortS l) h with h | h
    · simp [h]
    · exact List.mem_cons_of_mem _ (mem_sS h)
theorem sortS_least {b : List UInt8} : ∀ {l : List (List UInt8 × Int)}, b ∈ l.map (·.1) → (∀ x ∈ l.map (·.1), Op.bytesLess x b = false) → sortS (l.map (·.1)) = b :: sortS ((delKv b l).map (·.1)) ∧ (delKv b l).length + 1 = l.length
  | [], h, _ => by simp at h
  | (k, c) :: l, h, g => by
    have gl : ∀ x ∈ l.map (·.1), Op.bytesLess x b = false := fun x hx => g x (List.mem_cons_of_mem _ hx)
    unfold delKv
    cases hb : (b == k) with
    | true =>
      have e : b = k := by simpa using hb
      subst e
      simp only [if_true, List.length_cons]
      refine ⟨?_, trivial⟩
      show insertS b (sortS (l.map (·.1))) = _
      exact ins_least fun x hx => gl x (mem_sS hx)
    | false =>
      have hne : b ≠ k := by simpa using hb
      have hm : b ∈ l.map (·.1) := by
        rcases List.mem_cons.1 h with e | h
        · exact absurd e hne
        · exact h
      obtain ⟨h1, h2⟩ := sortS_least hm gl
      simp only [Bool.false_eq_true, if_false, List.length_cons, h2]
      refine ⟨?_, trivial⟩
      show insertS k (sortS (l.map (·.1))) = b :: insertS k (sortS ((delKv b l).map (·.1)))
      rw [h1]
      have hk : Op.bytesLess k b = false := g k List.mem_cons_self
      conv => lhs; unfold insertS
      rw [hk]
      rfl
theorem has_least : ∀ {l : List (List UInt8)}, l ≠ [] → ∃ b ∈ l, ∀ x ∈ l, Op.bytesLess x b = false
  | [], h => absurd rfl h
  | [a], _ => ⟨a, List.mem_cons_self, fun x hx => by rw [List.mem_singleton.1 hx]; exact less_irr a⟩
  | a :: b :: l, _ => by
    obtain ⟨m, h1, h2⟩ := has_least (l := b :: l) (by simp)
    cases ha : Op.bytesLess a m with
    | true =>
      refine ⟨a, List.mem_cons_self, fun x hx => ?_⟩
      rcases List.mem_cons.1 hx with rfl | hx
      · exact less_irr x
      · cases hc : Op.bytesLess x a with
        | false => rfl
        | true =>
          have := h2 x hx
          rw [less_tra hc ha] at this
          cases this
    | false =>
      refine ⟨m, List.mem_cons_of_mem _ h1, fun x hx => ?_⟩
      rcases List.mem_cons.1 hx with rfl | hx
      · exact ha
      · exact h2 x hx
theorem sortN_ok {M : Nat} : ∀ (n : Nat) (l : List (List UInt8 × Int)) (v : AV) (H : AHeap) (done : List (List UInt8)), l.length = n → H[M]? = some (.map (kvs l)) → Own 9 H v (strs done) → done.length + n < 100000000 →
    ∃ v' H', sortN M n v H = some (v', H') ∧ Own 9 H' v' (strs (done ++ sortS (l.map (·.1))))
  | 0, l, v, H, done, hl, hM, ho, _ => by
    obtain rfl : l = [] := List.eq_nil_of_length_eq_zero hl
    refine ⟨v, H, ?_, by simpa [sortS] using ho⟩
    unfold sortN
    rw [hM]
    rfl
  | n + 1, l, v, H, done, hl, hM, ho, hn => by
    have hne : l.map (·.1) ≠ [] := by
      intro e
      have := congrArg List.length e
      simp [hl] at this
    obtain ⟨b, hb1, hb2⟩ := has_least hne
    obtain ⟨h1, h2⟩ := sortS_least hb1 hb2
    have hML : M < H.length := (List.getElem?_eq_some_iff.1 hM).1
    have hMa : (H ++ [AO.dead])[M]? = some (.map (kvs l)) := by rw [List.getElem?_append_left hML]; exact hM
    have hk9 : keyT Try.prog 9 (.str b) = true := by rw [keyT_str]; exact strT_9
    have hdel : adelete Try.prog 43 (.mp M) (.str b) (H ++ [AO.dead]) = some ((H ++ [AO.dead]).set M (.map (kvs (delKv b l)))) := by
      simp only [adelete, mapT_43, hMa, hk9, if_true, del_kvs, Option.map_some]
    have hM1 : ((H ++ [AO.dead]).set M (.map (kvs (delKv b l))))[M]? = some (.map (kvs (delKv b l))) := by rw [List.getElem?_set_self (by simp; omega)]
    have ho1 : Own 9 ((H ++ [AO.dead]).set M (.map (kvs (delKv b l)))) v (strs done) ∧ ∀ k, v ≠ .hs M 0 k := by
      rcases ho with ⟨rfl, e⟩ | ⟨id, rfl, h⟩
      · exact ⟨.inl ⟨rfl, e⟩, fun k e => by cases e⟩
      · have hid : id ≠ M := fun e => by subst e; rw [h] at hM; cases hM
        refine ⟨.inr ⟨id, rfl, ?_⟩, fun k e => by cases e; exact hid rfl⟩
        rw [List.getElem?_set_ne (Ne.symm hid), List.getElem?_append_left (List.getElem?_eq_some_iff.1 h).1]
        exact h
    generalize (H ++ [AO.dead]).set M (.map (kvs (delKv b l))) = H1 at hdel hM1 ho1
    obtain ⟨v1, H2, g1, g2, g3⟩ := append_str b ho1.1 (by omega)
    have hbs := bs_str 1 [(0, .str b)] H1 (by omega) rfl
    have hr : sortR M v H b = some (v1, H2) := by
      unfold sortR
      rw [hdel]
      simp only [Option.bind_some]
      rw [hbs]
      simp only [Option.bind_some]
      exact g1
    obtain ⟨v', H', f1, f2⟩ := sortN_ok n (delKv b l) v1 H2 (done ++ [b]) (by omega) (g3 M _ hM1 ho1.2) g2 (by simp; omega)
    refine ⟨v', H', ?_, ?_⟩
    · unfold sortN
      rw [hM]
      simp only [keys_kvs, List.length_map, hl, if_true, leastK_eq hb1 hb2, hr, Option.bind_some]
      exact f1
    · rw [h1]
      simpa using f2
/-- What sets.sorted hands back. -/
theorem t_sorted {H : AHeap} {M : Nat} {l : List (List UInt8 × Int)} (h : H[M]? = some (.map (kvs l))) (hl : l.length < 100000000) : ∃ v H', callV E 28 [.mp M] H = some (v, H') ∧ Own 9 H' v (strs (sortS (l.map (·.1)))) := by
  have hx : E.ext 28 = some sortedG := rfl
  obtain ⟨v, H', h1, h2⟩ := sortN_ok l.length l .nils H [] rfl h (.inl ⟨rfl, rfl⟩) (by simpa using hl)
  refine ⟨v, H', callV_ext hx ?_, by simpa using h2⟩
  simp only [sortedG, h]
  rw [show (kvs l).length = l.length by simp [kvs]]
  exact h1
theorem setKv_len (n : List UInt8) (c : Int) : ∀ l, (setKv n c l).length ≤ l.length + 1
  | [] => by simp [setKv]
  | (k, d) :: l => by
    have := setKv_len n c l
    unfold setKv
    split <;> simp <;> omega
theorem bumps_len : ∀ (names : List (List UInt8)) (l : List (List UInt8 × Int)), (bumps l names).length ≤ l.length + names.length
  | [], l => by simp [bumps]
  | a :: names, l => by
    have h1 := bumps_len names (bump a l)
    have h2 : (bump a l).length ≤ l.length + 1 := setKv_len _ _ _
    show (bumps (bump a l) names).length ≤ _
    simp only [List.length_cons]
    omega
def isFrom (l : List Tok) (i : Int) : Bool := isAt l i 1 [102, 114, 111, 109]
def isDel (l : List Tok) (i : Int) : Bool := isAt l (i - 1) 1 [100, 101, 108, 101, 116, 101]
def readsP (l : List Tok) (i : Int) : Bool :=
  (isAt l i 1 [102, 114, 111, 109] || (isAt l i 1 [106, 111, 105, 110] || isAt l i 1 [117, 115, 105, 110, 103])) && !(isAt l i 1 [102, 114, 111, 109] && isAt l (i - 1) 1 [100, 101, 108, 101, 116, 101]) || decide (i = 0) && isAt l i 1 [116, 97, 98, 108, 101]
theorem is_one {l : List Tok} {i k : Int} {x y : List UInt8} (h : isAt l i k x = true) (hne : x ≠ y) : isAt l i k y = false := by
  unfold isAt at h ⊢
  simp only [Bool.and_eq_true, beq_iff_eq] at h
  obtain ⟨_, h⟩ := h
  rw [h]
  have : (x == y) = false := by simpa using hne
  rw [this, Bool.and_false]
theorem readsP_eq (l : List Tok) (i : Int) : readsP l i = readsAt l i := by
  unfold readsP readsAt
  cases h1 : isAt l i 1 [102, 114, 111, 109]
  · cases isAt l i 1 [106, 111, 105, 110] <;> cases isAt l i 1 [117, 115, 105, 110, 103] <;> simp
  · rw [is_one h1 (y := [106, 111, 105, 110]) (by decide), is_one h1 (y := [117, 115, 105, 110, 103]) (by decide)]
    simp
def readsC (l : List Tok) : Nat → Int → List (List UInt8 × Int) → List (List UInt8 × Int)
  | 0, _, cur => cur
  | n + 1, i, cur => readsC l n (i + 1) (if readsAt l i then bumps cur (namesAt l (i + 1)) else cur)
theorem readsC_len (l : List Tok) : ∀ (n : Nat) (i : Int) (cur : List (List UInt8 × Int)), (readsC l n i cur).length ≤ cur.length + n * (l.length + 1)
  | 0, i, cur => by simp [readsC]
  | n + 1, i, cur => by
    unfold readsC
    refine Nat.le_trans (readsC_len l n (i + 1) _) ?_
    rw [Nat.succ_mul]
    split
    · have h1 := bumps_len (namesAt l (i + 1)) cur
      have h2 : (namesAt l (i + 1)).length ≤ l.length + 1 := from_len _ _ _
      omega
    · omega
def I11 (l : List Tok) (R : List (List UInt8 × Int)) (n : Nat) (s : Slots) (H : AHeap) : Prop :=
  ∃ (i : Nat) (cur : List (List UInt8 × Int)), i + n = l.length ∧ readsC l n i cur = R ∧ s 3 = .sl (toks l) ∧ s 4 = .ptr 1 0 0 ∧ s 5 = .fn 25 [.ptr 1 0 0] ∧ s 12 = .int .i64 (l.length : Int) ∧ s 13 = .int .i64 (i : Int) ∧ Cnt H 1 0 cur
theorem sortS_reads (l : List Tok) (hs : Small l) : PV 11 [.sl (toks l)] = some (.sl (strs (sortS ((readsC l l.length 0 []).map (·.1))))) := by
  refine PV_start k11 rfl (Nat.le_of_ble_eq_true rfl) ?_
  have hlen := hs.len
  have hRl := readsC_len l l.length 0 []
  have hRm : l.length * (l.length + 1) ≤ 3000 * 3001 := Nat.mul_le_mul hlen (by omega)
  generalize hR : readsC l l.length 0 [] = R at hRl ⊢
  have hst : astore Try.prog 43 (.ptr 1 0 0) (.mp 0) [.map [], .arr 43 true 0 [[.nilm]]] = some [.map [], .arr 43 true 0 [[.mp 0]]] := by
    unfold astore
    simp [szOf_43, AV.cells, AV.isCell]
  simp only [go_sem, K11, hst]
  refine C_while (I11 l R) ?_ l.length _ _ ⟨0, [], by omega, hR, by simp only [go_sem], by simp only [go_sem], by simp only [go_sem], by simp only [go_sem], by simp only [go_sem]; rfl, ⟨rfl, rfl⟩⟩
  clear hR hst
  rintro n s H ⟨i, cur, hin, hR, s3, s4, s5, s12, s13, hc⟩
  by_cases hlt : i < l.length
  · obtain ⟨m, rfl⟩ : ∃ m, n = m + 1 := ⟨n - 1, by omega⟩
    have hd : ((i : Int) < (l.length : Int)) := by omega
    have w0 : IntKind.i64.wrap ((i : Int) - 1) = (i : Int) - 1 := wrap_ok (by omega) (by omega)
    have w1 : IntKind.i64.wrap ((i : Int) + 1) = (i : Int) + 1 := wrap_small (by omega) (by omega)
    rw [L11_0]
    refine C_then (fun s' H => s' 3 = .sl (toks l) ∧ s' 4 = .ptr 1 0 0 ∧ s' 5 = .fn 25 [.ptr 1 0 0] ∧ s' 12 = .int .i64 (l.length : Int) ∧ s' 13 = .int .i64 (i : Int) ∧ s' 14 = .bool true ∧ Cnt H 1 0 cur) ?_ ?_
    · simp only [go_sem, s3, s4, s5, s12, s13, hd]
      exact ⟨by first | trivial | rfl, by first | trivial | rfl, by first | trivial | rfl, by first | trivial | rfl, by first | trivial | rfl, by first | trivial | rfl, hc⟩
    clear hc H
    rintro s1 H ⟨t3, t4, t5, t12, t13, t14, hc⟩
    refine C_then (fun s' H' => s' 3 = .sl (toks l) ∧ s' 4 = .ptr 1 0 0 ∧ s' 5 = .fn 25 [.ptr 1 0 0] ∧ s' 12 = .int .i64 (l.length : Int) ∧ s' 13 = .int .i64 (i : Int) ∧ H' = H) ?_ ?_
    · simp only [go_sem, t3, t4, t5, t12, t13, t14]
      exact ⟨by first | trivial | rfl, by first | trivial | rfl, by first | trivial | rfl, by first | trivial | rfl, by first | trivial | rfl, by first | trivial | rfl⟩
    rintro s2 H' ⟨t3, t4, t5, t12, t13, rfl⟩
    refine C_then (fun s' H => s' 3 = .sl (toks l) ∧ s' 4 = .ptr 1 0 0 ∧ s' 5 = .fn 25 [.ptr 1 0 0] ∧ s' 12 = .int .i64 (l.length : Int) ∧ s' 13 = .int .i64 (i : Int) ∧ Cnt H 1 0 (if readsAt l i then bumps cur (namesAt l (i + 1)) else cur)) ?_ ?_
    · rw [C_block]
      refine C_then (fun s' H => s' 3 = .sl (toks l) ∧ s' 4 = .ptr 1 0 0 ∧ s' 5 = .fn 25 [.ptr 1 0 0] ∧ s' 12 = .int .i64 (l.length : Int) ∧ s' 13 = .int .i64 (i : Int) ∧ s' 6 = .int .i64 (i : Int) ∧ H = H') ?_ ?_
      · simp only [go_sem, t3, t4, t5, t12, t13]
        exact ⟨by first | trivial | rfl, by first | trivial | rfl, by first | trivial | rfl, by first | trivial | rfl, by first | trivial | rfl, by first | trivial | rfl, by first | trivial | rfl⟩
      rintro s4' H ⟨t3, t4, t5, t12, t13, t6, rfl⟩
      refine C_then (fun s' H' => s' 3 = .sl (toks l) ∧ s' 4 = .ptr 1 0 0 ∧ s' 5 = .fn 25 [.ptr 1 0 0] ∧ s' 12 = .int .i64 (l.length : Int) ∧ s' 13 = .int .i64 (i : Int) ∧ s' 6 = .int .i64 (i : Int) ∧ s' 7 = .bool (isAt l i 1 [102, 114, 111, 109] && isAt l ((i : Int) - 1) 1 [100, 101, 108, 101, 116, 101]) ∧ Cnt H' 1 0 cur) ?_ ?_
      · cases b1 : isAt l i 1 [102, 114, 111, 109]
        · simp only [go_sem, bs_str, word1, t3, t4, t5, t6, t12, t13, b1, w0, List.append_nil, Bool.false_and]
          exact ⟨by first | trivial | rfl, by first | trivial | rfl, by first | trivial | rfl, by first | trivial | rfl, by first | trivial | rfl, by first | trivial | rfl, by first | trivial | rfl, hc.app _⟩
        · simp only [go_sem, bs_str, word1, t3, t4, t5, t6, t12, t13, b1, w0, List.append_nil, Bool.true_and]
          exact ⟨by first | trivial | rfl, by first | trivial | rfl, by first | trivial | rfl, by first | trivial | rfl, by first | trivial | rfl, by first | trivial | rfl, by first | trivial | rfl, (hc.app _).app _⟩
      clear hc H
      rintro s5' H ⟨t3, t4, t5, t12, t13, t6, t7, hc⟩
      refine C_then (fun s' H' => s' 3 = .sl (toks l) ∧ s' 4 = .ptr 1 0 0 ∧ s' 5 = .fn 25 [.ptr 1 0 0] ∧ s' 12 = .int .i64 (l.length : Int) ∧ s' 13 = .int .i64 (i : Int) ∧ s' 6 = .int .i64 (i : Int) ∧ s' 44 = .bool (readsP l i) ∧ Cnt H' 1 0 cur) ?_ ?_
      · unfold readsP
        cases b1 : (isAt l i 1 [102, 114, 111, 109] || (isAt l i 1 [106, 111, 105, 110] || isAt l i 1 [117, 115, 105, 110, 103])) <;> cases b2 : (isAt l i 1 [102, 114, 111, 109] && isAt l ((i : Int) - 1) 1 [100, 101, 108, 101, 116, 101]) <;> cases b3 : decide ((i : Int) = 0) <;>
          rw [b2] at t7 <;>
          simp only [go_sem, bs_str, word1, word3, t3, t4, t5, t6, t7, t12, t13, b1, b2, b3, List.append_nil, Bool.true_and, Bool.false_and, Bool.and_true, Bool.and_false, Bool.or_false, Bool.true_or, Bool.false_or] <;>
          exact ⟨by first | trivial | rfl, by first | trivial | rfl, by first | trivial | rfl, by first | trivial | rfl, by first | trivial | rfl, by first | trivial | rfl, by first | trivial | rfl, by first | exact (hc.app _).app _ | exact hc.app _⟩
      clear hc t7 H
      rintro s6' H ⟨t3, t4, t5, t12, t13, t6, t44, hc⟩
      rw [readsP_eq] at t44
      cases hb : readsAt l i
      · rw [hb] at t44
        simp only [go_sem, t44]
        exact ⟨t3, t4, t5, t12, t13, by simpa using hc⟩
      · rw [hb] at t44
        obtain ⟨r, H', h1, rfl, h2, _⟩ := t_names (counts25 1 0) hs ((i : Int) + 1) (by omega) (by omega) hc trivial
        simp only [go_sem, t44, t3, t5, t6, w1, call_imp (f := 27) rfl, h1, List.append_nil]
        exact ⟨by first | trivial | exact t3, by first | trivial | exact t4, by first | trivial | exact t5, by first | trivial | exact t12, by first | trivial | exact t13, h2⟩
    · rintro s3' H2 ⟨t3, t4, t5, t12, t13, hc⟩
      simp only [go_sem, t13, wrap_succ (n := i) (by simp only [maxL]; omega)]
      exact ⟨m, Nat.lt_succ_self m, i + 1, _, by omega, by rw [← hR]; rfl, by simp only [go_sem, t3], by simp only [go_sem, t4], by simp only [go_sem, t5], by simp only [go_sem, t12], by simp only [go_sem], hc⟩
  · have hd : ¬ ((i : Int) < (l.length : Int)) := by omega
    obtain rfl : n = 0 := by omega
    have hcl : cur.length < 100000000 := by
      have : cur = R := hR
      rw [this]
      simp at hRl
      omega
    obtain ⟨v, H', h1, h2⟩ := t_sorted hc.map hcl
    have h3 := frz_own h2
    have hR' : cur = R := hR
    rw [hR'] at h3
    simp only [go_sem, L11_0, s4, s12, s13, hd, hc.var, call_imp (f := 28) rfl, h1, List.append_nil]
    exact h3
end Go.Proofs
/- The sets' layer: sets.Writes. -/

set_option linter.unusedSimpArgs false
set_option linter.unusedVariables false
namespace Go.Proofs
open Go.Vam
def MoreIs (W : Nat) (more : Bool) (H : AHeap) : Prop := H[W]? = some (.arr 4 true 0 [[.bool more]])
theorem counts32 (V M W : Nat) (more : Bool) : Counts 32 [.ptr V 0 0, .ptr W 0 0] more V M (MoreIs W more) :=
  ⟨fun H l n h hw => by rw [call_imp rfl]; exact t_count2 h hw n,
   fun H x h => by unfold MoreIs at h ⊢; rw [List.getElem?_append_left (List.getElem?_eq_some_iff.1 h).1]; exact h,
   fun H l n h hw => by
    unfold MoreIs at hw ⊢
    have hne : M ≠ W := fun e => by
      have h2 := h.map
      rw [e, hw] at h2
      cases h2
    rw [List.getElem?_set_ne hne]
    exact hw⟩
def wCnt (l : List Tok) (i : Int) (cur : List (List UInt8 × Int)) : List (List UInt8 × Int) :=
  if moreAt l i || oneAt l i then bumps cur (handed (moreAt l i) (namesAt l (i + 1))) else cur
def writesC (l : List Tok) : Nat → Int → List (List UInt8 × Int) → List (List UInt8 × Int)
  | 0, _, cur => cur
  | n + 1, i, cur => writesC l n (i + 1) (wCnt l i cur)
theorem wCnt_len (l : List Tok) (i : Int) (cur : List (List UInt8 × Int)) : (wCnt l i cur).length ≤ cur.length + (l.length + 1) := by
  have h2 : (namesAt l (i + 1)).length ≤ l.length + 1 := from_len _ _ _
  unfold wCnt
  split
  · refine Nat.le_trans (bumps_len _ _) ?_
    unfold handed
    split
    · omega
    · rw [List.length_take]; omega
  · omega
theorem writesC_len (l : List Tok) : ∀ (n : Nat) (i : Int) (cur : List (List UInt8 × Int)), (writesC l n i cur).length ≤ cur.length + n * (l.length + 1)
  | 0, i, cur => by simp [writesC]
  | n + 1, i, cur => by
    unfold writesC
    refine Nat.le_trans (writesC_len l n (i + 1) _) ?_
    rw [Nat.succ_mul]
    have := wCnt_len l i cur
    omega
def I13 (l : List Tok) (R : List (List UInt8 × Int)) (n : Nat) (s : Slots) (H : AHeap) : Prop :=
  ∃ (i : Nat) (cur : List (List UInt8 × Int)), i + n = l.length ∧ writesC l n i cur = R ∧ s 3 = .sl (toks l) ∧ s 4 = .ptr 1 0 0 ∧ s 11 = .int .i64 (l.length : Int) ∧ s 12 = .int .i64 (i : Int) ∧ Cnt H 1 0 cur
theorem store_last {t : TypeId} {c x : AV} (hz : szOf Try.prog t = some 1) (hc : x.cells = [x]) (hx : x.isCell = true) (H : AHeap) : astore Try.prog t (.ptr H.length 0 0) x (H ++ [.arr t true 0 [[c]]]) = some (H ++ [.arr t true 0 [[x]]]) := by
  unfold astore
  simp only [List.getElem?_append_right (Nat.le_refl H.length), Nat.sub_self, List.getElem?_cons_zero, hc, hz]
  rw [if_pos ⟨Nat.le_refl _, rfl, by simp [hx], by simp⟩]
  congr 1
  rw [List.set_append_right _ _ (Nat.le_refl _)]
  simp
theorem p_writes (l : List Tok) (hs : Small l) : PV 13 [.sl (toks l)] = some (.sl (strs (sortS ((writesC l l.length 0 []).map (·.1))))) := by
  refine PV_start k13 rfl (Nat.le_of_ble_eq_true rfl) ?_
  have hlen := hs.len
  have hRl := writesC_len l l.length 0 []
  have hRm : l.length * (l.length + 1) ≤ 3000 * 3001 := Nat.mul_le_mul hs.len (Nat.add_le_add_right hs.len 1)
  generalize hR : writesC l l.length 0 [] = R at hRl ⊢
  have hst : astore Try.prog 43 (.ptr 1 0 0) (.mp 0) [.map [], .arr 43 true 0 [[.nilm]]] = some [.map [], .arr 43 true 0 [[.mp 0]]] := by
    unfold astore
    simp [szOf_43, AV.cells, AV.isCell]
  simp only [go_sem, K13, hst]
  refine C_while (I13 l R) ?_ l.length _ _ ⟨0, [], by omega, hR, by simp only [go_sem], by simp only [go_sem], by simp only [go_sem], by simp only [go_sem]; rfl, ⟨rfl, rfl⟩⟩
  clear hR hst
  rintro n s H ⟨i, cur, hin, hR, s3, s4, s11, s12, hc⟩
  by_cases hlt : i < l.length
  · obtain ⟨m, rfl⟩ : ∃ m, n = m + 1 := ⟨n - 1, by omega⟩
    have hd : ((i : Int) < (l.length : Int)) := by omega
    have w0 : IntKind.i64.wrap ((i : Int) - 1) = (i : Int) - 1 := wrap_ok (by omega) (by omega)
    have w1 : IntKind.i64.wrap ((i : Int) + 1) = (i : Int) + 1 := wrap_small (by omega) (by omega)
    rw [L13_0]
    refine C_then (fun s' H => s' 3 = .sl (toks l) ∧ s' 4 = .ptr 1 0 0 ∧ s' 11 = .int .i64 (l.length : Int) ∧ s' 12 = .int .i64 (i : Int) ∧ s' 13 = .bool true ∧ Cnt H 1 0 cur) ?_ ?_
    · simp only [go_sem, s3, s4, s11, s12, hd]
      exact ⟨by first | trivial | rfl, by first | trivial | rfl, by first | trivial | rfl, by first | trivial | rfl, by first | trivial | rfl, hc⟩
    clear hc H
    rintro s1 H ⟨t3, t4, t11, t12, t13, hc⟩
    refine C_then (fun s' H' => s' 3 = .sl (toks l) ∧ s' 4 = .ptr 1 0 0 ∧ s' 11 = .int .i64 (l.length : Int) ∧ s' 12 = .int .i64 (i : Int) ∧ H' = H) ?_ ?_
    · simp only [go_sem, t3, t4, t11, t12, t13]
      exact ⟨by first | trivial | rfl, by first | trivial | rfl, by first | trivial | rfl, by first | trivial | rfl, by first | trivial | rfl⟩
    rintro s2 H' ⟨t3, t4, t11, t12, rfl⟩
    refine C_then (fun s' H => s' 3 = .sl (toks l) ∧ s' 4 = .ptr 1 0 0 ∧ s' 11 = .int .i64 (l.length : Int) ∧ s' 12 = .int .i64 (i : Int) ∧ Cnt H 1 0 (wCnt l i cur)) ?_ ?_
    · rw [C_block]
      refine C_then (fun s' H => s' 3 = .sl (toks l) ∧ s' 4 = .ptr 1 0 0 ∧ s' 11 = .int .i64 (l.length : Int) ∧ s' 12 = .int .i64 (i : Int) ∧ s' 5 = .int .i64 (i : Int) ∧ H = H') ?_ ?_
      · simp only [go_sem, t3, t4, t11, t12]
        exact ⟨by first | trivial | rfl, by first | trivial | rfl, by first | trivial | rfl, by first | trivial | rfl, by first | trivial | rfl, by first | trivial | rfl⟩
      rintro s4' H ⟨t3, t4, t11, t12, t5, rfl⟩
      refine C_then (fun s' H' => ∃ W, s' 3 = .sl (toks l) ∧ s' 4 = .ptr 1 0 0 ∧ s' 11 = .int .i64 (l.length : Int) ∧ s' 12 = .int .i64 (i : Int) ∧ s' 5 = .int .i64 (i : Int) ∧ s' 6 = .ptr W 0 0 ∧ MoreIs W (moreAt l i) H' ∧ Cnt H' 1 0 cur) ?_ ?_
      · have hst := store_last (t := 4) (c := .bool false) (x := .bool (isAt l i 1 [116, 114, 117, 110, 99, 97, 116, 101])) szOf_4 rfl rfl (H ++ [.arr 9 true 0 (strs [[116, 114, 117, 110, 99, 97, 116, 101]])])
        simp only [go_sem, bs_str, word1, t3, t4, t5, t11, t12, List.append_nil, hst]
        refine ⟨(H ++ [AO.arr 9 true 0 (strs [[116, 114, 117, 110, 99, 97, 116, 101]])]).length, by first | trivial | rfl, by first | trivial | rfl, by first | trivial | rfl, by first | trivial | rfl, by first | trivial | rfl, by first | trivial | rfl, ?_, (hc.app _).app _⟩
        unfold MoreIs moreAt
        rw [List.getElem?_append_right (Nat.le_refl _)]
        simp
      clear hc H
      rintro s5' H ⟨W, t3, t4, t11, t12, t5, t6, hm, hc⟩
      have app : ∀ (H : AHeap) (x : AO), MoreIs W (moreAt l i) H ∧ Cnt H 1 0 cur → MoreIs W (moreAt l i) (H ++ [x]) ∧ Cnt (H ++ [x]) 1 0 cur := fun H x h => ⟨(counts32 1 0 W (moreAt l i)).app H x h.1, h.2.app x⟩
      have hmc : MoreIs W (moreAt l i) H ∧ Cnt H 1 0 cur := ⟨hm, hc⟩
      refine C_then (fun s' H' => s' 3 = .sl (toks l) ∧ s' 4 = .ptr 1 0 0 ∧ s' 11 = .int .i64 (l.length : Int) ∧ s' 12 = .int .i64 (i : Int) ∧ s' 5 = .int .i64 (i : Int) ∧ s' 6 = .ptr W 0 0 ∧ s' 7 = .bool (oneAt l i) ∧ MoreIs W (moreAt l i) H' ∧ Cnt H' 1 0 cur) ?_ ?_
      · unfold oneAt
        cases b1 : isAt l i 1 [105, 110, 116, 111] <;> cases b2 : isAt l i 1 [117, 112, 100, 97, 116, 101] <;> cases b3 : isAt l ((i : Int) - 1) 1 [102, 111, 114] <;> cases b4 : isAt l i 1 [102, 114, 111, 109] <;>
          simp only [go_sem, bs_str, word1, t3, t4, t5, t6, t11, t12, b1, b2, b3, b4, w0, List.append_nil, Bool.false_or, Bool.or_false, Bool.true_or, Bool.or_true, Bool.false_and, Bool.true_and, Bool.and_true, Bool.and_false] <;>
          exact ⟨by first | trivial | rfl, by first | trivial | rfl, by first | trivial | rfl, by first | trivial | rfl, by first | trivial | rfl, by first | trivial | rfl, by first | trivial | rfl, by first | exact app _ _ (app _ _ (app _ _ (app _ _ (app _ _ hmc)))) | exact app _ _ (app _ _ (app _ _ (app _ _ hmc))) | exact app _ _ (app _ _ (app _ _ hmc)) | exact app _ _ (app _ _ hmc) | exact app _ _ hmc⟩
      clear app hmc hm hc H
      rintro s6' H ⟨t3, t4, t11, t12, t5, t6, t7, hm, hc⟩
      have hm' : H[W]? = some (.arr 4 true 0 [[.bool (moreAt l i)]]) := hm
      obtain ⟨r, H', h1, rfl, h2, _⟩ := t_names (counts32 1 0 W (moreAt l i)) hs ((i : Int) + 1) (by omega) (by omega) hc hm
      unfold wCnt
      cases hb : moreAt l i
      · cases hb1 : oneAt l i
        · rw [hb] at hm'
          rw [hb1] at t7
          simp only [go_sem, t6, t7, hm']
          exact ⟨t3, t4, t11, t12, by simpa using hc⟩
        · rw [hb] at hm' h2
          rw [hb1] at t7
          simp only [go_sem, t3, t4, t5, t6, t7, hm', w1, call_imp (f := 27) rfl, h1, List.append_nil]
          exact ⟨by first | trivial | exact t3, by first | trivial | exact t4, by first | trivial | exact t11, by first | trivial | exact t12, by simpa using h2⟩
      · rw [hb] at hm' h2
        simp only [go_sem, t3, t4, t5, t6, t7, hm', w1, call_imp (f := 27) rfl, h1, List.append_nil]
        exact ⟨by first | trivial | exact t3, by first | trivial | exact t4, by first | trivial | exact t11, by first | trivial | exact t12, by simpa using h2⟩
    · rintro s3' H2 ⟨t3, t4, t11, t12, hc⟩
      simp only [go_sem, t12, wrap_succ (n := i) (by simp only [maxL]; omega)]
      exact ⟨m, Nat.lt_succ_self m, i + 1, _, by omega, by rw [← hR]; rfl, by simp only [go_sem, t3], by simp only [go_sem, t4], by simp only [go_sem, t11], by simp only [go_sem], hc⟩
  · have hd : ¬ ((i : Int) < (l.length : Int)) := by omega
    obtain rfl : n = 0 := by omega
    have hcl : cur.length < 100000000 := by
      have : cur = R := hR
      rw [this]
      simp at hRl
      omega
    obtain ⟨v, H', h1, h2⟩ := t_sorted hc.map hcl
    have h3 := frz_own h2
    have hR' : cur = R := hR
    rw [hR'] at h3
    simp only [go_sem, L13_0, s4, s11, s12, hd, hc.var, call_imp (f := 28) rfl, h1, List.append_nil]
    exact h3
end Go.Proofs
/- The sets' layer: statements, compared. -/

set_option linter.unusedSimpArgs false
set_option linter.unusedVariables false
namespace Go.Proofs
open Go.Vam
structure Stm where
  cls : Int
  reads : List (List UInt8)
  writes : List (List UInt8)
  norm : List UInt8
deriving DecidableEq
def stm (s : Stm) : AV := .agg [.int .i64 s.cls, .sl (strs s.reads), .sl (strs s.writes), .str s.norm]
theorem box30 (a b c d : AV) (H : AHeap) (h : [a, b, c, d].all AV.isCell = true) : abox Try.prog 30 (.agg [a, b, c, d]) H = some (.ptr H.length 0 0, H ++ [.arr 30 true 0 [[a, b, c, d]]]) := by
  unfold abox
  rw [if_pos ⟨szOf_30, h, by simp [AV.cells]⟩]
  rfl
theorem p_same (a b : Stm) (h1 : a.reads.length ≤ maxL) (h2 : a.writes.length ≤ maxL) : PV 15 [stm a, stm b] = some (.bool (decide (a = b))) := by
  refine PV_start k15 rfl (Nat.le_of_ble_eq_true rfl) ?_
  obtain ⟨a1, a2, a3, a4⟩ := a
  obtain ⟨b1, b2, b3, b4⟩ := b
  have t1 := p_texts a2 b2 h1
  have t2 := p_texts a3 b3 h2
  have e1 : abox Try.prog 30 (stm ⟨a1, a2, a3, a4⟩) [] = some (.ptr 0 0 0, [.arr 30 true 0 [[.int .i64 a1, .sl (strs a2), .sl (strs a3), .str a4]]]) := box30 _ _ _ _ [] rfl
  have e2 : abox Try.prog 30 (stm ⟨b1, b2, b3, b4⟩) [.arr 30 true 0 [[.int .i64 a1, .sl (strs a2), .sl (strs a3), .str a4]]] = some (.ptr 1 0 0, [.arr 30 true 0 [[.int .i64 a1, .sl (strs a2), .sl (strs a3), .str a4]], .arr 30 true 0 [[.int .i64 b1, .sl (strs b2), .sl (strs b3), .str b4]]]) := box30 _ _ _ _ _ rfl
  have hd : decide ((⟨a1, a2, a3, a4⟩ : Stm) = ⟨b1, b2, b3, b4⟩) = (decide (a1 = b1) && (decide (a2 = b2) && (decide (a3 = b3) && (a4 == b4)))) := by
    rw [Bool.eq_iff_iff]
    simp
  rw [hd]
  cases d1 : decide (a1 = b1)
  · simp only [go_sem, K15, e1, e2, d1, List.append_nil, Bool.false_and]
  · cases d2 : decide (a2 = b2)
    · simp only [go_sem, K15, e1, e2, d1, call_pure pure_10, t1, d2, List.append_nil, Bool.false_and, Bool.true_and]
    · cases d3 : decide (a3 = b3)
      · simp only [go_sem, K15, e1, e2, d1, call_pure pure_10, t1, t2, d2, d3, List.append_nil, Bool.false_and, Bool.true_and]
      · simp only [go_sem, K15, e1, e2, d1, call_pure pure_10, t1, t2, d2, d3, List.append_nil, Bool.true_and]
end Go.Proofs
/- The sets' layer: class.words, class.in. -/

set_option linter.unusedSimpArgs false
set_option linter.unusedVariables false
namespace Go.Proofs
open Go.Vam
/-! ### class.in -/
def I49 (x : List UInt8) (ws : List (List UInt8)) (n : Nat) (s : Slots) (H : AHeap) : Prop :=
  ∃ j : Nat, j + n = ws.length ∧ x ∉ ws.take j ∧ s 0 = .str x ∧ s 7 = .sl (strs ws) ∧ s 8 = .int .i64 (ws.length : Int) ∧ s 9 = .int .i64 (j : Int) ∧ H = []
theorem p_cin (x : List UInt8) (ws : List (List UInt8)) (hl : ws.length ≤ maxL) : PV 49 [.str x, .sl (strs ws)] = some (.bool (ws.contains x)) := by
  refine PV_start k49 rfl (Nat.le_of_ble_eq_true rfl) ?_
  simp only [go_sem, K49]
  refine C_while (I49 x ws) ?_ ws.length _ _ ⟨0, by omega, by simp, by simp only [go_sem], by simp only [go_sem], by simp only [go_sem], by simp only [go_sem]; rfl, rfl⟩
  rintro n s H ⟨j, hj, hnot, h0, h7, h8, h9, rfl⟩
  by_cases hlt : j < ws.length
  · have hd : ((j : Int) < (ws.length : Int)) := by omega
    have hg := strs_at (H := []) hlt
    cases hx : (ws[j] == x)
    · obtain ⟨m, rfl⟩ : ∃ m, n = m + 1 := ⟨n - 1, by omega⟩
      have hw := wrap_succ (n := j) (Nat.lt_of_lt_of_le hlt hl)
      simp only [go_sem, L49_0, h0, h7, h8, h9, hd, hg, hx, hw]
      exact ⟨m, Nat.lt_succ_self m, j + 1, by omega, take_not hlt hnot (by simpa using hx), by simp only [go_sem, h0], by simp only [go_sem, h7], by simp only [go_sem, h8], by simp only [go_sem], rfl⟩
    · have : ws.contains x = true := by
        have e : ws[j] = x := by simpa using hx
        simpa using e ▸ List.getElem_mem hlt
      rw [this]
      simp only [go_sem, L49_0, h0, h7, h8, h9, hd, hg, hx]
  · have hd : ¬ ((j : Int) < (ws.length : Int)) := by omega
    have hall : ws.contains x = false := by
      rw [List.take_of_length_le (by omega)] at hnot
      simpa using hnot
    rw [hall]
    simp only [go_sem, L49_0, h8, h9, hd]
/-! ### class.words -/
def wordOf (t : Tok) : List UInt8 := if t.kind = 1 then t.text else []
theorem make_strs (n : Nat) (h : n ≤ 100000000) (H : AHeap) : amakeSlice Try.prog 26 (.int .i64 (n : Int)) (.int .i64 (n : Int)) H = some (.hs H.length 0 n, H ++ [.arr 9 true 0 (strs (List.replicate n []))]) := by
  unfold amakeSlice
  rw [sliceT_26]
  simp only
  rw [zeroT_9, bytesT_9]
  simp only
  rw [if_pos ⟨trivial, by omega, by omega, by omega⟩]
  simp [strs]
theorem store_agg {t : TypeId} {z c : List AV} (hz : szOf Try.prog t = some c.length) (hc : c.all AV.isCell = true) (hl : c.length = z.length) (H : AHeap) : astore Try.prog t (.ptr H.length 0 0) (.agg c) (H ++ [.arr t true 0 [z]]) = some (H ++ [.arr t true 0 [c]]) := by
  have e : (H ++ [AO.arr t true 0 [z]])[H.length]? = some (.arr t true 0 [z]) := by simp
  unfold astore
  simp only [e]
  have e2 : ([z] : List (List AV))[0]? = some z := rfl
  simp only [e2]
  have hcond : 0 ≤ 0 ∧ szOf Try.prog t = some (AV.agg c).cells.length ∧ (AV.agg c).cells.all AV.isCell = true ∧ 0 + (AV.agg c).cells.length ≤ z.length := ⟨Nat.le_refl _, hz, hc, by show 0 + c.length ≤ _; omega⟩
  rw [if_pos hcond]
  simp [AV.cells, hl]
theorem store_str (H : AHeap) (id : Nat) (w : List (List UInt8)) (j : Nat) (x : List UInt8) (hH : H[id]? = some (.arr 9 true 0 (strs w))) (hj : j < w.length) : astore Try.prog 9 (.ptr id j 0) (.str x) H = some (H.set id (.arr 9 true 0 (strs (w.set j x)))) := by
  unfold astore
  have hg := strs_get (List.getElem?_eq_getElem hj)
  simp only [hH, hg]
  rw [if_pos ⟨Nat.zero_le _, szOf_9, rfl, Nat.le_refl _⟩]
  simp [strs, AV.cells]
def I47 (l : List Tok) (n : Nat) (s : Slots) (H : AHeap) : Prop :=
  ∃ i : Nat, i + n = l.length ∧ s 3 = .hs 0 0 l.length ∧ s 9 = .sl (toks l) ∧ s 10 = .int .i64 (l.length : Int) ∧ s 11 = .int .i64 (i : Int) ∧ H[0]? = some (.arr 9 true 0 (strs ((l.take i).map wordOf ++ List.replicate n [])))
theorem p_words (l : List Tok) (hs : Small l) : PV 47 [.sl (toks l)] = some (.sl (strs (l.map wordOf))) := by
  refine PV_start k47 rfl (Nat.le_of_ble_eq_true rfl) ?_
  have hlen := hs.len
  have hmk := make_strs l.length (by omega) []
  simp only [go_sem, K47, hmk, List.length_nil]
  refine C_while (I47 l) ?_ l.length _ _ ⟨0, by omega, by simp only [go_sem], by simp only [go_sem], by simp only [go_sem], by simp only [go_sem]; rfl, by simp⟩
  rintro n s H ⟨i, hin, h3, h9, h10, h11, hH⟩
  by_cases hlt : i < l.length
  · obtain ⟨m, rfl⟩ : ∃ m, n = m + 1 := ⟨n - 1, by omega⟩
    have hd : ((i : Int) < (l.length : Int)) := by omega
    have hg := indexAddr_22 l .i64 (i : Int) H (by omega) hd
    rw [tokAt_nat hlt] at hg
    have hw := wrap_succ (n := i) (by simp only [maxL]; omega)
    have hgt : (toks l)[i]? = some (tok l[i]) := toks_get (List.getElem?_eq_getElem hlt)
    have hlt0 := (List.getElem?_eq_some_iff.1 hH).1
    have hst : astore Try.prog 40 (.ptr H.length 0 0) (.agg (tok l[i])) (H ++ [.arr 40 true 0 [[.int .i64 0, .str [], .int .i64 0]]]) = some (H ++ [.arr 40 true 0 [tok l[i]]]) := by
      exact store_agg (c := tok l[i]) (z := [.int .i64 0, .str [], .int .i64 0]) szOf_40 rfl rfl H
    have hnewH : (H ++ [AO.arr 40 true 0 [tok l[i]]])[0]? = some (.arr 9 true 0 (strs ((l.take i).map wordOf ++ List.replicate (m + 1) []))) := by
      rw [List.getElem?_append_left hlt0]; exact hH
    have hobj : (H ++ [AO.arr 40 true 0 [tok l[i]]])[H.length]? = some (.arr 40 true 0 [tok l[i]]) := by simp
    have hia : aindexAddr Try.prog 26 (.hs 0 0 l.length) (.int .i64 (i : Int)) (H ++ [AO.arr 40 true 0 [tok l[i]]]) = some (.ptr 0 (0 + i) 0) := indexAddr_hs _ _ _ (e := 9) sliceT_26 hnewH hlt
    have hlw : ((l.take i).map wordOf ++ List.replicate (m + 1) ([] : List UInt8)).length = l.length := by simp; omega
    have hss := store_str _ 0 _ i l[i].text hnewH (by omega)
    have hstep : (l.take (i + 1)).map wordOf ++ List.replicate m ([] : List UInt8) = ((l.take i).map wordOf ++ List.replicate (m + 1) []).set i (wordOf l[i]) := by
      have hli : ((l.take i).map wordOf).length = i := by simp; omega
      rw [List.set_append_right _ _ (by omega), hli, Nat.sub_self, List.replicate_succ, List.set_cons_zero]
      have ht : l.take (i + 1) = l.take i ++ [l[i]] := by rw [List.take_add_one, List.getElem?_eq_getElem hlt]; rfl
      rw [ht, List.map_append, List.append_assoc]
      rfl
    have hld : ldCells Try.prog 40 (tok l[i]) = some (.agg (tok l[i])) := by simp only [go_sem, tok, Nat.le_refl]
    cases hk : decide (l[i].kind = 1)
    rotate_left
    · have hwd : wordOf l[i] = l[i].text := by simp [wordOf, of_decide_eq_true hk]
      simp only [tok] at hg hst hobj hia hss hld
      simp only [go_sem, L47_0, h3, h9, h10, h11, hd, hg, hst, hobj, hia, hss, hw, hk, Nat.zero_add, Nat.le_refl]
      refine ⟨m, Nat.lt_succ_self m, i + 1, by omega, by simp only [go_sem, h3], by simp only [go_sem, h9], by simp only [go_sem, h10], by simp only [go_sem], ?_⟩
      rw [hstep, hwd, List.getElem?_set_self (by simp)]
    · have hwd : wordOf l[i] = [] := by simp [wordOf, of_decide_eq_false hk]
      simp only [tok] at hg hst hobj hia hss hld hnewH
      simp only [go_sem, L47_0, h3, h9, h10, h11, hd, hg, hst, hobj, hw, hk, Nat.zero_add, Nat.le_refl]
      refine ⟨m, Nat.lt_succ_self m, i + 1, by omega, by simp only [go_sem, h3], by simp only [go_sem, h9], by simp only [go_sem, h10], by simp only [go_sem], ?_⟩
      rw [hstep, hwd, hnewH]
      congr 3
      have hli : ((l.take i).map wordOf).length = i := by simp; omega
      rw [List.set_append_right _ _ (by omega), hli, Nat.sub_self, List.replicate_succ]
      simp
  · have hd : ¬ ((i : Int) < (l.length : Int)) := by omega
    obtain rfl : n = 0 := by omega
    have hfr : frz depth H (.hs 0 0 l.length) = some (.sl (strs (l.map wordOf))) := by
      have hl : l.length = (strs (l.map wordOf)).length := by rw [strs_len, List.length_map]
      rw [List.take_of_length_le (by omega)] at hH
      simp only [List.replicate_zero, List.append_nil] at hH
      rw [hl]
      exact frz_own (.inr ⟨0, rfl, hH⟩)
    simp only [go_sem, L47_0, h3, h10, h11, hd]
    exact hfr
end Go.Proofs
/- The sets' layer: class.writes, class.Locks. -/

set_option linter.unusedSimpArgs false
set_option linter.unusedVariables false
namespace Go.Proofs
open Go.Vam
theorem any_range {p : Nat → Bool} {i : Nat} (h : (List.range i).any p = false) (hp : p i = false) : (List.range (i + 1)).any p = false := by
  rw [List.range_succ, List.any_append, h]
  simp [hp]
theorem any_hit {p : Nat → Bool} {i n : Nat} (h : i < n) (hp : p i = true) : (List.range n).any p = true := List.any_eq_true.2 ⟨i, List.mem_range.2 h, hp⟩
/-- The text at a place of a list. -/
def strAt (w : List (List UInt8)) (i : Nat) : List UInt8 := (w[i]?).getD []
theorem strAt_lt {w : List (List UInt8)} {i : Nat} (h : i < w.length) : strAt w i = w[i] := by simp [strAt, h]
theorem strs_at' {H : AHeap} {w : List (List UInt8)} {i : Nat} (h : i < w.length) : aindexAddr Try.prog 26 (.sl (strs w)) (.int .i64 (i : Int)) H = some (.ip [.str (strAt w i)]) := by
  rw [strAt_lt h]
  exact strs_at h
def updW : List UInt8 := [117, 112, 100, 97, 116, 101]
def forW : List UInt8 := [102, 111, 114]
def wrAt (w : List (List UInt8)) (i : Nat) : Bool := (strAt w i == [117, 112, 100, 97, 116, 101]) && !(decide (0 < i) && (strAt w (i - 1) == [102, 111, 114])) || (W71_0.map (·.2)).contains (strAt w i)
def I71 (w : List (List UInt8)) (n : Nat) (s : Slots) (H : AHeap) : Prop :=
  ∃ i : Nat, i + n = w.length ∧ (List.range i).any (wrAt w) = false ∧ s 3 = .sl (strs w) ∧ s 8 = .sl (strs w) ∧ s 9 = .int .i64 (w.length : Int) ∧ s 10 = .int .i64 (i : Int) ∧ H = []
theorem p_cwrites (l : List Tok) (hs : Small l) : PV 71 [.sl (toks l)] = some (.bool ((List.range l.length).any (wrAt (l.map wordOf)))) := by
  refine PV_start k71 rfl (Nat.le_of_ble_eq_true rfl) ?_
  have hlen := hs.len
  have hw0 := p_words l hs
  have hwl : (l.map wordOf).length = l.length := List.length_map _
  simp only [go_sem, K71, call_pure pure_47, hw0, List.append_nil]
  rw [← hwl]
  generalize l.map wordOf = w at *
  refine C_while (I71 w) ?_ w.length _ _ ⟨0, by omega, rfl, by simp only [go_sem, bx], by simp only [go_sem, bx], by simp only [go_sem, bx], by simp only [go_sem, bx]; rfl, rfl⟩
  rintro n s H ⟨i, hin, hno, h3, h8, h9, h10, rfl⟩
  by_cases hlt : i < w.length
  · obtain ⟨m, rfl⟩ : ∃ m, n = m + 1 := ⟨n - 1, by omega⟩
    have hd : ((i : Int) < (w.length : Int)) := by omega
    have hg := strs_at' (H := []) hlt
    have hw := wrap_succ (n := i) (by simp only [maxL]; omega)
    have hnext : wrAt w i = false → ∃ i' : Nat, i' + m = w.length ∧ (List.range i').any (wrAt w) = false ∧ i' = i + 1 := fun h => ⟨i + 1, by omega, any_range hno h, rfl⟩
    have hdone : wrAt w i = true → (List.range w.length).any (wrAt w) = true := fun h => any_hit hlt h
    cases b1 : (strAt w i == [117, 112, 100, 97, 116, 101])
    · cases b2 : (W71_0.map (·.2)).contains (strAt w i)
      · have hf : wrAt w i = false := by unfold wrAt; rw [b1, b2]; rfl
        simp only [go_sem, bx, L71_0, h3, h8, h9, h10, hd, hg, b1, b2, hw]
        exact ⟨m, Nat.lt_succ_self m, i + 1, by omega, any_range hno hf, by simp only [go_sem, bx, h3], by simp only [go_sem, bx, h8], by simp only [go_sem, bx, h9], by simp only [go_sem, bx], rfl⟩
      · have ht : wrAt w i = true := by unfold wrAt; rw [b1, b2]; rfl
        rw [hdone ht]
        simp only [go_sem, bx, L71_0, h3, h8, h9, h10, hd, hg, b1, b2]
    · by_cases hi0 : 0 < i
      · obtain ⟨k, rfl⟩ : ∃ k, i = k + 1 := ⟨i - 1, by omega⟩
        have hd2 : ((0 : Int) < ((k + 1 : Nat) : Int)) := by omega
        have w0 : IntKind.i64.wrap (((k + 1 : Nat) : Int) - 1) = (k : Int) := by rw [wrap_ok] <;> omega
        have hg2 := strs_at' (H := []) (w := w) (i := k) (by omega)
        cases b3 : (strAt w k == [102, 111, 114])
        · have ht : wrAt w (k + 1) = true := by unfold wrAt; rw [b1]; simp [b3]
          rw [hdone ht]
          simp only [go_sem, bx, L71_0, h3, h8, h9, h10, hd, hg, b1, hd2, w0, hg2, b3]
        · cases b2 : (W71_0.map (·.2)).contains (strAt w (k + 1))
          · have hf : wrAt w (k + 1) = false := by unfold wrAt; rw [b1, b2]; simp [b3]
            simp only [go_sem, bx, L71_0, h3, h8, h9, h10, hd, hg, b1, hd2, w0, hg2, b3, hw]
            exact ⟨m, Nat.lt_succ_self m, k + 1 + 1, by omega, any_range hno hf, by simp only [go_sem, bx, h3], by simp only [go_sem, bx, h8], by simp only [go_sem, bx, h9], by simp only [go_sem, bx], rfl⟩
          · exfalso
            have e : strAt w (k + 1) = [117, 112, 100, 97, 116, 101] := by simpa using b1
            rw [e] at b2
            revert b2
            decide
      · have hi0' : i = 0 := by omega
        have hd2 : ¬ ((0 : Int) < (i : Int)) := by omega
        have ht : wrAt w i = true := by unfold wrAt; rw [b1]; simp [hi0]
        rw [hdone ht]
        simp only [go_sem, bx, L71_0, h3, h8, h9, h10, hd, hg, b1, hd2]
  · have hd : ¬ ((i : Int) < (w.length : Int)) := by omega
    obtain rfl : n = 0 := by omega
    have hie : i = w.length := by omega
    rw [hie] at hno
    rw [hno]
    simp only [go_sem, bx, L71_0, h9, h10, hd]
end Go.Proofs
/- The sets' layer: loops that look for something; class.Locks, class.calls, class.changing. -/

set_option linter.unusedSimpArgs false
set_option linter.unusedVariables false
namespace Go.Proofs
open Go.Vam
/-! ### loops that count up, and may end early -/
def nrmQ (P : Slots → AHeap → Prop) : QT
  | .nrm, s, H => P s H
  | _, _, _ => False
def exQ (Q : QT) : QT
  | .nrm, _, _ => False
  | x, s, H => Q x s H
section
variable (P : Slots → AHeap → Prop) (Q : QT) (s : Slots) (H : AHeap)
@[go_sem] theorem nrmQ_nrm : nrmQ P .nrm s H = P s H := rfl
@[go_sem] theorem exQ_ext (i : Nat) : exQ Q (.ext i) s H = Q (.ext i) s H := rfl
@[go_sem] theorem exQ_ret : exQ Q .ret s H = Q .ret s H := rfl
end
/-- A LOOP THAT LOOKS FOR THE FIRST i of which p is so. -/
theorem C_any {b : AC} {Q : QT} {r : Bool} (n : Nat) (p : Nat → Bool) (I : Nat → Slots → AHeap → Prop) (hr : (List.range n).any p = r) {s : Slots} {H : AHeap} (start : I 0 s H)
    (go : ∀ i s H, i < n → p i = false → I i s H → C (cxV E) b s H (nrmQ (I (i + 1))))
    (hit : ∀ i s H, i < n → p i = true → r = true → I i s H → C (cxV E) b s H (exQ Q))
    (no : ∀ s H, r = false → I n s H → C (cxV E) b s H (exQ Q)) : C (cxV E) (.loop b) s H Q := by
  have out : ∀ {c : AC} {s : Slots} {H : AHeap} {R : Nat → Slots → AHeap → Prop} {n : Nat}, C (cxV E) c s H (exQ Q) → C (cxV E) c s H (fun x s' H' => match x with
      | .nrm => ∃ m, m < n ∧ R m s' H'
      | x => Q x s' H') := by
    intro c s H R n h
    exact C_mono h fun e s H h => by cases e <;> first | exact h.elim | exact h
  refine C_while (fun k s H => ∃ i, i + k = n ∧ (List.range i).any p = false ∧ I i s H) ?_ n s H ⟨0, by omega, rfl, start⟩
  rintro k s H ⟨i, hk, hno, hI⟩
  by_cases hlt : i < n
  · cases hp : p i
    · refine C_mono (go i s H hlt hp hI) fun e s' H' h => ?_
      cases e with
      | nrm => exact ⟨k - 1, by omega, i + 1, by omega, any_range hno hp, h⟩
      | ext j => exact h.elim
      | ret => exact h.elim
    · exact out (hit i s H hlt hp (hr ▸ any_hit hlt hp) hI)
  · obtain rfl : i = n := by omega
    exact out (no s H (hr ▸ hno) hI)
/-- A LOOP OF n ROUNDS. -/
theorem C_for {b : AC} {Q : QT} (n : Nat) (I : Nat → Slots → AHeap → Prop) {s : Slots} {H : AHeap} (start : I 0 s H)
    (go : ∀ i s H, i < n → I i s H → C (cxV E) b s H (nrmQ (I (i + 1))))
    (no : ∀ s H, I n s H → C (cxV E) b s H (exQ Q)) : C (cxV E) (.loop b) s H Q :=
  C_any n (fun _ => false) I (r := false) (by rw [List.any_eq_false]; simp) start (fun i s H h _ hI => go i s H h hI) (fun i s H _ h => by cases h) fun s H _ hI => no s H hI
/-! ### class.Locks -/
def forL : List (List UInt8) := [[117, 112, 100, 97, 116, 101], [115, 104, 97, 114, 101], [110, 111], [107, 101, 121]]
def lockAt (w : List (List UInt8)) (i : Nat) : Bool := (strAt w i == [102, 111, 114]) && forL.contains (strAt w (i + 1))
theorem strAt_out {w : List (List UInt8)} {i : Nat} (h : w.length ≤ i) : strAt w i = [] := by simp [strAt, List.getElem?_eq_none h]
theorem any_less {p : Nat → Bool} {n : Nat} (h : ∀ i, i + 1 = n → p i = false) : (List.range n).any p = (List.range (n - 1)).any p := by
  cases n with
  | zero => rfl
  | succ n =>
    rw [List.range_succ, List.any_append]
    simp [h n rfl]
theorem lock_less (w : List (List UInt8)) : (List.range w.length).any (lockAt w) = (List.range (w.length - 1)).any (lockAt w) := any_less fun i hi => by
  unfold lockAt
  rw [strAt_out (i := i + 1) (by omega)]
  simp [forL]
theorem p_locks (l : List Tok) (hs : Small l) : PV 72 [.sl (toks l)] = some (.bool ((List.range l.length).any (lockAt (l.map wordOf)))) := by
  refine PV_start k72 rfl (Nat.le_of_ble_eq_true rfl) ?_
  have hlen := hs.len
  have hw0 := p_words l hs
  have hwl : (l.map wordOf).length = l.length := List.length_map _
  simp only [go_sem, bx, K72, call_pure pure_47, hw0]
  rw [← hwl, lock_less]
  generalize l.map wordOf = w at *
  generalize hr : (List.range (w.length - 1)).any (lockAt w) = r
  refine C_any (w.length - 1) (lockAt w) (fun i s H => s 3 = .sl (strs w) ∧ s 4 = .int .i64 ((i : Int) + 1)) hr ⟨by simp only [go_sem, bx], by simp only [go_sem, bx]; rfl⟩ ?_ ?_ ?_
  · rintro i s H hi hp ⟨h3, h4⟩
    have hd : ((i : Int) + 1 < (w.length : Int)) := by omega
    have w0 : IntKind.i64.wrap ((i : Int) + 1 - 1) = (i : Int) := by rw [wrap_ok] <;> omega
    have w1 : IntKind.i64.wrap ((i : Int) + 1 + 1) = ((i + 1 : Nat) : Int) + 1 := by rw [wrap_ok] <;> omega
    have hg := fun H => strs_at' (H := H) (w := w) (i := i) (by omega)
    have hg2 := fun H => strs_at' (H := H) (w := w) (i := i + 1) (by omega)
    have hin := p_cin (strAt w (i + 1)) forL (by decide)
    simp only [Int.natCast_add, Int.cast_ofNat_Int] at hg2
    unfold lockAt at hp
    cases b1 : (strAt w i == [102, 111, 114])
    · simp only [go_sem, bx, L72_0, h3, h4, hd, hg, b1, w0, w1]
    · rw [b1, Bool.true_and] at hp
      have hf := fun H => frz_last H forL 4 rfl
      simp only [forL] at hin hf hp
      simp only [go_sem, bx, L72_0, h3, h4, hd, hg, hg2, b1, w0, w1, bs_str, hf, call_pure pure_49, hin, hp]
  · rintro i s H hi hp rfl ⟨h3, h4⟩
    have hd : ((i : Int) + 1 < (w.length : Int)) := by omega
    have w0 : IntKind.i64.wrap ((i : Int) + 1 - 1) = (i : Int) := by rw [wrap_ok] <;> omega
    have hg := fun H => strs_at' (H := H) (w := w) (i := i) (by omega)
    have hg2 := fun H => strs_at' (H := H) (w := w) (i := i + 1) (by omega)
    have hin := p_cin (strAt w (i + 1)) forL (by decide)
    simp only [Int.natCast_add, Int.cast_ofNat_Int] at hg2
    unfold lockAt at hp
    cases b1 : (strAt w i == [102, 111, 114])
    · rw [b1] at hp; cases hp
    · rw [b1, Bool.true_and] at hp
      have hf := fun H => frz_last H forL 4 rfl
      simp only [forL] at hin hf hp
      simp only [go_sem, bx, L72_0, h3, h4, hd, hg, hg2, b1, w0, bs_str, hf, call_pure pure_49, hin, hp]
  · rintro s H rfl ⟨h3, h4⟩
    have hd : ¬ (((w.length - 1 : Nat) : Int) + 1 < (w.length : Int)) := by omega
    simp only [go_sem, bx, L72_0, h3, h4, hd]
/-! ### class.changing, class.calls -/
def pgW : List UInt8 := [112, 103, 95]
def nowL : List (List UInt8) := [[110, 111, 119], [114, 97, 110, 100, 111, 109], [110, 101, 120, 116, 118, 97, 108], [99, 117, 114, 114, 118, 97, 108], [115, 101, 116, 118, 97, 108], [108, 97, 115, 116, 118, 97, 108], [99, 108, 111, 99, 107, 95, 116, 105, 109, 101, 115, 116, 97, 109, 112], [116, 120, 105, 100, 95, 99, 117, 114, 114, 101, 110, 116]]
def pgIs (x : List UInt8) : Bool := decide (3 ≤ (x.length : Int)) && (x.take 3 == [112, 103, 95])
theorem slice_str (x : List UInt8) (k : Nat) (hk : k ≤ x.length) (H : AHeap) : aslice Try.prog 9 (.str x) none (some (.int .i64 (k : Int))) H = some (.str (x.take k)) := by
  unfold aslice
  simp [strT_9, asBound, hk]
theorem p_changing (x : List UInt8) : PV 74 [.str x] = some (.bool (pgIs x || nowL.contains x)) := by
  refine PV_start k74 rfl (Nat.le_of_ble_eq_true rfl) ?_
  have hin := p_cin x nowL (by decide)
  have hf := frz_last [] nowL 8 rfl
  simp only [nowL, List.length_nil, List.nil_append] at hin hf
  have hn : nowL.contains x = [[110, 111, 119], [114, 97, 110, 100, 111, 109], [110, 101, 120, 116, 118, 97, 108], [99, 117, 114, 114, 118, 97, 108], [115, 101, 116, 118, 97, 108], [108, 97, 115, 116, 118, 97, 108], [99, 108, 111, 99, 107, 95, 116, 105, 109, 101, 115, 116, 97, 109, 112], [116, 120, 105, 100, 95, 99, 117, 114, 114, 101, 110, 116]].contains x := rfl
  rw [hn]
  unfold pgIs
  by_cases h : (3 : Int) ≤ (x.length : Int)
  · have hsl := slice_str x 3 (by omega) []
    simp only [Int.cast_ofNat_Int] at hsl
    cases b : (x.take 3 == [112, 103, 95])
    · simp only [go_sem, bx, K74, h, hsl, b, bs_str, hf, call_pure pure_49, hin, Bool.false_or, decide_true, Bool.true_and]
    · simp only [go_sem, bx, K74, h, hsl, b, Bool.true_or]
  · simp only [go_sem, bx, K74, h, bs_str, hf, call_pure pure_49, hin, Bool.false_or, decide_false, Bool.false_and]
end Go.Proofs
/- The sets' layer: class.calls, class.query, class.firsts. -/

set_option linter.unusedSimpArgs false
set_option linter.unusedVariables false
namespace Go.Proofs
open Go.Vam
def calledAt (l : List Tok) (i : Nat) : Bool := decide ((tokAt l i).kind = 1) && isAt l ((i : Int) + 1) 5 [40]
def callP (l : List Tok) (i : Nat) : Bool := calledAt l i && (pgIs (tokAt l i).text || nowL.contains (tokAt l i).text)
theorem any_less' {p : Nat → Bool} {n : Nat} (h : ∀ i, i + 1 = n → p i = false) : (List.range n).any p = (List.range (n - 1)).any p := any_less h
theorem isAt_in {l : List Tok} {i : Int} {k : Int} {x : List UInt8} (h0 : 0 ≤ i) (h1 : i < l.length) : isAt l i k x = (decide ((tokAt l i).kind = k) && ((tokAt l i).text == x)) := by
  unfold isAt
  simp [h0, h1]
theorem isAt_out {l : List Tok} {i : Int} {k : Int} {x : List UInt8} (h1 : ¬ i < l.length) : isAt l i k x = false := by
  unfold isAt
  simp [h1]
theorem call_less (l : List Tok) : (List.range l.length).any (callP l) = (List.range (l.length - 1)).any (callP l) := any_less fun i hi => by
  unfold callP calledAt
  rw [isAt_out (by omega)]
  simp
theorem p_calls (l : List Tok) (hs : Small l) : PV 73 [.sl (toks l), .fn 74 []] = some (.bool ((List.range l.length).any (callP l))) := by
  refine PV_start k73 rfl (Nat.le_of_ble_eq_true rfl) ?_
  have hlen := hs.len
  simp only [go_sem, bx, K73]
  rw [call_less]
  generalize hr : (List.range (l.length - 1)).any (callP l) = r
  refine C_any (l.length - 1) (callP l) (fun i s H => s 0 = .sl (toks l) ∧ s 1 = .fn 74 [] ∧ s 5 = .int .i64 ((i : Int) + 1)) hr ⟨by simp only [go_sem, bx], by simp only [go_sem, bx], by simp only [go_sem, bx]; rfl⟩ ?_ ?_ ?_
  · rintro i s H hi hp ⟨h0, h1, h5⟩
    have hd : ((i : Int) + 1 < (l.length : Int)) := by omega
    have w0 : IntKind.i64.wrap ((i : Int) + 1 - 1) = (i : Int) := by rw [wrap_ok] <;> omega
    have w1 : IntKind.i64.wrap ((i : Int) + 1 + 1) = ((i + 1 : Nat) : Int) + 1 := by rw [wrap_ok] <;> omega
    have hg := fun H => indexAddr_22 l .i64 (i : Int) H (by omega) (by omega)
    have hg2 := fun H => indexAddr_22 l .i64 ((i : Int) + 1) H (by omega) (by omega)
    have hc := p_changing (tokAt l i).text
    unfold callP calledAt at hp
    rw [isAt_in (by omega) hd] at hp
    cases b1 : decide ((tokAt l ((i : Int) + 1)).kind = 5)
    · simp only [go_sem, bx, L73_0, h0, h1, h5, hd, hg, hg2, tok, b1, w0, w1]
    · cases b2 : ((tokAt l ((i : Int) + 1)).text == [40])
      · simp only [go_sem, bx, L73_0, h0, h1, h5, hd, hg, hg2, tok, b1, b2, w0, w1]
      · cases b3 : decide ((tokAt l i).kind = 1)
        · simp only [go_sem, bx, L73_0, h0, h1, h5, hd, hg, hg2, tok, b1, b2, b3, w0, w1]
        · rw [b1, b2, b3] at hp
          simp only [Bool.true_and] at hp
          simp only [go_sem, bx, L73_0, h0, h1, h5, hd, hg, hg2, tok, b1, b2, b3, w0, w1, call_pure pure_74, hc, hp]
  · rintro i s H hi hp rfl ⟨h0, h1, h5⟩
    have hd : ((i : Int) + 1 < (l.length : Int)) := by omega
    have w0 : IntKind.i64.wrap ((i : Int) + 1 - 1) = (i : Int) := by rw [wrap_ok] <;> omega
    have hg := fun H => indexAddr_22 l .i64 (i : Int) H (by omega) (by omega)
    have hg2 := fun H => indexAddr_22 l .i64 ((i : Int) + 1) H (by omega) (by omega)
    have hc := p_changing (tokAt l i).text
    unfold callP calledAt at hp
    rw [isAt_in (by omega) hd] at hp
    simp only [Bool.and_eq_true] at hp
    obtain ⟨⟨b3, b1, b2⟩, hp⟩ := hp
    simp only [go_sem, bx, L73_0, h0, h1, h5, hd, hg, hg2, tok, b1, b2, b3, w0, call_pure pure_74, hc, hp]
  · rintro s H rfl ⟨h0, h1, h5⟩
    have hd : ¬ (((l.length - 1 : Nat) : Int) + 1 < (l.length : Int)) := by omega
    simp only [go_sem, bx, L73_0, h0, h1, h5, hd]
/-! ### class.query -/
def writesB (l : List Tok) : Bool := (List.range l.length).any (wrAt (l.map wordOf))
def locksB (l : List Tok) : Bool := (List.range l.length).any (lockAt (l.map wordOf))
def callsB (l : List Tok) : Bool := (List.range l.length).any (callP l)
def queryOf (l : List Tok) : Int := if writesB l then 2 else if locksB l || callsB l then 7 else 1
theorem p_query (l : List Tok) (hs : Small l) : PV 48 [.sl (toks l)] = some (.int .i64 (queryOf l)) := by
  refine PV_start k48 rfl (Nat.le_of_ble_eq_true rfl) ?_
  have h1 := p_cwrites l hs
  have h2 := p_locks l hs
  have h3 := p_calls l hs
  unfold queryOf writesB locksB callsB
  cases b1 : (List.range l.length).any (wrAt (l.map wordOf))
  · cases b2 : (List.range l.length).any (lockAt (l.map wordOf))
    · cases b3 : (List.range l.length).any (callP l)
      · simp only [go_sem, bx, K48, call_pure pure_71, call_pure pure_72, call_pure pure_73, h1, h2, h3, b1, b2, b3, Bool.or_false]
      · simp only [go_sem, bx, K48, call_pure pure_71, call_pure pure_72, call_pure pure_73, h1, h2, h3, b1, b2, b3, Bool.or_true]
    · simp only [go_sem, bx, K48, call_pure pure_71, call_pure pure_72, h1, h2, b1, b2, Bool.true_or]
  · simp only [go_sem, bx, K48, call_pure pure_71, h1, b1]
end Go.Proofs
/- The sets' layer: class.firsts, class.Of. -/

set_option linter.unusedSimpArgs false
set_option linter.unusedVariables false
namespace Go.Proofs
open Go.Vam
def insW : List (List UInt8) := [[105, 110, 115, 101, 114, 116], [117, 112, 100, 97, 116, 101], [100, 101, 108, 101, 116, 101], [116, 114, 117, 110, 99, 97, 116, 101], [109, 101, 114, 103, 101]]
def setW : List (List UInt8) := [[115, 101, 116], [114, 101, 115, 101, 116], [100, 105, 115, 99, 97, 114, 100], [108, 105, 115, 116, 101, 110], [117, 110, 108, 105, 115, 116, 101, 110], [112, 114, 101, 112, 97, 114, 101], [100, 101, 97, 108, 108, 111, 99, 97, 116, 101], [100, 101, 99, 108, 97, 114, 101], [108, 111, 97, 100]]
def firsts0 : List (List UInt8 × Int) := [([98, 101, 103, 105, 110], 3), ([99, 111, 109, 109, 105, 116], 4), ([101, 110, 100], 4)]
def firstsI (i : Nat) : List (List UInt8 × Int) := (insW.take i).foldl (fun l n => setKv n 2 l) firsts0
def firstsS (i : Nat) : List (List UInt8 × Int) := (setW.take i).foldl (fun l n => setKv n 6 l) (firstsI 5)
theorem strs_hs {H : AHeap} {id n : Nat} {w : List (List UInt8)} (hH : H[id]? = some (.arr 9 true 0 (strs w))) (hn : n = w.length) {i : Nat} (h : i < w.length) : aindexAddr Try.prog 26 (.hs id 0 n) (.int .i64 (i : Int)) H = some (.ptr id i 0) := by
  subst hn
  have := indexAddr_hs Try.prog 26 H (k := .i64) (i0 := 0) (i := i) (n := w.length) sliceT_26 hH h
  rw [Nat.zero_add] at this
  exact this
theorem load_hs {H : AHeap} {id : Nat} {w : List (List UInt8)} (hH : H[id]? = some (.arr 9 true 0 (strs w))) {i : Nat} (h : i < w.length) : aload Try.prog 9 (.ptr id i 0) H = some (.str (strAt w i)) := by
  rw [load_ptr, hH, ldObj_arr, strs_get (List.getElem?_eq_getElem h), strAt_lt h]
  simp only [go_sem]
theorem frz_kvs (H : AHeap) (l : List (List UInt8 × Int)) : ∀ n, mapO (fun e : AV × AV => (frz (n + 1) H e.1).bind fun a => (frz (n + 1) H e.2).map fun b => (a, b)) (kvs l) = some (kvs l) := by
  intro n
  induction l with
  | nil => rfl
  | cons a l ih =>
    simp only [kvs, List.map_cons, mapO] at ih ⊢
    rw [ih]
    rfl
theorem frz_map {H : AHeap} {id : Nat} {l : List (List UInt8 × Int)} (h : H[id]? = some (.map (kvs l))) : frz depth H (.mp id) = some (.pm (kvs l)) := by
  simp only [depth, frz]
  rw [h]
  simp only
  rw [frz_kvs H l 6]
  rfl
theorem p_firsts : PV 50 [] = some (.pm (kvs (firstsS 9))) := by
  refine PV_start k50 rfl (Nat.le_of_ble_eq_true rfl) ?_
  have u1 : amapUpdate Try.prog 43 (.mp 0) (.str [98, 101, 103, 105, 110]) (.int .i64 3) [.map []] = some [.map (kvs [([98, 101, 103, 105, 110], 3)])] := update_kvs (H := [.map (kvs [])]) (M := 0) (l := []) rfl _ 3
  have u2 : amapUpdate Try.prog 43 (.mp 0) (.str [99, 111, 109, 109, 105, 116]) (.int .i64 4) [.map (kvs [([98, 101, 103, 105, 110], 3)])] = some [.map (kvs [([98, 101, 103, 105, 110], 3), ([99, 111, 109, 109, 105, 116], 4)])] := update_kvs (H := [.map (kvs [([98, 101, 103, 105, 110], 3)])]) (M := 0) rfl _ 4
  have u3 : amapUpdate Try.prog 43 (.mp 0) (.str [101, 110, 100]) (.int .i64 4) [.map (kvs [([98, 101, 103, 105, 110], 3), ([99, 111, 109, 109, 105, 116], 4)])] = some [.map (kvs firsts0)] := update_kvs (H := [.map (kvs [([98, 101, 103, 105, 110], 3), ([99, 111, 109, 109, 105, 116], 4)])]) (M := 0) rfl _ 4
  have b1 := bs_str 5 [(0, .str [105, 110, 115, 101, 114, 116]), (1, .str [117, 112, 100, 97, 116, 101]), (2, .str [100, 101, 108, 101, 116, 101]), (3, .str [116, 114, 117, 110, 99, 97, 116, 101]), (4, .str [109, 101, 114, 103, 101])] [.map (kvs firsts0)] (by decide) rfl
  simp only [go_sem, bx, K50, u1, u2, u3]
  simp only [go_sem, bx] at b1
  simp only [go_sem, bx, b1]
  refine C_for 5 (fun i s H => s 1 = .mp 0 ∧ s 8 = .hs 1 0 5 ∧ s 9 = .int .i64 5 ∧ s 10 = .int .i64 (i : Int) ∧ H = [.map (kvs (firstsI i)), .arr 9 true 0 (strs insW)]) ⟨by simp only [go_sem, bx], by simp only [go_sem, bx], by simp only [go_sem, bx, Int.cast_ofNat_Int], by simp only [go_sem, bx]; rfl, rfl⟩ ?_ ?_
  · rintro i s H hi ⟨h1, h8, h9, h10, rfl⟩
    have hd : ((i : Int) < 5) := by omega
    have hw : IntKind.i64.wrap ((i : Int) + 1) = ((i + 1 : Nat) : Int) := wrap_succ (by simp only [maxL]; omega)
    have hH : [AO.map (kvs (firstsI i)), .arr 9 true 0 (strs insW)][1]? = some (.arr 9 true 0 (strs insW)) := rfl
    have hx := strs_hs hH (n := 5) rfl (i := i) hi
    have hl := load_hs hH (i := i) hi
    have hu := update_kvs (H := [AO.map (kvs (firstsI i)), .arr 9 true 0 (strs insW)]) (M := 0) rfl (strAt insW i) 2
    have hs : setKv (strAt insW i) 2 (firstsI i) = firstsI (i + 1) := by
      unfold firstsI
      rw [List.take_add_one, List.getElem?_eq_getElem (by exact hi), List.foldl_append, strAt_lt (by exact hi)]
      rfl
    simp only [go_sem, bx, L50_0, h1, h8, h9, h10, hd, hx, hl, hu, hw, hs, List.set_cons_zero]
  · rintro s H ⟨h1, h8, h9, h10, rfl⟩
    have b2 := bs_str 9 [(0, .str [115, 101, 116]), (1, .str [114, 101, 115, 101, 116]), (2, .str [100, 105, 115, 99, 97, 114, 100]), (3, .str [108, 105, 115, 116, 101, 110]), (4, .str [117, 110, 108, 105, 115, 116, 101, 110]), (5, .str [112, 114, 101, 112, 97, 114, 101]), (6, .str [100, 101, 97, 108, 108, 111, 99, 97, 116, 101]), (7, .str [100, 101, 99, 108, 97, 114, 101]), (8, .str [108, 111, 97, 100])] [.map (kvs (firstsI 5)), .arr 9 true 0 (strs insW)] (by decide) rfl
    simp only [go_sem, bx] at b2
    simp only [go_sem, bx, L50_0, h9, h10, Int.cast_ofNat_Int, b2]
    refine C_for 9 (fun i s H => s 1 = .mp 0 ∧ s 17 = .hs 2 0 9 ∧ s 18 = .int .i64 9 ∧ s 19 = .int .i64 (i : Int) ∧ H = [.map (kvs (firstsS i)), .arr 9 true 0 (strs insW), .arr 9 true 0 (strs setW)]) ⟨by simp only [go_sem, bx, h1], by simp only [go_sem, bx], by simp only [go_sem, bx], by simp only [go_sem, bx]; rfl, rfl⟩ ?_ ?_
    · rintro i s H hi ⟨h1, h17, h18, h19, rfl⟩
      have hd : ((i : Int) < 9) := by omega
      have hw : IntKind.i64.wrap ((i : Int) + 1) = ((i + 1 : Nat) : Int) := wrap_succ (by simp only [maxL]; omega)
      have hH : [AO.map (kvs (firstsS i)), .arr 9 true 0 (strs insW), .arr 9 true 0 (strs setW)][2]? = some (.arr 9 true 0 (strs setW)) := rfl
      have hx := strs_hs hH (n := 9) rfl (i := i) hi
      have hl := load_hs hH (i := i) hi
      have hu := update_kvs (H := [AO.map (kvs (firstsS i)), .arr 9 true 0 (strs insW), .arr 9 true 0 (strs setW)]) (M := 0) rfl (strAt setW i) 6
      have hs : setKv (strAt setW i) 6 (firstsS i) = firstsS (i + 1) := by
        unfold firstsS
        rw [List.take_add_one, List.getElem?_eq_getElem (by exact hi), List.foldl_append, strAt_lt (by exact hi)]
        rfl
      simp only [go_sem, bx, L50_1, h1, h17, h18, h19, hd, hx, hl, hu, hw, hs, List.set_cons_zero]
    · rintro s H ⟨h1, h17, h18, h19, rfl⟩
      have hf := frz_map (H := [AO.map (kvs (firstsS 9)), .arr 9 true 0 (strs insW), .arr 9 true 0 (strs setW)]) (id := 0) (l := firstsS 9) rfl
      simp only [go_sem, bx, L50_1, h1, h18, h19, Int.cast_ofNat_Int, hf]
/-! ### class.Of -/
theorem lookup_pm (l : List (List UInt8 × Int)) (n : List UInt8) (H : AHeap) : alookup Try.prog 43 (.pm (kvs l)) (.str n) true H = some (.tup [.int .i64 (count n l), .bool ((l.map (·.1)).contains n)]) := by
  unfold alookup
  rw [mapT_43]
  simp only [ents, keyT_str, strT_9, if_true]
  have key : ∀ l : List (List UInt8 × Int), (l.map (·.1)).contains n = false ∧ findKey (.str n) (kvs l) = some none ∧ count n l = 0 ∨ (l.map (·.1)).contains n = true ∧ findKey (.str n) (kvs l) = some (some (.int .i64 (count n l))) := by
    intro l
    induction l with
    | nil => exact .inl ⟨rfl, rfl, rfl⟩
    | cons a l ih =>
      obtain ⟨k, c⟩ := a
      simp only [kvs, List.map_cons, findKey, cellEq, count, List.contains_cons]
      cases h : (n == k) with
      | true => exact .inr ⟨rfl, rfl⟩
      | false =>
        simp only [Bool.false_or, Bool.false_eq_true, if_false]
        exact ih
  rcases key l with ⟨h1, h2, h3⟩ | ⟨h1, h2⟩
  · rw [h1, h2, h3]
    simp only
    rw [zeroV_3]
    rfl
  · rw [h1, h2]
def qL : List (List UInt8) := [[115, 101, 108, 101, 99, 116], [118, 97, 108, 117, 101, 115], [116, 97, 98, 108, 101], [119, 105, 116, 104]]
def startW : List UInt8 := [115, 116, 97, 114, 116]
def transW : List UInt8 := [116, 114, 97, 110, 115, 97, 99, 116, 105, 111, 110]
def abortL : List (List UInt8) := [[114, 111, 108, 108, 98, 97, 99, 107], [97, 98, 111, 114, 116]]
/-- A class, by the words: what looks for a query's is handed in. -/
def classW (w : List (List UInt8)) (q : Int) : Int :=
  if w.length = 0 then 0 else
  if (W33_0.map (·.2)).contains (strAt w 0) then q else
  if strAt w 0 == [115, 116, 97, 114, 116] then (if decide (1 < (w.length : Int)) && (strAt w 1 == [116, 114, 97, 110, 115, 97, 99, 116, 105, 111, 110]) then 3 else 8) else
  if (W33_1.map (·.2)).contains (strAt w 0) then (if w.contains [116, 111] then 8 else 5) else
  if ((firstsS 9).map (·.1)).contains (strAt w 0) then count (strAt w 0) (firstsS 9) else 8
def classOf (l : List Tok) : Int := classW (l.map wordOf) (queryOf l)
theorem firsts_no : ∀ x, x = startW ∨ x ∈ abortL → ((firstsS 9).map (·.1)).contains x = false := by
  intro x h
  rcases h with rfl | h
  · rfl
  · simp only [abortL, List.mem_cons, List.not_mem_nil, or_false] at h
    rcases h with rfl | rfl <;> rfl
theorem p_class (l : List Tok) (hs : Small l) : PV 33 [.sl (toks l)] = some (.int .i64 (classOf l)) := by
  refine PV_start k33 rfl (Nat.le_of_ble_eq_true rfl) ?_
  have hlen := hs.len
  have hw0 := p_words l hs
  have hq := p_query l hs
  have hwl : (l.map wordOf).length = l.length := List.length_map _
  unfold classOf
  rw [classW]
  by_cases h0 : l.length = 0
  · have hd : ((l.length : Int) = 0) := by omega
    rw [if_pos (by rw [hwl]; exact h0)]
    simp only [go_sem, bx, K33, hd, decide_true]
  · have hd : decide ((l.length : Int) = 0) = false := decide_eq_false (by omega)
    rw [if_neg (by rw [hwl]; exact h0)]
    have hcin := p_cin [116, 111] (l.map wordOf) (by rw [hwl]; simp only [maxL]; omega)
    have hl0 : 0 < (l.map wordOf).length := by omega
    have hlk := fun n H => lookup_pm (firstsS 9) n H
    have hfirsts := p_firsts
    generalize (l.map wordOf) = w at *
    have hg := fun H => strs_at' (H := H) (w := w) (i := 0) hl0
    simp only [Int.cast_ofNat_Int] at hg
    cases b1 : (W33_0.map (·.2)).contains (strAt w 0)
    · cases b2 : (strAt w 0 == [115, 116, 97, 114, 116])
      · cases b3 : (W33_1.map (·.2)).contains (strAt w 0)
        · cases b4 : ((firstsS 9).map (·.1)).contains (strAt w 0)
          · simp only [go_sem, bx, K33, D33_17, hd, call_pure pure_47, call_pure pure_50, PC_some, List.flatMap_nil, List.foldl_nil, ite_self, hw0, hg, b1, b2, b3, hfirsts, hlk, b4]
          · simp only [go_sem, bx, K33, D33_17, hd, call_pure pure_47, call_pure pure_50, PC_some, List.flatMap_nil, List.foldl_nil, ite_self, hw0, hg, b1, b2, b3, hfirsts, hlk, b4]
        · have hno := firsts_no (strAt w 0) (.inr (by simpa [abortL, W33_1] using b3))
          cases b4 : w.contains [116, 111]
          · simp only [go_sem, bx, K33, D33_17, hd, call_pure pure_47, call_pure pure_49, hw0, hg, b1, b2, b3, hcin, b4]
          · simp only [go_sem, bx, K33, D33_17, hd, call_pure pure_47, call_pure pure_49, call_pure pure_50, PC_some, List.flatMap_nil, List.foldl_nil, ite_self, hw0, hg, b1, b2, b3, hcin, b4, hfirsts, hlk, hno]
      · have hno := firsts_no (strAt w 0) (.inl (by simpa [startW] using b2))
        by_cases h1 : (1 : Int) < (w.length : Int)
        · have hg1 := fun H => strs_at' (H := H) (w := w) (i := 1) (Int.ofNat_lt.1 h1)
          simp only [Int.cast_ofNat_Int] at hg1
          cases b3 : (strAt w 1 == [116, 114, 97, 110, 115, 97, 99, 116, 105, 111, 110])
          · simp only [go_sem, bx, K33, D33_17, hd, call_pure pure_47, call_pure pure_50, PC_some, List.flatMap_nil, List.foldl_nil, ite_self, hw0, hg, hg1, b1, b2, b3, h1, hfirsts, hlk, hno]
          · simp only [go_sem, bx, K33, D33_17, hd, call_pure pure_47, hw0, hg, hg1, b1, b2, b3, h1]
        · simp only [go_sem, bx, K33, D33_17, hd, call_pure pure_47, call_pure pure_50, PC_some, List.flatMap_nil, List.foldl_nil, ite_self, hw0, hg, b1, b2, h1, hfirsts, hlk, hno, Bool.false_and]
    · simp only [go_sem, bx, K33, hd, call_pure pure_47, call_pure pure_48, hw0, hq, hg, b1]
end Go.Proofs
/- The sets' layer: the reference of classes. -/

set_option linter.unusedSimpArgs false
set_option linter.unusedVariables false
namespace Go.Proofs
open Go.Vam
theorem p_in6 (l : List (List UInt8)) (x : List UInt8) (hl : l.length ≤ 1000) : PV 81 [.sl (strs l), .str x] = some (.bool (l.contains x)) := by
  refine PV_start k81 rfl (Nat.le_of_ble_eq_true rfl) ?_
  have hcon : (List.range l.length).any (fun i => strAt l i == x) = l.contains x := by
    rw [Bool.eq_iff_iff, List.any_eq_true, List.contains_iff_mem]
    constructor
    · rintro ⟨i, hi, h⟩
      have hi' := List.mem_range.1 hi
      rw [strAt_lt hi'] at h
      rw [← eq_of_beq h]
      exact List.getElem_mem hi'
    · intro h
      obtain ⟨i, hi, rfl⟩ := List.getElem_of_mem h
      exact ⟨i, List.mem_range.2 hi, by rw [strAt_lt hi]; exact beq_self_eq_true _⟩
  simp only [go_sem, bx, K81]
  generalize hr : l.contains x = r
  rw [hr] at hcon
  refine C_any l.length _ (fun i s H => s 0 = .sl (strs l) ∧ s 1 = .str x ∧ s 5 = .int .i64 (i : Int)) hcon ⟨by simp only [go_sem, bx], by simp only [go_sem, bx], by simp only [go_sem, bx]; rfl⟩ ?_ ?_ ?_
  · rintro i s H hi hp ⟨h0, h1, h5⟩
    have hd : ((i : Int) < (l.length : Int)) := by omega
    have w1 : IntKind.i64.wrap ((i : Int) + 1) = ((i + 1 : Nat) : Int) := wrap_succ (by simp only [maxL]; omega)
    have hg := fun H => strs_at' (H := H) hi
    simp only [go_sem, bx, L81_0, h0, h1, h5, hd, hg, hp, w1]
  · rintro i s H hi hp rfl ⟨h0, h1, h5⟩
    have hd : ((i : Int) < (l.length : Int)) := by omega
    have hg := fun H => strs_at' (H := H) hi
    simp only [go_sem, bx, L81_0, h0, h1, h5, hd, hg, hp]
  · rintro s H rfl ⟨h0, h1, h5⟩
    have hd : ¬ ((l.length : Int) < (l.length : Int)) := by omega
    simp only [go_sem, bx, L81_0, h0, h1, h5, hd]
/-! ### words -/
def wAt (w : List (List UInt8)) (i : Int) : List UInt8 := if i < 0 then [] else strAt w i.toNat
theorem wAt_tok {l : List Tok} {i : Int} (h0 : 0 ≤ i) (h1 : i < l.length) : wAt (l.map wordOf) i = if decide ((tokAt l i).kind = 1) then (tokAt l i).text else [] := by
  obtain ⟨n, rfl⟩ := Int.eq_ofNat_of_zero_le h0
  have hn : n < l.length := by omega
  unfold wAt
  rw [if_neg (by omega), Int.toNat_natCast, strAt_lt (by simpa using hn), List.getElem_map, tokAt_nat hn]
  unfold wordOf
  simp
theorem wAt_out {l : List Tok} {i : Int} (h1 : ¬ i < l.length) : wAt (l.map wordOf) i = [] := by
  unfold wAt
  split
  · rfl
  · exact strAt_out (by simp; omega)
theorem p_word6 (l : List Tok) (i : Int) : PV 53 [.sl (toks l), .int .i64 i] = some (.str (wAt (l.map wordOf) i)) := by
  refine PV_start k53 rfl (Nat.le_of_ble_eq_true rfl) ?_
  by_cases h0 : i < 0
  · have : wAt (l.map wordOf) i = [] := if_pos h0
    rw [this]
    simp only [go_sem, bx, K53, h0]
  · by_cases h1 : i < l.length
    · have hg := indexAddr_22 l .i64 i [] (by omega) h1
      have h1' : ¬ ((l.length : Int) ≤ i) := by omega
      rw [wAt_tok (by omega) h1]
      cases b : decide ((tokAt l i).kind = 1)
      · simp only [go_sem, bx, K53, h0, h1', hg, tok, b]
      · simp only [go_sem, bx, K53, h0, h1', hg, tok, b]
    · have h1' : ((l.length : Int) ≤ i) := by omega
      rw [wAt_out h1]
      simp only [go_sem, bx, K53, h0, h1']
theorem p_called (l : List Tok) (i : Nat) (hi : i < l.length) (hl : l.length ≤ 3000) : PV 82 [.sl (toks l), .int .i64 (i : Int)] = some (.bool (calledAt l i)) := by
  refine PV_start k82 rfl (Nat.le_of_ble_eq_true rfl) ?_
  have hg := indexAddr_22 l .i64 (i : Int) [] (by omega) (by omega)
  have w1 : IntKind.i64.wrap ((i : Int) + 1) = (i : Int) + 1 := wrap_ok (by omega) (by omega)
  unfold calledAt
  cases b1 : decide ((tokAt l i).kind = 1)
  · simp only [go_sem, bx, K82, hg, tok, b1, w1, Bool.false_and]
  · by_cases h1 : ((i : Int) + 1 < (l.length : Int))
    · have hg2 := indexAddr_22 l .i64 ((i : Int) + 1) [] (by omega) h1
      rw [isAt_in (by omega) h1]
      cases b2 : decide ((tokAt l ((i : Int) + 1)).kind = 5)
      · simp only [go_sem, bx, K82, hg, hg2, tok, b1, b2, h1, w1, Bool.false_and, Bool.and_false]
      · simp only [go_sem, bx, K82, hg, hg2, tok, b1, b2, h1, w1, Bool.true_and]
    · rw [isAt_out h1]
      simp only [go_sem, bx, K82, hg, tok, b1, h1, w1, Bool.and_false]
/-! ### ref06.writes, ref06.Locks -/
theorem p_writes6 (l : List Tok) (hs : Small l) : PV 54 [.sl (toks l)] = some (.bool (writesB l)) := by
  refine PV_start k54 rfl (Nat.le_of_ble_eq_true rfl) ?_
  have hlen := hs.len
  unfold writesB
  simp only [go_sem, bx, K54]
  have hwl : (l.map wordOf).length = l.length := List.length_map _
  have hw6 := fun i => p_word6 l i
  generalize hr : (List.range l.length).any (wrAt (l.map wordOf)) = r
  generalize l.map wordOf = w at *
  have wn : ∀ i : Nat, wAt w (i : Int) = strAt w i := fun i => by unfold wAt; rw [if_neg (by omega), Int.toNat_natCast]
  have hin := fun x => p_in6 (W71_0.map (·.2)) x (by decide)
  simp only [W71_0, List.map_cons, List.map_nil] at hin
  have hf := fun H => frz_last H [[105, 110, 115, 101, 114, 116], [100, 101, 108, 101, 116, 101], [109, 101, 114, 103, 101], [105, 110, 116, 111]] 4 rfl
  refine C_any l.length (wrAt w) (fun i s H => s 0 = .sl (toks l) ∧ s 3 = .int .i64 (i : Int)) hr ⟨by simp only [go_sem, bx], by simp only [go_sem, bx]; rfl⟩ ?_ ?_ ?_
  · rintro i s H hi hp ⟨h0, h3⟩
    have hd : ((i : Int) < (l.length : Int)) := by omega
    have w1 : IntKind.i64.wrap ((i : Int) + 1) = ((i + 1 : Nat) : Int) := wrap_succ (by simp only [maxL]; omega)
    have w0 : IntKind.i64.wrap ((i : Int) - 1) = (i : Int) - 1 := wrap_ok (by omega) (by omega)
    unfold wrAt at hp
    rw [Bool.or_eq_false_iff] at hp
    obtain ⟨hp, b2⟩ := hp
    simp only [W71_0, List.map_cons, List.map_nil] at b2
    cases b1 : (strAt w i == [117, 112, 100, 97, 116, 101])
    · simp only [go_sem, bx, L54_0, h0, h3, hd, w1, call_pure pure_53, hw6, wn, b1, bs_str, hf, call_pure pure_81, hin, b2]
    · rw [b1] at hp
      simp only [Bool.true_and, Bool.not_eq_false', Bool.and_eq_true, decide_eq_true_eq] at hp
      obtain ⟨hi0, b3⟩ := hp
      have wp : wAt w ((i : Int) - 1) = strAt w (i - 1) := by
        rw [← wn]
        congr 1
        omega
      simp only [go_sem, bx, L54_0, h0, h3, hd, w0, w1, call_pure pure_53, hw6, wn, wp, b1, b3, bs_str, hf, call_pure pure_81, hin, b2]
  · rintro i s H hi hp rfl ⟨h0, h3⟩
    have hd : ((i : Int) < (l.length : Int)) := by omega
    have w0 : IntKind.i64.wrap ((i : Int) - 1) = (i : Int) - 1 := wrap_ok (by omega) (by omega)
    unfold wrAt at hp
    have wp : 0 < i → wAt w ((i : Int) - 1) = strAt w (i - 1) := by
      intro _
      rw [← wn]
      congr 1
      omega
    have wz : i = 0 → wAt w ((i : Int) - 1) = [] := by
      rintro rfl
      rfl
    simp only [W71_0, List.map_cons, List.map_nil] at hp
    cases b1 : (strAt w i == [117, 112, 100, 97, 116, 101])
    · rw [b1] at hp
      simp only [Bool.false_and, Bool.false_or] at hp
      simp only [go_sem, bx, L54_0, h0, h3, hd, w0, call_pure pure_53, hw6, wn, b1, bs_str, hf, call_pure pure_81, hin, hp]
    · cases b3 : (wAt w ((i : Int) - 1) == [102, 111, 114])
      · simp only [go_sem, bx, L54_0, h0, h3, hd, w0, call_pure pure_53, hw6, wn, b1, b3]
      · have hi0 : 0 < i := by
          rcases Nat.eq_zero_or_pos i with h | h
          · rw [wz h] at b3
            cases b3
          · exact h
        rw [b1] at hp
        have b3' := b3
        rw [wp hi0] at b3'
        have hi0' : decide (0 < i) = true := decide_eq_true hi0
        rw [b3', hi0'] at hp
        simp only [Bool.true_and, Bool.not_true, Bool.false_or] at hp
        simp only [go_sem, bx, L54_0, h0, h3, hd, w0, call_pure pure_53, hw6, wn, b1, b3, bs_str, hf, call_pure pure_81, hin, hp]
  · rintro s H rfl ⟨h0, h3⟩
    have hd : ¬ ((l.length : Int) < (l.length : Int)) := by omega
    simp only [go_sem, bx, L54_0, h0, h3, hd]
theorem p_locks6 (l : List Tok) (hs : Small l) : PV 55 [.sl (toks l)] = some (.bool (locksB l)) := by
  refine PV_start k55 rfl (Nat.le_of_ble_eq_true rfl) ?_
  have hlen := hs.len
  unfold locksB
  simp only [go_sem, bx, K55]
  have hw6 := fun i => p_word6 l i
  generalize hr : (List.range l.length).any (lockAt (l.map wordOf)) = r
  generalize l.map wordOf = w at *
  have wn : ∀ i : Nat, wAt w (i : Int) = strAt w i := fun i => by unfold wAt; rw [if_neg (by omega), Int.toNat_natCast]
  have hin := fun x => p_in6 forL x (by decide)
  have hf := fun H => frz_last H forL 4 rfl
  simp only [forL] at hin hf
  refine C_any l.length (lockAt w) (fun i s H => s 0 = .sl (toks l) ∧ s 3 = .int .i64 (i : Int)) hr ⟨by simp only [go_sem, bx], by simp only [go_sem, bx]; rfl⟩ ?_ ?_ ?_
  · rintro i s H hi hp ⟨h0, h3⟩
    have hd : ((i : Int) < (l.length : Int)) := by omega
    have w1 : IntKind.i64.wrap ((i : Int) + 1) = ((i + 1 : Nat) : Int) := wrap_succ (by simp only [maxL]; omega)
    unfold lockAt at hp
    simp only [forL] at hp
    cases b1 : (strAt w i == [102, 111, 114])
    · simp only [go_sem, bx, L55_0, h0, h3, hd, w1, call_pure pure_53, hw6, wn, b1]
    · rw [b1, Bool.true_and] at hp
      simp only [go_sem, bx, L55_0, h0, h3, hd, w1, call_pure pure_53, hw6, wn, b1, bs_str, hf, call_pure pure_81, hin, hp]
  · rintro i s H hi hp rfl ⟨h0, h3⟩
    have hd : ((i : Int) < (l.length : Int)) := by omega
    have w1 : IntKind.i64.wrap ((i : Int) + 1) = ((i + 1 : Nat) : Int) := wrap_succ (by simp only [maxL]; omega)
    unfold lockAt at hp
    simp only [forL, Bool.and_eq_true] at hp
    obtain ⟨b1, hp⟩ := hp
    simp only [go_sem, bx, L55_0, h0, h3, hd, w1, call_pure pure_53, hw6, wn, b1, bs_str, hf, call_pure pure_81, hin, hp]
  · rintro s H rfl ⟨h0, h3⟩
    have hd : ¬ ((l.length : Int) < (l.length : Int)) := by omega
    simp only [go_sem, bx, L55_0, h0, h3, hd]
end Go.Proofs
/- The sets' layer: the reference's class of tokens. -/

set_option linter.unusedSimpArgs false
set_option linter.unusedVariables false
namespace Go.Proofs
open Go.Vam
theorem p_system (l : List Tok) (hs : Small l) : PV 56 [.sl (toks l)] = some (.bool ((List.range l.length).any fun i => calledAt l i && pgIs (tokAt l i).text)) := by
  refine PV_start k56 rfl (Nat.le_of_ble_eq_true rfl) ?_
  have hlen := hs.len
  simp only [go_sem, bx, K56]
  generalize hr : (List.range l.length).any (fun i => calledAt l i && pgIs (tokAt l i).text) = r
  refine C_any l.length _ (fun i s H => s 0 = .sl (toks l) ∧ s 3 = .int .i64 (i : Int)) hr ⟨by simp only [go_sem, bx], by simp only [go_sem, bx]; rfl⟩ ?_ ?_ ?_
  · rintro i s H hi hp ⟨h0, h3⟩
    have hd : ((i : Int) < (l.length : Int)) := by omega
    have w1 : IntKind.i64.wrap ((i : Int) + 1) = ((i + 1 : Nat) : Int) := wrap_succ (by simp only [maxL]; omega)
    have hg := fun H => indexAddr_22 l .i64 (i : Int) H (by omega) hd
    have hc := p_called l i hi hlen
    unfold pgIs at hp
    cases b1 : calledAt l i
    · simp only [go_sem, bx, L56_0, h0, h3, hd, w1, call_pure pure_82, hc, b1]
    · rw [b1, Bool.true_and] at hp
      by_cases b2 : (3 : Int) ≤ ((tokAt l i).text.length : Int)
      · have hsl := fun H => slice_str (tokAt l i).text 3 (by omega) H
        simp only [Int.cast_ofNat_Int] at hsl
        rw [decide_eq_true b2, Bool.true_and] at hp
        simp only [go_sem, bx, L56_0, h0, h3, hd, w1, hg, tok, call_pure pure_82, hc, b1, b2, hsl, hp]
      · simp only [go_sem, bx, L56_0, h0, h3, hd, w1, hg, tok, call_pure pure_82, hc, b1, b2]
  · rintro i s H hi hp rfl ⟨h0, h3⟩
    have hd : ((i : Int) < (l.length : Int)) := by omega
    have hg := fun H => indexAddr_22 l .i64 (i : Int) H (by omega) hd
    have hc := p_called l i hi hlen
    unfold pgIs at hp
    simp only [Bool.and_eq_true, decide_eq_true_eq] at hp
    obtain ⟨b1, b2, hp⟩ := hp
    have hsl := fun H => slice_str (tokAt l i).text 3 (by omega) H
    simp only [Int.cast_ofNat_Int] at hsl
    simp only [go_sem, bx, L56_0, h0, h3, hd, hg, tok, call_pure pure_82, hc, b1, b2, hsl, hp]
  · rintro s H rfl ⟨h0, h3⟩
    have hd : ¬ ((l.length : Int) < (l.length : Int)) := by omega
    simp only [go_sem, bx, L56_0, h0, h3, hd]
theorem p_calls6 (l : List Tok) (ws : List (List UInt8)) (hs : Small l) (hw : ws.length ≤ 1000) : PV 57 [.sl (toks l), .sl (strs ws)] = some (.bool ((List.range l.length).any fun i => calledAt l i && ws.contains (tokAt l i).text)) := by
  refine PV_start k57 rfl (Nat.le_of_ble_eq_true rfl) ?_
  have hlen := hs.len
  simp only [go_sem, bx, K57]
  generalize hr : (List.range l.length).any (fun i => calledAt l i && ws.contains (tokAt l i).text) = r
  refine C_any l.length _ (fun i s H => s 0 = .sl (toks l) ∧ s 1 = .sl (strs ws) ∧ s 5 = .int .i64 (i : Int)) hr ⟨by simp only [go_sem, bx], by simp only [go_sem, bx], by simp only [go_sem, bx]; rfl⟩ ?_ ?_ ?_
  · rintro i s H hi hp ⟨h0, h1, h3⟩
    have hd : ((i : Int) < (l.length : Int)) := by omega
    have w1 : IntKind.i64.wrap ((i : Int) + 1) = ((i + 1 : Nat) : Int) := wrap_succ (by simp only [maxL]; omega)
    have hg := fun H => indexAddr_22 l .i64 (i : Int) H (by omega) hd
    have hc := p_called l i hi hlen
    have hin := p_in6 ws (tokAt l i).text hw
    cases b1 : calledAt l i
    · simp only [go_sem, bx, L57_0, h0, h1, h3, hd, w1, call_pure pure_82, hc, b1]
    · rw [b1, Bool.true_and] at hp
      simp only [go_sem, bx, L57_0, h0, h1, h3, hd, w1, hg, tok, call_pure pure_82, call_pure pure_81, hc, b1, hin, hp]
  · rintro i s H hi hp rfl ⟨h0, h1, h3⟩
    have hd : ((i : Int) < (l.length : Int)) := by omega
    have hg := fun H => indexAddr_22 l .i64 (i : Int) H (by omega) hd
    have hc := p_called l i hi hlen
    have hin := p_in6 ws (tokAt l i).text hw
    simp only [Bool.and_eq_true] at hp
    obtain ⟨b1, hp⟩ := hp
    simp only [go_sem, bx, L57_0, h0, h1, h3, hd, hg, tok, call_pure pure_82, call_pure pure_81, hc, b1, hin, hp]
  · rintro s H rfl ⟨h0, h1, h3⟩
    have hd : ¬ ((l.length : Int) < (l.length : Int)) := by omega
    simp only [go_sem, bx, L57_0, h0, h3, hd]
theorem p_has6 (l : List Tok) (ws : List (List UInt8)) (hs : Small l) (hw : ws.length ≤ 1000) : PV 58 [.sl (toks l), .sl (strs ws)] = some (.bool ((List.range l.length).any fun i => decide ((tokAt l i).kind = 1) && ws.contains (tokAt l i).text)) := by
  refine PV_start k58 rfl (Nat.le_of_ble_eq_true rfl) ?_
  have hlen := hs.len
  simp only [go_sem, bx, K58]
  generalize hr : (List.range l.length).any (fun i => decide ((tokAt l i).kind = 1) && ws.contains (tokAt l i).text) = r
  refine C_any l.length _ (fun i s H => s 0 = .sl (toks l) ∧ s 1 = .sl (strs ws) ∧ s 5 = .int .i64 (i : Int)) hr ⟨by simp only [go_sem, bx], by simp only [go_sem, bx], by simp only [go_sem, bx]; rfl⟩ ?_ ?_ ?_
  · rintro i s H hi hp ⟨h0, h1, h3⟩
    have hd : ((i : Int) < (l.length : Int)) := by omega
    have w1 : IntKind.i64.wrap ((i : Int) + 1) = ((i + 1 : Nat) : Int) := wrap_succ (by simp only [maxL]; omega)
    have hg := fun H => indexAddr_22 l .i64 (i : Int) H (by omega) hd
    have hin := p_in6 ws (tokAt l i).text hw
    cases b1 : decide ((tokAt l i).kind = 1)
    · simp only [go_sem, bx, L58_0, h0, h1, h3, hd, w1, hg, tok, b1]
    · rw [b1, Bool.true_and] at hp
      simp only [go_sem, bx, L58_0, h0, h1, h3, hd, w1, hg, tok, call_pure pure_81, b1, hin, hp]
  · rintro i s H hi hp rfl ⟨h0, h1, h3⟩
    have hd : ((i : Int) < (l.length : Int)) := by omega
    have hg := fun H => indexAddr_22 l .i64 (i : Int) H (by omega) hd
    have hin := p_in6 ws (tokAt l i).text hw
    rw [Bool.and_eq_true] at hp
    obtain ⟨b1, hp⟩ := hp
    simp only [go_sem, bx, L58_0, h0, h1, h3, hd, hg, tok, call_pure pure_81, b1, hin, hp]
  · rintro s H rfl ⟨h0, h1, h3⟩
    have hd : ¬ ((l.length : Int) < (l.length : Int)) := by omega
    simp only [go_sem, bx, L58_0, h0, h3, hd]
/-! ### classes, in the reference's order -/
def classR (w : List (List UInt8)) (q : Int) : Int :=
  if w.length = 0 then 0 else
  if (W35_0.map (·.2)).contains (strAt w 0) then q else
  if (W35_1.map (·.2)).contains (strAt w 0) then 2 else
  if strAt w 0 == [98, 101, 103, 105, 110] then 3 else
  if strAt w 0 == [115, 116, 97, 114, 116] then (if strAt w 1 == [116, 114, 97, 110, 115, 97, 99, 116, 105, 111, 110] then 3 else 8) else
  if (W35_2.map (·.2)).contains (strAt w 0) then 4 else
  if (W35_3.map (·.2)).contains (strAt w 0) then (if w.contains [116, 111] then 8 else 5) else
  if (W35_4.map (·.2)).contains (strAt w 0) then 6 else 8
theorem mem5 {x : List UInt8} {l : List (List UInt8)} (h : l.contains x = true) : x ∈ l := by simpa using h
theorem classR_eq (w : List (List UInt8)) (q : Int) : classR w q = classW w q := by
  unfold classR classW
  have h1 : (decide (1 < (w.length : Int)) && (strAt w 1 == [116, 114, 97, 110, 115, 97, 99, 116, 105, 111, 110])) = (strAt w 1 == [116, 114, 97, 110, 115, 97, 99, 116, 105, 111, 110]) := by
    by_cases h : 1 < w.length
    · simp [show (1 : Int) < (w.length : Int) by omega]
    · rw [strAt_out (i := 1) (by omega)]
      simp
  rw [h1]
  generalize strAt w 1 = y
  generalize strAt w 0 = x
  by_cases h0 : w.length = 0
  · rw [if_pos h0, if_pos h0]
  rw [if_neg h0, if_neg h0]
  have e0 : W35_0.map (·.2) = W33_0.map (·.2) := rfl
  have e3 : W35_3.map (·.2) = W33_1.map (·.2) := rfl
  rw [e0, e3]
  cases c0 : (W33_0.map (·.2)).contains x
  · simp only [Bool.false_eq_true, if_false]
    cases c1 : (W35_1.map (·.2)).contains x
    · cases c2 : (x == [98, 101, 103, 105, 110])
      · cases c3 : (x == [115, 116, 97, 114, 116])
        · cases c4 : (W35_2.map (·.2)).contains x
          · cases c5 : (W33_1.map (·.2)).contains x
            · cases c6 : (W35_4.map (·.2)).contains x
              · have : ((firstsS 9).map (·.1)).contains x = false := by
                  have e : (firstsS 9).map (·.1) = [98, 101, 103, 105, 110] :: (W35_2.map (·.2) ++ (W35_1.map (·.2) ++ W35_4.map (·.2))) := rfl
                  rw [e, List.contains_cons, List.contains_append, List.contains_append, c1, c2, c4, c6]
                  rfl
                simp only [this, Bool.false_eq_true, if_false]
              · simp only [Bool.false_eq_true, if_false, if_true]
                have := mem5 c6
                simp only [W35_4, List.map_cons, List.map_nil, List.mem_cons, List.not_mem_nil, or_false] at this
                rcases this with rfl | rfl | rfl | rfl | rfl | rfl | rfl | rfl | rfl <;> rfl
            · simp only [Bool.false_eq_true, if_false, if_true]
          · simp only [Bool.false_eq_true, if_false, if_true]
            have := mem5 c4
            simp only [W35_2, List.map_cons, List.map_nil, List.mem_cons, List.not_mem_nil, or_false] at this
            rcases this with rfl | rfl <;> rfl
        · simp only [Bool.false_eq_true, if_false, if_true]
      · have := eq_of_beq c2
        subst this
        rfl
    · simp only [if_true]
      have := mem5 c1
      simp only [W35_1, List.map_cons, List.map_nil, List.mem_cons, List.not_mem_nil, or_false] at this
      rcases this with rfl | rfl | rfl | rfl | rfl <;> rfl
  · simp only [if_true]
theorem has_to (l : List Tok) : ((List.range l.length).any fun i => decide ((tokAt l i).kind = 1) && [([116, 111] : List UInt8)].contains (tokAt l i).text) = (l.map wordOf).contains [116, 111] := by
  rw [Bool.eq_iff_iff, List.any_eq_true, List.contains_iff_mem]
  constructor
  · rintro ⟨i, hi, h⟩
    have hi' := List.mem_range.1 hi
    rw [tokAt_nat hi'] at h
    simp only [Bool.and_eq_true, decide_eq_true_eq, List.contains_iff_mem, List.mem_singleton] at h
    refine List.mem_map.2 ⟨l[i], List.getElem_mem hi', ?_⟩
    unfold wordOf
    rw [if_pos h.1, h.2]
  · intro h
    obtain ⟨t, ht, he⟩ := List.mem_map.1 h
    obtain ⟨i, hi, rfl⟩ := List.getElem_of_mem ht
    refine ⟨i, List.mem_range.2 hi, ?_⟩
    rw [tokAt_nat hi]
    unfold wordOf at he
    split at he
    · rename_i hk
      simp only [Bool.and_eq_true, decide_eq_true_eq, List.contains_iff_mem, List.mem_singleton]
      exact ⟨hk, he⟩
    · cases he
theorem any_or {n : Nat} (p q r : Nat → Bool) (h : ∀ i, r i = (p i || q i)) : (List.range n).any r = ((List.range n).any p || (List.range n).any q) := by
  induction n with
  | zero => rfl
  | succ n ih =>
    rw [List.range_succ, List.any_append, List.any_append, List.any_append, ih]
    simp only [List.any_cons, List.any_nil, Bool.or_false, h]
    cases (List.range n).any p <;> cases (List.range n).any q <;> cases p n <;> cases q n <;> rfl
theorem p_class6 (l : List Tok) (hs : Small l) : PV 35 [.sl (toks l)] = some (.int .i64 (classOf l)) := by
  refine PV_start k35 rfl (Nat.le_of_ble_eq_true rfl) ?_
  have hlen := hs.len
  have hwl : (l.map wordOf).length = l.length := List.length_map _
  unfold classOf
  rw [← classR_eq, classR]
  by_cases h0 : l.length = 0
  · have hd : ((l.length : Int) = 0) := by omega
    rw [if_pos (by rw [hwl]; exact h0)]
    simp only [go_sem, bx, K35, hd, decide_true]
  · have hd : decide ((l.length : Int) = 0) = false := decide_eq_false (by omega)
    rw [if_neg (by rw [hwl]; exact h0)]
    have hw6 := fun i => p_word6 l i
    have z0 : wAt (l.map wordOf) 0 = strAt (l.map wordOf) 0 := rfl
    have z1 : wAt (l.map wordOf) 1 = strAt (l.map wordOf) 1 := rfl
    have hwr := p_writes6 l hs
    have hlo := p_locks6 l hs
    have hsy := p_system l hs
    have hca := p_calls6 l nowL hs (by decide)
    have hha := p_has6 l [[116, 111]] hs (by decide)
    rw [has_to] at hha
    have hf8 := frz_last [] nowL 8 rfl
    have hf1 := frz_last [] [[116, 111]] 1 rfl
    have hor := any_or (n := l.length) (fun i => calledAt l i && pgIs (tokAt l i).text) (fun i => calledAt l i && nowL.contains (tokAt l i).text) (callP l) (fun i => by unfold callP; cases calledAt l i <;> rfl)
    have hq : queryOf l = if writesB l then 2 else if locksB l || (((List.range l.length).any fun i => calledAt l i && pgIs (tokAt l i).text) || (List.range l.length).any fun i => calledAt l i && nowL.contains (tokAt l i).text) then 7 else 1 := by
      unfold queryOf callsB
      rw [hor]
    rw [hq]
    simp only [nowL, List.length_nil, List.nil_append] at hf8 hca hf1
    have hnl : nowL = [[110, 111, 119], [114, 97, 110, 100, 111, 109], [110, 101, 120, 116, 118, 97, 108], [99, 117, 114, 114, 118, 97, 108], [115, 101, 116, 118, 97, 108], [108, 97, 115, 116, 118, 97, 108], [99, 108, 111, 99, 107, 95, 116, 105, 109, 101, 115, 116, 97, 109, 112], [116, 120, 105, 100, 95, 99, 117, 114, 114, 101, 110, 116]] := rfl
    rw [hnl]
    generalize ((List.range l.length).any fun i => calledAt l i && pgIs (tokAt l i).text) = sy at *
    generalize ((List.range l.length).any fun i => calledAt l i && List.contains _ (tokAt l i).text) = ca at *
    generalize writesB l = wr at *
    generalize locksB l = lo at *
    generalize (l.map wordOf).contains [116, 111] = ha at *
    generalize strAt (l.map wordOf) 1 = y at *
    generalize strAt (l.map wordOf) 0 = x at *
    cases b0 : (W35_0.map (·.2)).contains x
    · cases b1 : (W35_1.map (·.2)).contains x
      · cases b2 : (x == [98, 101, 103, 105, 110])
        · cases b3 : (x == [115, 116, 97, 114, 116])
          · cases b4 : (W35_2.map (·.2)).contains x
            · cases b5 : (W35_3.map (·.2)).contains x
              · cases b6 : (W35_4.map (·.2)).contains x
                · simp only [go_sem, bx, K35, hd, call_pure pure_53, hw6, z0, b0, b1, b2, b3, b4, b5, b6]
                · simp only [go_sem, bx, K35, hd, call_pure pure_53, hw6, z0, b0, b1, b2, b3, b4, b5, b6]
              · cases ha
                · simp only [go_sem, bx, K35, hd, call_pure pure_53, hw6, z0, b0, b1, b2, b3, b4, b5, bs_str, hf1, call_pure pure_58, hha]
                · simp only [go_sem, bx, K35, hd, call_pure pure_53, hw6, z0, b0, b1, b2, b3, b4, b5, bs_str, hf1, call_pure pure_58, hha]
            · simp only [go_sem, bx, K35, hd, call_pure pure_53, hw6, z0, b0, b1, b2, b3, b4]
          · cases b4 : (y == [116, 114, 97, 110, 115, 97, 99, 116, 105, 111, 110])
            · simp only [go_sem, bx, K35, hd, call_pure pure_53, hw6, z0, z1, b0, b1, b2, b3, b4]
            · simp only [go_sem, bx, K35, hd, call_pure pure_53, hw6, z0, z1, b0, b1, b2, b3, b4]
        · simp only [go_sem, bx, K35, hd, call_pure pure_53, hw6, z0, b0, b1, b2]
      · simp only [go_sem, bx, K35, hd, call_pure pure_53, hw6, z0, b0, b1]
    · cases wr
      · cases lo
        · cases sy
          · cases ca
            · simp only [go_sem, bx, K35, hd, call_pure pure_53, hw6, z0, b0, call_pure pure_54, hwr, call_pure pure_55, hlo, call_pure pure_56, hsy, bs_str, hf8, call_pure pure_57, hca, Bool.or_false]
            · simp only [go_sem, bx, K35, hd, call_pure pure_53, hw6, z0, b0, call_pure pure_54, hwr, call_pure pure_55, hlo, call_pure pure_56, hsy, bs_str, hf8, call_pure pure_57, hca, Bool.or_true]
          · simp only [go_sem, bx, K35, hd, call_pure pure_53, hw6, z0, b0, call_pure pure_54, hwr, call_pure pure_55, hlo, call_pure pure_56, hsy, Bool.or_true, Bool.true_or]
        · simp only [go_sem, bx, K35, hd, call_pure pure_53, hw6, z0, b0, call_pure pure_54, hwr, call_pure pure_55, hlo, Bool.true_or]
      · simp only [go_sem, bx, K35, hd, call_pure pure_53, hw6, z0, b0, call_pure pure_54, hwr]
end Go.Proofs
/- The sets' layer: bytes; texts in quotes. -/


set_option linter.unusedSimpArgs false
set_option linter.unusedVariables false
namespace Go.Proofs
open Go.Vam
def bys (l : List UInt8) : List (List AV) := l.map fun b => [.int .u8 b.toNat]
def byteAt (s : List UInt8) (i : Nat) : UInt8 := (s[i]?).getD 0
theorem byteAt_lt {s : List UInt8} {i : Nat} (h : i < s.length) : byteAt s i = s[i] := by simp [byteAt, h]
theorem idx9 {s : List UInt8} {i : Nat} (h : i < s.length) : aindex Try.prog 9 (.str s) (.int .i64 (i : Int)) = some (.int .u8 ((byteAt s i).toNat : Int)) := by
  rw [byteAt_lt h]
  exact index_str _ _ strT_9 (List.getElem?_eq_getElem h)
theorem u8_eq (a b : UInt8) : decide ((a.toNat : Int) = (b.toNat : Int)) = (a == b) := by
  rw [Bool.eq_iff_iff, decide_eq_true_eq, beq_iff_eq]
  constructor
  · intro h
    exact UInt8.toNat_inj.1 (by omega)
  · rintro rfl
    rfl
theorem bytesOf_bys (l : List UInt8) : bytesOf (bys l) = some l := by
  induction l with
  | nil => rfl
  | cons a l ih =>
    simp only [bys, List.map_cons] at ih ⊢
    simp only [bytesOf, ih, Option.map_some]
    simp
theorem append_byte {H : AHeap} {v : AV} {l : List UInt8} (x : UInt8) (ho : Own 5 H v (bys l)) (hl : l.length < 100000000) :
    ∃ v' H', aappend Try.prog 88 88 v (.hs H.length 0 1) (H ++ [.arr 5 true 0 [[.int .u8 (x.toNat : Int)]]]) = some (v', H') ∧ Own 5 H' v' (bys (l ++ [x])) ∧ KeepBut v H H' := by
  obtain ⟨v', H', h1, h2, h3⟩ := append_one (m := 0) sliceT_88 bytesT_5 szOf_5 zeroT_5 (by decide) ho (by simpa [bys] using hl) (c := [.int .u8 (x.toNat : Int)]) rfl rfl
  exact ⟨v', H', h1, by simpa [bys] using h2, h3⟩
def isInt : AV → Bool
  | .int _ _ => true
  | _ => false
@[go_sem] theorem isInt_int (k : IntKind) (n : Int) : isInt (.int k n) = true := rfl
theorem bs_byte1 (n : Int) (H : AHeap) : abuildSlice Try.prog 88 1 [(0, .int .u8 n)] H = some (.hs H.length 0 1, H ++ [.arr 5 true 0 [[.int .u8 n]]]) := by
  rw [bs_gen sliceT_88 zeroT_5 (q := isInt) (fun x hx => by cases x <;> first | exact ⟨rfl, rfl⟩ | cases hx) H (by simp) rfl]
  rfl
theorem conv_own {H : AHeap} {v : AV} {l : List UInt8} (ho : Own 5 H v (bys l)) : aconvert Try.prog 88 9 v H = some (.str l, H) := by
  have he : aelems v H = some (bys l) := by
    rcases ho with ⟨rfl, h⟩ | ⟨id, rfl, h⟩
    · simp [aelems, h]
    · simp [aelems, h]
  have hc : aconvert Try.prog 88 9 v H = ((aelems v H).bind bytesOf).map fun s => (.str s, H) := by
    rcases ho with ⟨rfl, h⟩ | ⟨id, rfl, h⟩
    · simp [aconvert, sliceT_88, strT_9, intT_5]
    · simp [aconvert, sliceT_88, strT_9, intT_5]
  rw [hc, he]
  simp [bytesOf_bys]
/-! ### texts in quotes -/
def dblB (q : UInt8) (s : List UInt8) : List UInt8 := s.flatMap fun c => if c == q then [q, c] else [c]
def dbl (q : UInt8) (s : List UInt8) : List UInt8 := q :: (dblB q s ++ [q])
theorem dblB_len (q : UInt8) (s : List UInt8) : (dblB q s).length ≤ 2 * s.length := by
  induction s with
  | nil => exact Nat.le_refl _
  | cons c s ih =>
    unfold dblB at ih ⊢
    rw [List.flatMap_cons, List.length_append, List.length_cons]
    split <;> simp only [List.length_cons, List.length_nil] <;> omega
theorem take_byte {s : List UInt8} {i : Nat} (h : i < s.length) : s.take (i + 1) = s.take i ++ [byteAt s i] := by
  rw [List.take_add_one, List.getElem?_eq_getElem h, byteAt_lt h]
  rfl
theorem dblB_step {q : UInt8} {s : List UInt8} {i : Nat} (h : i < s.length) : dblB q (s.take (i + 1)) = dblB q (s.take i) ++ (if byteAt s i == q then [q, byteAt s i] else [byteAt s i]) := by
  rw [take_byte h]
  unfold dblB
  rw [List.flatMap_append, List.flatMap_cons, List.flatMap_nil, List.append_nil]
theorem dblB_take (q : UInt8) (s : List UInt8) (i : Nat) : (dblB q (s.take i)).length ≤ 2 * s.length :=
  Nat.le_trans (dblB_len q _) (Nat.mul_le_mul_left _ (by simp; omega))
theorem p_double (s : List UInt8) (q : UInt8) (hs : s.length ≤ 10000000) : PV 80 [.str s, .int .u8 (q.toNat : Int)] = some (.str (dbl q s)) := by
  refine PV_start k80 rfl (Nat.le_of_ble_eq_true rfl) ?_
  have b0 := bs_byte1 (q.toNat : Int) []
  simp only [go_sem, bx] at b0
  simp only [go_sem, bx, K80, b0]
  refine C_for s.length (fun i st H => st 0 = .str s ∧ st 1 = .int .u8 (q.toNat : Int) ∧ st 10 = .int .i64 (s.length : Int) ∧ st 11 = .int .i64 (i : Int) ∧ Own 5 H (st 5) (bys (q :: dblB q (s.take i)))) ⟨by simp only [go_sem, bx], by simp only [go_sem, bx], by simp only [go_sem, bx], by simp only [go_sem, bx]; rfl, .inr ⟨0, by simp only [go_sem, bx]; rfl, rfl⟩⟩ ?_ ?_
  · rintro i st H hi ⟨h0, h1, h10, h11, ho⟩
    have hd : ((i : Int) < (s.length : Int)) := by omega
    have hw : IntKind.i64.wrap ((i : Int) + 1) = ((i + 1 : Nat) : Int) := wrap_succ (by simp only [maxL]; omega)
    have hix := idx9 hi
    have hlen := dblB_take q s i
    have hst := dblB_step (q := q) hi
    generalize hv : st 5 = v at ho
    cases hb : (byteAt s i == q)
    · rw [hb] at hst
      simp only [Bool.false_eq_true, if_false] at hst
      obtain ⟨v1, H1, e1, o1, -⟩ := append_byte (byteAt s i) ho (by simp only [List.length_cons]; omega)
      rw [List.cons_append, ← hst] at o1
      simp only [go_sem, bx, L80_0, h0, h1, h10, h11, hv, hd, hix, u8_eq, hb, bs_byte1, bi_append, e1, hw]
      exact o1
    · rw [hb] at hst
      simp only [if_true] at hst
      obtain ⟨v1, H1, e1, o1, -⟩ := append_byte q ho (by simp only [List.length_cons]; omega)
      obtain ⟨v2, H2, e2, o2, -⟩ := append_byte (byteAt s i) o1 (by simp only [List.length_cons, List.length_append, List.length_nil]; omega)
      rw [List.cons_append, List.cons_append, List.append_assoc, List.singleton_append, ← hst] at o2
      simp only [go_sem, bx, L80_0, h0, h1, h10, h11, hv, hd, hix, u8_eq, hb, bs_byte1, bi_append, e1, e2, hw]
      exact o2
  · rintro st H ⟨h0, h1, h10, h11, ho⟩
    have hd : ¬ ((s.length : Int) < (s.length : Int)) := by omega
    have hlen := dblB_take q s s.length
    rw [List.take_length] at ho hlen
    generalize hv : st 5 = v at ho
    obtain ⟨v1, H1, e1, o1, -⟩ := append_byte q ho (by simp only [List.length_cons]; omega)
    have hc := conv_own o1
    simp only [go_sem, bx, L80_0, h1, h10, h11, hv, hd, bs_byte1, bi_append, e1, hc]
    rfl
theorem slice_one {s : List UInt8} {i : Nat} (h : i < s.length) (H : AHeap) : aslice Try.prog 9 (.str s) (some (.int .i64 (i : Int))) (some (.int .i64 ((i + 1 : Nat) : Int))) H = some (.str [byteAt s i]) := by
  unfold aslice
  simp only [strT_9, if_true, asBound]
  rw [if_pos (by omega), if_pos (by omega)]
  simp only [Int.toNat_natCast]
  rw [if_pos ⟨by omega, by omega⟩, byteAt_lt h, List.take_add_one, List.getElem?_eq_getElem h, List.drop_append]
  have : (s.take i).length = i := by simp; omega
  rw [this, Nat.sub_self, List.drop_of_length_le (by omega)]
  rfl
theorem beq_one (a b : UInt8) : (([a] : List UInt8) == [b]) = (a == b) := by
  rw [Bool.eq_iff_iff]
  simp
theorem p_double4 (s : List UInt8) (q : UInt8) (hs : s.length ≤ 10000000) : PV 84 [.str s, .str [q]] = some (.str (dbl q s)) := by
  refine PV_start k84 rfl (Nat.le_of_ble_eq_true rfl) ?_
  simp only [go_sem, bx, K84]
  refine C_for s.length (fun i st H => st 0 = .str s ∧ st 1 = .str [q] ∧ st 6 = .int .i64 (i : Int) ∧ st 5 = .str (q :: dblB q (s.take i))) ⟨by simp only [go_sem, bx], by simp only [go_sem, bx], by simp only [go_sem, bx]; rfl, by simp only [go_sem, bx]; rfl⟩ ?_ ?_
  · rintro i st H hi ⟨h0, h1, h6, h5⟩
    have hd : ((i : Int) < (s.length : Int)) := by omega
    have hw : IntKind.i64.wrap ((i : Int) + 1) = ((i + 1 : Nat) : Int) := wrap_succ (by simp only [maxL]; omega)
    have hsl := fun H => slice_one hi H
    have hlen := dblB_take q s i
    have hst := dblB_step (q := q) hi
    rw [hst]
    cases hb : (byteAt s i == q)
    · have ha := b_sadd Try.prog 9 (q :: dblB q (s.take i)) [byteAt s i] (by simp only [List.length_cons, List.length_nil]; omega)
      simp only [go_sem, bx, L84_0, h0, h1, h5, h6, hd, hsl, beq_one, hb, ha, hw]
    · have ha := b_sadd Try.prog 9 (q :: dblB q (s.take i)) [q] (by simp only [List.length_cons, List.length_nil]; omega)
      have ha2 := b_sadd Try.prog 9 (q :: dblB q (s.take i) ++ [q]) [byteAt s i] (by simp only [List.length_cons, List.length_nil, List.length_append]; omega)
      simp only [List.cons_append] at ha ha2
      simp only [go_sem, bx, L84_0, h0, h1, h5, h6, hd, hsl, beq_one, hb, ha, ha2, hw, List.append_assoc]
  · rintro st H ⟨h0, h1, h6, h5⟩
    have hd : ¬ ((s.length : Int) < (s.length : Int)) := by omega
    have hlen := dblB_take q s s.length
    rw [List.take_length] at h5 hlen
    have ha := b_sadd Try.prog 9 (q :: dblB q s) [q] (by simp only [List.length_cons, List.length_nil]; omega)
    simp only [go_sem, bx, L84_0, h0, h1, h5, h6, hd, ha]
    rfl
end Go.Proofs
/- The sets' layer: tokens as text. -/

set_option linter.unusedSimpArgs false
set_option linter.unusedVariables false
namespace Go.Proofs
open Go.Vam
def showT (t : Tok) : List UInt8 := if t.kind = 2 then dbl 34 t.text else if t.kind = 3 then dbl 39 t.text else t.text
def showUpto (l : List Tok) : Nat → List UInt8
  | 0 => []
  | i + 1 => showUpto l i ++ (if 0 < i then [32] else []) ++ showT (tokAt l i)
def showL (l : List Tok) : List UInt8 := showUpto l l.length
theorem dbl_len (q : UInt8) (s : List UInt8) : (dbl q s).length ≤ 2 * s.length + 2 := by
  have := dblB_len q s
  unfold dbl
  simp only [List.length_cons, List.length_append, List.length_nil]
  omega
theorem showT_len (t : Tok) : (showT t).length ≤ 2 * t.text.length + 2 := by
  unfold showT
  split
  · exact dbl_len _ _
  · split
    · exact dbl_len _ _
    · omega
theorem showUpto_len {l : List Tok} (hs : Small l) : ∀ i, (showUpto l i).length ≤ i * 2000004
  | 0 => by simp [showUpto]
  | i + 1 => by
    have ih := showUpto_len hs i
    have h1 := showT_len (tokAt l i)
    have h2 := hs.at i
    unfold showUpto
    simp only [List.length_append]
    split <;> simp only [List.length_cons, List.length_nil] <;> omega
/-- A token, put into a variable of its own. -/
theorem tok_put (H : AHeap) (t : Tok) : astore Try.prog 40 (.ptr H.length 0 0) (.agg (tok t)) (H ++ [.arr 40 true 0 [[.int .i64 0, .str [], .int .i64 0]]]) = some (H ++ [.arr 40 true 0 [tok t]]) :=
  store_agg (c := tok t) (z := [.int .i64 0, .str [], .int .i64 0]) szOf_40 rfl rfl H
theorem tok_got (H : AHeap) (t : Tok) : (H ++ [AO.arr 40 true 0 [tok t]])[H.length]? = some (.arr 40 true 0 [tok t]) := by simp
theorem show_sum {l : List Tok} (hs : Small l) {i : Nat} (hi : i < l.length) : (showUpto l i).length + 1 + (showT (tokAt l i)).length ≤ 9223372036854775807 := by
  have h0 := showUpto_len hs i
  have h1 := showT_len (tokAt l i)
  have h2 := hs.at i
  have h3 := hs.len
  omega
theorem p_show (l : List Tok) (hs : Small l) : PV 52 [.sl (toks l)] = some (.str (showL l)) := by
  refine PV_start k52 rfl (Nat.le_of_ble_eq_true rfl) ?_
  have hlen := hs.len
  simp only [go_sem, bx, K52]
  refine C_for l.length (fun i st H => st 6 = .sl (toks l) ∧ st 7 = .int .i64 (l.length : Int) ∧ st 8 = .int .i64 (i : Int) ∧ st 3 = .str (showUpto l i)) ⟨by simp only [go_sem, bx], by simp only [go_sem, bx], by simp only [go_sem, bx]; rfl, by simp only [go_sem, bx]; rfl⟩ ?_ ?_
  · rintro i st H hi ⟨h6, h7, h8, h3⟩
    have hd : ((i : Int) < (l.length : Int)) := by omega
    have hw : IntKind.i64.wrap ((i : Int) + 1) = ((i + 1 : Nat) : Int) := wrap_succ (by simp only [maxL]; omega)
    have hg := indexAddr_22 l .i64 (i : Int) H (by omega) hd
    have hsum := show_sum hs hi
    have hat := hs.at i
    have d34 := p_double (tokAt l i).text 34 (by omega)
    have d39 := p_double (tokAt l i).text 39 (by omega)
    have e34 : ((34 : UInt8).toNat : Int) = 34 := rfl
    have e39 : ((39 : UInt8).toNat : Int) = 39 := rfl
    rw [e34] at d34
    rw [e39] at d39
    have hput := tok_put H (tokAt l i)
    have hgot := tok_got H (tokAt l i)
    have hup : showUpto l (i + 1) = showUpto l i ++ (if 0 < i then [32] else []) ++ showT (tokAt l i) := rfl
    have hT : showT (tokAt l i) = if (tokAt l i).kind = 2 then dbl 34 (tokAt l i).text else if (tokAt l i).kind = 3 then dbl 39 (tokAt l i).text else (tokAt l i).text := rfl
    rw [hup]
    generalize tokAt l i = t at *
    generalize showUpto l i = cur at *
    simp only [tok] at hg hput hgot
    have ha32 := b_sadd Try.prog 9 cur [32] (by simp only [List.length_cons, List.length_nil]; omega)
    have haT : ∀ c x : List UInt8, c.length ≤ cur.length + 1 → x = showT t → abin Try.prog .add 9 (.str c) (.str x) = some (.str (c ++ x)) := by
      rintro c x hc rfl
      exact b_sadd _ _ _ _ (by omega)
    by_cases hi0 : 0 < i
    · have hd0 : ((0 : Int) < (i : Int)) := by omega
      cases k2 : decide (t.kind = 2)
      · cases k3 : decide (t.kind = 3)
        · rw [if_neg (of_decide_eq_false k2), if_neg (of_decide_eq_false k3)] at hT
          have ha := haT (cur ++ [32]) t.text (by simp) hT.symm
          simp only [go_sem, bx, L52_0, h3, h6, h7, h8, hd, hd0, hg, hput, hgot, tok, Nat.le_refl, ha32, k2, k3, ha, hw, hi0, hT]
        · rw [if_neg (of_decide_eq_false k2), if_pos (of_decide_eq_true k3)] at hT
          have ha := haT (cur ++ [32]) _ (by simp) hT.symm
          simp only [go_sem, bx, L52_0, h3, h6, h7, h8, hd, hd0, hg, hput, hgot, tok, Nat.le_refl, ha32, k2, k3, ha, hw, hi0, hT, call_pure pure_80, d39]
      · rw [if_pos (of_decide_eq_true k2)] at hT
        have ha := haT (cur ++ [32]) _ (by simp) hT.symm
        simp only [go_sem, bx, L52_0, h3, h6, h7, h8, hd, hd0, hg, hput, hgot, tok, Nat.le_refl, ha32, k2, ha, hw, hi0, hT, call_pure pure_80, d34]
    · have hd0 : ¬ ((0 : Int) < (i : Int)) := by omega
      cases k2 : decide (t.kind = 2)
      · cases k3 : decide (t.kind = 3)
        · rw [if_neg (of_decide_eq_false k2), if_neg (of_decide_eq_false k3)] at hT
          have ha := haT cur t.text (by simp) hT.symm
          simp only [go_sem, bx, L52_0, h3, h6, h7, h8, hd, hd0, hg, hput, hgot, tok, Nat.le_refl, k2, k3, ha, hw, hi0, hT]
        · rw [if_neg (of_decide_eq_false k2), if_pos (of_decide_eq_true k3)] at hT
          have ha := haT cur _ (by simp) hT.symm
          simp only [go_sem, bx, L52_0, h3, h6, h7, h8, hd, hd0, hg, hput, hgot, tok, Nat.le_refl, k2, k3, ha, hw, hi0, hT, call_pure pure_80, d39]
      · rw [if_pos (of_decide_eq_true k2)] at hT
        have ha := haT cur _ (by simp) hT.symm
        simp only [go_sem, bx, L52_0, h3, h6, h7, h8, hd, hd0, hg, hput, hgot, tok, Nat.le_refl, k2, ha, hw, hi0, hT, call_pure pure_80, d34]
  · rintro st H ⟨h6, h7, h8, h3⟩
    have hd : ¬ ((l.length : Int) < (l.length : Int)) := by omega
    simp only [go_sem, bx, L52_0, h3, h7, h8, hd]
    rfl
theorem p_show4 (l : List Tok) (hs : Small l) : PV 60 [.sl (toks l)] = some (.str (showL l)) := by
  refine PV_start k60 rfl (Nat.le_of_ble_eq_true rfl) ?_
  have hlen := hs.len
  simp only [go_sem, bx, K60]
  refine C_for l.length (fun i st H => st 0 = .sl (toks l) ∧ st 4 = .int .i64 (i : Int) ∧ st 3 = .str (showUpto l i)) ⟨by simp only [go_sem, bx], by simp only [go_sem, bx]; rfl, by simp only [go_sem, bx]; rfl⟩ ?_ ?_
  · rintro i st H hi ⟨h0, h4, h3⟩
    have hd : ((i : Int) < (l.length : Int)) := by omega
    have hw : IntKind.i64.wrap ((i : Int) + 1) = ((i + 1 : Nat) : Int) := wrap_succ (by simp only [maxL]; omega)
    have hg := indexAddr_22 l .i64 (i : Int) H (by omega) hd
    have hsum := show_sum hs hi
    have hat := hs.at i
    have d34 := p_double4 (tokAt l i).text 34 (by omega)
    have d39 := p_double4 (tokAt l i).text 39 (by omega)
    have hup : showUpto l (i + 1) = showUpto l i ++ (if 0 < i then [32] else []) ++ showT (tokAt l i) := rfl
    have hT : showT (tokAt l i) = if (tokAt l i).kind = 2 then dbl 34 (tokAt l i).text else if (tokAt l i).kind = 3 then dbl 39 (tokAt l i).text else (tokAt l i).text := rfl
    rw [hup]
    generalize tokAt l i = t at *
    generalize showUpto l i = cur at *
    simp only [tok] at hg
    have ha32 := b_sadd Try.prog 9 cur [32] (by simp only [List.length_cons, List.length_nil]; omega)
    have haT : ∀ c x : List UInt8, c.length ≤ cur.length + 1 → x = showT t → abin Try.prog .add 9 (.str c) (.str x) = some (.str (c ++ x)) := by
      rintro c x hc rfl
      exact b_sadd _ _ _ _ (by omega)
    by_cases hi0 : 0 < i
    · have hd0 : ((0 : Int) < (i : Int)) := by omega
      cases k2 : decide (t.kind = 2)
      · cases k3 : decide (t.kind = 3)
        · rw [if_neg (of_decide_eq_false k2), if_neg (of_decide_eq_false k3)] at hT
          have ha := haT (cur ++ [32]) t.text (by simp) hT.symm
          simp only [go_sem, bx, L60_0, h0, h3, h4, hd, hd0, hg, ha32, k2, k3, ha, hw, hi0, hT]
        · rw [if_neg (of_decide_eq_false k2), if_pos (of_decide_eq_true k3)] at hT
          have ha := haT (cur ++ [32]) _ (by simp) hT.symm
          simp only [go_sem, bx, L60_0, h0, h3, h4, hd, hd0, hg, ha32, k2, k3, ha, hw, hi0, hT, call_pure pure_84, d39]
      · rw [if_pos (of_decide_eq_true k2)] at hT
        have ha := haT (cur ++ [32]) _ (by simp) hT.symm
        simp only [go_sem, bx, L60_0, h0, h3, h4, hd, hd0, hg, ha32, k2, ha, hw, hi0, hT, call_pure pure_84, d34]
    · have hd0 : ¬ ((0 : Int) < (i : Int)) := by omega
      cases k2 : decide (t.kind = 2)
      · cases k3 : decide (t.kind = 3)
        · rw [if_neg (of_decide_eq_false k2), if_neg (of_decide_eq_false k3)] at hT
          have ha := haT cur t.text (by simp) hT.symm
          simp only [go_sem, bx, L60_0, h0, h3, h4, hd, hd0, hg, k2, k3, ha, hw, hi0, hT]
        · rw [if_neg (of_decide_eq_false k2), if_pos (of_decide_eq_true k3)] at hT
          have ha := haT cur _ (by simp) hT.symm
          simp only [go_sem, bx, L60_0, h0, h3, h4, hd, hd0, hg, k2, k3, ha, hw, hi0, hT, call_pure pure_84, d39]
      · rw [if_pos (of_decide_eq_true k2)] at hT
        have ha := haT cur _ (by simp) hT.symm
        simp only [go_sem, bx, L60_0, h0, h3, h4, hd, hd0, hg, k2, ha, hw, hi0, hT, call_pure pure_84, d34]
  · rintro st H ⟨h0, h4, h3⟩
    have hd : ¬ ((l.length : Int) < (l.length : Int)) := by omega
    simp only [go_sem, bx, L60_0, h0, h3, h4, hd]
    rfl
end Go.Proofs
/- The sets' layer: ranges over texts; numbers in their normal form, in the reference's words. -/

set_option linter.unusedSimpArgs false
set_option linter.unusedVariables false
namespace Go.Proofs
open Go.Vam
/-! ### ranges over texts -/
section
variable (cx : Cx) (s : Slots) (H : AHeap)
def rngV (P : Program) (t : TypeId) (H : AHeap) : AV → Option (AV × AHeap)
  | .str l => if strT P t then some (.it H.length, H ++ [.siter l 0]) else none
  | _ => none
@[go_sem] theorem rngV_str (P : Program) (t : TypeId) (l : List UInt8) : rngV P t H (.str l) = if strT P t then some (.it H.length, H ++ [.siter l 0]) else none := rfl
@[go_sem] theorem o_range (t : TypeId) (x : Operand) : aop cx (.range t x) s H = rngV cx.P t H (ev s x) := by
  simp only [aop, aop0]
  cases ev s x <;> rfl
def nxtO (H : AHeap) (id : Nat) : Option AO → Option (AV × AHeap)
  | some (.siter l pos) => if pos < l.length then some (.tup [.bool true, .int .i64 pos, .int .i32 (Utf8.decode ⟨l.toArray⟩ pos).1], H.set id (.siter l (pos + (Utf8.decode ⟨l.toArray⟩ pos).2))) else some (.tup [.bool false], H)
  | _ => none
def nxtV (H : AHeap) : AV → Option (AV × AHeap)
  | .it id => nxtO H id (H[id]?)
  | _ => none
@[go_sem] theorem nxtV_it (id : Nat) : nxtV H (.it id) = nxtO H id (H[id]?) := rfl
@[go_sem] theorem o_next (x : Operand) : aop cx (.next x true) s H = nxtV H (ev s x) := by
  simp only [aop, aop0]
  cases ev s x <;> rfl
end
theorem get_byte (s : List UInt8) (i : Nat) (h : i < s.length) : (ByteArray.mk s.toArray).get! i = byteAt s i := by
  rw [byteAt_lt h]
  simp [ByteArray.get!, h]
/-- What is decoded at a place: a byte below 128 stands for itself; else the rune is not below 128, nor are the bytes behind it that it takes. -/
theorem dec_spec (s : List UInt8) (i : Nat) (h : i < s.length) : 1 ≤ (Utf8.decode ⟨s.toArray⟩ i).2 ∧ i + (Utf8.decode ⟨s.toArray⟩ i).2 ≤ s.length ∧
    (∀ k, i < k → k < i + (Utf8.decode ⟨s.toArray⟩ i).2 → 128 ≤ (byteAt s k).toNat) ∧
    (((byteAt s i).toNat < 128 ∧ (Utf8.decode ⟨s.toArray⟩ i).1 = (byteAt s i).toNat) ∨ (128 ≤ (byteAt s i).toNat ∧ 128 ≤ (Utf8.decode ⟨s.toArray⟩ i).1)) := by
  have hsz : (ByteArray.mk s.toArray).size = s.length := by simp [ByteArray.size]
  rw [Lib.decode_at, hsz, get_byte s i h]
  have b1 : i + 1 < s.length → (ByteArray.mk s.toArray).get! (i + 1) = byteAt s (i + 1) := get_byte s (i + 1)
  have b2 : i + 2 < s.length → (ByteArray.mk s.toArray).get! (i + 2) = byteAt s (i + 2) := get_byte s (i + 2)
  have b3 : i + 3 < s.length → (ByteArray.mk s.toArray).get! (i + 3) = byteAt s (i + 3) := get_byte s (i + 3)
  generalize (ByteArray.mk s.toArray).get! (i + 1) = c1 at *
  generalize (ByteArray.mk s.toArray).get! (i + 2) = c2 at *
  generalize (ByteArray.mk s.toArray).get! (i + 3) = c3 at *
  unfold Lib.decodeN
  have one : ∀ k, i < k → k < i + 1 → 128 ≤ (byteAt s k).toNat := fun k h1 h2 => by omega
  split
  · rename_i h0
    exact ⟨Nat.le_refl _, h, one, .inl ⟨h0, rfl⟩⟩
  · rename_i h0
    split
    · rename_i h1
      obtain ⟨h1, h2, h3⟩ := h1
      have e1 := b1 (by omega)
      subst e1
      split
      · refine ⟨by omega, by show i + 2 ≤ _; omega, fun k k1 k2 => ?_, .inr ⟨by omega, by omega⟩⟩
        obtain rfl : k = i + 1 := by have : k < i + 2 := k2; omega
        omega
      · exact ⟨Nat.le_refl _, h, one, .inr ⟨by omega, by decide⟩⟩
    · split
      · rename_i h1
        obtain ⟨h1, ⟨h2, h3⟩, h4, h5⟩ := h1
        have e1 := b1 (by omega)
        subst e1
        have e2 := b2 (by omega)
        subst e2
        split
        · refine ⟨by omega, by show i + 3 ≤ _; omega, fun k k1 k2 => ?_, .inr ⟨by omega, by omega⟩⟩
          have : k < i + 3 := k2
          rcases (by omega : k = i + 1 ∨ k = i + 2) with rfl | rfl <;> omega
        · exact ⟨Nat.le_refl _, h, one, .inr ⟨by omega, by decide⟩⟩
      · split
        · rename_i h1
          obtain ⟨h1, ⟨h2, h3⟩, ⟨h4, h5⟩, h6, h7⟩ := h1
          have e1 := b1 (by omega)
          subst e1
          have e2 := b2 (by omega)
          subst e2
          have e3 := b3 (by omega)
          subst e3
          split
          · refine ⟨by omega, by show i + 4 ≤ _; omega, fun k k1 k2 => ?_, .inr ⟨by omega, by omega⟩⟩
            have : k < i + 4 := k2
            rcases (by omega : k = i + 1 ∨ k = i + 2 ∨ k = i + 3) with rfl | rfl | rfl <;> omega
          · exact ⟨Nat.le_refl _, h, one, .inr ⟨by omega, by decide⟩⟩
        · exact ⟨Nat.le_refl _, h, one, .inr ⟨by omega, by decide⟩⟩
theorem count_next {c : UInt8} {s : List UInt8} {i : Nat} (h : i < s.length) : (s.take (i + 1)).count c = (s.take i).count c + (if byteAt s i == c then 1 else 0) := by
  rw [take_byte h, List.count_append, List.count_cons, List.count_nil, Nat.zero_add]
theorem count_run {c : UInt8} {s : List UInt8} : ∀ (w i : Nat), i + w ≤ s.length → (∀ k, i ≤ k → k < i + w → (byteAt s k == c) = false) → (s.take (i + w)).count c = (s.take i).count c
  | 0, i, _, _ => rfl
  | w + 1, i, h, hk => by
    rw [← Nat.add_assoc, count_next (by omega), hk (i + w) (by omega) (by omega), count_run w i (by omega) fun k k1 k2 => hk k k1 (by omega)]
    rfl
/-- How many bytes are c, and how many runes, up to a rune's end. -/
theorem count_rune {c : UInt8} (hc : c.toNat < 128) {s : List UInt8} {i : Nat} (h : i < s.length) : (s.take (i + (Utf8.decode ⟨s.toArray⟩ i).2)).count c = (s.take i).count c + (if (Utf8.decode ⟨s.toArray⟩ i).1 = c.toNat then 1 else 0) := by
  obtain ⟨h1, h2, h3, h4⟩ := dec_spec s i h
  generalize Utf8.decode ⟨s.toArray⟩ i = d at *
  obtain ⟨r, w⟩ := d
  simp only at *
  have ne : ∀ k, 128 ≤ (byteAt s k).toNat → (byteAt s k == c) = false := fun k hk => by
    rw [beq_eq_false_iff_ne]
    rintro rfl
    omega
  have hrest : (s.take (i + 1 + (w - 1))).count c = (s.take (i + 1)).count c := count_run (w - 1) (i + 1) (by omega) fun k k1 k2 => ne k (h3 k (by omega) (by omega))
  rw [show i + w = i + 1 + (w - 1) by omega, hrest, count_next h]
  rcases h4 with ⟨h5, h6⟩ | ⟨h5, h6⟩
  · rw [h6]
    congr 1
    by_cases e : byteAt s i = c
    · rw [e]; simp
    · have e2 : ¬ (byteAt s i).toNat = c.toNat := fun q => e (UInt8.toNat_inj.1 q)
      simp [e, e2]
  · rw [ne i h5, if_neg (by simp), if_neg (by omega)]
/-! ### ref05.points, ref05.Number -/
theorem p_points (s : List UInt8) (hs : s.length ≤ maxL) : PV 83 [.str s] = some (.int .i64 ((s.count 46 : Nat) : Int)) := by
  refine PV_start k83 rfl (Nat.le_of_ble_eq_true rfl) ?_
  simp only [go_sem, bx, K83]
  refine C_for s.length (fun i st H => st 0 = .str s ∧ st 4 = .int .i64 (i : Int) ∧ st 3 = .int .i64 (((s.take i).count 46 : Nat) : Int)) ⟨by simp only [go_sem, bx], by simp only [go_sem, bx]; rfl, by simp only [go_sem, bx]; rfl⟩ ?_ ?_
  · rintro i st H hi ⟨h0, h4, h3⟩
    have hd : ((i : Int) < (s.length : Int)) := by omega
    have hw : IntKind.i64.wrap ((i : Int) + 1) = ((i + 1 : Nat) : Int) := wrap_succ (Nat.lt_of_lt_of_le hi hs)
    have hix := idx9 hi
    have e46 := u8_eq (byteAt s i) 46
    have e46' : ((46 : UInt8).toNat : Int) = 46 := rfl
    rw [e46'] at e46
    have hcn := count_next (c := 46) hi
    have hle := Nat.le_trans (List.count_le_length (a := (46 : UInt8)) (l := s.take i)) (by simp only [List.length_take]; exact Nat.min_le_left _ _ : (s.take i).length ≤ i)
    have hw2 : IntKind.i64.wrap ((((s.take i).count 46 : Nat) : Int) + 1) = (((s.take i).count 46 + 1 : Nat) : Int) := wrap_succ (by omega)
    rw [hcn]
    cases hb : (byteAt s i == 46)
    · simp only [go_sem, bx, L83_0, h0, h3, h4, hd, hix, e46, hb, hw, Nat.add_zero]
    · simp only [go_sem, bx, L83_0, h0, h3, h4, hd, hix, e46, hb, hw, hw2]
  · rintro st H ⟨h0, h4, h3⟩
    have hd : ¬ ((s.length : Int) < (s.length : Int)) := by omega
    rw [List.take_length] at h3
    simp only [go_sem, bx, L83_0, h0, h3, h4, hd]
def zrest (s : List UInt8) : Bool := decide (1 < (s.length : Int)) && ((byteAt s 0 == 48) && !(byteAt s 1 == 46))
def stripZ : List UInt8 → List UInt8
  | [] => []
  | c :: s => if zrest (c :: s) then stripZ s else c :: s
theorem stripZ_step (s : List UInt8) : stripZ s = if zrest s then stripZ (s.drop 1) else s := by
  cases s with
  | nil => rfl
  | cons c s => rfl
def stripR (s : List UInt8) : List UInt8 := (s.reverse.dropWhile (· == 48)).reverse
def lastIs (s : List UInt8) (c : UInt8) : Bool := byteAt s (s.length - 1) == c
theorem byteAt_last (c : UInt8) (l : List UInt8) : byteAt (c :: l).reverse ((c :: l).reverse.length - 1) = c := by
  unfold byteAt
  rw [List.reverse_cons, List.length_append, List.length_singleton, Nat.add_sub_cancel, List.getElem?_append_right (Nat.le_refl _), Nat.sub_self]
  rfl
theorem stripR_step (s : List UInt8) (hne : s ≠ []) : stripR s = if lastIs s 48 then stripR (s.take (s.length - 1)) else s := by
  obtain ⟨l, rfl⟩ : ∃ l : List UInt8, s = l.reverse := ⟨s.reverse, by rw [List.reverse_reverse]⟩
  cases l with
  | nil => exact absurd rfl hne
  | cons c l =>
    unfold lastIs
    rw [byteAt_last]
    unfold stripR
    rw [List.reverse_reverse, List.dropWhile_cons]
    have ht : ((c :: l).reverse.take ((c :: l).reverse.length - 1)).reverse = l := by
      rw [List.reverse_cons, List.length_append, List.length_singleton, Nat.add_sub_cancel, List.take_left', List.reverse_reverse]
      rfl
    rw [ht]
    split <;> rfl
def numOf (s : List UInt8) : List UInt8 :=
  if (stripZ s).count 46 = 1 then
    if lastIs (stripR (stripZ s)) 46 then (stripR (stripZ s)).take ((stripR (stripZ s)).length - 1) else stripR (stripZ s)
  else stripZ s
theorem stripZ_len : ∀ s : List UInt8, (stripZ s).length ≤ s.length
  | [] => Nat.le_refl _
  | c :: s => by
    unfold stripZ
    split
    · have := stripZ_len s
      simp only [List.length_cons]
      omega
    · exact Nat.le_refl _
theorem lastIs_mem {s : List UInt8} {c : UInt8} (h : c ∈ s) (hl : lastIs s 48 = true) (hc : c ≠ 48) : c ∈ s.take (s.length - 1) := by
  obtain ⟨i, hi, rfl⟩ := List.getElem_of_mem h
  have hne : i ≠ s.length - 1 := by
    rintro rfl
    unfold lastIs at hl
    rw [byteAt_lt (by omega)] at hl
    exact hc (eq_of_beq hl)
  exact List.mem_take_iff_getElem.2 ⟨i, by omega, rfl⟩
theorem slice_from (x : List UInt8) (k : Nat) (hk : k ≤ x.length) (H : AHeap) : aslice Try.prog 9 (.str x) (some (.int .i64 (k : Int))) none H = some (.str (x.drop k)) := by
  unfold aslice
  simp [strT_9, asBound, hk]
theorem p_number5 (s : List UInt8) (hs : s.length ≤ maxL) : PV 59 [.str s] = some (.str (numOf s)) := by
  refine PV_start k59 rfl (Nat.le_of_ble_eq_true rfl) ?_
  rw [K59]
  refine C_then (fun st H => st 0 = .str s) (by simp only [go_sem, bx]) ?_
  rintro s0 H0 h0
  have e48 := fun a => u8_eq a 48
  have e46 := fun a => u8_eq a 46
  have e48' : ((48 : UInt8).toNat : Int) = 48 := rfl
  have e46' : ((46 : UInt8).toNat : Int) = 46 := rfl
  rw [e48'] at e48
  rw [e46'] at e46
  refine C_then (fun st H => st 0 = .str (stripZ s)) ?_ ?_
  · rw [C_block]
    refine C_while (fun n st H => ∃ x : List UInt8, x.length = n ∧ x.length ≤ maxL ∧ stripZ x = stripZ s ∧ st 0 = .str x) ?_ s.length _ _ ⟨s, rfl, hs, rfl, h0⟩
    clear h0 hs
    rintro n st H ⟨x, rfl, hx, hz, h0⟩
    rw [stripZ_step] at hz
    unfold zrest at hz
    by_cases h1 : (1 : Int) < (x.length : Int)
    · have i0 := idx9 (s := x) (i := 0) (by omega)
      have i1 := idx9 (s := x) (i := 1) (by omega)
      have hsl := slice_from x 1 (by omega) H
      simp only [Int.cast_ofNat_Int] at i0 i1 hsl
      rw [decide_eq_true h1, Bool.true_and] at hz
      cases b0 : (byteAt x 0 == 48)
      · rw [b0] at hz
        simp only [go_sem, bx, L59_0, h0, h1, i0, e48, b0]
        simp only [Bool.false_and, Bool.false_eq_true, if_false] at hz
        rw [hz]
      · cases b1 : (byteAt x 1 == 46)
        · rw [b0, b1] at hz
          simp only [Bool.not_false, Bool.true_and, if_true] at hz
          simp only [go_sem, bx, L59_0, h0, h1, i0, i1, e48, e46, b0, b1, hsl]
          exact ⟨x.length - 1, by omega, x.drop 1, by simp, by simp only [List.length_drop]; omega, hz, rfl⟩
        · rw [b0, b1] at hz
          simp only [go_sem, bx, L59_0, h0, h1, i0, i1, e48, e46, b0, b1]
          simp only [Bool.not_true, Bool.and_false, Bool.false_eq_true, if_false] at hz
          rw [hz]
    · rw [decide_eq_false h1] at hz
      simp only [go_sem, bx, L59_0, h0, h1]
      simp only [Bool.false_and, Bool.false_eq_true, if_false] at hz
      rw [hz]
  · rintro s1 H1 h0
    have hl : (stripZ s).length ≤ maxL := Nat.le_trans (stripZ_len s) hs
    have hpt := p_points (stripZ s) hl
    unfold numOf
    generalize stripZ s = a at *
    by_cases hc : a.count 46 = 1
    · rw [if_pos hc]
      have hmem : (46 : UInt8) ∈ a := List.count_pos_iff.1 (by omega)
      rw [hc] at hpt
      refine C_then (fun st H => st 0 = .str a) (by simp only [go_sem, bx, h0, call_pure pure_83, hpt, Int.cast_ofNat_Int, decide_true]) ?_
      rintro s2 H2 h0
      refine C_then (fun st H => st 0 = .str (stripR a) ∧ 46 ∈ stripR a ∧ (stripR a).length ≤ maxL) ?_ ?_
      · rw [C_block]
        refine C_while (fun n st H => ∃ x : List UInt8, x.length = n ∧ x.length ≤ maxL ∧ 46 ∈ x ∧ stripR x = stripR a ∧ st 0 = .str x) ?_ a.length _ _ ⟨a, rfl, hl, hmem, rfl, h0⟩
        clear h0 hmem hc hpt hl
        rintro n st H ⟨x, rfl, hx, hm, hz, h0⟩
        have hpos : 0 < x.length := List.length_pos_of_mem hm
        have w1 : IntKind.i64.wrap ((x.length : Int) - 1) = ((x.length - 1 : Nat) : Int) := by
          simp only [maxL] at hx
          rw [wrap_ok] <;> omega
        have i0 := idx9 (s := x) (i := x.length - 1) (by omega)
        have hsl := slice_str x (x.length - 1) (by omega) H
        rw [stripR_step x (by rintro rfl; cases hpos)] at hz
        have hlm := fun h => lastIs_mem hm h (by decide)
        unfold lastIs at hz hlm
        cases b : (byteAt x (x.length - 1) == 48)
        · rw [b] at hz
          simp only [go_sem, bx, L59_1, h0, w1, i0, e48, b]
          simp only [Bool.false_eq_true, if_false] at hz
          rw [← hz]
          exact ⟨rfl, hm, hx⟩
        · rw [b] at hz
          simp only [go_sem, bx, L59_1, h0, w1, i0, e48, b, hsl]
          simp only [if_true] at hz
          exact ⟨x.length - 1, by omega, x.take (x.length - 1), by simp, by simp only [List.length_take]; omega, hlm b, hz, rfl⟩
      · rintro s3 H3 ⟨h0, hm, hx⟩
        generalize stripR a = b at *
        have hpos : 0 < b.length := List.length_pos_of_mem hm
        have w1 : IntKind.i64.wrap ((b.length : Int) - 1) = ((b.length - 1 : Nat) : Int) := by
          simp only [maxL] at hx
          rw [wrap_ok] <;> omega
        have i0 := idx9 (s := b) (i := b.length - 1) (by omega)
        have hsl := fun H => slice_str b (b.length - 1) (by omega) H
        unfold lastIs
        cases b' : (byteAt b (b.length - 1) == 46)
        · simp only [go_sem, bx, h0, w1, i0, e46, b']
        · simp only [go_sem, bx, h0, w1, i0, e46, b', hsl]
    · rw [if_neg hc]
      have hne : ¬ (((a.count 46 : Nat) : Int) = 1) := by omega
      simp only [go_sem, bx, h0, call_pure pure_83, hpt, decide_eq_false hne]
end Go.Proofs
/- The sets' layer: norm.number, its closures. -/

set_option linter.unusedSimpArgs false
set_option linter.unusedVariables false
namespace Go.Proofs
open Go.Vam
def boxS (x : List UInt8) : AO := .arr 9 true 0 [[.str x]]
theorem load_box {H : AHeap} {V : Nat} {x : List UInt8} (h : H[V]? = some (boxS x)) : aload Try.prog 9 (.ptr V 0 0) H = some (.str x) := by
  rw [load_ptr, h]
  simp only [go_sem, bx, boxS]
theorem store_box {H : AHeap} {V : Nat} {x y : List UInt8} (h : H[V]? = some (boxS x)) : astore Try.prog 9 (.ptr V 0 0) (.str y) H = some (H.set V (boxS y)) := by
  unfold astore
  simp only [h, boxS]
  have e2 : ([[AV.str x]] : List (List AV))[0]? = some [.str x] := rfl
  simp only [e2]
  rw [if_pos ⟨Nat.le_refl _, szOf_9, rfl, Nat.le_refl _⟩]
  simp [AV.cells]
theorem t76 {H : AHeap} {V : Nat} {x : List UInt8} (h : H[V]? = some (boxS x)) : callV E 76 [.ptr V 0 0] H = some (.bool (zrest x), H) := by
  have : Tells E 76 [.ptr V 0 0] H fun r H' => r = .bool (zrest x) ∧ H' = H := by
    refine tells_at k76 rfl (Nat.le_of_ble_eq_true rfl) ?_
    have hl := load_box h
    have e48 := fun a => u8_eq a 48
    have e46 := fun a => u8_eq a 46
    have e48' : ((48 : UInt8).toNat : Int) = 48 := rfl
    have e46' : ((46 : UInt8).toNat : Int) = 46 := rfl
    rw [e48'] at e48
    rw [e46'] at e46
    unfold zrest
    by_cases h1 : (1 : Int) < (x.length : Int)
    · have i0 := idx9 (s := x) (i := 0) (by omega)
      have i1 := idx9 (s := x) (i := 1) (by omega)
      simp only [Int.cast_ofNat_Int] at i0 i1
      rw [decide_eq_true h1, Bool.true_and]
      cases b0 : (byteAt x 0 == 48)
      · simp only [go_sem, bx, K76, hl, h1, i0, e48, b0, Bool.false_and]
      · simp only [go_sem, bx, K76, hl, h1, i0, i1, e48, e46, b0, Bool.true_and]
    · rw [decide_eq_false h1, Bool.false_and]
      simp only [go_sem, bx, K76, hl, h1]
  obtain ⟨r, H', h1, rfl, rfl⟩ := this
  exact h1
theorem t77 {H : AHeap} {V : Nat} {x : List UInt8} (h : H[V]? = some (boxS x)) (hx : 1 ≤ x.length) : callV E 77 [.ptr V 0 0] H = some (.tup [], H.set V (boxS (x.drop 1))) := by
  have : Tells E 77 [.ptr V 0 0] H fun r H' => r = .tup [] ∧ H' = H.set V (boxS (x.drop 1)) := by
    refine tells_at k77 rfl (Nat.le_of_ble_eq_true rfl) ?_
    have hl := load_box h
    have hst := store_box (y := x.drop 1) h
    have hsl := slice_from x 1 hx H
    simp only [Int.cast_ofNat_Int] at hsl
    simp only [go_sem, bx, K77, hl, hsl, hst]
  obtain ⟨r, H', h1, rfl, rfl⟩ := this
  exact h1
theorem t78 {H : AHeap} {V : Nat} {x : List UInt8} (h : H[V]? = some (boxS x)) (hx : 1 ≤ x.length) (hm : x.length ≤ maxL) : callV E 78 [.ptr V 0 0] H = some (.tup [], H.set V (boxS (x.take (x.length - 1)))) := by
  have : Tells E 78 [.ptr V 0 0] H fun r H' => r = .tup [] ∧ H' = H.set V (boxS (x.take (x.length - 1))) := by
    refine tells_at k78 rfl (Nat.le_of_ble_eq_true rfl) ?_
    have hl := load_box h
    have hst := store_box (y := x.take (x.length - 1)) h
    have hsl := slice_str x (x.length - 1) (by omega) H
    have w1 : IntKind.i64.wrap ((x.length : Int) - 1) = ((x.length - 1 : Nat) : Int) := by
      simp only [maxL] at hm
      rw [wrap_ok] <;> omega
    simp only [go_sem, bx, K78, hl, w1, hsl, hst]
  obtain ⟨r, H', h1, rfl, rfl⟩ := this
  exact h1
theorem t79 {H : AHeap} {V : Nat} {x : List UInt8} (h : H[V]? = some (boxS x)) (hx : 1 ≤ x.length) (hm : x.length ≤ maxL) : callV E 79 [.ptr V 0 0] H = some (.bool (lastIs x 48), H) := by
  have : Tells E 79 [.ptr V 0 0] H fun r H' => r = .bool (lastIs x 48) ∧ H' = H := by
    refine tells_at k79 rfl (Nat.le_of_ble_eq_true rfl) ?_
    have hl := load_box h
    have e48 := fun a => u8_eq a 48
    have e48' : ((48 : UInt8).toNat : Int) = 48 := rfl
    rw [e48'] at e48
    have w1 : IntKind.i64.wrap ((x.length : Int) - 1) = ((x.length - 1 : Nat) : Int) := by
      simp only [maxL] at hm
      rw [wrap_ok] <;> omega
    have i0 := idx9 (s := x) (i := x.length - 1) (by omega)
    unfold lastIs
    simp only [go_sem, bx, K79, hl, w1, i0, e48]
  obtain ⟨r, H', h1, rfl, rfl⟩ := this
  exact h1
/-- 'cut': as long as it is so, it is done. -/
theorem t_cut {g h V : Nat} {so : List UInt8 → Bool} {dof F : List UInt8 → List UInt8} {ok : List UInt8 → Prop}
    (h1 : ∀ H x, H[V]? = some (boxS x) → ok x → acallf (cxV E) g [.ptr V 0 0] H = some (.bool (so x), H))
    (h2 : ∀ H x, H[V]? = some (boxS x) → ok x → so x = true → acallf (cxV E) h [.ptr V 0 0] H = some (.tup [], H.set V (boxS (dof x))) ∧ ok (dof x) ∧ (dof x).length < x.length)
    (hF : ∀ x, ok x → F x = if so x then F (dof x) else x) {H : AHeap} {x : List UInt8} (hx : H[V]? = some (boxS x)) (hok : ok x) :
    callV E 75 [.fn g [.ptr V 0 0], .fn h [.ptr V 0 0]] H = some (.tup [], H.set V (boxS (F x))) ∧ ok (F x) := by
  have hV := (List.getElem?_eq_some_iff.1 hx).1
  have : Tells E 75 [.fn g [.ptr V 0 0], .fn h [.ptr V 0 0]] H fun r H' => r = .tup [] ∧ H' = H.set V (boxS (F x)) ∧ ok (F x) := by
    refine tells_at k75 rfl (Nat.le_of_ble_eq_true rfl) ?_
    simp only [go_sem, bx, K75]
    refine C_while (fun n st H' => ∃ y : List UInt8, y.length = n ∧ F y = F x ∧ ok y ∧ H' = H.set V (boxS y) ∧ st 0 = .fn g [.ptr V 0 0] ∧ st 1 = .fn h [.ptr V 0 0]) ?_ x.length _ _ ⟨x, rfl, rfl, hok, ?_, by simp only [go_sem, bx], by simp only [go_sem, bx]⟩
    · rintro n st H' ⟨y, rfl, hy, hk, rfl, s0, s1⟩
      have hb : (H.set V (boxS y))[V]? = some (boxS y) := List.getElem?_set_self hV
      have c1 := h1 _ y hb hk
      cases b : so y
      · have e := hF y hk
        rw [b] at e
        simp only [Bool.false_eq_true, if_false] at e
        simp only [go_sem, bx, L75_0, s0, s1, c1, b]
        rw [← hy, e]
        exact ⟨rfl, hk⟩
      · obtain ⟨c2, k2, l2⟩ := h2 _ y hb hk b
        have e := hF y hk
        rw [b] at e
        simp only [if_true] at e
        rw [List.set_set] at c2
        simp only [go_sem, bx, L75_0, s0, s1, c1, b, c2]
        exact ⟨(dof y).length, l2, dof y, rfl, by rw [← e]; exact hy, k2, rfl⟩
    · rw [List.getElem?_eq_getElem hV] at hx
      rw [← Option.some.inj hx, List.set_getElem_self]
  obtain ⟨r, H', h3, rfl, rfl, h4⟩ := this
  exact ⟨h3, h4⟩
theorem stripZ_ok {s : List UInt8} {n : Nat} (h : s.length ≤ n) : (stripZ s).length ≤ n := Nat.le_trans (stripZ_len s) h
theorem p_number (s : List UInt8) (hs : s.length ≤ maxL) : PV 51 [.str s] = some (.str (numOf s)) := by
  refine PV_start k51 rfl (Nat.le_of_ble_eq_true rfl) ?_
  have hbox : abox Try.prog 9 (.str s) [] = some (.ptr 0 0 0, [boxS s]) := by
    unfold abox
    rw [if_pos ⟨szOf_9, rfl, by simp [AV.cells]⟩]
    rfl
  have cut1 := t_cut (g := 76) (h := 77) (V := 0) (so := zrest) (dof := fun x => x.drop 1) (F := stripZ) (ok := fun x => x.length ≤ maxL)
    (fun H x hx hk => by rw [call_imp rfl]; exact t76 hx)
    (fun H x hx hk hz => by
      have h1 : 1 ≤ x.length := by
        cases x with
        | nil => cases hz
        | cons c x => simp
      rw [call_imp rfl]
      exact ⟨t77 hx h1, by simp only [List.length_drop]; omega, by simp only [List.length_drop]; omega⟩)
    (fun x _ => stripZ_step x) (H := [boxS s]) (x := s) rfl hs
  simp only [List.set_cons_zero] at cut1
  obtain ⟨cut1, hl⟩ := cut1
  simp only [go_sem, bx, K51, hbox, call_imp (f := 75) rfl, cut1, load_box (H := [boxS (stripZ s)]) (V := 0) (x := stripZ s) rfl]
  unfold numOf
  generalize stripZ s = a at *
  have hdec := fun i => count_rune (c := 46) (by decide) (s := a) (i := i)
  have e46' : ((46 : UInt8).toNat) = 46 := rfl
  rw [e46'] at hdec
  have hlast := t_cut (g := 79) (h := 78) (V := 0) (so := fun x => lastIs x 48) (dof := fun x => x.take (x.length - 1)) (F := stripR) (ok := fun x => x.length ≤ maxL ∧ 46 ∈ x)
    (fun H x hx hk => by
      have := List.length_pos_of_mem hk.2
      rw [call_imp rfl]
      exact t79 hx this hk.1)
    (fun H x hx hk hz => by
      have := List.length_pos_of_mem hk.2
      rw [call_imp rfl]
      exact ⟨t78 hx this hk.1, ⟨by simp only [List.length_take]; have := hk.1; omega, lastIs_mem hk.2 hz (by decide)⟩, by simp only [List.length_take]; omega⟩)
    (fun x hk => stripR_step x (by rintro rfl; cases hk.2)) (H := [boxS a, .siter a a.length]) (x := a) rfl
  have e46 := fun a => u8_eq a 46
  have e46' : ((46 : UInt8).toNat : Int) = 46 := rfl
  rw [e46'] at e46
  refine C_while (fun n st H => ∃ pos, pos ≤ a.length ∧ a.length - pos = n ∧ st 1 = .ptr 0 0 0 ∧ st 3 = .fn 75 [] ∧ st 4 = .int .i64 (((a.take pos).count 46 : Nat) : Int) ∧ st 13 = .it 1 ∧ H = [boxS a, .siter a pos]) ?_ a.length _ _
    ⟨0, Nat.zero_le _, rfl, by simp only [go_sem, bx], by simp only [go_sem, bx], by simp only [go_sem, bx]; rfl, by simp only [go_sem, bx], rfl⟩
  rintro n st H ⟨pos, hpos, rfl, s1, s3, s4, s13, rfl⟩
  by_cases hlt : pos < a.length
  · have hd := hdec pos hlt
    obtain ⟨w1, w2, -, -⟩ := dec_spec a pos hlt
    have hle := List.count_le_length (a := (46 : UInt8)) (l := a.take pos)
    simp only [List.length_take] at hle
    have hwr : IntKind.i64.wrap ((((a.take pos).count 46 : Nat) : Int) + 1) = (((a.take pos).count 46 + 1 : Nat) : Int) := wrap_succ (by simp only [maxL] at *; omega)
    by_cases hr : (Utf8.decode ⟨a.toArray⟩ pos).1 = 46
    · have hr' : (((Utf8.decode ⟨a.toArray⟩ pos).1 : Int) = 46) := by omega
      rw [if_pos hr] at hd
      simp only [go_sem, bx, L51_0, s1, s3, s4, s13, nxtO, hlt, decide_eq_true hr', hwr, List.set_cons_succ, List.set_cons_zero]
      exact ⟨a.length - (pos + (Utf8.decode ⟨a.toArray⟩ pos).2), by omega, pos + (Utf8.decode ⟨a.toArray⟩ pos).2, w2, rfl, by rw [hd], rfl⟩
    · have hr' : ¬ (((Utf8.decode ⟨a.toArray⟩ pos).1 : Int) = 46) := by omega
      rw [if_neg hr] at hd
      simp only [go_sem, bx, L51_0, s1, s3, s4, s13, nxtO, hlt, decide_eq_false hr', List.set_cons_succ, List.set_cons_zero]
      exact ⟨a.length - (pos + (Utf8.decode ⟨a.toArray⟩ pos).2), by omega, pos + (Utf8.decode ⟨a.toArray⟩ pos).2, w2, rfl, by rw [hd, Nat.add_zero], rfl⟩
  · obtain rfl : pos = a.length := by omega
    rw [List.take_length] at s4
    by_cases hc : a.count 46 = 1
    · have hmem : (46 : UInt8) ∈ a := List.count_pos_iff.1 (by omega)
      obtain ⟨hlast, hb, hm⟩ := hlast ⟨hl, hmem⟩
      rw [hc] at s4
      simp only [List.set_cons_zero] at hlast
      rw [if_pos hc]
      have hpos := List.length_pos_of_mem hm
      generalize stripR a = b at *
      have w1 : IntKind.i64.wrap ((b.length : Int) - 1) = ((b.length - 1 : Nat) : Int) := by
        simp only [maxL] at hb
        rw [wrap_ok] <;> omega
      have i0 := idx9 (s := b) (i := b.length - 1) (by omega)
      have hl78 := t78 (H := [boxS b, .siter a a.length]) (V := 0) (x := b) rfl hpos hb
      simp only [List.set_cons_zero] at hl78
      have hlb := load_box (H := [boxS b, .siter a a.length]) (V := 0) (x := b) rfl
      unfold lastIs
      cases b' : (byteAt b (b.length - 1) == 46)
      · simp only [go_sem, bx, L51_0, s1, s3, s4, s13, nxtO, Nat.lt_irrefl, Int.cast_ofNat_Int, decide_true, call_imp (f := 75) rfl, hlast, hlb, w1, i0, e46, b']
      · have hlb2 := load_box (H := [boxS (b.take (b.length - 1)), .siter a a.length]) (V := 0) (x := b.take (b.length - 1)) rfl
        simp only [go_sem, bx, L51_0, s1, s3, s4, s13, nxtO, Nat.lt_irrefl, Int.cast_ofNat_Int, decide_true, call_imp (f := 75) rfl, hlast, hlb, w1, i0, e46, b', call_imp (f := 78) rfl, hl78, hlb2]
    · have hne : ¬ (((a.count 46 : Nat) : Int) = 1) := by omega
      rw [if_neg hc]
      simp only [go_sem, bx, L51_0, s1, s3, s4, s13, nxtO, Nat.lt_irrefl, decide_eq_false hne, load_box (H := [boxS a, .siter a a.length]) (V := 0) (x := a) rfl]
end Go.Proofs
/- The sets' layer: tokens in their normal form. -/

set_option linter.unusedSimpArgs false
set_option linter.unusedVariables false
namespace Go.Proofs
open Go.Vam
/-! ### tokens that are appended -/
theorem frz_toks (H : AHeap) (l : List Tok) : ∀ n, mapO (fun e => mapO (frz (n + 1) H) e) (toks l) = some (toks l) := by
  intro n
  induction l with
  | nil => rfl
  | cons a l ih =>
    simp only [toks, List.map_cons, mapO] at ih ⊢
    rw [ih]
    rfl
theorem frz_ownT {H : AHeap} {v : AV} {l : List Tok} (ho : Own 40 H v (toks l)) : frz depth H v = some (.sl (toks l)) := by
  rcases ho with ⟨rfl, h⟩ | ⟨id, rfl, h⟩
  · rw [h]; rfl
  · simp only [depth, frz]
    rw [h]
    simp only
    rw [if_pos (by omega)]
    simp only [List.drop_zero, List.take_length]
    rw [frz_toks H l 6]
    rfl
def isAgg3 : AV → Bool
  | .agg [_, _, _] => true
  | _ => false
theorem bs_tok1 (t : Tok) (H : AHeap) : abuildSlice Try.prog 22 1 [(0, .agg (tok t))] H = some (.hs H.length 0 1, H ++ [.arr 40 true 0 [tok t]]) := by
  have hz : ([AV.int .i64 0, .str [], .int .i64 0] : List AV).length = 3 := rfl
  have := bs_gen (t := 22) (e := 40) (z := [.int .i64 0, .str [], .int .i64 0]) (n := 1) (parts := [(0, .agg (tok t))]) (q := fun x => decide (x.cells.length = 3) && x.cells.all AV.isCell) sliceT_22 zeroT_40 (fun x hx => by
    simp only [Bool.and_eq_true, decide_eq_true_eq] at hx
    exact ⟨hx.1, hx.2⟩) H (by simp) rfl
  exact this
theorem append_tok {H : AHeap} {v : AV} {l : List Tok} (x : Tok) (ho : Own 40 H v (toks l)) (hl : l.length < 100000000) :
    ∃ v' H', aappend Try.prog 22 22 v (.hs H.length 0 1) (H ++ [.arr 40 true 0 [tok x]]) = some (v', H') ∧ Own 40 H' v' (toks (l ++ [x])) ∧ KeepBut v H H' := by
  obtain ⟨v', H', h1, h2, h3⟩ := append_one (m := 2) sliceT_22 bytesT_40 szOf_40 zeroT_40 (by decide) ho (by simpa [toks] using hl) (c := tok x) rfl rfl
  exact ⟨v', H', h1, by simpa [toks] using h2, h3⟩
/-! ### normal forms -/
def semi (t : Tok) : Bool := decide (t.kind = 5) && (t.text == [59])
def semiN (l : List Tok) : Nat → Nat
  | 0 => 0
  | n + 1 => if semi (tokAt l n) then semiN l n else n + 1
theorem semiN_le (l : List Tok) : ∀ n, semiN l n ≤ n
  | 0 => Nat.le_refl _
  | n + 1 => by
    unfold semiN
    split
    · exact Nat.le_succ_of_le (semiN_le l n)
    · exact Nat.le_refl _
def numT (t : Tok) : Bool := decide (t.kind = 4) && !(t.text == [])
def normT (t : Tok) : Tok := if numT t then { t with text := numOf t.text } else t
def normToks (l : List Tok) : List Tok := (l.take (semiN l l.length)).map normT
def normL (l : List Tok) : List UInt8 := showL (normToks l)
theorem stripR_len (s : List UInt8) : (stripR s).length ≤ s.length := by
  unfold stripR
  rw [List.length_reverse]
  refine Nat.le_trans (List.dropWhile_sublist _).length_le ?_
  rw [List.length_reverse]
  exact Nat.le_refl _
theorem numOf_len (s : List UInt8) : (numOf s).length ≤ s.length := by
  have h1 := stripZ_len s
  have h2 := stripR_len (stripZ s)
  unfold numOf
  split
  · split
    · simp only [List.length_take]; omega
    · omega
  · exact h1
theorem normT_len (t : Tok) : (normT t).text.length ≤ t.text.length := by
  unfold normT
  split
  · exact numOf_len _
  · exact Nat.le_refl _
theorem Small.norm {l : List Tok} (h : Small l) (n : Nat) : Small ((l.take n).map normT) := by
  refine ⟨?_, ?_⟩
  · have := h.len
    simp only [List.length_map, List.length_take]
    omega
  · intro t ht
    obtain ⟨u, hu, rfl⟩ := List.mem_map.1 ht
    exact Nat.le_trans (normT_len u) (h.text u (List.mem_of_mem_take hu))
theorem tok_text (H : AHeap) (t : Tok) (y : List UInt8) : astore Try.prog 9 (.ptr H.length 0 1) (.str y) (H ++ [.arr 40 true 0 [[.int .i64 t.kind, .str t.text, .int .i64 t.pos]]]) = some (H ++ [.arr 40 true 0 [[.int .i64 t.kind, .str y, .int .i64 t.pos]]]) := by
  have e : (H ++ [AO.arr 40 true 0 [[.int .i64 t.kind, .str t.text, .int .i64 t.pos]]])[H.length]? = some (.arr 40 true 0 [[.int .i64 t.kind, .str t.text, .int .i64 t.pos]]) := by simp
  unfold astore
  simp only [e]
  have e2 : ([[AV.int .i64 t.kind, .str t.text, .int .i64 t.pos]] : List (List AV))[0]? = some [.int .i64 t.kind, .str t.text, .int .i64 t.pos] := rfl
  simp only [e2]
  have hcond : 0 ≤ 0 ∧ szOf Try.prog 9 = some (AV.str y).cells.length ∧ (AV.str y).cells.all AV.isCell = true ∧ 1 + (AV.str y).cells.length ≤ [AV.int .i64 t.kind, .str t.text, .int .i64 t.pos].length := ⟨Nat.le_refl _, szOf_9, rfl, Nat.le_of_ble_eq_true rfl⟩
  rw [if_pos hcond]
  simp [AV.cells]
theorem slice_toks (l : List Tok) (k : Nat) (hk : k ≤ l.length) (H : AHeap) : aslice Try.prog 22 (.sl (toks l)) none (some (.int .i64 (k : Int))) H = some (.sl (toks (l.take k))) := by
  unfold aslice
  rw [sliceT_22]
  simp only
  rw [szOf_40]
  simp only [Option.map_some, asBound]
  rw [if_pos (by omega)]
  simp only [Option.map_none, Int.toNat_natCast]
  rw [if_pos ⟨Nat.zero_le _, by rw [toks_len]; exact hk, fun c hc => by
    obtain ⟨t, _, rfl⟩ := List.mem_map.1 hc
    rfl⟩]
  simp [toks]
theorem tokAt_take {l : List Tok} {n i : Nat} (h : i < n) : tokAt (l.take n) i = tokAt l i := by
  unfold tokAt
  rw [Int.toNat_natCast, List.getElem?_take_of_lt h]
theorem map_next {α : Type} {f : Tok → α} {l : List Tok} {i : Nat} (h : i < l.length) : (l.take (i + 1)).map f = (l.take i).map f ++ [f (tokAt l i)] := by
  rw [List.take_add_one, List.getElem?_eq_getElem h, tokAt_nat h, List.map_append]
  rfl
theorem neq_nil (s : List UInt8) : (s == ([] : List UInt8)) = decide (s = []) := by
  cases s <;> rfl
theorem p_tokens (l : List Tok) (hs : Small l) : PV 34 [.sl (toks l)] = some (.str (normL l)) := by
  refine PV_start k34 rfl (Nat.le_of_ble_eq_true rfl) ?_
  have hlen := hs.len
  rw [K34]
  refine C_then (fun st H => st 0 = .sl (toks l)) (by simp only [go_sem, bx]) ?_
  rintro sa Ha h0
  refine C_then (fun st H => st 0 = .sl (toks (l.take (semiN l l.length)))) ?_ ?_
  · rw [C_block]
    refine C_while (fun n st H => ∃ k, k = n ∧ k ≤ l.length ∧ semiN l k = semiN l l.length ∧ st 0 = .sl (toks (l.take k))) ?_ l.length _ _ ⟨l.length, rfl, Nat.le_refl _, rfl, by rw [List.take_length]; exact h0⟩
    clear h0
    rintro n st H ⟨k, rfl, hk, hz, h0⟩
    have htl : (l.take k).length = k := by simp only [List.length_take]; omega
    cases k with
    | zero =>
      simp only [go_sem, bx, L34_0, h0, htl, Int.cast_ofNat_Int, Int.reduceLT, decide_false]
      rw [← hz]
      rfl
    | succ m =>
      have hd : ((0 : Int) < ((m + 1 : Nat) : Int)) := by omega
      have w1 : IntKind.i64.wrap (((m + 1 : Nat) : Int) - 1) = (m : Int) := by rw [wrap_ok] <;> omega
      have hg := indexAddr_22 (l.take (m + 1)) .i64 (m : Int) H (by omega) (by rw [htl]; omega)
      rw [tokAt_take (Nat.lt_succ_self m)] at hg
      have hz' : semiN l (m + 1) = if semi (tokAt l m) then semiN l m else m + 1 := rfl
      rw [hz'] at hz
      unfold semi at hz
      cases b1 : decide ((tokAt l m).kind = 5)
      · simp only [go_sem, bx, L34_0, h0, htl, hd, w1, hg, tok, b1]
        rw [b1] at hz
        simp only [Bool.false_and, Bool.false_eq_true, if_false] at hz
        rw [hz]
      · cases b2 : ((tokAt l m).text == [59])
        · simp only [go_sem, bx, L34_0, h0, htl, hd, w1, hg, tok, b1, b2]
          rw [b1, b2] at hz
          simp only [Bool.and_false, Bool.false_eq_true, if_false] at hz
          rw [hz]
        · rw [b1, b2] at hz
          simp only [Bool.and_self, if_true] at hz
          have hsl := slice_toks (l.take (m + 1)) m (by rw [htl]; omega) H
          rw [List.take_take, Nat.min_eq_left (by omega)] at hsl
          simp only [go_sem, bx, L34_0, h0, htl, hd, w1, hg, tok, b1, b2, hsl]
          exact ⟨m, Nat.lt_succ_self m, m, rfl, by omega, hz, rfl⟩
  · rintro sb Hb h0
    unfold normL normToks
    have hsm := hs.norm (semiN l l.length)
    have hat : ∀ i, ((tokAt (l.take (semiN l l.length)) i)).text.length ≤ 1000000 := fun i => by
      unfold tokAt
      cases hg : (l.take (semiN l l.length))[i.toNat]? with
      | none => simp
      | some t => exact hs.text t (List.mem_of_mem_take (List.mem_of_getElem? hg))
    have hxl : (l.take (semiN l l.length)).length ≤ 3000 := by simp only [List.length_take]; omega
    have hsh := p_show _ hsm
    generalize l.take (semiN l l.length) = x at *
    simp only [go_sem, bx, h0]
    refine C_for x.length (fun i st H => st 34 = .sl (toks x) ∧ st 35 = .int .i64 (x.length : Int) ∧ st 36 = .int .i64 (i : Int) ∧ Own 40 H (st 3) (toks ((x.take i).map normT))) ⟨by simp only [go_sem, bx], by simp only [go_sem, bx], by simp only [go_sem, bx]; rfl, .inl ⟨by simp only [go_sem, bx], rfl⟩⟩ ?_ ?_
    · clear h0
      rintro i st H hi ⟨h34, h35, h36, ho⟩
      have hd : ((i : Int) < (x.length : Int)) := by omega
      have hw : IntKind.i64.wrap ((i : Int) + 1) = ((i + 1 : Nat) : Int) := wrap_succ (by simp only [maxL]; omega)
      have hg := indexAddr_22 x .i64 (i : Int) H (by omega) hd
      have hput := tok_put H (tokAt x i)
      have hgot := tok_got H (tokAt x i)
      have hnum := p_number (tokAt x i).text (Nat.le_trans (hat i) (by simp only [maxL]; omega))
      rw [map_next hi]
      have hml : ((x.take i).map normT).length < 100000000 := by simp only [List.length_map, List.length_take]; omega
      generalize (x.take i).map normT = cur at *
      generalize tokAt x i = t at *
      generalize hv : st 3 = v at ho
      simp only [tok] at hg hput hgot
      unfold normT numT
      rw [neq_nil]
      cases b1 : decide (t.kind = 4)
      · obtain ⟨v1, H1, e1, o1, -⟩ := append_tok t (ho.lt (.arr 40 true 0 [tok t])) hml
        have hbs := bs_tok1 t (H ++ [.arr 40 true 0 [tok t]])
        simp only [tok] at e1 hbs
        simp only [go_sem, bx, L34_1, h34, h35, h36, hv, hd, hg, hput, hgot, tok, b1, hw, Nat.le_refl, hbs, bi_append, e1, Bool.false_and]
        exact o1
      · cases b2 : decide (t.text = [])
        · have htx := tok_text H t (numOf t.text)
          obtain ⟨v1, H1, e1, o1, -⟩ := append_tok { t with text := numOf t.text } (ho.lt (.arr 40 true 0 [tok { t with text := numOf t.text }])) hml
          have hbs := bs_tok1 { t with text := numOf t.text } (H ++ [.arr 40 true 0 [tok { t with text := numOf t.text }]])
          have hgot2 := tok_got H { t with text := numOf t.text }
          simp only [tok] at e1 hbs hgot2
          simp only [go_sem, bx, L34_1, h34, h35, h36, hv, hd, hg, hput, hgot, tok, b1, neq_nil, b2, hw, Nat.le_refl, call_pure pure_51, hnum, htx, hgot2, hbs, bi_append, e1, Bool.true_and]
          exact o1
        · obtain ⟨v1, H1, e1, o1, -⟩ := append_tok t (ho.lt (.arr 40 true 0 [tok t])) hml
          have hbs := bs_tok1 t (H ++ [.arr 40 true 0 [tok t]])
          simp only [tok] at e1 hbs
          simp only [go_sem, bx, L34_1, h34, h35, h36, hv, hd, hg, hput, hgot, tok, b1, neq_nil, b2, hw, Nat.le_refl, hbs, bi_append, e1, Bool.and_false]
          exact o1
    · rintro st H ⟨h34, h35, h36, ho⟩
      have hd : ¬ ((x.length : Int) < (x.length : Int)) := by omega
      rw [List.take_length] at ho
      generalize hv : st 3 = v at ho
      have hf := frz_ownT ho
      simp only [go_sem, bx, L34_1, h35, h36, hv, hd, call_pure pure_52, hf, hsh]
theorem p_tokens5 (l : List Tok) (hs : Small l) : PV 36 [.sl (toks l)] = some (.str (normL l)) := by
  refine PV_start k36 rfl (Nat.le_of_ble_eq_true rfl) ?_
  have hlen := hs.len
  rw [K36]
  refine C_then (fun st H => st 0 = .sl (toks l)) (by simp only [go_sem, bx]) ?_
  rintro sa Ha h0
  refine C_then (fun st H => st 0 = .sl (toks l) ∧ st 3 = .int .i64 (l.length : Int)) (by simp only [go_sem, bx, h0]) ?_
  rintro sb Hb ⟨h0, h3⟩
  refine C_then (fun st H => st 0 = .sl (toks l) ∧ st 3 = .int .i64 ((semiN l l.length : Nat) : Int)) ?_ ?_
  · rw [C_block]
    refine C_while (fun n st H => ∃ k, k = n ∧ k ≤ l.length ∧ semiN l k = semiN l l.length ∧ st 0 = .sl (toks l) ∧ st 3 = .int .i64 (k : Int)) ?_ l.length _ _ ⟨l.length, rfl, Nat.le_refl _, rfl, h0, h3⟩
    clear h0 h3
    rintro n st H ⟨k, rfl, hk, hz, h0, h3⟩
    cases k with
    | zero =>
      simp only [go_sem, bx, L36_0, h0, h3, Int.cast_ofNat_Int, Int.reduceLT, decide_false]
      rw [← hz]
      rfl
    | succ m =>
      have hd : ((0 : Int) < ((m + 1 : Nat) : Int)) := by omega
      have w1 : IntKind.i64.wrap (((m + 1 : Nat) : Int) - 1) = (m : Int) := by rw [wrap_ok] <;> omega
      have hg := indexAddr_22 l .i64 (m : Int) H (by omega) (by omega)
      have hz' : semiN l (m + 1) = if semi (tokAt l m) then semiN l m else m + 1 := rfl
      rw [hz'] at hz
      unfold semi at hz
      cases b1 : decide ((tokAt l m).kind = 5)
      · simp only [go_sem, bx, L36_0, h0, h3, hd, w1, hg, tok, b1]
        rw [b1] at hz
        simp only [Bool.false_and, Bool.false_eq_true, if_false] at hz
        rw [hz]
      · cases b2 : ((tokAt l m).text == [59])
        · simp only [go_sem, bx, L36_0, h0, h3, hd, w1, hg, tok, b1, b2]
          rw [b1, b2] at hz
          simp only [Bool.and_false, Bool.false_eq_true, if_false] at hz
          rw [hz]
        · rw [b1, b2] at hz
          simp only [Bool.and_self, if_true] at hz
          simp only [go_sem, bx, L36_0, h0, h3, hd, w1, hg, tok, b1, b2]
          exact ⟨m, Nat.lt_succ_self m, m, rfl, by omega, hz, rfl⟩
  · rintro sc Hc ⟨h0, h3⟩
    unfold normL normToks
    have hsm := hs.norm (semiN l l.length)
    have hsn := semiN_le l l.length
    have hsh := p_show4 _ hsm
    generalize semiN l l.length = n at *
    simp only [go_sem, bx, h0, h3]
    refine C_for n (fun i st H => st 0 = .sl (toks l) ∧ st 3 = .int .i64 (n : Int) ∧ st 5 = .int .i64 (i : Int) ∧ Own 40 H (st 4) (toks ((l.take i).map normT))) ⟨by simp only [go_sem, bx, h0], by simp only [go_sem, bx, h3], by simp only [go_sem, bx]; rfl, .inl ⟨by simp only [go_sem, bx], rfl⟩⟩ ?_ ?_
    · clear h0 h3
      rintro i st H hi ⟨h0, h3, h5, ho⟩
      have hd : ((i : Int) < (n : Int)) := by omega
      have hw : IntKind.i64.wrap ((i : Int) + 1) = ((i + 1 : Nat) : Int) := wrap_succ (by simp only [maxL]; omega)
      have hg := indexAddr_22 l .i64 (i : Int) H (by omega) (by omega)
      have hput := tok_put H (tokAt l i)
      have hgot := tok_got H (tokAt l i)
      have hnum := p_number5 (tokAt l i).text (Nat.le_trans (hs.at i) (by simp only [maxL]; omega))
      rw [map_next (by omega : i < l.length)]
      have hml : ((l.take i).map normT).length < 100000000 := by simp only [List.length_map, List.length_take]; omega
      generalize (l.take i).map normT = cur at *
      generalize tokAt l i = t at *
      generalize hv : st 4 = v at ho
      simp only [tok] at hg hput hgot
      unfold normT numT
      rw [neq_nil]
      cases b1 : decide (t.kind = 4)
      · obtain ⟨v1, H1, e1, o1, -⟩ := append_tok t (ho.lt (.arr 40 true 0 [tok t])) hml
        have hbs := bs_tok1 t (H ++ [.arr 40 true 0 [tok t]])
        simp only [tok] at e1 hbs
        simp only [go_sem, bx, L36_1, h0, h3, h5, hv, hd, hg, hput, hgot, tok, b1, hw, Nat.le_refl, hbs, bi_append, e1, Bool.false_and]
        exact o1
      · cases b2 : decide (t.text = [])
        · have htx := tok_text H t (numOf t.text)
          obtain ⟨v1, H1, e1, o1, -⟩ := append_tok { t with text := numOf t.text } (ho.lt (.arr 40 true 0 [tok { t with text := numOf t.text }])) hml
          have hbs := bs_tok1 { t with text := numOf t.text } (H ++ [.arr 40 true 0 [tok { t with text := numOf t.text }]])
          have hgot2 := tok_got H { t with text := numOf t.text }
          simp only [tok] at e1 hbs hgot2
          simp only [go_sem, bx, L36_1, h0, h3, h5, hv, hd, hg, hput, hgot, tok, b1, neq_nil, b2, hw, Nat.le_refl, call_pure pure_59, hnum, htx, hgot2, hbs, bi_append, e1, Bool.true_and]
          exact o1
        · obtain ⟨v1, H1, e1, o1, -⟩ := append_tok t (ho.lt (.arr 40 true 0 [tok t])) hml
          have hbs := bs_tok1 t (H ++ [.arr 40 true 0 [tok t]])
          simp only [tok] at e1 hbs
          simp only [go_sem, bx, L36_1, h0, h3, h5, hv, hd, hg, hput, hgot, tok, b1, neq_nil, b2, hw, Nat.le_refl, hbs, bi_append, e1, Bool.and_false]
          exact o1
    · rintro st H ⟨h0, h3, h5, ho⟩
      have hd : ¬ ((n : Int) < (n : Int)) := by omega
      generalize hv : st 4 = v at ho
      have hf := frz_ownT ho
      simp only [go_sem, bx, L36_1, h3, h5, hv, hd, call_pure pure_60, hf, hsh]
end Go.Proofs
/- The sets' layer, plain: what is sorted out of a map of counts is what the reference puts in order. -/

set_option linter.unusedSimpArgs false
set_option linter.unusedVariables false
namespace Go.Proofs
open Go.Vam
/-! ### the order of texts -/
theorem less_irrefl : ∀ a : List UInt8, Op.bytesLess a a = false
  | [] => rfl
  | a :: x => by
    simp only [Op.bytesLess, beq_self_eq_true, Bool.true_and, less_irrefl x, Bool.or_false]
    exact decide_eq_false (UInt8.lt_irrefl a)
theorem less_trans : ∀ {a b c : List UInt8}, Op.bytesLess a b = true → Op.bytesLess b c = true → Op.bytesLess a c = true
  | _, [], _, h, _ => by simp [Op.bytesLess] at h
  | _, _ :: _, [], _, h => by simp [Op.bytesLess] at h
  | [], _ :: _, _ :: _, _, _ => rfl
  | a :: x, b :: y, c :: z, h1, h2 => by
    simp only [Op.bytesLess, Bool.or_eq_true, Bool.and_eq_true, decide_eq_true_eq, beq_iff_eq] at h1 h2 ⊢
    rcases h1 with h1 | ⟨rfl, h1⟩ <;> rcases h2 with h2 | ⟨rfl, h2⟩
    · exact .inl (UInt8.lt_trans h1 h2)
    · exact .inl h1
    · exact .inl h2
    · exact .inr ⟨rfl, less_trans h1 h2⟩
theorem less_total : ∀ {a b : List UInt8}, Op.bytesLess a b = false → a ≠ b → Op.bytesLess b a = true
  | [], [], _, h => absurd rfl h
  | [], _ :: _, h, _ => by simp [Op.bytesLess] at h
  | _ :: _, [], _, _ => rfl
  | a :: x, b :: y, h, hn => by
    simp only [Op.bytesLess, Bool.or_eq_false_iff, Bool.and_eq_false_iff, decide_eq_false_iff_not, Bool.or_eq_true, Bool.and_eq_true, decide_eq_true_eq, beq_iff_eq] at h ⊢
    obtain ⟨h1, h2⟩ := h
    by_cases e : a = b
    · subst e
      rcases h2 with h2 | h2
      · simp at h2
      · exact .inr ⟨rfl, less_total h2 (fun q => hn (by rw [q]))⟩
    · left
      rcases Nat.lt_trichotomy a.toNat b.toNat with q | q | q
      · exact absurd (UInt8.lt_iff_toNat_lt.2 q) h1
      · exact absurd (UInt8.toNat_inj.1 q) e
      · exact UInt8.lt_iff_toNat_lt.2 q
/-! ### lists that rise -/
def Rises (l : List (List UInt8)) : Prop := l.Pairwise fun a b => Op.bytesLess a b = true
theorem rises_eq : ∀ {a b : List (List UInt8)}, Rises a → Rises b → (∀ x, x ∈ a ↔ x ∈ b) → a = b
  | [], [], _, _, _ => rfl
  | [], y :: b, _, _, h => absurd ((h y).2 List.mem_cons_self) (by simp)
  | x :: a, [], _, _, h => absurd ((h x).1 List.mem_cons_self) (by simp)
  | x :: a, y :: b, ha, hb, h => by
    obtain ⟨ha1, ha2⟩ := List.pairwise_cons.1 ha
    obtain ⟨hb1, hb2⟩ := List.pairwise_cons.1 hb
    have e : x = y := by
      rcases List.mem_cons.1 ((h x).1 List.mem_cons_self) with e | m1
      · exact e
      · rcases List.mem_cons.1 ((h y).2 List.mem_cons_self) with e | m2
        · exact e.symm
        · have := less_trans (hb1 x m1) (ha1 y m2)
          rw [less_irrefl] at this
          cases this
    subst e
    have hnx : x ∉ a := fun m => by have := ha1 x m; rw [less_irrefl] at this; cases this
    have hnb : x ∉ b := fun m => by have := hb1 x m; rw [less_irrefl] at this; cases this
    rw [rises_eq ha2 hb2 fun z => ?_]
    constructor
    · intro m
      rcases List.mem_cons.1 ((h z).1 (List.mem_cons_of_mem _ m)) with rfl | m'
      · exact absurd m hnx
      · exact m'
    · intro m
      rcases List.mem_cons.1 ((h z).2 (List.mem_cons_of_mem _ m)) with rfl | m'
      · exact absurd m hnb
      · exact m'
theorem mem_insertS {x y : List UInt8} : ∀ {l : List (List UInt8)}, y ∈ insertS x l ↔ y = x ∨ y ∈ l
  | [] => by simp [insertS]
  | a :: l => by
    unfold insertS
    split
    · simp
    · simp only [List.mem_cons, mem_insertS (l := l)]
      constructor
      · rintro (h | h | h) <;> simp [h]
      · rintro (h | h | h) <;> simp [h]
theorem rises_insertS {x : List UInt8} : ∀ {l : List (List UInt8)}, Rises l → x ∉ l → Rises (insertS x l)
  | [], _, _ => List.pairwise_singleton _ _
  | a :: l, h, hx => by
    obtain ⟨h1, h2⟩ := List.pairwise_cons.1 h
    unfold insertS
    split
    · rename_i hl
      refine List.pairwise_cons.2 ⟨fun z hz => ?_, h⟩
      rcases List.mem_cons.1 hz with rfl | hz
      · exact hl
      · exact less_trans hl (h1 z hz)
    · rename_i hl
      have hl' : Op.bytesLess a x = true := less_total (by simpa using hl) fun e => hx (by simp [e])
      refine List.pairwise_cons.2 ⟨fun z hz => ?_, rises_insertS h2 fun m => hx (List.mem_cons_of_mem _ m)⟩
      rcases mem_insertS.1 hz with rfl | hz
      · exact hl'
      · exact h1 z hz
theorem mem_sortS {y : List UInt8} : ∀ {l : List (List UInt8)}, y ∈ sortS l ↔ y ∈ l
  | [] => Iff.rfl
  | a :: l => by
    show y ∈ insertS a (sortS l) ↔ _
    rw [mem_insertS, mem_sortS, List.mem_cons]
theorem rises_sortS : ∀ {l : List (List UInt8)}, l.Nodup → Rises (sortS l)
  | [], _ => List.Pairwise.nil
  | a :: l, h => by
    obtain ⟨h1, h2⟩ := List.nodup_cons.1 h
    exact rises_insertS (rises_sortS h2) fun m => h1 (mem_sortS.1 m)
theorem mem_insAt' {x y : List UInt8} {l : List (List UInt8)} : y ∈ insAt x l ↔ y = x ∨ y ∈ l := by
  unfold insAt
  have h := List.takeWhile_append_dropWhile (p := below x) (l := l)
  conv => rhs; rw [← h]
  simp only [List.mem_append, List.mem_cons]
  constructor
  · rintro (h | h | h) <;> simp [h]
  · rintro (h | h | h) <;> simp [h]
theorem rises_insAt {x : List UInt8} : ∀ {l : List (List UInt8)}, Rises l → x ∉ l → insAt x l = insertS x l
  | [], _, _ => rfl
  | a :: l, h, hx => by
    obtain ⟨h1, h2⟩ := List.pairwise_cons.1 h
    have ih := rises_insAt h2 fun m => hx (List.mem_cons_of_mem _ m)
    unfold insAt at ih ⊢
    unfold insertS
    by_cases hl : Op.bytesLess a x = true
    · have hn : Op.bytesLess x a = false := by
        cases hb : Op.bytesLess x a with
        | false => rfl
        | true =>
          have := less_trans hl hb
          rw [less_irrefl] at this
          cases this
      rw [hn]
      simp only [Bool.false_eq_true, if_false]
      rw [← ih, List.takeWhile_cons, List.dropWhile_cons]
      simp only [below, hl, if_true, List.cons_append]
    · have hn : Op.bytesLess x a = true := less_total (by simpa using hl) fun e => hx (by simp [e])
      rw [hn]
      simp only [if_true]
      rw [List.takeWhile_cons, List.dropWhile_cons]
      simp only [below, hl, if_false, List.nil_append, Bool.false_eq_true]
theorem mem_putS {y : List UInt8} : ∀ {more l : List (List UInt8)}, y ∈ putS l more ↔ y ∈ l ∨ y ∈ more
  | [], l => by simp [putS]
  | a :: more, l => by
    show y ∈ putS (if l.contains a then l else insAt a l) more ↔ _
    rw [mem_putS]
    split
    · rename_i h
      rw [List.contains_iff_mem] at h
      simp only [List.mem_cons]
      constructor
      · rintro (h' | h') <;> simp [h']
      · rintro (h' | rfl | h')
        · exact .inl h'
        · exact .inl h
        · exact .inr h'
    · rw [mem_insAt', List.mem_cons]
      constructor
      · rintro ((h' | h') | h') <;> simp [h']
      · rintro (h' | h' | h') <;> simp [h']
theorem rises_putS : ∀ {more l : List (List UInt8)}, Rises l → Rises (putS l more)
  | [], l, h => h
  | a :: more, l, h => by
    show Rises (putS (if l.contains a then l else insAt a l) more)
    refine rises_putS ?_
    split
    · exact h
    · rename_i hn
      have hn' : a ∉ l := by rw [← List.contains_iff_mem]; exact hn
      rw [rises_insAt h hn']
      exact rises_insertS h hn'
/-! ### maps of counts -/
def ks (l : List (List UInt8 × Int)) : List (List UInt8) := l.map (·.1)
theorem ks_set {n : List UInt8} {c : Int} : ∀ {l : List (List UInt8 × Int)}, ks (setKv n c l) = if (ks l).contains n then ks l else ks l ++ [n]
  | [] => by simp [ks, setKv]
  | (k, d) :: l => by
    have ih := ks_set (n := n) (c := c) (l := l)
    unfold ks at ih ⊢
    simp only [setKv, List.map_cons, List.contains_cons]
    cases h : (n == k) with
    | true =>
      simp only [if_true, Bool.true_or, List.map_cons]
      rw [eq_of_beq h]
    | false =>
      simp only [Bool.false_eq_true, if_false, Bool.false_or, List.map_cons, ih]
      split <;> simp_all
theorem nodup_set {n : List UInt8} {c : Int} {l : List (List UInt8 × Int)} (h : (ks l).Nodup) : (ks (setKv n c l)).Nodup := by
  rw [ks_set]
  split
  · exact h
  · rename_i hn
    have hn' : n ∉ ks l := by rw [← List.contains_iff_mem]; exact hn
    rw [List.nodup_append]
    refine ⟨h, by simp, fun a ha b hb e => ?_⟩
    rw [List.mem_singleton] at hb
    subst hb
    exact hn' (e ▸ ha)
theorem mem_set {n y : List UInt8} {c : Int} {l : List (List UInt8 × Int)} : y ∈ ks (setKv n c l) ↔ y = n ∨ y ∈ ks l := by
  rw [ks_set]
  split
  · rename_i h
    rw [List.contains_iff_mem] at h
    constructor
    · exact .inr
    · rintro (rfl | h')
      · exact h
      · exact h'
  · rw [List.mem_append, List.mem_singleton]
    exact Or.comm
theorem bumps_ks : ∀ {names : List (List UInt8)} {l : List (List UInt8 × Int)}, (ks l).Nodup → (ks (bumps l names)).Nodup ∧ ∀ y, y ∈ ks (bumps l names) ↔ y ∈ ks l ∨ y ∈ names
  | [], l, h => ⟨h, fun y => by simp [bumps]⟩
  | a :: names, l, h => by
    obtain ⟨h1, h2⟩ := bumps_ks (names := names) (l := bump a l) (nodup_set h)
    refine ⟨h1, fun y => ?_⟩
    show y ∈ ks (bumps (bump a l) names) ↔ _
    rw [h2, bump, mem_set, List.mem_cons]
    constructor
    · rintro ((h' | h') | h') <;> simp [h']
    · rintro (h' | h' | h') <;> simp [h']
theorem reads_same (l : List Tok) : ∀ (n : Nat) (i : Int) (cur : List (List UInt8 × Int)) (out : List (List UInt8)), (ks cur).Nodup → Rises out → (∀ y, y ∈ ks cur ↔ y ∈ out) →
    (ks (readsC l n i cur)).Nodup ∧ Rises (readsR l n i out) ∧ ∀ y, y ∈ ks (readsC l n i cur) ↔ y ∈ readsR l n i out
  | 0, i, cur, out, h1, h2, h3 => ⟨h1, h2, h3⟩
  | n + 1, i, cur, out, h1, h2, h3 => by
    unfold readsC readsR
    cases readsAt l i with
    | false => exact reads_same l n (i + 1) cur out h1 h2 h3
    | true =>
      obtain ⟨b1, b2⟩ := bumps_ks (names := namesAt l (i + 1)) h1
      exact reads_same l n (i + 1) _ _ b1 (rises_putS h2) fun y => by simp only [if_true, b2, mem_putS, h3]
theorem readsS (l : List Tok) : sortS (ks (readsC l l.length 0 [])) = readsR l l.length 0 [] ∧ Rises (readsR l l.length 0 []) := by
  obtain ⟨h1, h2, h3⟩ := reads_same l l.length 0 [] [] List.nodup_nil List.Pairwise.nil (fun y => by simp [ks])
  exact ⟨rises_eq (rises_sortS h1) h2 fun x => by rw [mem_sortS, h3], h2⟩
theorem writes_same (l : List Tok) : ∀ (n : Nat) (i : Int) (cur : List (List UInt8 × Int)) (out : List (List UInt8)), (ks cur).Nodup → Rises out → (∀ y, y ∈ ks cur ↔ y ∈ out) →
    (ks (writesC l n i cur)).Nodup ∧ Rises (writesR l n i out) ∧ ∀ y, y ∈ ks (writesC l n i cur) ↔ y ∈ writesR l n i out
  | 0, i, cur, out, h1, h2, h3 => ⟨h1, h2, h3⟩
  | n + 1, i, cur, out, h1, h2, h3 => by
    unfold writesC writesR wCnt wStep
    have take1 : ∀ y, y ∈ (namesAt l (i + 1)).take 1 → y ∈ namesAt l (i + 1) := fun y h => List.mem_of_mem_take h
    cases hm : moreAt l i <;> cases ho : oneAt l i
    · exact writes_same l n (i + 1) cur out h1 h2 h3
    · obtain ⟨b1, b2⟩ := bumps_ks (names := handed false (namesAt l (i + 1))) h1
      have b2' := b2
      simp only [handed, Bool.false_eq_true, if_false, if_true] at b2'
      refine writes_same l n (i + 1) _ _ b1 (rises_putS h2) fun y => ?_
      simp only [Bool.or_true, if_true, Bool.false_eq_true, if_false, handed, b2', mem_putS, h3]
    · obtain ⟨b1, b2⟩ := bumps_ks (names := handed true (namesAt l (i + 1))) h1
      have b2' := b2
      simp only [handed, Bool.false_eq_true, if_false, if_true] at b2'
      refine writes_same l n (i + 1) _ _ b1 (rises_putS h2) fun y => ?_
      simp only [Bool.true_or, if_true, Bool.false_eq_true, if_false, handed, b2', mem_putS, h3]
    · obtain ⟨b1, b2⟩ := bumps_ks (names := handed true (namesAt l (i + 1))) h1
      have b2' := b2
      simp only [handed, Bool.false_eq_true, if_false, if_true] at b2'
      refine writes_same l n (i + 1) _ _ b1 (rises_putS (rises_putS h2)) fun y => ?_
      simp only [Bool.true_or, if_true, handed, b2', mem_putS, h3]
      constructor
      · rintro (h | h) <;> simp [h]
      · rintro ((h | h) | h)
        · exact .inl h
        · exact .inr h
        · exact .inr (take1 y h)
theorem writesS (l : List Tok) : sortS (ks (writesC l l.length 0 [])) = writesR l l.length 0 [] ∧ Rises (writesR l l.length 0 []) := by
  obtain ⟨h1, h2, h3⟩ := writes_same l l.length 0 [] [] List.nodup_nil List.Pairwise.nil (fun y => by simp [ks])
  exact ⟨rises_eq (rises_sortS h1) h2 fun x => by rw [mem_sortS, h3], h2⟩
end Go.Proofs
/- The sets' layer: what is known of a statement. -/

set_option linter.unusedSimpArgs false
set_option linter.unusedVariables false
namespace Go.Proofs
open Go.Vam
/-- A value that leads into no heap object. -/
def stillV : AV → Bool
  | .sl _ | .int _ _ | .bool _ | .str _ | .ip _ | .pm _ | .nils | .nilp | .nilf | .nilm | .junk => true
  | _ => false
theorem PC_still (xs : List AV) (H : AHeap) (z : AV) (h : xs.all stillV = true) : PC xs H (some z) = some (z, H) := by
  have : xs.flatMap (reach depth H) = [] := by
    rw [List.flatMap_eq_nil_iff]
    intro x hx
    have := List.all_eq_true.1 h x hx
    cases x <;> first | rfl | cases this
  rw [PC_some, this]
  simp
@[go_sem] theorem still_sl (es : List (List AV)) : stillV (.sl es) = true := rfl
@[go_sem] theorem still_str (es : List UInt8) : stillV (.str es) = true := rfl
@[go_sem] theorem still_int (k : IntKind) (n : Int) : stillV (.int k n) = true := rfl
@[go_sem] theorem still_bool (b : Bool) : stillV (.bool b) = true := rfl
def ofS (l : List Tok) : Stm :=
  { cls := classOf l, reads := if classOf l = 1 ∨ classOf l = 2 ∨ classOf l = 7 then readsR l l.length 0 [] else [],
    writes := if classOf l = 2 then writesR l l.length 0 [] else [], norm := normL l }
theorem p_reads (l : List Tok) (hs : Small l) : PV 11 [.sl (toks l)] = some (.sl (strs (readsR l l.length 0 []))) := by
  rw [sortS_reads l hs]
  have := (readsS l).1
  unfold ks at this
  rw [this]
theorem p_writes' (l : List Tok) (hs : Small l) : PV 13 [.sl (toks l)] = some (.sl (strs (writesR l l.length 0 []))) := by
  rw [p_writes l hs]
  have := (writesS l).1
  unfold ks at this
  rw [this]
theorem build30 (c : Int) (n : List UInt8) : abuild Try.prog 30 [(0, .int .i64 c), (3, .str n)] = some (.agg [.int .i64 c, .nils, .nils, .str n]) := by
  unfold abuild
  rw [structT_30, zeroT_30]
  simp [afill, fldT_30_0, fldT_30_3, szOf_3, szOf_9, AV.cells, AV.isCell]
theorem store30 (a : AO) (c d : List AV) (hd : d.length = 4) (hc : d.all AV.isCell = true) (hl : c.length = 4) : astore Try.prog 30 (.ptr 1 0 0) (.agg d) [a, .arr 30 true 0 [c]] = some [a, .arr 30 true 0 [d]] := by
  unfold astore
  simp only [List.getElem?_cons_succ, List.getElem?_cons_zero]
  rw [if_pos ⟨Nat.le_refl _, by rw [szOf_30]; exact congrArg some hd.symm, hc, by simp only [AV.cells]; omega⟩]
  simp only [AV.cells, hd, List.take_zero, List.nil_append, List.set_cons_succ, List.set_cons_zero]
  rw [List.drop_of_length_le (by omega), List.append_nil]
theorem store30b (b : AO) (c d : List AV) (hd : d.length = 4) (hc : d.all AV.isCell = true) (hl : c.length = 4) : astore Try.prog 30 (.ptr 0 0 0) (.agg d) [.arr 30 true 0 [c], b] = some [.arr 30 true 0 [d], b] := by
  unfold astore
  simp only [List.getElem?_cons_succ, List.getElem?_cons_zero]
  rw [if_pos ⟨Nat.le_refl _, by rw [szOf_30]; exact congrArg some hd.symm, hc, by simp only [AV.cells]; omega⟩]
  simp only [AV.cells, hd, List.take_zero, List.nil_append, List.set_cons_succ, List.set_cons_zero]
  rw [List.drop_of_length_le (by omega), List.append_nil]
theorem store26 (a : AO) (p q r s : AV) (x : List (List AV)) : astore Try.prog 26 (.ptr 1 0 1) (.sl x) [a, .arr 30 true 0 [[p, q, r, s]]] = some [a, .arr 30 true 0 [[p, .sl x, r, s]]] := by
  unfold astore
  simp only [List.getElem?_cons_succ, List.getElem?_cons_zero]
  rw [if_pos ⟨Nat.le_refl _, szOf_26, rfl, Nat.le_of_ble_eq_true rfl⟩]
  rfl
theorem store26b (a : AO) (p q r s : AV) (x : List (List AV)) : astore Try.prog 26 (.ptr 1 0 2) (.sl x) [a, .arr 30 true 0 [[p, q, r, s]]] = some [a, .arr 30 true 0 [[p, q, .sl x, s]]] := by
  unfold astore
  simp only [List.getElem?_cons_succ, List.getElem?_cons_zero]
  rw [if_pos ⟨Nat.le_refl _, szOf_26, rfl, Nat.le_of_ble_eq_true rfl⟩]
  rfl
theorem frz_stm (H : AHeap) (c : Int) (n : List UInt8) (x y : AV) (r w : List (List UInt8)) (hx : x = .nils ∧ r = [] ∨ x = .sl (strs r)) (hy : y = .nils ∧ w = [] ∨ y = .sl (strs w)) : frz depth H (.agg [.int .i64 c, x, y, .str n]) = some (stm ⟨c, r, w, n⟩) := by
  rcases hx with ⟨rfl, rfl⟩ | rfl <;> rcases hy with ⟨rfl, rfl⟩ | rfl <;> rfl
theorem p_of (l : List Tok) (hs : Small l) : PV 16 [.sl (toks l)] = some (stm (ofS l)) := by
  refine PV_start k16 rfl (Nat.le_of_ble_eq_true rfl) ?_
  have hc := p_class l hs
  have ht := p_tokens l hs
  have hr := p_reads l hs
  have hw := p_writes' l hs
  unfold ofS
  generalize classOf l = c at *
  generalize normL l = n at *
  generalize readsR l l.length 0 [] = r at *
  generalize writesR l l.length 0 [] = w at *
  have st1 := store30 (.arr 30 true 0 [[.int .i64 0, .nils, .nils, .str []]]) [.int .i64 0, .nils, .nils, .str []] [.int .i64 c, .nils, .nils, .str n] rfl rfl rfl
  cases b2 : decide (c = 2)
  · have n2 : ¬ c = 2 := of_decide_eq_false b2
    cases b1 : decide (c = 1)
    · have n1 : ¬ c = 1 := of_decide_eq_false b1
      cases b7 : decide (c = 7)
      · have n7 : ¬ c = 7 := of_decide_eq_false b7
        have st2 := store30b (.arr 30 true 0 [[.int .i64 c, .nils, .nils, .str n]]) [.int .i64 0, .nils, .nils, .str []] [.int .i64 c, .nils, .nils, .str n] rfl rfl rfl
        simp only [go_sem, bx, K16, call_pure pure_33, hc, call_pure pure_34, ht, build30, st1, b2, b1, b7, st2, Nat.le_refl]
        exact frz_stm _ _ _ _ _ _ _ (.inl ⟨rfl, by simp [n1, n2, n7]⟩) (.inl ⟨rfl, by simp [n2]⟩)
      · have n7 : c = 7 := of_decide_eq_true b7
        have st2 := store30b (.arr 30 true 0 [[.int .i64 c, .sl (strs r), .nils, .str n]]) [.int .i64 0, .nils, .nils, .str []] [.int .i64 c, .sl (strs r), .nils, .str n] rfl rfl rfl
        simp only [go_sem, bx, K16, call_pure pure_33, hc, call_pure pure_34, ht, build30, st1, b2, b1, b7, call_pure pure_11, hr, PC_still, store26, st2, Nat.le_refl]
        exact frz_stm _ _ _ _ _ _ _ (.inr (by simp [n7])) (.inl ⟨rfl, by simp [n2]⟩)
    · have n1 : c = 1 := of_decide_eq_true b1
      have st2 := store30b (.arr 30 true 0 [[.int .i64 c, .sl (strs r), .nils, .str n]]) [.int .i64 0, .nils, .nils, .str []] [.int .i64 c, .sl (strs r), .nils, .str n] rfl rfl rfl
      simp only [go_sem, bx, K16, call_pure pure_33, hc, call_pure pure_34, ht, build30, st1, b2, b1, call_pure pure_11, hr, PC_still, store26, st2, Nat.le_refl]
      exact frz_stm _ _ _ _ _ _ _ (.inr (by simp [n1])) (.inl ⟨rfl, by simp [n2]⟩)
  · have n2 : c = 2 := of_decide_eq_true b2
    have st2 := store30b (.arr 30 true 0 [[.int .i64 c, .sl (strs r), .sl (strs w), .str n]]) [.int .i64 0, .nils, .nils, .str []] [.int .i64 c, .sl (strs r), .sl (strs w), .str n] rfl rfl rfl
    simp only [go_sem, bx, K16, call_pure pure_33, hc, call_pure pure_34, ht, build30, st1, b2, call_pure pure_11, hr, call_pure pure_13, hw, PC_still, store26, store26b, st2, Nat.le_refl]
    exact frz_stm _ _ _ _ _ _ _ (.inr (by simp [n2])) (.inr (by simp [n2]))
theorem p_of7 (l : List Tok) (hs : Small l) : PV 17 [.sl (toks l)] = some (stm (ofS l)) := by
  refine PV_start k17 rfl (Nat.le_of_ble_eq_true rfl) ?_
  have hc := p_class6 l hs
  have ht := p_tokens5 l hs
  have hr := p_rreads l hs
  have hw := p_rwrites l hs
  unfold ofS
  generalize classOf l = c at *
  generalize normL l = n at *
  generalize readsR l l.length 0 [] = r at *
  generalize writesR l l.length 0 [] = w at *
  have st1 := store30 (.arr 30 true 0 [[.int .i64 0, .nils, .nils, .str []]]) [.int .i64 0, .nils, .nils, .str []] [.int .i64 c, .nils, .nils, .str n] rfl rfl rfl
  cases b1 : decide (c = 1)
  · have n1 : ¬ c = 1 := of_decide_eq_false b1
    cases b2 : decide (c = 2)
    · have n2 : ¬ c = 2 := of_decide_eq_false b2
      cases b7 : decide (c = 7)
      · have n7 : ¬ c = 7 := of_decide_eq_false b7
        have st2 := store30b (.arr 30 true 0 [[.int .i64 c, .nils, .nils, .str n]]) [.int .i64 0, .nils, .nils, .str []] [.int .i64 c, .nils, .nils, .str n] rfl rfl rfl
        simp only [go_sem, bx, K17, call_pure pure_35, hc, call_pure pure_36, ht, build30, st1, b2, b1, b7, st2, Nat.le_refl]
        exact frz_stm _ _ _ _ _ _ _ (.inl ⟨rfl, by simp [n1, n2, n7]⟩) (.inl ⟨rfl, by simp [n2]⟩)
      · have n7 : c = 7 := of_decide_eq_true b7
        have st2 := store30b (.arr 30 true 0 [[.int .i64 c, .sl (strs r), .nils, .str n]]) [.int .i64 0, .nils, .nils, .str []] [.int .i64 c, .sl (strs r), .nils, .str n] rfl rfl rfl
        simp only [go_sem, bx, K17, call_pure pure_35, hc, call_pure pure_36, ht, build30, st1, b2, b1, b7, call_pure pure_12, hr, PC_still, store26, st2, Nat.le_refl]
        exact frz_stm _ _ _ _ _ _ _ (.inr (by simp [n7])) (.inl ⟨rfl, by simp [n2]⟩)
    · have n2 : c = 2 := of_decide_eq_true b2
      have st2 := store30b (.arr 30 true 0 [[.int .i64 c, .sl (strs r), .sl (strs w), .str n]]) [.int .i64 0, .nils, .nils, .str []] [.int .i64 c, .sl (strs r), .sl (strs w), .str n] rfl rfl rfl
      simp only [go_sem, bx, K17, call_pure pure_35, hc, call_pure pure_36, ht, build30, st1, b1, b2, call_pure pure_12, hr, call_pure pure_14, hw, PC_still, store26, store26b, st2, Nat.le_refl]
      exact frz_stm _ _ _ _ _ _ _ (.inr (by simp [n2])) (.inr (by simp [n2]))
  · have n1 : c = 1 := of_decide_eq_true b1
    have n2 : ¬ c = 2 := by omega
    have b2 : decide (c = 2) = false := decide_eq_false n2
    have st2 := store30b (.arr 30 true 0 [[.int .i64 c, .sl (strs r), .nils, .str n]]) [.int .i64 0, .nils, .nils, .str []] [.int .i64 c, .sl (strs r), .nils, .str n] rfl rfl rfl
    simp only [go_sem, bx, K17, call_pure pure_35, hc, call_pure pure_36, ht, build30, st1, b2, b1, call_pure pure_12, hr, PC_still, store26, st2, Nat.le_refl]
    exact frz_stm _ _ _ _ _ _ _ (.inr (by simp [n1])) (.inl ⟨rfl, by simp [n2]⟩)
end Go.Proofs
