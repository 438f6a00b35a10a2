/- PROVED: pontoonlaw07.SetsTells returns true whatever comes in, and what comes in reads behind the call as it did before. No conditions. -/
import Derived.Test.YtaejgmokgliceaaJ4
import Derived.SliceStrings
import Derived.OpenShut
import Derived.KernelRfl
import Derived.Test.YtaejgmokgliceaaJ6
import Derived.Test.YtaejgmokgliceaaRows
import Derived.WalkKit
import Derived.ProofKit
import Derived.Carry
import Derived.ShutString
import Derived.ChangeOld
import Derived.Below
import Derived.SizedLaws
/- The sets' layer: from what the machine tells to calls. -/

namespace Go.Proofs
open Go.Vam Go.RowKit
theorem frz_true {n : Nat} {H : AHeap} {r : AV} (h : frz n H r = some (.bool true)) : r = .bool true := by
  cases r with
  | bool b => cases n <;> (simp only [frz, Option.some.injEq] at h; exact h)
  | agg xs => cases n with
    | zero => simp [frz] at h
    | succ n =>
      simp only [frz] at h
      cases hm : mapO (frz n H) xs <;> rw [hm] at h <;> cases h
  | tup xs => cases n with
    | zero => simp [frz] at h
    | succ n =>
      simp only [frz] at h
      cases hm : mapO (frz n H) xs <;> rw [hm] at h <;> cases h
  | hs id i m => cases n with
    | zero => simp [frz] at h
    | succ n =>
      simp only [frz] at h
      split at h
      · split at h
        · rename_i es _ _
          cases hm : mapO (fun e => mapO (frz n H) e) (List.take m (List.drop i es)) <;> rw [hm] at h <;> cases h
        · cases h
      · cases h
  | mp id => cases n with
    | zero => simp [frz] at h
    | succ n =>
      simp only [frz] at h
      split at h
      · rename_i es _
        cases hm : mapO (fun e => (frz n H e.1).bind fun a => (frz n H e.2).map fun b => (a, b)) es <;> rw [hm] at h <;> cases h
      · cases h
  | fn f xs => cases xs <;> cases n <;> simp [frz] at h
  | _ => cases n <;> simp [frz] at h
/-- A law that the machine tells true, of arguments that are so: the call returns true, and what was there stands. -/
theorem law_walk {f : FuncId} {xs : List AV} {vs : List Value} {W : World} {ok0 : Nat → Nat → Prop} (h : PV f xs = some (.bool true)) (hlen : vs.length = xs.length)
    (hargs : ∀ i x, xs[i]? = some x → VR Try.prog (okS W.heap.size ok0 [] []) W [] x (vs.getD i undef)) :
    Calls Try.prog f vs.toArray W fun e W' => e = .returned (.bool true) ∧ Below W.heap.size W W' := by
  unfold PV at h
  cases hc : callV E f xs [] with
  | none => rw [hc] at h; cases h
  | some y =>
    obtain ⟨r, H1⟩ := y
    rw [hc] at h
    simp only at h
    have hr := frz_true h
    subst hr
    refine ((Proofs.told hc).2 W.heap.size ok0 [] W vs (St.empty _ _ _) (Nat.le_refl _) hlen hargs).mono fun e W' he => ?_
    cases e with
    | returned v =>
      obtain ⟨ρ', _, he2, he3⟩ := he
      cases he3
      exact ⟨rfl, he2.below⟩
    | _ => exact he.elim
end Go.Proofs
/- The sets' layer: slices that come in, as the abstract machine's values. -/




namespace Go.Proofs
open Go.Vam Go.RowKit Go.ChangeShapes Go.WideShapes
/-- What lies below the call's blocks stands. -/
def okAll (_ _ : Nat) : Prop := True
section
variable {P : Program} {W : World} {H : Type} {enc : TypeId × Value → H}
theorem ok_below {B b o : Nat} (h : b < B) : okS B okAll [] [] b o := .inl ⟨h, trivial⟩
theorem sl_strs {t e : TypeId} {v : Value} {a : Option Addr} {len cap : Nat} {d : DataW H} {ps : List MemPlace} (ht : P.underlying t = some (.slice e)) (he : P.underlying e = some .string) (hc : P.cellsOf e = 1) (hv : v = .slice a len cap)
    (h : DataW.Trod enc P W 0 (fun _ => true) true t v d ps) : ∃ l : List (List UInt8), VR P (okS W.heap.size okAll [] []) W [] (.sl (strs l)) v := by
  obtain ⟨fuel, hf⟩ := h
  subst hv
  rcases open_strings ht he hc hf with ⟨hcs, _⟩ | ⟨x, l, c, ss, hcs, _, hl, hm, hz, _, hcell, _⟩
  · simp [Value.cells] at hcs
    obtain ⟨rfl, rfl, rfl⟩ := hcs
    exact ⟨[], .sl0 _ _ _⟩
  · simp [Value.cells] at hcs
    obtain ⟨rfl, rfl, rfl⟩ := hcs
    simp at hz
    by_cases h0 : len = 0
    · subst h0
      exact ⟨[], .sl0 _ _ _⟩
    · obtain ⟨b, off, spot⟩ := x
      have hspot : spot = none := by simpa [Addr.add] using World.cell?_spot (hcell 0 (by omega))
      subst hspot
      have hcell' : ∀ i, i < len → W.cell? ⟨b, off + i, none⟩ = some (.string (ss.getD i ByteArray.empty)) := fun i hi => by
        rw [← Go.WideShapes.add_plain]
        exact hcell i (by omega)
      refine ⟨(ss.take len).map (·.data.toList), ?_⟩
      have hlen : (strs ((ss.take len).map (·.data.toList))).length = len := by simp [Proofs.strs]; omega
      have hget : ∀ (i : Nat) (e : List AV), (strs ((ss.take len).map (·.data.toList)))[i]? = some e → i < len ∧ e = [.str (ss.getD i ByteArray.empty).data.toList] := by
        intro i e he
        have hi : i < len := by
          have := (List.getElem?_eq_some_iff.1 he).1
          omega
        refine ⟨hi, ?_⟩
        simp only [Proofs.strs, List.getElem?_map, List.getElem?_take, if_pos hi] at he
        rw [List.getElem?_eq_getElem (by omega)] at he
        simp only [Option.map_some, Option.some.injEq] at he
        rw [← he, List.getD, List.getElem?_eq_getElem (by omega)]
        rfl
      have := VR.sl (P := P) (ok := okS W.heap.size okAll [] []) (w := W) [] (strs ((ss.take len).map (·.data.toList))) b off 1 cap (fun i _ => .string (ss.getD i ByteArray.empty))
        (fun e he => by
          obtain ⟨i, hi⟩ := List.getElem?_of_mem he
          rw [(hget i e hi).2]; rfl)
        (by omega)
        (fun i e j x he hx => by
          obtain ⟨hi, rfl⟩ := hget i e he
          have hj : j = 0 := by
            have := (List.getElem?_eq_some_iff.1 hx).1
            simp at this
            omega
          subst hj
          refine ⟨by simpa using hcell' i hi, ok_below (World.block_lt_of_cell? W _ (hcell' i hi))⟩)
        (fun i e j x he hx => by
          obtain ⟨hi, rfl⟩ := hget i e he
          cases j with
          | zero => simp at hx; subst hx; exact .str _ _
          | succ j => simp at hx)
      rw [hlen] at this
      exact this
/-- A token's cells. -/
theorem tok_cells {n : Nat} {cs : List Value} {y : DataW H × List MemPlace} (h : DataW.trod enc Try.prog W 0 (fun _ => true) true n 40 cs = some y) :
    ∃ (k p : Int) (s : ByteArray), cs = [.int .i64 k, .string s, .int .i64 p] := by
  obtain ⟨xs, m, rfl, rfl, hl, hxs, hf⟩ := DataW.trod_struct Try.underlying40 h
  have c40 : Try.prog.cellsOf 40 = 3 := by kernel_rfl
  have c3 : Try.prog.cellsOf 3 = 1 := by kernel_rfl
  have c9 : Try.prog.cellsOf 9 = 1 := by kernel_rfl
  have hx3 : xs.length = 3 := hxs
  rw [c40] at hl
  have f0 : DataW.trod enc Try.prog W 0 (fun _ => true) true m 3 ((cs.drop 0).take (Try.prog.cellsOf 3)) = xs[0]? := hf 0 _ rfl
  have f1 : DataW.trod enc Try.prog W 0 (fun _ => true) true m 9 ((cs.drop 1).take (Try.prog.cellsOf 9)) = xs[1]? := hf 1 _ rfl
  have f2 : DataW.trod enc Try.prog W 0 (fun _ => true) true m 3 ((cs.drop 2).take (Try.prog.cellsOf 3)) = xs[2]? := hf 2 _ rfl
  rw [List.getElem?_eq_getElem (by omega)] at f0 f1 f2
  rw [c3] at f0 f2
  rw [c9] at f1
  obtain ⟨a, e0, _⟩ := DataW.trod_int Try.underlying3 f0
  obtain ⟨b, e1, _⟩ := DataW.trod_string Try.underlying9 f1
  obtain ⟨c, e2, _⟩ := DataW.trod_int Try.underlying3 f2
  match cs, hl with
  | [x, y, z], _ =>
    simp at e0 e1 e2
    exact ⟨a, c, b, by rw [e0, e1, e2]⟩
theorem sl_toks {v : Value} {a : Option Addr} {len cap : Nat} {d : DataW H} {ps : List MemPlace} (hv : v = .slice a len cap) (h : DataW.Trod enc Try.prog W 0 (fun _ => true) true 22 v d ps) :
    ∃ l : List Tok, VR Try.prog (okS W.heap.size okAll [] []) W [] (.sl (toks l)) v := by
  obtain ⟨fuel, hf⟩ := h
  subst hv
  have c40 : Try.prog.cellsOf 40 = 3 := by kernel_rfl
  rcases DataW.trod_slice Try.underlying22 hf with ⟨hcs, _⟩ | ⟨x, l, c, elems, rest, n, _, hcs, _, _, hl, hm, hlen, hel, _, _⟩
  · simp [Value.cells] at hcs
    obtain ⟨rfl, rfl, rfl⟩ := hcs
    exact ⟨[], .sl0 _ _ _⟩
  · simp [Value.cells] at hcs
    obtain ⟨rfl, rfl, rfl⟩ := hcs
    by_cases h0 : len = 0
    · subst h0
      exact ⟨[], .sl0 _ _ _⟩
    · have each : ∀ i, i < len → ∃ t : Tok, ∃ s : ByteArray, t.text = s.data.toList ∧ W.cells? 0 (x.add (i * 3)) 3 = some [.int .i64 t.kind, .string s, .int .i64 t.pos] := by
        intro i hi
        have h1 := hel i hi
        rw [List.getElem?_eq_getElem (by omega), c40, Option.bind_eq_some_iff] at h1
        obtain ⟨cs, h2, h3⟩ := h1
        obtain ⟨k, p, s, rfl⟩ := tok_cells h3
        exact ⟨⟨k, s.data.toList, p⟩, s, rfl, h2⟩
      have cell : ∀ i, i < len → ∀ (cs : List Value), W.cells? 0 (x.add (i * 3)) 3 = some cs → ∀ j, j < 3 → W.cell? ((x.add (i * 3)).add j) = cs[j]? := by
        intro i hi cs hcs j hj
        exact (World.cells?_some hcs).2.2 j hj
      obtain ⟨b, off, spot⟩ := x
      have hspot : spot = none := by
        obtain ⟨t, s, _, h2⟩ := each 0 (by omega)
        have h3 := cell 0 (by omega) _ h2 0 (by omega)
        simpa [Addr.add] using World.cell?_spot h3
      subst hspot
      have cell' : ∀ i, i < len → ∃ t : Tok, ∃ s : ByteArray, t.text = s.data.toList ∧ ∀ j, j < 3 → W.cell? ⟨b, off + i * 3 + j, none⟩ = [Value.int .i64 t.kind, .string s, .int .i64 t.pos][j]? := by
        intro i hi
        obtain ⟨t, s, h1, h2⟩ := each i hi
        refine ⟨t, s, h1, fun j hj => ?_⟩
        have h3 := cell i hi _ h2 j hj
        rw [Go.WideShapes.add_plain, Go.WideShapes.add_plain] at h3
        exact h3
      have hex : ∃ (g : Nat → Tok) (gs : Nat → ByteArray), ∀ i, i < len → (g i).text = (gs i).data.toList ∧ ∀ j, j < 3 → W.cell? ⟨b, off + i * 3 + j, none⟩ = [Value.int .i64 (g i).kind, .string (gs i), .int .i64 (g i).pos][j]? := by
        refine ⟨fun i => if h : i < len then Classical.choose (cell' i h) else ⟨0, [], 0⟩, fun i => if h : i < len then Classical.choose (Classical.choose_spec (cell' i h)) else ByteArray.empty, fun i hi => ?_⟩
        simp only [hi, dif_pos]
        exact Classical.choose_spec (Classical.choose_spec (cell' i hi))
      obtain ⟨g, gs, hg⟩ := hex
      refine ⟨(List.range len).map g, ?_⟩
      have hlen' : (toks ((List.range len).map g)).length = len := by simp [toks]
      have hget : ∀ (i : Nat) (e : List AV), (toks ((List.range len).map g))[i]? = some e → i < len ∧ e = tok (g i) := by
        intro i e he
        have hi : i < len := by
          have := (List.getElem?_eq_some_iff.1 he).1
          omega
        refine ⟨hi, ?_⟩
        simp only [toks, List.getElem?_map, List.getElem?_range hi, Option.map_some, Option.some.injEq] at he
        exact he.symm
      have := VR.sl (P := Try.prog) (ok := okS W.heap.size okAll [] []) (w := W) [] (toks ((List.range len).map g)) b off 3 cap (fun i j => [Value.int .i64 (g i).kind, .string (gs i), .int .i64 (g i).pos].getD j undef)
        (fun e he => by
          obtain ⟨i, hi⟩ := List.getElem?_of_mem he
          rw [(hget i e hi).2]; rfl)
        (by omega)
        (fun i e j y he hy => by
          obtain ⟨hi, rfl⟩ := hget i e he
          have hj : j < 3 := by
            have := (List.getElem?_eq_some_iff.1 hy).1
            simpa [tok] using this
          have hc : W.cell? ⟨b, off + i * 3 + j, none⟩ = some ([Value.int .i64 (g i).kind, .string (gs i), .int .i64 (g i).pos].getD j undef) := by
            rw [(hg i hi).2 j hj, List.getD, List.getElem?_eq_getElem (by simpa using hj)]
            rfl
          exact ⟨hc, ok_below (World.block_lt_of_cell? W _ hc)⟩)
        (fun i e j y he hy => by
          obtain ⟨hi, rfl⟩ := hget i e he
          match j, hy with
          | 0, hy => simp [tok] at hy; subst hy; exact .int _ _ _
          | 1, hy => simp [tok] at hy; subst hy; rw [(hg i hi).1]; exact .str _ _
          | 2, hy => simp [tok] at hy; subst hy; exact .int _ _ _
          | j + 3, hy => simp [tok] at hy)
      rw [hlen'] at this
      exact this
end
end Go.Proofs
/- SetsTells: the row. -/











namespace Go.Proofs.Ytaejgmokgliceaa.setsTells
open Go.ChangeShapes Go.WideShapes Go.ChangeAt Go.RowKit
open Go.ChangeMaps (open_string shut_string)
open Go.Vam
set_option linter.unusedVariables false
theorem own : ownKnob Try.prog.godebug = none := by kernel_rfl
theorem laidOut : laidOutB Try.prog = true := by kernel_rfl
set_option maxRecDepth 100000 in
theorem lifted (os : Os) (started : os.Started) (H : Type) (enc : TypeId × Value → H) :
    ReturnsInHanded {} Try.checked os 3 .any (Rows.setsTellsSpec.pre6 enc Try.prog Try.f3 Rows.setsTellsRow.domain false) (Rows.setsTellsSpec.post enc Try.prog Try.f3 false true false false) := by
  refine returnsInHanded_of_change_sized (C := Try.checked) own started (by kernel_rfl) Try.func3
    (ChangeSpec.witness6 (enc := enc) (C := Try.checked) false ⟨#[], #[.slice none 0 0], []⟩ 8 (by kernel_rfl) (by kernel_rfl) (by kernel_rfl) (by kernel_rfl)) ?_
  intro W base args ds gs before hval0 hW hcnd hsz0 _
  have hsz : (DataW.weightsEach Try.prog (Try.f3.params.toList ++ Rows.setsTellsSpec.plain.varTypes Try.prog) (ds ++ gs)).all (· ≤ reachBytes) = true := hsz0
  have hval : ∀ (j : Nat) t v, Try.f3.params[j]? = some t → args[j]? = some v → Value.okWide Try.prog W .any base t v := hval0
  have hW' := hW
  obtain ⟨p, q, hA0, hV, rfl, hfz, hnd⟩ := hW
  have hA : DataW.TrodAll enc Try.prog W 0 (fun _ => true) true Try.f3.params.toList args.toList ds p := hA0
  rw [Try.params3] at hA hval hsz
  obtain ⟨v0, vs0, d0, ds0, p0, q0, hargs, rfl, rfl, h0, r0⟩ := trodAll_cons hA
  obtain ⟨rfl, rfl, rfl⟩ := trodAll_nil r0
  obtain rfl : args = #[v0] := by cases args; simp_all
  obtain ⟨rfl, rfl⟩ := trodVars_none hV
  obtain ⟨a0, len0, cap0, rfl⟩ := okWide_slice Try.underlying22 (hval 0 22 v0 rfl rfl)
  have lt0 : ∀ x ∈ p0, x.block < W.heap.size := by obtain ⟨m, hm⟩ := h0; exact DataW.trod_lt m _ _ _ hm
  obtain ⟨l0, hv0⟩ := sl_toks rfl h0
  clear hA0 hval0 hsz0 hsz
  refine (law_walk (xs := [.sl (toks l0)]) (vs := [.slice a0 len0 cap0]) (ok0 := okAll) (law_tells l0) rfl (fun i x hx => by
    cases i with
    | zero => simp at hx; subst hx; exact hv0
    | succ i => simp at hx)).mono fun e W' ⟨he, bel⟩ => ?_
  subst he
  exact ⟨_, rfl, _, _, _, [], _, [], hW', trodAll_mk1 (shut_bool Try.underlying4 _), (trodAll_cons_mk (Below.trod laidOut (by kernel_rfl) (of_decide_eq_true (by kernel_rfl)) h0 bel lt0) trodAll_mk0), rfl, bel.frame _, fun h => by cases h⟩
theorem over : Rows.setsTellsRow.holds Try.pinned (OpenSpec.ofChange Rows.setsTellsSpec) :=
  OpenClaim.holds_of_wide 3 Try.f3 rfl rfl rfl rfl rfl rfl rfl ⟨rfl, rfl, rfl, rfl, rfl⟩ rfl rfl rfl rfl rfl (by kernel_rfl) Try.func3 (by kernel_rfl)
    (of_decide_eq_true (by kernel_rfl)) (by unfold Func.isWrapper; first | (rw [if_pos (by decide +kernel)]; kernel_rfl) | (rw [if_neg (by decide +kernel)]; exact ⟨rfl, rfl⟩))
    (fun os started H enc _ => lifted os started H enc)
theorem proved : Rows.SetsTellsSaid := over
#print axioms proved
end Go.Proofs.Ytaejgmokgliceaa.setsTells
