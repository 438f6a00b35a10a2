/- What several laws of this seat need, part 2: an abstract machine for the program's code, that it is sound, and what it tells of the layer's functions. -/
import Derived.Test.YtaejgmokgliceaaJ1
import Derived.Scope
import Derived.Maps.RangeRun
import Derived.Test.YtaejgmokgliceaaProg
import Derived.KernelRfl
/- The abstract machine VAM is sound: one operation. -/

namespace Go.Vam
open Go.RowKit

structure SR (P : Program) (ok : Nat → Nat → Prop) (w : World) (ρ : Pl) (nt : Nat) (s : Slots) (a : Act) : Prop where
  size : a.tmps.size = nt
  defers : a.defers = []
  val : ∀ t, VR P ok w ρ (s t) (a.tmps.getD t undef)
theorem SR.mono {P : Program} {ok ok' : Nat → Nat → Prop} {w w' : World} {ρ ρ' : Pl} {nt : Nat} {s : Slots} {a : Act} (h : SR P ok w ρ nt s a) (hs : Stable ok w ok' w') (hp : Pre ρ ρ') : SR P ok' w' ρ' nt s a :=
  ⟨h.size, h.defers, fun t => (h.val t).mono hs hp⟩
theorem SR.put {P : Program} {ok : Nat → Nat → Prop} {w : World} {ρ : Pl} {nt : Nat} {s s' : Slots} {a : Act} {d : Option Nat} {v : AV} {u : Value} (h : SR P ok w ρ nt s a) (hv : VR P ok w ρ v u) (hp : aput nt s d v = some s') : SR P ok w ρ nt s' (a.put d u) := by
  cases d with
  | none =>
    simp only [aput, Option.some.injEq] at hp
    subst hp
    exact h
  | some d =>
    simp only [aput] at hp
    split at hp
    · rename_i hlt
      simp only [Option.some.injEq] at hp
      subst hp
      refine ⟨by simp [Act.put, h.size], h.defers, fun t => ?_⟩
      have hlt' : d < a.tmps.size := by rw [h.size]; exact hlt
      unfold upd
      split
      · rename_i e
        subst e
        simpa [Act.put, Array.getD_eq_getD_getElem?, hlt'] using hv
      · rename_i e
        have := h.val t
        have hne : d ≠ t := fun q => e q.symm
        simpa [Act.put, Array.getD_eq_getD_getElem?, Array.getElem?_setIfInBounds_ne hne] using this
    · cases hp
theorem undef_VR {P : Program} {ok : Nat → Nat → Prop} {w : World} {ρ : Pl} : VR P ok w ρ (.tup []) undef := .tup ρ [] [] rfl (by simp)
theorem ev_VR {P : Program} {ok : Nat → Nat → Prop} {w : World} {ρ : Pl} {nt : Nat} {s : Slots} {a : Act} (h : SR P ok w ρ nt s a) (x : Operand) : VR P ok w ρ (ev s x) (a.eval x) := by
  cases x with
  | tmp t => exact h.val t
  | const v => exact ofConst_VR v
  | global g => exact .junk _ _
  | func f => exact .fn ρ f [] [] rfl (by simp)

section
variable {P : Program} {w w' : World} {B : Nat} {ok0 : Nat → Nat → Prop} {ρ : Pl} {H : AHeap} {o : Oper} {a : Act} {next : Act → World → Prop} {Q : Exit → Act → World → Prop} {nt : Nat} {s : Slots}

theorem wp_value {u : Value} (h : (execOp a.eval o).run P w = .ok (.value u) w') (hn : next (a.put o.dst u) w') : o.wp P a w next Q := by
  unfold Oper.wp
  rw [h]
  exact hn
theorem wp_skipped (h : (execOp a.eval o).run P w = .ok .skip w') (hn : next (a.put o.dst undef) w') : o.wp P a w next Q := by
  unfold Oper.wp
  rw [h]
  exact hn
theorem wp_v {m : Sem Value} {u : Value} (he : execOp a.eval o = (do pure (.value (← m)))) (h : m.run P w = .ok u w') (hn : next (a.put o.dst u) w') : o.wp P a w next Q :=
  wp_value (by rw [he]; simp [h, Result.andThen]) hn
theorem wp_u {m : Sem Unit} (he : execOp a.eval o = (do m; pure .skip)) (h : m.run P w = .ok () w') (hn : next (a.put o.dst undef) w') : o.wp P a w next Q :=
  wp_skipped (by rw [he]; simp [h, Result.andThen]) hn

theorem args_VR {ok : Nat → Nat → Prop} (hs : SR P ok w ρ nt s a) (xs : List Operand) : ∀ (i : Nat) (x : AV), (xs.map (ev s))[i]? = some x → VR P ok w ρ x ((xs.map a.eval).getD i undef) := by
  intro i x hx
  rw [List.getElem?_map] at hx
  cases hc : xs[i]? with
  | none => rw [hc] at hx; cases hx
  | some c =>
    rw [hc] at hx
    simp only [Option.map_some, Option.some.injEq] at hx
    subst hx
    simp only [List.getD, List.getElem?_map, hc, Option.map_some, Option.getD_some]
    exact ev_VR hs c
theorem parts_VR {ok : Nat → Nat → Prop} (hs : SR P ok w ρ nt s a) (xs : List (Nat × Operand)) : ∀ (i : Nat) (q : Nat) (x : AV), (xs.map fun p => (p.1, ev s p.2))[i]? = some (q, x) →
    ((xs.map fun p => (p.1, a.eval p.2)).getD i (0, undef)).1 = q ∧ VR P ok w ρ x ((xs.map fun p => (p.1, a.eval p.2)).getD i (0, undef)).2 := by
  intro i q x hx
  rw [List.getElem?_map] at hx
  cases hc : xs[i]? with
  | none => rw [hc] at hx; cases hx
  | some c =>
    rw [hc] at hx
    simp only [Option.map_some, Option.some.injEq, Prod.mk.injEq] at hx
    obtain ⟨rfl, rfl⟩ := hx
    simp only [List.getD, List.getElem?_map, hc, Option.map_some, Option.getD_some]
    exact ⟨trivial, ev_VR hs _⟩
theorem opt_VR {ok : Nat → Nat → Prop} (hs : SR P ok w ρ nt s a) (x : Option Operand) : OV P ok w ρ (x.map (ev s)) (x.map a.eval) := by
  cases x with
  | none => exact .none
  | some x => exact .some _ _ (ev_VR hs x)

abbrev Then (P : Program) (B : Nat) (ok0 : Nat → Nat → Prop) (ρ : Pl) (H : AHeap) (w : World) (v : AV) (H1 : AHeap) (K : Value → World → Prop) : Prop :=
  ∀ u w' ρ', St P B ok0 ρ' H1 w' → Evo B ok0 ρ H w ρ' H1 w' → VR P (okS B ok0 ρ' H1) w' ρ' v u → K u w'

theorem pure_then {x : Option AV} {v : AV} {H1 : AHeap} {K : Value → World → Prop} (hst : St P B ok0 ρ H w) (h : x.map (fun x => (x, H)) = some (v, H1)) (hn : Then P B ok0 ρ H w v H1 K) : x = some v ∧ ∀ u, VR P (okS B ok0 ρ H) w ρ v u → K u w := by
  cases x with
  | none => cases h
  | some x =>
    simp only [Option.map_some, Option.some.injEq, Prod.mk.injEq] at h
    obtain ⟨rfl, rfl⟩ := h
    exact ⟨rfl, fun u hu => hn u w ρ hst (Evo.refl _ _ _ _ _) hu⟩

theorem aop0_wp {v : AV} {H1 : AHeap} (hst : St P B ok0 ρ H w) (hB : B ≤ w.heap.size) (hs : SR P (okS B ok0 ρ H) w ρ nt s a) (h : aop0 P o.op s H = some (v, H1)) (hn : Then P B ok0 ρ H w v H1 fun u w' => next (a.put o.dst u) w') : o.wp P a w next Q := by
  unfold aop0 at h
  split at h
  · rename_i x ho
    simp only [Option.some.injEq, Prod.mk.injEq] at h
    obtain ⟨rfl, rfl⟩ := h
    exact wp_value (by simp only [execOp, ho]; rfl) (hn _ w ρ hst (Evo.refl _ _ _ _ _) (ev_VR hs x))
  · rename_i x ho
    simp only [Option.some.injEq, Prod.mk.injEq] at h
    obtain ⟨rfl, rfl⟩ := h
    exact wp_value (by simp only [execOp, ho]; rfl) (hn _ w ρ hst (Evo.refl _ _ _ _ _) (ev_VR hs x))
  · rename_i c x y ho
    have hc := ev_VR hs c
    have hx := ev_VR hs x
    have hy := ev_VR hs y
    split at h
    · rename_i e
      simp only [Option.some.injEq, Prod.mk.injEq] at h
      obtain ⟨rfl, rfl⟩ := h
      rw [e] at hc
      generalize he : a.eval c = q at hc
      cases hc
      exact wp_value (u := a.eval x) (by simp only [execOp, ho, he]; rfl) (hn _ w ρ hst (Evo.refl _ _ _ _ _) hx)
    · rename_i e
      simp only [Option.some.injEq, Prod.mk.injEq] at h
      obtain ⟨rfl, rfl⟩ := h
      rw [e] at hc
      generalize he : a.eval c = q at hc
      cases hc
      exact wp_value (u := a.eval y) (by simp only [execOp, ho, he]; rfl) (hn _ w ρ hst (Evo.refl _ _ _ _ _) hy)
    · cases h
  · rename_i t ho
    cases hz : zeroT P t with
    | none => rw [hz] at h; cases h
    | some z =>
      rw [hz] at h
      simp only [Option.map_some, Option.some.injEq, anew, Prod.mk.injEq] at h
      obtain ⟨rfl, rfl⟩ := h
      obtain ⟨u, w', ρ', h1, h2, h3, h4⟩ := aalloc_sound hst hB hz
      exact wp_v (by simp only [execOp, ho]) h1 (hn u w' ρ' h2 h3 h4)
  · rename_i t x ho
    obtain ⟨u, w', ρ', h1, h2, h3, h4⟩ := abox_sound hst hB (ev_VR hs x) h
    exact wp_v (by simp only [execOp, ho]) h1 (hn u w' ρ' h2 h3 h4)
  · rename_i t parts ho
    obtain ⟨hx, hk⟩ := pure_then hst h hn
    obtain ⟨u, h1, h2⟩ := abuild_sound (P := P) (w := w) (ρ := ρ) (ok := okS B ok0 ρ H) (vs := parts.toList.map fun p => (p.1, a.eval p.2)) (by simp) (parts_VR hs parts.toList) hx
    exact wp_v (m := Instr.build t (parts.map fun (i, x) => (i, a.eval x))) (by simp only [execOp, ho]) (by
      rw [← h1]; congr 2; apply Array.ext'; simp) (hk u h2)
  · rename_i t n parts ho
    obtain ⟨u, w', ρ', h1, h2, h3, h4⟩ := abuildSlice_sound hst hB (vs := parts.toList.map fun p => (p.1, a.eval p.2)) (by simp) (parts_VR hs parts.toList) h
    exact wp_v (m := Instr.buildSlice t n (parts.map fun (i, x) => (i, a.eval x))) (by simp only [execOp, ho]) (by
      rw [← h1]; congr 2; apply Array.ext'; simp) (hn u w' ρ' h2 h3 h4)
  · rename_i t p ho
    obtain ⟨hx, hk⟩ := pure_then hst h hn
    obtain ⟨u, h1, h2⟩ := aload_sound hst (ev_VR hs p) hx
    exact wp_v (by simp only [execOp, ho]) h1 (hk u h2)
  · rename_i t p x ho
    cases hz : astore P t (ev s p) (ev s x) H with
    | none => rw [hz] at h; cases h
    | some H2 =>
      rw [hz] at h
      simp only [Option.map_some, Option.some.injEq, Prod.mk.injEq] at h
      obtain ⟨rfl, rfl⟩ := h
      obtain ⟨w', h1, h2, h3⟩ := astore_sound hst (ev_VR hs p) (ev_VR hs x) hz
      exact wp_u (by simp only [execOp, ho]) h1 (hn undef w' ρ h2 h3 (.junk _ _))
  · rename_i x ho
    have hx := ev_VR hs x
    split at h
    · rename_i e
      simp only [Option.some.injEq, Prod.mk.injEq] at h
      obtain ⟨rfl, rfl⟩ := h
      rw [e] at hx
      refine wp_value (u := a.eval x) ?_ (hn _ w ρ hst (Evo.refl _ _ _ _ _) hx)
      generalize he : a.eval x = q at hx
      cases hx
      simp only [execOp, ho, he]
      rfl
    · rename_i e
      simp only [Option.some.injEq, Prod.mk.injEq] at h
      obtain ⟨rfl, rfl⟩ := h
      rw [e] at hx
      refine wp_value (u := a.eval x) ?_ (hn _ w ρ hst (Evo.refl _ _ _ _ _) hx)
      generalize he : a.eval x = q at hx
      cases hx
      simp only [execOp, ho, he]
      rfl
    · cases h
  · rename_i op t x y b ho
    obtain ⟨hx, hk⟩ := pure_then hst h hn
    obtain ⟨u, h1, h2⟩ := abin_sound (w := w) x y (ev_VR hs x) (ev_VR hs y) hx
    exact wp_v (m := do eqGuard op t x y (a.eval x) (a.eval y); binOp op t (a.eval x) (a.eval y)) (by simp only [execOp, ho]) h1 (hk u h2)
  · rename_i op t x ho
    obtain ⟨hx, hk⟩ := pure_then hst h hn
    obtain ⟨u, h1, h2⟩ := aunop_sound (w := w) (ev_VR hs x) hx
    exact wp_v (by simp only [execOp, ho]) h1 (hk u h2)
  · rename_i src dst x ho
    obtain ⟨u, w', ρ', h1, h2, h3, h4⟩ := aconvert_sound hst hB (ev_VR hs x) h
    exact wp_v (by simp only [execOp, ho]) h1 (hn u w' ρ' h2 h3 h4)
  · rename_i f first cap ho
    split at h
    · rename_i he
      simp only [Option.some.injEq, Prod.mk.injEq] at h
      obtain ⟨rfl, rfl⟩ := h
      have hf : first = #[] := by
        rw [List.isEmpty_iff] at he
        exact Array.toList_eq_nil_iff.1 he
      subst hf
      have := VR.fn (P := P) (ok := okS B ok0 ρ H) (w := w) ρ f (cap.toList.map (ev s)) (cap.toList.map a.eval) (by simp) (args_VR hs cap.toList)
      refine wp_value (u := .func (.func f) #[] (cap.map a.eval)) (by simp [execOp, ho, Instr.makeFunc]) (hn _ w ρ hst (Evo.refl _ _ _ _ _) ?_)
      have e2 : (cap.toList.map a.eval).toArray = cap.map a.eval := by apply Array.ext'; simp
      rwa [e2] at this
    · cases h
  · rename_i t ho
    simp only [Option.some.injEq, Prod.mk.injEq] at h
    obtain ⟨rfl, rfl⟩ := h
    obtain ⟨u, w', ρ', h1, h2, h3, h4⟩ := amakeMap_sound hst hB t
    exact wp_v (m := Instr.makeMap t none) (by simp only [execOp, ho]; rfl) h1 (hn u w' ρ' h2 h3 h4)
  · rename_i t l c ho
    obtain ⟨u, w', ρ', h1, h2, h3, h4⟩ := amakeSlice_sound hst hB (ev_VR hs l) (ev_VR hs c) h
    exact wp_v (by simp only [execOp, ho]) h1 (hn u w' ρ' h2 h3 h4)
  · rename_i t x lo hi ho
    obtain ⟨hx, hk⟩ := pure_then hst h hn
    obtain ⟨u, h1, h2⟩ := aslice_sound hst (ev_VR hs x) (opt_VR hs lo) (opt_VR hs hi) hx
    exact wp_v (m := Instr.sliceAt t (a.eval x) (lo.map a.eval) (hi.map a.eval) none) (by simp only [execOp, ho]; rfl) h1 (hk u h2)
  · rename_i t p f ho
    obtain ⟨hx, hk⟩ := pure_then hst h hn
    obtain ⟨u, h1, h2⟩ := afieldAddr_sound (ev_VR hs p) hx
    exact wp_v (by simp only [execOp, ho]) h1 (hk u h2)
  · rename_i t p f ho
    obtain ⟨hx, hk⟩ := pure_then hst h hn
    obtain ⟨u, h1, h2⟩ := afield_sound (ev_VR hs p) hx
    exact wp_v (by simp only [execOp, ho]) h1 (hk u h2)
  · rename_i t x i ho
    obtain ⟨hx, hk⟩ := pure_then hst h hn
    obtain ⟨u, h1, h2⟩ := aindexAddr_sound hst (ev_VR hs x) (ev_VR hs i) hx
    exact wp_v (by simp only [execOp, ho]) h1 (hk u h2)
  · rename_i t x i ho
    obtain ⟨hx, hk⟩ := pure_then hst h hn
    obtain ⟨u, h1, h2⟩ := aindex_sound (w := w) (ev_VR hs x) (ev_VR hs i) hx
    exact wp_v (by simp only [execOp, ho]) h1 (hk u h2)
  · rename_i t m k c ho
    obtain ⟨hx, hk⟩ := pure_then hst h hn
    obtain ⟨u, h1, h2⟩ := alookup_sound hst (ev_VR hs m) (ev_VR hs k) hx
    exact wp_v (by simp only [execOp, ho]) h1 (hk u h2)
  · rename_i t m k x ho
    cases hz : amapUpdate P t (ev s m) (ev s k) (ev s x) H with
    | none => rw [hz] at h; cases h
    | some H2 =>
      rw [hz] at h
      simp only [Option.map_some, Option.some.injEq, Prod.mk.injEq] at h
      obtain ⟨rfl, rfl⟩ := h
      obtain ⟨w', h1, h2, h3⟩ := amapUpdate_sound hst (ev_VR hs m) (ev_VR hs k) (ev_VR hs x) hz
      exact wp_u (by simp only [execOp, ho]) h1 (hn undef w' ρ h2 h3 (.junk _ _))
  · rename_i t m k x ho
    cases hz : amapUpdate P t (ev s m) (ev s k) (ev s x) H with
    | none => rw [hz] at h; cases h
    | some H2 =>
      rw [hz] at h
      simp only [Option.map_some, Option.some.injEq, Prod.mk.injEq] at h
      obtain ⟨rfl, rfl⟩ := h
      obtain ⟨w', h1, h2, h3⟩ := amapUpdate_sound hst (ev_VR hs m) (ev_VR hs k) (ev_VR hs x) hz
      exact wp_u (by simp only [execOp, ho]) h1 (hn undef w' ρ h2 h3 (.junk _ _))
  · rename_i t x ho
    have hx := ev_VR hs x
    split at h
    · rename_i l e
      split at h
      · rename_i hT
        simp only [Option.some.injEq, Prod.mk.injEq] at h
        obtain ⟨rfl, rfl⟩ := h
        rw [e] at hx
        obtain ⟨u, w', ρ', h1, h2, h3, h4⟩ := arange_sound hst hB hT hx
        exact wp_v (by simp only [execOp, ho]) h1 (hn u w' ρ' h2 h3 h4)
      · cases h
    · cases h
  · rename_i x ho
    have hx := ev_VR hs x
    split at h
    · rename_i id e
      rw [e] at hx
      split at h
      · rename_i l pos hid
        split at h
        · rename_i hlt
          simp only [Option.some.injEq, Prod.mk.injEq] at h
          obtain ⟨rfl, rfl⟩ := h
          obtain ⟨u, w', h1, h2, h3, h4⟩ := anext_sound (t := o.type) hst hx hid hlt
          exact wp_v (by simp only [execOp, ho]) h1 (hn u w' ρ h2 h3 h4)
        · rename_i hlt
          simp only [Option.some.injEq, Prod.mk.injEq] at h
          obtain ⟨rfl, rfl⟩ := h
          obtain ⟨u, h1, h2⟩ := anext_over (t := o.type) hst hx hid hlt
          exact wp_v (by simp only [execOp, ho]) h1 (hn u w ρ hst (Evo.refl _ _ _ _ _) h2)
      · cases h
    · cases h
  · rename_i x i ho
    have hx := ev_VR hs x
    split at h
    · rename_i xs e
      obtain ⟨hx', hk⟩ := pure_then hst h hn
      rw [e] at hx
      generalize he : a.eval x = q at hx
      cases hx with
      | tup _ _ vs hlen hh =>
        have hlt : i < vs.length := by rw [← hlen]; exact (List.getElem?_eq_some_iff.1 hx').1
        refine wp_v (m := Instr.extract (a.eval x) i) (u := vs.getD i undef) (by simp only [execOp, ho]) ?_ (hk _ (hh i _ hx'))
        rw [he]
        simp [Instr.extract, hlt, List.getD]
    · cases h
  · cases h
theorem abuiltin_wp {b : Builtin} {c : Call} {v : AV} {H1 : AHeap} (hst : St P B ok0 ρ H w) (hB : B ≤ w.heap.size) (hs : SR P (okS B ok0 ρ H) w ρ nt s a) (ho : o.op = .call c) (hb : c.callee = .builtin b)
    (h : abuiltin P b c.argTypes.toList (c.args.toList.map (ev s)) H = some (v, H1)) (hn : Then P B ok0 ρ H w v H1 fun u w' => next (a.put o.dst u) w') : o.wp P a w next Q := by
  have hrun : ∀ n w', (builtin b c.argTypes o.type (c.args.map fun | .const _ => true | _ => false) (c.args.map a.eval)).run P w = .ok n w' → (execOp a.eval o).run P w = .ok n w' := by
    intro n w' hr
    simp only [execOp, ho, resolve, hb, Sem.run_bind, Sem.run_pure, Result.andThen_ok, invoke]
    exact hr
  have a1 : ∀ {x : AV}, c.args.toList.map (ev s) = [x] → ∃ p, c.args.map a.eval = #[a.eval p] ∧ ev s p = x := by
    intro x hx
    match hc : c.args.toList, hx with
    | [p], hx =>
      simp only [List.map_cons, List.map_nil, List.cons.injEq, and_true] at hx
      refine ⟨p, ?_, hx⟩
      apply Array.ext'
      simp [hc]
  have a2 : ∀ {x y : AV}, c.args.toList.map (ev s) = [x, y] → ∃ p q, c.args.map a.eval = #[a.eval p, a.eval q] ∧ ev s p = x ∧ ev s q = y := by
    intro x y hx
    match hc : c.args.toList, hx with
    | [p, q], hx =>
      simp only [List.map_cons, List.map_nil, List.cons.injEq, and_true] at hx
      refine ⟨p, q, ?_, hx.1, hx.2⟩
      apply Array.ext'
      simp [hc]
  have tt : ∀ {l : List TypeId}, c.argTypes.toList = l → c.argTypes = l.toArray := fun h => by apply Array.ext'; simp [h]
  generalize hts : c.argTypes.toList = ts at h
  generalize hxs : c.args.toList.map (ev s) = xs at h
  unfold abuiltin at h
  split at h
  · obtain ⟨p, e1, e2⟩ := a1 hxs
    rw [tt hts, e1] at hrun
    split at h
    · rename_i hl
      rename_i x
      cases hn' : alen x H with
      | none => rw [hn'] at h; cases h
      | some n =>
        rw [hn'] at h
        simp only [Option.map_some, Option.some.injEq, Prod.mk.injEq] at h
        obtain ⟨rfl, rfl⟩ := h
        subst e2
        have := alen_sound (ty := o.type) hst (ev_VR hs p) hl hn'
        exact wp_value (hrun _ _ (by simp [builtin, this, Result.andThen])) (hn _ w ρ hst (Evo.refl _ _ _ _ _) (.int _ _ _))
    · cases h
  · obtain ⟨p, q, e1, e2, e3⟩ := a2 hxs
    rw [tt hts, e1] at hrun
    subst e2
    subst e3
    obtain ⟨u, w', ρ', h1, h2, h3, h4⟩ := aappend_sound (ty := o.type) hst hB (ev_VR hs p) (ev_VR hs q) h
    exact wp_value (hrun _ _ (by simp [builtin, h1, Result.andThen])) (hn u w' ρ' h2 h3 h4)
  · obtain ⟨p, q, e1, e2, e3⟩ := a2 hxs
    rw [tt hts, e1] at hrun
    subst e2
    subst e3
    rename_i t t2
    obtain ⟨u, w', h1, h2, h3, h4⟩ := acopy_sound (t2 := t2) (ty := o.type) hst (ev_VR hs p) (ev_VR hs q) h
    exact wp_value (hrun _ _ (by simp [builtin, h1, Result.andThen])) (hn u w' ρ h2 h3 h4)
  · obtain ⟨p, q, e1, e2, e3⟩ := a2 hxs
    rw [tt hts, e1] at hrun
    rename_i t t2 x k
    cases hd : adelete P t x k H with
    | none => rw [hd] at h; cases h
    | some H2 =>
      rw [hd] at h
      simp only [Option.map_some, Option.some.injEq, Prod.mk.injEq] at h
      obtain ⟨rfl, rfl⟩ := h
      subst e2
      subst e3
      obtain ⟨w', h1, h2, h3⟩ := adelete_sound (t2 := t2) (ty := o.type) hst (ev_VR hs p) (ev_VR hs q) hd
      exact wp_value (hrun _ _ (by simp [builtin, h1, Result.andThen])) (hn (.tuple #[]) w' ρ h2 h3 (.tup ρ [] [] rfl (by simp)))
  · obtain ⟨p, q, e1, e2, e3⟩ := a2 hxs
    rw [e1] at hrun
    split at h
    · rename_i k x k' y hk
      subst hk
      simp only [Option.some.injEq, Prod.mk.injEq] at h
      obtain ⟨rfl, rfl⟩ := h
      have hp := ev_VR hs p
      have hq := ev_VR hs q
      rw [e2] at hp
      rw [e3] at hq
      generalize a.eval p = u1 at hrun hp
      generalize a.eval q = u2 at hrun hq
      cases hp
      cases hq
      exact wp_value (hrun _ _ (by simp [builtin, Builtin.min_, Builtin.min2])) (hn _ w ρ hst (Evo.refl _ _ _ _ _) (.int _ _ _))
    · cases h
  · obtain ⟨p, q, e1, e2, e3⟩ := a2 hxs
    rw [e1] at hrun
    split at h
    · rename_i k x k' y hk
      subst hk
      simp only [Option.some.injEq, Prod.mk.injEq] at h
      obtain ⟨rfl, rfl⟩ := h
      have hp := ev_VR hs p
      have hq := ev_VR hs q
      rw [e2] at hp
      rw [e3] at hq
      generalize a.eval p = u1 at hrun hp
      generalize a.eval q = u2 at hrun hq
      cases hp
      cases hq
      exact wp_value (hrun _ _ (by simp [builtin, Builtin.max_, Builtin.max2])) (hn _ w ρ hst (Evo.refl _ _ _ _ _) (.int _ _ _))
    · cases h
  · cases h

theorem aop_wp {cx : Cx} (hcx : CallOk cx) {v : AV} {H1 : AHeap} (hst : St cx.P B ok0 ρ H w) (hB : B ≤ w.heap.size) (hs : SR cx.P (okS B ok0 ρ H) w ρ nt s a) (h : aop cx o.op s H = some (v, H1)) (hn : Then cx.P B ok0 ρ H w v H1 fun u w' => next (a.put o.dst u) w') : o.wp cx.P a w next Q := by
  by_cases hc : ∃ c, o.op = .call c
  · obtain ⟨c, ho⟩ := hc
    rw [ho] at h
    change acallop cx c s H = _ at h
    unfold acallop at h
    split at h
    · rename_i b hb
      exact abuiltin_wp hst hB hs ho hb h hn
    · rename_i f hf
      have hv := ev_VR hs f
      split at h
      · rename_i g cap hg
        rw [hg] at hv
        generalize he : a.eval f = u at hv
        cases hv with
        | fn _ _ _ vs hlen hh =>
          obtain ⟨⟨fn, cd, hf1, hf2, hf3⟩, htold⟩ := acallf_sound hcx h
          have hcalls := htold B ok0 ρ w (c.args.toList.map a.eval ++ vs) hst hB (by simp [hlen]) (fun i x hx => by
            by_cases hi : i < (c.args.toList.map (ev s)).length
            · rw [List.getElem?_append_left hi] at hx
              have := args_VR hs c.args.toList i x hx
              rw [List.getD, List.getElem?_append_left (by simpa using hi)]
              exact this
            · rw [List.getElem?_append_right (by omega)] at hx
              have := hh _ x hx
              rw [List.getD, List.getElem?_append_right (by simp at hi; simpa using hi)]
              simpa using this)
          have hrun : (execOp a.eval o).run cx.P w = .ok (.enter g (c.args.toList.map a.eval ++ vs).toArray) w := by
            have e2 : (#[] ++ c.args.map a.eval : Array Value) ++ vs.toArray = (c.args.toList.map a.eval ++ vs).toArray := by apply Array.ext'; simp
            have hn2 : (fn.name == "runtime.NumGoroutine") = false := by simpa using hf3
            simp only [execOp, ho, resolve, hf, he, Deferred.ofValue, Sem.run_bind, Sem.run_pure, Result.andThen_ok, invoke, callFunc, run_program, hf1, e2, hn2, hf2, Option.isNone_some]
            simp
          unfold Oper.wp
          rw [hrun, Oper.upon_enter]
          refine Calls.mono hcalls fun e w1 hh => ?_
          cases e with
          | returned v =>
            obtain ⟨ρ', h1, h2, h3⟩ := hh
            exact hn v w1 ρ' h1 h2 h3
          | panicked _ => exact hh.elim
          | outgrown => exact hh.elim
      · cases h
    · cases h
  · have hnc : ∀ c, o.op ≠ .call c := fun c e => hc ⟨c, e⟩
    rw [aop_not hnc] at h
    exact aop0_wp hst hB hs h hn
end
end Go.Vam
/- The abstract machine VAM is sound: regions in the text's order. -/

namespace Go.Vam
open Go.RowKit

section
variable {w w' : World} {B : Nat} {ok0 : Nat → Nat → Prop} {ρ : Pl} {H : AHeap} {a : Act} {Q : Exit → Act → World → Prop} {nt : Nat} {s : Slots}

theorem wants_sound {P : Program} {ok : Nat → Nat → Prop} {ops : Array Oper} {o : Oper} {b : Bool} (hs : SR P ok w ρ nt s a) (h : wants ops s o = some b) : Region.wanted o (yielded ops a.tmps) = b := by
  unfold wants at h
  unfold Region.wanted
  split at h
  · rename_i hg
    simp only [Option.some.injEq] at h
    rw [hg]
    exact h
  · rename_i j want hg
    rw [hg]
    simp only
    split at h
    · rename_i d hd
      unfold guardV at h
      split at h
      · rename_i c hc
        simp only [Option.some.injEq] at h
        have hv := hs.val d
        rw [hc] at hv
        have hy : yielded ops a.tmps j = some c := by
          unfold yielded
          rw [hd]
          simp only [Option.bind_some]
          cases ht : a.tmps[d]? with
          | none =>
            have e : a.tmps.getD d undef = undef := by simp [Array.getD_eq_getD_getElem?, ht]
            rw [e] at hv
            simp only [undef] at hv
            cases hv
          | some u =>
            have e : a.tmps.getD d undef = u := by simp [Array.getD_eq_getD_getElem?, ht]
            rw [e] at hv
            cases hv
            rfl
        rw [hy]
        subst h
        cases c <;> cases want <;> rfl
      · rename_i hc
        simp only [Option.some.injEq] at h
        subst h
        have hv := hs.val d
        rw [hc] at hv
        have hy : yielded ops a.tmps j = none := by
          unfold yielded
          rw [hd]
          simp only [Option.bind_some]
          cases ht : a.tmps[d]? with
          | none => rfl
          | some u =>
            have e : a.tmps.getD d undef = u := by simp [Array.getD_eq_getD_getElem?, ht]
            rw [e] at hv
            cases hv
            rfl
        rw [hy]
        rfl
      · cases h
    · cases h

theorem aops_wp {cx : Cx} (hcx : CallOk cx) {ops : Array Oper} : ∀ (l : List Oper) (s : Slots) (H : AHeap) (a : Act) (w : World) (ρ : Pl) (s' : Slots) (H' : AHeap), St cx.P B ok0 ρ H w → B ≤ w.heap.size → SR cx.P (okS B ok0 ρ H) w ρ nt s a → aops cx nt ops l s H = some (s', H') →
    (∀ a' w' ρ', St cx.P B ok0 ρ' H' w' → Evo B ok0 ρ H w ρ' H' w' → SR cx.P (okS B ok0 ρ' H') w' ρ' nt s' a' → Q .normal a' w') → wpList cx.P ops Q l a w
  | [], s, H, a, w, ρ, s', H', hst, hB, hs, h, hn => by
    simp only [aops, Option.some.injEq, Prod.mk.injEq] at h
    obtain ⟨rfl, rfl⟩ := h
    exact hn a w ρ hst (Evo.refl _ _ _ _ _) hs
  | o :: rest, s, H, a, w, ρ, s', H', hst, hB, hs, h, hn => by
    unfold aops at h
    unfold wpList
    cases hw : wants ops s o with
    | none => rw [hw] at h; cases h
    | some b =>
      rw [hw] at h
      have hwt := wants_sound hs hw
      cases b with
      | false =>
        simp only at h
        rw [if_neg (by rw [hwt]; simp)]
        cases hp : aput nt s o.dst (.tup []) with
        | none => rw [hp] at h; cases h
        | some s1 =>
          rw [hp] at h
          exact aops_wp hcx rest s1 H _ w ρ s' H' hst hB (hs.put undef_VR hp) h hn
      | true =>
        simp only at h
        rw [if_pos hwt]
        refine .inl ?_
        cases ho : aop cx o.op s H with
        | none => rw [ho] at h; cases h
        | some y =>
          obtain ⟨v, H1⟩ := y
          rw [ho] at h
          simp only at h
          cases hp : aput nt s o.dst v with
          | none => rw [hp] at h; cases h
          | some s1 =>
            rw [hp] at h
            refine aop_wp hcx hst hB hs ho fun u w1 ρ1 s1' e1 v1 => ?_
            refine aops_wp hcx rest s1 H1 _ w1 ρ1 s' H' s1' (Nat.le_trans hB (Nat.le_trans (Nat.le_refl _) ?_)) ((hs.mono e1.stab e1.pre).put v1 hp) h fun a' w' ρ' p q r => hn a' w' ρ' p (e1.trans q) r
            exact e1.below.size
end
end Go.Vam
/- The abstract machine VAM: what every order of an open region keeps: plain facts of the edges, of what operations read. -/

namespace Go.Vam

/-! ### bits -/
def maskF (A : Array Nat) (s : Nat) (e : Edge) : Nat := if Region.binds .any e then s ||| 2 ^ e.on ||| A.getD e.on 0 else s
theorem mask_bit (A : Array Nat) (i : Nat) : ∀ (l : List Edge) (s0 : Nat), (l.foldl (maskF A) s0).testBit i = true → s0.testBit i = true ∨ ∃ e ∈ l, Region.binds .any e = true ∧ (e.on = i ∨ (A.getD e.on 0).testBit i = true)
  | [], s0, h => .inl h
  | e :: l, s0, h => by
    simp only [List.foldl_cons] at h
    rcases mask_bit A i l _ h with h | ⟨e', h1, h2, h3⟩
    · unfold maskF at h
      split at h
      · rename_i hb
        simp only [Nat.testBit_or, Bool.or_eq_true, Nat.testBit_two_pow, decide_eq_true_eq] at h
        rcases h with (h | h) | h
        · exact .inl h
        · exact .inr ⟨e, by simp, hb, .inl h⟩
        · exact .inr ⟨e, by simp, hb, .inr h⟩
      · exact .inl h
    · exact .inr ⟨e', by simp [h1], h2, h3⟩
def bstep (acc : Array Nat) (o : Oper) : Array Nat := acc.push (o.after.foldl (maskF acc) 0)
theorem bfold_size : ∀ (l : List Oper) (acc : Array Nat), (l.foldl bstep acc).size = acc.size + l.length
  | [], acc => rfl
  | o :: l, acc => by
    simp only [List.foldl_cons, bfold_size l, List.length_cons, bstep, Array.size_push]
    omega
theorem bfold_keep : ∀ (l : List Oper) (acc : Array Nat) (k : Nat), k < acc.size → (l.foldl bstep acc)[k]? = acc[k]?
  | [], acc, k, _ => rfl
  | o :: l, acc, k, h => by
    simp only [List.foldl_cons]
    rw [bfold_keep l _ k (by simp [bstep]; omega)]
    simp only [bstep, Array.getElem?_push]
    rw [if_neg (by omega)]
theorem bfold_at : ∀ (l : List Oper) (acc : Array Nat) (j : Nat) (o : Oper), l[j]? = some o → ∃ A : Array Nat, (∀ k, k < A.size → (l.foldl bstep acc)[k]? = A[k]?) ∧ (l.foldl bstep acc)[acc.size + j]? = some (o.after.foldl (maskF A) 0)
  | [], acc, j, o, h => by cases h
  | p :: l, acc, 0, o, h => by
    simp only [List.getElem?_cons_zero, Option.some.injEq] at h
    subst h
    refine ⟨acc, fun k hk => bfold_keep _ _ _ hk, ?_⟩
    simp only [List.foldl_cons, Nat.add_zero]
    rw [bfold_keep l _ _ (by simp [bstep])]
    simp [bstep]
  | p :: l, acc, j + 1, o, h => by
    simp only [List.getElem?_cons_succ] at h
    obtain ⟨A, h1, h2⟩ := bfold_at l (bstep acc p) j o h
    refine ⟨A, h1, ?_⟩
    rw [show acc.size + (j + 1) = (bstep acc p).size + j by simp [bstep]; omega]
    exact h2
theorem before_eq (ops : Array Oper) : preOf ops = ops.toList.foldl bstep #[] := by
  unfold preOf Region.before
  rw [← Array.foldl_toList]
  rfl
theorem isPre_spec {ops : Array Oper} {i j : Nat} (h : isPre (preOf ops) i j = true) : ∃ o, ops[j]? = some o ∧ ∃ e ∈ o.after.toList, Region.binds .any e = true ∧ (e.on = i ∨ isPre (preOf ops) i e.on = true) := by
  unfold isPre at h
  have hlt : j < ops.size := by
    rcases Nat.lt_or_ge j ops.size with h' | h'
    · exact h'
    · rw [Array.getD_eq_getD_getElem?, Array.getElem?_eq_none (by rw [before_eq, bfold_size]; simp; omega)] at h
      simp at h
  have ho : ops.toList[j]? = some ops[j] := by simp [hlt]
  obtain ⟨A, h1, h2⟩ := bfold_at ops.toList #[] j _ ho
  rw [← before_eq] at h1 h2
  simp only [List.size_toArray, List.length_nil, Nat.zero_add] at h2
  rw [Array.getD_eq_getD_getElem?, h2, Option.getD_some, ← Array.foldl_toList] at h
  refine ⟨ops[j], by simp [hlt], ?_⟩
  rcases mask_bit A i _ _ h with h | ⟨e, e1, e2, e3⟩
  · simp at h
  · refine ⟨e, e1, e2, ?_⟩
    rcases e3 with e3 | e3
    · exact .inl e3
    · refine .inr ?_
      unfold isPre
      rcases Nat.lt_or_ge e.on A.size with h' | h'
      · rw [Array.getD_eq_getD_getElem?, h1 _ h', ← Array.getD_eq_getD_getElem?]
        exact e3
      · rw [Array.getD_eq_getD_getElem?, Array.getElem?_eq_none h'] at e3
        simp at e3

structure Static (ops : Array Oper) : Prop where
  back : ∀ (i : Nat) (o : Oper), ops[i]? = some o → ∀ e ∈ o.after.toList, Region.binds .any e = true → e.on < i
  one : ∀ (i j : Nat) (o p : Oper) (d : Nat), i ≠ j → ops[i]? = some o → ops[j]? = some p → p.dst = some d → o.dst ≠ some d ∧ (d ∈ readsOf ops o → isPre (preOf ops) i j = true ∨ isPre (preOf ops) j i = true)
theorem mem_zipIdx {α : Type} {l : Array α} {i : Nat} {x : α} (h : l[i]? = some x) : (x, i) ∈ l.toList.zipIdx := List.mk_mem_zipIdx_iff_getElem?.2 (by simpa using h)
theorem drawStatic_spec {ops : Array Oper} (h : drawStatic ops = true) : Static ops := by
  unfold drawStatic at h
  simp only [Bool.and_eq_true] at h
  obtain ⟨h1, h2⟩ := h
  constructor
  · intro i o ho e he hb
    have := List.all_eq_true.1 h1 (o, i) (mem_zipIdx ho)
    simp only at this
    rw [← Array.all_toList] at this
    have := List.all_eq_true.1 this e he
    rw [hb] at this
    simpa using this
  · intro i j o p d hne ho hp hd
    have h3 := List.all_eq_true.1 h2 (o, i) (mem_zipIdx ho)
    have h4 := List.all_eq_true.1 h3 (p, j) (mem_zipIdx hp)
    simp only [hd] at h4
    have hij : (i == j) = false := by simpa using hne
    rw [hij] at h4
    simp only [Bool.false_or, Bool.and_eq_true, bne_iff_ne, ne_eq, Bool.or_eq_true, Bool.not_eq_true', ordered] at h4
    refine ⟨h4.1, fun hm => ?_⟩
    rcases h4.2 with h | h
    · have : (readsOf ops o).contains d = true := by simpa using hm
      rw [this] at h
      cases h
    · exact h
theorem isPre_lt {ops : Array Oper} (hs : Static ops) {i : Nat} : ∀ (j : Nat), isPre (preOf ops) i j = true → i < j := by
  intro j
  induction j using Nat.strongRecOn with
  | _ j ih =>
    intro h
    obtain ⟨o, ho, e, he, hb, h3⟩ := isPre_spec h
    have hlt := hs.back j o ho e he hb
    rcases h3 with h3 | h3
    · omega
    · have := ih e.on hlt h3
      omega
def Closed (ops : Array Oper) (L : Nat → Prop) : Prop := ∀ (i : Nat) (o : Oper), ops[i]? = some o → L i → ∀ e ∈ o.after.toList, Region.binds .any e = true → L e.on
theorem closed_pre {ops : Array Oper} {L : Nat → Prop} (hs : Static ops) (hc : Closed ops L) {i : Nat} : ∀ (j : Nat), isPre (preOf ops) i j = true → L j → L i := by
  intro j
  induction j using Nat.strongRecOn with
  | _ j ih =>
    intro h hl
    obtain ⟨o, ho, e, he, hb, h3⟩ := isPre_spec h
    have hle := hc j o ho hl e he hb
    rcases h3 with h3 | h3
    · rw [← h3]; exact hle
    · exact ih e.on (hs.back j o ho e he hb) h3 hle
theorem ready_pre {ops : Array Oper} {L : Nat → Prop} (hs : Static ops) (hc : Closed ops L) {i j : Nat} (hr : ∀ o, ops[j]? = some o → ∀ e ∈ o.after.toList, Region.binds .any e = true → L e.on) (h : isPre (preOf ops) i j = true) : L i := by
  obtain ⟨o, ho, e, he, hb, h3⟩ := isPre_spec h
  have hle := hr o ho e he hb
  rcases h3 with h3 | h3
  · rw [← h3]; exact hle
  · exact closed_pre hs hc e.on h3 hle

/-! ### what operations read -/
theorem ev_congr {s s2 : Slots} {x : Operand} (h : ∀ t, x = .tmp t → s t = s2 t) : ev s x = ev s2 x := by
  cases x <;> first | rfl | exact h _ rfl
theorem map_congr_ev {s s2 : Slots} {xs : List Operand} (h : ∀ x ∈ xs, ev s x = ev s2 x) : xs.map (ev s) = xs.map (ev s2) := List.map_congr_left h
theorem aop_congr (cx : Cx) {s s2 : Slots} (o : Op) (H : AHeap) (h : ∀ x ∈ o.operands.toList, ev s x = ev s2 x) : aop cx o s H = aop cx o s2 H := by
  cases o with
  | call c =>
    change acallop cx c s H = acallop cx c s2 H
    have ha : c.args.toList.map (ev s) = c.args.toList.map (ev s2) := map_congr_ev fun x hx => h x (by
      simp only [Op.operands, Call.operands, Array.toList_append]
      exact List.mem_append_right _ hx)
    unfold acallop
    rw [ha]
    split
    · rfl
    · rename_i f hf
      rw [h f (by simp only [Op.operands, Call.operands, hf, Array.toList_append]; simp)]
    · rfl
  | build t ps =>
    have ha : (ps.toList.map fun p => (p.1, ev s p.2)) = ps.toList.map fun p => (p.1, ev s2 p.2) := List.map_congr_left fun p hp => by
      rw [h p.2 (by simp only [Op.operands]; exact List.mem_map.2 ⟨p, hp, rfl⟩)]
    simp only [aop, aop0, ha]
  | buildSlice t n ps =>
    have ha : (ps.toList.map fun p => (p.1, ev s p.2)) = ps.toList.map fun p => (p.1, ev s2 p.2) := List.map_congr_left fun p hp => by
      rw [h p.2 (by simp only [Op.operands]; exact List.mem_map.2 ⟨p, hp, rfl⟩)]
    simp only [aop, aop0, ha]
  | makeFunc fn first cap =>
    have ha : cap.toList.map (ev s) = cap.toList.map (ev s2) := map_congr_ev fun x hx => h x (by
      simp only [Op.operands, Array.toList_append]
      exact List.mem_append_right _ hx)
    cases fn <;> simp only [aop, aop0, ha]
  | slice t x lo hi mx =>
    have h1 := h x (by simp [Op.operands])
    have h2 : lo.map (ev s) = lo.map (ev s2) := by
      cases lo with
      | none => rfl
      | some y => rw [Option.map_some, Option.map_some, h y (by simp [Op.operands])]
    have h3 : hi.map (ev s) = hi.map (ev s2) := by
      cases hi with
      | none => rfl
      | some y => rw [Option.map_some, Option.map_some, h y (by simp [Op.operands])]
    cases mx <;> simp only [aop, aop0, h1, h2, h3]
  | makeMap t r => cases r <;> rfl
  | alloc => rfl
  | ready => rfl
  | waits => rfl
  | move x => have := h x (by simp [Op.operands]); simp only [aop, aop0, this]
  | assign x => have := h x (by simp [Op.operands]); simp only [aop, aop0, this]
  | box _ x => have := h x (by simp [Op.operands]); simp only [aop, aop0, this]
  | load _ x => have := h x (by simp [Op.operands]); simp only [aop, aop0, this]
  | nilCheck x => have := h x (by simp [Op.operands]); simp only [aop, aop0, this]
  | unOp _ _ x => have := h x (by simp [Op.operands]); simp only [aop, aop0, this]
  | convert _ _ x => have := h x (by simp [Op.operands]); simp only [aop, aop0, this]
  | fieldAddr _ x _ => have := h x (by simp [Op.operands]); simp only [aop, aop0, this]
  | field _ x _ => have := h x (by simp [Op.operands]); simp only [aop, aop0, this]
  | range _ x => have := h x (by simp [Op.operands]); simp only [aop, aop0, this]
  | next x b => have := h x (by simp [Op.operands]); cases b <;> simp only [aop, aop0, this]
  | extract x _ => have := h x (by simp [Op.operands]); simp only [aop, aop0, this]
  | pick c a b =>
    have h1 := h c (by simp [Op.operands])
    have h2 := h a (by simp [Op.operands])
    have h3 := h b (by simp [Op.operands])
    simp only [aop, aop0, h1, h2, h3]
  | store _ a v =>
    have h1 := h a (by simp [Op.operands])
    have h2 := h v (by simp [Op.operands])
    simp only [aop, aop0, h1, h2]
  | binOp _ _ a v _ =>
    have h1 := h a (by simp [Op.operands])
    have h2 := h v (by simp [Op.operands])
    simp only [aop, aop0, h1, h2]
  | makeSlice _ a v =>
    have h1 := h a (by simp [Op.operands])
    have h2 := h v (by simp [Op.operands])
    simp only [aop, aop0, h1, h2]
  | indexAddr _ a v =>
    have h1 := h a (by simp [Op.operands])
    have h2 := h v (by simp [Op.operands])
    simp only [aop, aop0, h1, h2]
  | index _ a v =>
    have h1 := h a (by simp [Op.operands])
    have h2 := h v (by simp [Op.operands])
    simp only [aop, aop0, h1, h2]
  | lookup _ a v _ =>
    have h1 := h a (by simp [Op.operands])
    have h2 := h v (by simp [Op.operands])
    simp only [aop, aop0, h1, h2]
  | mapUpdate _ m k v =>
    have h1 := h m (by simp [Op.operands])
    have h2 := h k (by simp [Op.operands])
    have h3 := h v (by simp [Op.operands])
    simp only [aop, aop0, h1, h2, h3]
  | insert _ m k v =>
    have h1 := h m (by simp [Op.operands])
    have h2 := h k (by simp [Op.operands])
    have h3 := h v (by simp [Op.operands])
    simp only [aop, aop0, h1, h2, h3]
  | _ => rfl
theorem aop_reads (cx : Cx) {ops : Array Oper} {s s2 : Slots} (o : Oper) (H : AHeap) (h : ∀ t ∈ readsOf ops o, s t = s2 t) : aop cx o.op s H = aop cx o.op s2 H :=
  aop_congr cx o.op H fun x hx => ev_congr fun t e => h t (by
    unfold readsOf opTmps
    exact List.mem_append_left _ (List.mem_filterMap.2 ⟨x, hx, by rw [e]⟩))
theorem wants_reads {ops : Array Oper} {s s2 : Slots} (o : Oper) (h : ∀ t ∈ readsOf ops o, s t = s2 t) : wants ops s o = wants ops s2 o := by
  unfold wants
  split
  · rfl
  · rename_i j b hg
    split
    · rename_i d hd
      rw [h d (by unfold readsOf; rw [hg]; simp [hd])]
    · rfl
theorem map_same {x : Option AV} {v : AV} {H H1 : AHeap} (h : x.map (fun x => (x, H)) = some (v, H1)) : x = some v ∧ H1 = H := by
  cases x with
  | none => cases h
  | some x =>
    simp only [Option.map_some, Option.some.injEq, Prod.mk.injEq] at h
    exact ⟨by rw [h.1], h.2.symm⟩
/-- What doesn't look at the heap tells the same in all. -/
theorem aop_heedless (cx : Cx) {s : Slots} {o : Op} {H H1 : AHeap} {v : AV} (ho : heeds o = false) (h : aop cx o s H = some (v, H1)) (H2 : AHeap) : aop cx o s H2 = some (v, H2) := by
  cases o <;> simp only [heeds, Bool.true_eq_false] at ho
  all_goals simp only [aop, aop0] at h ⊢
  all_goals first
    | (obtain ⟨h1, _⟩ := map_same h; rw [h1]; rfl)
    | (simp only [Option.some.injEq, Prod.mk.injEq] at h; rw [h.1])
    | skip
  · split at h <;> first | (simp only [Option.some.injEq, Prod.mk.injEq] at h; rw [h.1]) | cases h
  · split at h <;> first | (simp only [Option.some.injEq, Prod.mk.injEq] at h; rw [h.1]) | cases h
  · rename_i fn first cap
    cases fn <;> simp only at h ⊢ <;> try (cases h; done)
    split at h
    · rename_i hc
      simp only [Option.some.injEq, Prod.mk.injEq] at h
      rw [if_pos hc, h.1]
    · cases h
  · split at h
    · obtain ⟨h1, _⟩ := map_same h
      rw [h1]
      rfl
    · cases h
end Go.Vam
/- The abstract machine VAM is sound: regions of open order. -/

namespace Go.Vam
open Go.RowKit

/-! ### the trail -/
def Sq (tr : List Trail) (s' : Slots) (i : Nat) : Slots := ((tr[i]?).map (·.s)).getD s'
def Hq (tr : List Trail) (H' : AHeap) (i : Nat) : AHeap := ((tr[i]?).map (·.H)).getD H'
structure Leg (cx : Cx) (nt : Nat) (ops : Array Oper) (o : Oper) (t : Trail) (s1 : Slots) (H1 : AHeap) : Prop where
  want : wants ops t.s o = some t.want
  yes : t.want = true → t.eff = effOp cx t.s o.op ∧ aop cx o.op t.s t.H = some (t.val, t.H1)
  no : t.want = false → t.eff = false ∧ t.val = .tup [] ∧ t.H1 = t.H
  put : aput nt t.s o.dst t.val = some s1
  next : H1 = t.H1
theorem trail_spec (cx : Cx) (nt : Nat) (ops : Array Oper) : ∀ (l : List Oper) (s : Slots) (H : AHeap) (tr : List Trail) (s' : Slots) (H' : AHeap), atrail cx nt ops l s H = some (tr, s', H') →
    tr.length = l.length ∧ Sq tr s' 0 = s ∧ Hq tr H' 0 = H ∧ ∀ (i : Nat) (o : Oper), l[i]? = some o → ∃ t, tr[i]? = some t ∧ Leg cx nt ops o t (Sq tr s' (i + 1)) (Hq tr H' (i + 1))
  | [], s, H, tr, s', H', h => by
    simp only [atrail, Option.some.injEq, Prod.mk.injEq] at h
    obtain ⟨rfl, rfl, rfl⟩ := h
    exact ⟨rfl, rfl, rfl, by simp⟩
  | o :: l, s, H, tr, s', H', h => by
    unfold atrail at h
    have fin : ∀ {t : Trail} {tr1 : List Trail} {s1 : Slots} {H1 : AHeap}, tr = t :: tr1 → t.s = s → t.H = H → atrail cx nt ops l s1 H1 = some (tr1, s', H') → Leg cx nt ops o t s1 H1 →
        tr.length = (o :: l).length ∧ Sq tr s' 0 = s ∧ Hq tr H' 0 = H ∧ ∀ (i : Nat) (p : Oper), (o :: l)[i]? = some p → ∃ t, tr[i]? = some t ∧ Leg cx nt ops p t (Sq tr s' (i + 1)) (Hq tr H' (i + 1)) := by
      intro t tr1 s1 H1 e hs hH hr hl
      subst e
      obtain ⟨k1, k2, k3, k4⟩ := trail_spec cx nt ops l s1 H1 tr1 s' H' hr
      refine ⟨by simp [k1], by simp [Sq, hs], by simp [Hq, hH], fun i p hi => ?_⟩
      have e1 : ∀ i, Sq (t :: tr1) s' (i + 1) = Sq tr1 s' i := fun i => by simp [Sq]
      have e2 : ∀ i, Hq (t :: tr1) H' (i + 1) = Hq tr1 H' i := fun i => by simp [Hq]
      cases i with
      | zero =>
        simp only [List.getElem?_cons_zero, Option.some.injEq] at hi
        subst hi
        refine ⟨t, rfl, ?_⟩
        rw [e1, e2, k2, k3]
        exact hl
      | succ i =>
        simp only [List.getElem?_cons_succ] at hi
        obtain ⟨t', h1, h2⟩ := k4 i p hi
        refine ⟨t', by simpa using h1, ?_⟩
        rw [e1, e2]
        exact h2
    cases hw : wants ops s o with
    | none => rw [hw] at h; cases h
    | some b =>
      rw [hw] at h
      cases b with
      | false =>
        simp only at h
        cases hp : aput nt s o.dst (.tup []) with
        | none => rw [hp] at h; cases h
        | some s1 =>
          rw [hp] at h
          simp only at h
          cases hr : atrail cx nt ops l s1 H with
          | none => rw [hr] at h; cases h
          | some z =>
            obtain ⟨tr1, s2, H2⟩ := z
            rw [hr] at h
            simp only [Option.some.injEq, Prod.mk.injEq] at h
            obtain ⟨rfl, rfl, rfl⟩ := h
            exact fin rfl rfl rfl hr ⟨hw, fun e => (by cases e), fun _ => ⟨rfl, rfl, rfl⟩, hp, rfl⟩
      | true =>
        simp only at h
        cases ho : aop cx o.op s H with
        | none => rw [ho] at h; cases h
        | some y =>
          obtain ⟨v, H1⟩ := y
          rw [ho] at h
          simp only at h
          cases hp : aput nt s o.dst v with
          | none => rw [hp] at h; cases h
          | some s1 =>
            rw [hp] at h
            simp only at h
            cases hr : atrail cx nt ops l s1 H1 with
            | none => rw [hr] at h; cases h
            | some z =>
              obtain ⟨tr1, s2, H2⟩ := z
              rw [hr] at h
              simp only [Option.some.injEq, Prod.mk.injEq] at h
              obtain ⟨rfl, rfl, rfl⟩ := h
              exact fin rfl rfl rfl hr ⟨hw, fun _ => ⟨rfl, ho⟩, fun e => (by cases e), hp, rfl⟩

theorem aput_get {nt : Nat} {s s1 : Slots} {d : Option Nat} {v : AV} (h : aput nt s d v = some s1) : (∀ t, d = some t → s1 t = v) ∧ ∀ t, d ≠ some t → s1 t = s t := by
  cases d with
  | none =>
    simp only [aput, Option.some.injEq] at h
    subst h
    exact ⟨fun t e => (by cases e), fun t _ => rfl⟩
  | some d =>
    simp only [aput] at h
    split at h
    · simp only [Option.some.injEq] at h
      subst h
      refine ⟨fun t e => ?_, fun t e => ?_⟩
      · cases e; simp [upd]
      · have : t ≠ d := fun q => e (by rw [q])
        simp [upd, this]
    · cases h

/-! ### counting -/
theorem effs_zero (fl : List Bool) : effs fl 0 = 0 := by cases fl <;> rfl
theorem effs_step : ∀ (fl : List Bool) (i : Nat) (b : Bool), fl[i]? = some b → effs fl (i + 1) = effs fl i + (if b then 1 else 0)
  | [], i, b, h => by cases h
  | a :: fl, 0, b, h => by
    simp only [List.getElem?_cons_zero, Option.some.injEq] at h
    subst h
    simp only [effs, effs_zero, Nat.add_zero, Nat.zero_add]
  | a :: fl, i + 1, b, h => by
    simp only [List.getElem?_cons_succ] at h
    have := effs_step fl i b h
    simp only [effs, this]
    omega
theorem effs_beyond : ∀ (fl : List Bool) (i : Nat), fl.length ≤ i → effs fl (i + 1) = effs fl i
  | [], i, _ => by cases i <;> rfl
  | a :: fl, 0, h => by simp at h
  | a :: fl, i + 1, h => by
    simp only [List.length_cons] at h
    simp only [effs, effs_beyond fl i (by omega)]
theorem effs_succ_le (fl : List Bool) (i : Nat) : effs fl i ≤ effs fl (i + 1) := by
  cases h : fl[i]? with
  | none => rw [effs_beyond fl i (by simpa using h)]; exact Nat.le_refl _
  | some b => rw [effs_step fl i b h]; omega
theorem effs_mono (fl : List Bool) {i j : Nat} (h : i ≤ j) : effs fl i ≤ effs fl j := by
  induction j with
  | zero => have : i = 0 := by omega
            subst this; exact Nat.le_refl _
  | succ j ih =>
    rcases Nat.lt_or_ge i (j + 1) with h' | h'
    · exact Nat.le_trans (ih (by omega)) (effs_succ_le fl j)
    · have : i = j + 1 := by omega
      subst this; exact Nat.le_refl _
theorem effs_find (fl : List Bool) : ∀ (i c : Nat), c < effs fl i → ∃ j, j < i ∧ fl[j]? = some true ∧ effs fl j = c
  | 0, c, h => by rw [effs_zero] at h; omega
  | i + 1, c, h => by
    rcases Nat.lt_or_ge c (effs fl i) with h' | h'
    · obtain ⟨j, h1, h2⟩ := effs_find fl i c h'
      exact ⟨j, by omega, h2⟩
    · cases hb : fl[i]? with
      | none => rw [effs_beyond fl i (by simpa using hb)] at h; omega
      | some b =>
        rw [effs_step fl i b hb] at h
        cases b with
        | false => simp at h; omega
        | true => simp at h; exact ⟨i, by omega, hb, by omega⟩
theorem effs_lt (fl : List Bool) {i j : Nat} (h : i < j) (hb : fl[i]? = some true) : effs fl i < effs fl j := by
  have h1 := effs_step fl i true hb
  have h2 := effs_mono fl (i := i + 1) (j := j) h
  simp at h1
  omega
theorem flags_get {tr : List Trail} {i : Nat} {t : Trail} (h : tr[i]? = some t) : (flags tr)[i]? = some t.eff := by simp [flags, h]
theorem flags_some {tr : List Trail} {i : Nat} {b : Bool} (h : (flags tr)[i]? = some b) : ∃ t, tr[i]? = some t ∧ t.eff = b := by
  simp only [flags, List.getElem?_map] at h
  cases ht : tr[i]? with
  | none => rw [ht] at h; cases h
  | some t => rw [ht] at h; exact ⟨t, rfl, by simpa using h⟩
theorem heapAt_eq (H' : AHeap) : ∀ (tr : List Trail), (∀ (i : Nat) (t : Trail), tr[i]? = some t → t.eff = false → Hq tr H' (i + 1) = t.H) → ∀ i, i ≤ tr.length → heapAt tr H' (effs (flags tr) i) = Hq tr H' i
  | [], _, i, hi => by
    have : i = 0 := by simpa using hi
    subst this
    rfl
  | t :: tr, hc, i, hi => by
    have ih := heapAt_eq H' tr (fun i t' h1 h2 => by have := hc (i + 1) t' (by simpa using h1) h2; simpa [Hq] using this)
    cases i with
    | zero =>
      rw [effs_zero]
      have e : Hq (t :: tr) H' 0 = t.H := by simp [Hq]
      rw [e]
      simp only [heapAt]
      split
      · rfl
      · rename_i he
        have h1 := hc 0 t rfl (by simpa using he)
        have h2 := ih 0 (Nat.zero_le _)
        rw [effs_zero] at h2
        rw [h2, ← h1]
        simp [Hq]
    | succ i =>
      have e : Hq (t :: tr) H' (i + 1) = Hq tr H' i := by simp [Hq]
      have h2 := ih i (by simp at hi; omega)
      rw [e, ← h2]
      simp only [flags, List.map_cons, effs, heapAt]
      cases t.eff with
      | true => simp only [if_true, Nat.add_comm 1]
      | false => simp
theorem allIx_spec {fl : List Bool} {p : Nat → Bool → Bool} (h : allIx fl p = true) {i : Nat} {b : Bool} (hb : fl[i]? = some b) : p i b = true :=
  List.all_eq_true.1 h (b, i) (List.mk_mem_zipIdx_iff_getElem?.2 hb)
theorem allIx_of {fl : List Bool} {p : Nat → Bool → Bool} (h : ∀ i b, fl[i]? = some b → p i b = true) : allIx fl p = true :=
  List.all_eq_true.2 fun x hx => h x.2 x.1 (List.mk_mem_zipIdx_iff_getElem?.1 hx)

/-! ### the walk of any order -/
section
variable {cx : Cx} {nt : Nat} {ops : Array Oper} {s s' : Slots} {H H' : AHeap} {tr : List Trail}
open Classical in
noncomputable def sL (ops : Array Oper) (s s' : Slots) (L : Nat → Prop) : Slots := fun d => if ∃ (j : Nat) (o : Oper), ops[j]? = some o ∧ o.dst = some d ∧ L j then s' d else s d

structure Drawn (cx : Cx) (nt : Nat) (ops : Array Oper) (s : Slots) (H : AHeap) (tr : List Trail) (s' : Slots) (H' : AHeap) : Prop where
  stat : Static ops
  ord : effOrdered (preOf ops) (flags tr) = true
  std : steady cx ops tr H'
  len : tr.length = ops.size
  s0 : Sq tr s' 0 = s
  H0 : Hq tr H' 0 = H
  leg : ∀ (i : Nat) (o : Oper), ops[i]? = some o → ∃ t, tr[i]? = some t ∧ Leg cx nt ops o t (Sq tr s' (i + 1)) (Hq tr H' (i + 1))
theorem Drawn.heap (h : Drawn cx nt ops s H tr s' H') {i : Nat} (hi : i ≤ tr.length) : heapAt tr H' (effs (flags tr) i) = Hq tr H' i := by
  refine heapAt_eq H' tr (fun i t ht he => ?_) i hi
  have hlt : i < ops.size := by rw [← h.len]; exact (List.getElem?_eq_some_iff.1 ht).1
  obtain ⟨t', h1, h2⟩ := h.leg i ops[i] (Array.getElem?_eq_getElem hlt)
  rw [ht] at h1
  cases h1
  rw [h2.next]
  exact h.std.1 t (List.mem_of_getElem? ht) he
theorem Drawn.written (h : Drawn cx nt ops s H tr s' H') : ∀ (i : Nat), i ≤ ops.size → (∀ (j : Nat) (o : Oper) (d : Nat), j < i → ops[j]? = some o → o.dst = some d → ∃ t, tr[j]? = some t ∧ Sq tr s' i d = t.val) ∧
    (∀ d, (∀ (j : Nat) (o : Oper), j < i → ops[j]? = some o → o.dst ≠ some d) → Sq tr s' i d = s d)
  | 0, _ => ⟨fun j o d hj => absurd hj (by omega), fun d _ => by rw [h.s0]⟩
  | i + 1, hi => by
    obtain ⟨ih1, ih2⟩ := h.written i (by omega)
    obtain ⟨t, ht, hl⟩ := h.leg i ops[i] (Array.getElem?_eq_getElem (by omega))
    obtain ⟨p1, p2⟩ := aput_get hl.put
    have es : Sq tr s' i = t.s := by simp [Sq, ht]
    constructor
    · intro j o d hj ho hd
      by_cases hji : j = i
      · subst hji
        have : o = ops[j] := by
          rw [Array.getElem?_eq_getElem (by omega)] at ho
          simpa using ho.symm
        subst this
        exact ⟨t, ht, p1 d hd⟩
      · obtain ⟨t', h1, h2⟩ := ih1 j o d (by omega) ho hd
        refine ⟨t', h1, ?_⟩
        have hne := (h.stat.one i j ops[i] o d (Ne.symm hji) (Array.getElem?_eq_getElem (by omega)) ho hd).1
        rw [p2 d hne, ← es, h2]
    · intro d hno
      rw [p2 d (hno i ops[i] (by omega) (Array.getElem?_eq_getElem (by omega))), ← es]
      exact ih2 d fun j o hj ho => hno j o (by omega) ho
theorem sq_end (hl : tr.length = ops.size) : Sq tr s' ops.size = s' := by
  unfold Sq
  rw [List.getElem?_eq_none (by omega)]
  rfl
/-- Who is ready reads what the text's order shows him. -/
theorem Drawn.reads (h : Drawn cx nt ops s H tr s' H') {L : Nat → Prop} (hc : Closed ops L) {i : Nat} {o : Oper} {t : Trail} (ho : ops[i]? = some o) (ht : tr[i]? = some t) (hni : ¬ L i) (hr : ∀ e ∈ o.after.toList, Region.binds .any e = true → L e.on) :
    ∀ d ∈ readsOf ops o, sL ops s s' L d = t.s d := by
  intro d hd
  have hlt : i < ops.size := (Array.getElem?_eq_some_iff.1 ho).1
  have es : Sq tr s' i = t.s := by simp [Sq, ht]
  have hr' : ∀ o', ops[i]? = some o' → ∀ e ∈ o'.after.toList, Region.binds .any e = true → L e.on := fun o' ho' => by
    rw [ho] at ho'
    cases ho'
    exact hr
  obtain ⟨w1, w2⟩ := h.written i (by omega)
  obtain ⟨f1, f2⟩ := h.written ops.size (Nat.le_refl _)
  by_cases hex : ∃ (j : Nat) (p : Oper), ops[j]? = some p ∧ p.dst = some d
  · obtain ⟨j, p, hp, hpd⟩ := hex
    have uniq : ∀ k q, ops[k]? = some q → q.dst = some d → k = j := by
      intro k q hq hqd
      rcases Nat.decEq k j with hne | he
      · exact absurd hqd (h.stat.one k j q p d hne hq hp hpd).1
      · exact he
    have hjl : j < ops.size := (Array.getElem?_eq_some_iff.1 hp).1
    have late : ¬ L j → (i ≤ j) → sL ops s s' L d = t.s d := by
      intro hnj hle
      have hno : ¬ ∃ (k : Nat) (q : Oper), ops[k]? = some q ∧ q.dst = some d ∧ L k := fun ⟨k, q, hq, hqd, hk⟩ => hnj (uniq k q hq hqd ▸ hk)
      unfold sL
      rw [if_neg hno, ← es]
      exact (w2 d fun k q hk hq hqd => by have := uniq k q hq hqd; omega).symm
    by_cases hij : i = j
    · subst hij
      exact late hni (Nat.le_refl _)
    · rcases (h.stat.one i j o p d hij ho hp hpd).2 hd with hpre | hpre
      · have hlt' := isPre_lt h.stat j hpre
        exact late (fun hL => hni (closed_pre h.stat hc j hpre hL)) (by omega)
      · have hlt' := isPre_lt h.stat i hpre
        have hL := ready_pre h.stat hc hr' hpre
        unfold sL
        rw [if_pos ⟨j, p, hp, hpd, hL⟩]
        obtain ⟨t1, a1, a2⟩ := w1 j p d hlt' hp hpd
        obtain ⟨t2, b1, b2⟩ := f1 j p d hjl hp hpd
        rw [sq_end h.len] at b2
        rw [a1] at b1
        cases b1
        rw [b2, ← es, a2]
  · have hno : ¬ ∃ (k : Nat) (q : Oper), ops[k]? = some q ∧ q.dst = some d ∧ L k := fun ⟨k, q, hq, hqd, _⟩ => hex ⟨k, q, hq, hqd⟩
    unfold sL
    rw [if_neg hno, ← es]
    exact (w2 d fun k q _ hq hqd => hex ⟨k, q, hq, hqd⟩).symm
theorem Drawn.put (h : Drawn cx nt ops s H tr s' H') {L L' : Nat → Prop} {i : Nat} {o : Oper} {t : Trail} (ho : ops[i]? = some o) (ht : tr[i]? = some t) (hL : ∀ j, L' j ↔ L j ∨ j = i) : aput nt (sL ops s s' L) o.dst t.val = some (sL ops s s' L') := by
  have hlt : i < ops.size := (Array.getElem?_eq_some_iff.1 ho).1
  obtain ⟨t', ht', hl⟩ := h.leg i o ho
  rw [ht] at ht'
  cases ht'
  have hput := hl.put
  obtain ⟨f1, f2⟩ := h.written ops.size (Nat.le_refl _)
  cases hd : o.dst with
  | none =>
    simp only [aput]
    congr 1
    funext d
    unfold sL
    have : (∃ (j : Nat) (o : Oper), ops[j]? = some o ∧ o.dst = some d ∧ L j) ↔ ∃ (j : Nat) (o : Oper), ops[j]? = some o ∧ o.dst = some d ∧ L' j := by
      constructor
      · rintro ⟨j, p, a, b, c⟩; exact ⟨j, p, a, b, (hL j).2 (.inl c)⟩
      · rintro ⟨j, p, a, b, c⟩
        rcases (hL j).1 c with c | c
        · exact ⟨j, p, a, b, c⟩
        · subst c
          rw [ho] at a
          cases a
          rw [hd] at b
          cases b
    rw [propext this]
  | some d0 =>
    rw [hd] at hput
    simp only [aput] at hput ⊢
    split at hput
    · rename_i hn
      rw [if_pos hn]
      congr 1
      funext d
      unfold upd
      by_cases he : d = d0
      · subst he
        rw [if_pos rfl]
        unfold sL
        rw [if_pos ⟨i, o, ho, hd, (hL i).2 (.inr rfl)⟩]
        obtain ⟨t2, b1, b2⟩ := f1 i o d hlt ho hd
        rw [sq_end h.len] at b2
        rw [ht] at b1
        cases b1
        exact b2.symm
      · rw [if_neg he]
        unfold sL
        have : (∃ (j : Nat) (o : Oper), ops[j]? = some o ∧ o.dst = some d ∧ L j) ↔ ∃ (j : Nat) (o : Oper), ops[j]? = some o ∧ o.dst = some d ∧ L' j := by
          constructor
          · rintro ⟨j, p, a, b, c⟩; exact ⟨j, p, a, b, (hL j).2 (.inl c)⟩
          · rintro ⟨j, p, a, b, c⟩
            rcases (hL j).1 c with c | c
            · exact ⟨j, p, a, b, c⟩
            · subst c
              rw [ho] at a
              cases a
              rw [hd] at b
              exact absurd (Option.some.inj b).symm he
        rw [propext this]
    · cases hput
end
end Go.Vam
/- The abstract machine VAM is sound: regions of open order, walked in any order. -/

namespace Go.Vam
open Go.RowKit

def Lof (listed : Array Bool) (j : Nat) : Prop := listed.getD j false = true
theorem ready_spec {ops : Array Oper} {listed : Array Bool} {i : Nat} (h : i ∈ Region.ready .any ops listed) : i < ops.size ∧ listed.getD i true = false ∧ ∃ o, ops[i]? = some o ∧ ∀ e ∈ o.after.toList, Region.binds .any e = true → Lof listed e.on := by
  unfold Region.ready at h
  simp only [List.mem_filter, List.mem_range, Bool.and_eq_true, Bool.not_eq_true'] at h
  obtain ⟨h1, h2, h3⟩ := h
  refine ⟨h1, h2, ops[i], Array.getElem?_eq_getElem h1, fun e he hb => ?_⟩
  rw [Array.getElem?_eq_getElem h1, Option.map_some, Option.getD_some, ← Array.all_toList] at h3
  have := List.all_eq_true.1 h3 e he
  rw [hb] at this
  simpa [Lof] using this
theorem ready_nil {ops : Array Oper} {listed : Array Bool} (hs : Static ops) (hl : listed.size = ops.size) (h : Region.ready .any ops listed = []) : ∀ j, j < ops.size → Lof listed j := by
  intro j
  induction j using Nat.strongRecOn with
  | _ j ih =>
    intro hj
    unfold Lof
    cases hb : listed.getD j false with
    | true => rfl
    | false =>
      exfalso
      have hjl : j < listed.size := by omega
      have hmem : j ∈ Region.ready .any ops listed := by
        unfold Region.ready
        simp only [List.mem_filter, List.mem_range, Bool.and_eq_true, Bool.not_eq_true']
        refine ⟨hj, ?_, ?_⟩
        · rw [Array.getD_eq_getD_getElem?, Array.getElem?_eq_getElem hjl] at hb ⊢
          exact hb
        · rw [Array.getElem?_eq_getElem hj, Option.map_some, Option.getD_some, ← Array.all_toList]
          refine List.all_eq_true.2 fun e he => ?_
          cases hbe : Region.binds .any e with
          | false => rfl
          | true =>
            have hlt := hs.back j ops[j] (Array.getElem?_eq_getElem hj) e he hbe
            simpa [Lof] using ih e.on hlt (by omega)
      rw [h] at hmem
      cases hmem
theorem lof_set {listed : Array Bool} {i : Nat} (hi : i < listed.size) (j : Nat) : Lof (listed.setIfInBounds i true) j ↔ Lof listed j ∨ j = i := by
  unfold Lof
  rw [Array.getD_eq_getD_getElem?, Array.getD_eq_getD_getElem?, Array.getElem?_setIfInBounds]
  by_cases h : i = j
  · subst h
    simp [hi]
  · rw [if_neg h]
    constructor
    · exact fun e => .inl e
    · rintro (e | e)
      · exact e
      · exact absurd e.symm h
theorem count_set {listed : Array Bool} {i : Nat} (hi : i < listed.size) (hf : listed.getD i true = false) : (listed.setIfInBounds i true).toList.count false + 1 = listed.toList.count false := by
  have hg : listed[i] = false := by
    rw [Array.getD_eq_getD_getElem?, Array.getElem?_eq_getElem hi] at hf
    exact hf
  have hl : i < listed.toList.length := by simpa using hi
  have e : (listed.setIfInBounds i true).toList = listed.toList.set i true := by simp
  rw [e, List.count_set hl]
  have hgl : listed.toList[i] = false := by simpa using hg
  have hpos : 0 < listed.toList.count false := List.count_pos_iff.2 (by rw [← hgl]; exact List.getElem_mem hl)
  have hb1 : (false == false) = true := rfl
  have hb2 : (true == false) = false := rfl
  rw [hgl, hb1, hb2]
  simp only [if_true, Bool.false_eq_true, if_false]
  omega

section
variable {B : Nat} {ok0 : Nat → Nat → Prop} {Q : Exit → Act → World → Prop} {cx : Cx} {nt : Nat} {ops : Array Oper} {s s' : Slots} {H H' : AHeap} {tr : List Trail}

theorem Drawn.walk (hcx : CallOk cx) (h : Drawn cx nt ops s H tr s' H') : ∀ (fuel : Nat) (listed : Array Bool) (a : Act) (w : World) (ρ : Pl) (c : Nat), listed.size = ops.size → listed.toList.count false ≤ fuel → Closed ops (Lof listed) → c ≤ effs (flags tr) ops.size →
    (∀ j, (flags tr)[j]? = some true → (Lof listed j ↔ effs (flags tr) j < c)) → St cx.P B ok0 ρ (heapAt tr H' c) w → B ≤ w.heap.size → SR cx.P (okS B ok0 ρ (heapAt tr H' c)) w ρ nt (sL ops s s' (Lof listed)) a →
    (∀ a' w' ρ', St cx.P B ok0 ρ' H' w' → Evo B ok0 ρ (heapAt tr H' c) w ρ' H' w' → SR cx.P (okS B ok0 ρ' H') w' ρ' nt s' a' → Q .normal a' w') → wpAny cx.P .any ops Q fuel listed a w := by
  have hlen : (flags tr).length = ops.size := by simp [flags, h.len]
  -- when all are listed
  have fin : ∀ (listed : Array Bool) (a : Act) (w : World) (ρ : Pl) (c : Nat), (∀ j, j < ops.size → Lof listed j) → c ≤ effs (flags tr) ops.size → (∀ j, (flags tr)[j]? = some true → (Lof listed j ↔ effs (flags tr) j < c)) →
      St cx.P B ok0 ρ (heapAt tr H' c) w → SR cx.P (okS B ok0 ρ (heapAt tr H' c)) w ρ nt (sL ops s s' (Lof listed)) a →
      (∀ a' w' ρ', St cx.P B ok0 ρ' H' w' → Evo B ok0 ρ (heapAt tr H' c) w ρ' H' w' → SR cx.P (okS B ok0 ρ' H') w' ρ' nt s' a' → Q .normal a' w') → Q .normal a w := by
    intro listed a w ρ c hall hc heff hst hs hn
    have hce : c = effs (flags tr) ops.size := by
      rcases Nat.lt_or_ge c (effs (flags tr) ops.size) with hlt | hge
      · obtain ⟨j, h1, h2, h3⟩ := effs_find _ _ _ hlt
        have := (heff j h2).1 (hall j h1)
        omega
      · omega
    have hH : heapAt tr H' c = H' := by
      rw [hce]
      have := h.heap (i := ops.size) (by rw [h.len]; exact Nat.le_refl _)
      rw [this]
      unfold Hq
      rw [List.getElem?_eq_none (by rw [h.len]; exact Nat.le_refl _)]
      rfl
    have hS : sL ops s s' (Lof listed) = s' := by
      funext d
      unfold sL
      split
      · rfl
      · rename_i hno
        have := (h.written ops.size (Nat.le_refl _)).2 d fun j o hj ho hd => hno ⟨j, o, ho, hd, hall j hj⟩
        rw [sq_end h.len] at this
        exact this.symm
    rw [hH] at hst hs hn
    rw [hS] at hs
    exact hn a w ρ hst (Evo.refl _ _ _ _ _) hs
  intro fuel
  induction fuel with
  | zero =>
    intro listed a w ρ c hsz hcount hclosed hc heff hst hB hs hn
    have hall : ∀ j, j < ops.size → Lof listed j := by
      intro j hj
      unfold Lof
      cases hb : listed.getD j false with
      | true => rfl
      | false =>
        have hjl : j < listed.size := by omega
        have hm : false ∈ listed.toList := by
          rw [Array.getD_eq_getD_getElem?, Array.getElem?_eq_getElem hjl, Option.getD_some] at hb
          rw [Array.mem_toList_iff, ← hb]
          exact Array.getElem_mem hjl
        have := List.count_pos_iff.2 hm
        omega
    refine ⟨?_, fin listed a w ρ c hall hc heff hst hs hn⟩
    cases hr : Region.ready .any ops listed with
    | nil => rfl
    | cons i l =>
      obtain ⟨h1, h2, _⟩ := ready_spec (i := i) (ops := ops) (listed := listed) (by rw [hr]; simp)
      have := hall i h1
      unfold Lof at this
      have hil : i < listed.size := by omega
      rw [Array.getD_eq_getD_getElem?, Array.getElem?_eq_getElem hil] at this h2
      simp only [Option.getD_some] at this h2
      rw [this] at h2
      cases h2
  | succ fuel ih =>
    intro listed a w ρ c hsz hcount hclosed hc heff hst hB hs hn
    refine ⟨fun hr => fin listed a w ρ c (ready_nil h.stat hsz hr) hc heff hst hs hn, fun i hi => ?_⟩
    obtain ⟨h1, h2, o, ho, hpre⟩ := ready_spec hi
    have hil : i < listed.size := by omega
    obtain ⟨t, ht, hl⟩ := h.leg i o ho
    have hni : ¬ Lof listed i := by
      unfold Lof
      rw [Array.getD_eq_getD_getElem?, Array.getElem?_eq_getElem hil] at h2 ⊢
      simp only [Option.getD_some] at h2 ⊢
      rw [h2]
      simp
    have hpre' : ∀ o', ops[i]? = some o' → ∀ e ∈ o'.after.toList, Region.binds .any e = true → Lof listed e.on := fun o' ho' => by
      rw [ho] at ho'
      cases ho'
      exact hpre
    have hset := lof_set (listed := listed) hil
    have hreads := h.reads hclosed ho ht hni hpre
    have hput := h.put ho ht hset
    have hfl := flags_get ht
    have hclosed' : Closed ops (Lof (listed.setIfInBounds i true)) := by
      intro k p hp hk e he hb
      rcases (hset k).1 hk with hk | hk
      · exact (hset _).2 (.inl (hclosed k p hp hk e he hb))
      · subst hk
        rw [ho] at hp
        cases hp
        exact (hset _).2 (.inl (hpre e he hb))
    have hcnt := count_set hil h2
    have hsz' : (listed.setIfInBounds i true).size = ops.size := by simp [hsz]
    have hw : wants ops (sL ops s s' (Lof listed)) o = some t.want := by rw [wants_reads o hreads]; exact hl.want
    have hwt := wants_sound hs hw
    unfold wpOp
    rw [ho]
    simp only
    -- behind an operation that leaves the heap as it is
    have same : ∀ (a' : Act) (w1 : World) (ρ1 : Pl), t.eff = false → St cx.P B ok0 ρ1 (heapAt tr H' c) w1 → Evo B ok0 ρ (heapAt tr H' c) w ρ1 (heapAt tr H' c) w1 → SR cx.P (okS B ok0 ρ1 (heapAt tr H' c)) w1 ρ1 nt (sL ops s s' (Lof (listed.setIfInBounds i true))) a' →
        wpAny cx.P .any ops Q fuel (listed.setIfInBounds i true) a' w1 := by
      intro a' w1 ρ1 hef hst1 he1 hs1
      refine ih _ a' w1 ρ1 c hsz' (by omega) hclosed' hc (fun j hj => ?_) hst1 (Nat.le_trans hB he1.below.size) hs1 fun a2 w2 ρ2 p q r => hn a2 w2 ρ2 p (he1.trans q) r
      rw [hset j, heff j hj]
      constructor
      · rintro (e | e)
        · exact e
        · subst e
          rw [hfl, hef] at hj
          cases hj
      · exact fun e => .inl e
    cases hwant : t.want with
    | false =>
      rw [hwant] at hwt
      rw [if_neg (by rw [hwt]; simp)]
      obtain ⟨n1, n2, n3⟩ := hl.no hwant
      refine same _ w ρ n1 hst (Evo.refl _ _ _ _ _) (hs.put (v := .tup []) undef_VR ?_)
      rw [← n2]
      exact hput
    | true =>
      rw [hwant] at hwt
      rw [if_pos hwt]
      refine .inl ?_
      obtain ⟨y1, y2⟩ := hl.yes hwant
      have hHi : heapAt tr H' (effs (flags tr) i) = t.H := by
        rw [h.heap (i := i) (by rw [h.len]; omega)]
        simp [Hq, ht]
      cases hef : t.eff with
      | false =>
        have hop : aop cx o.op t.s (heapAt tr H' c) = some (t.val, heapAt tr H' c) := by
          have hq := h.std.1 t (List.mem_of_getElem? ht) hef
          by_cases hce : c = effs (flags tr) i
          · rw [hce, hHi, y2, hq]
          · by_cases hh : heeds o.op = true
            · refine h.std.2 (i, c) ?_ t o ht ho hwant
              unfold pairs
              refine List.mem_flatMap.2 ⟨i, List.mem_range.2 (by omega), List.mem_map.2 ⟨c, List.mem_filter.2 ⟨List.mem_range.2 (by rw [hlen]; omega), ?_⟩, rfl⟩⟩
              have hfd : (flags tr).getD i true = false := by rw [List.getD, hfl, Option.getD_some]; exact hef
              simp only [hfd, ho, Option.map_some, Option.getD_some, hh, Bool.not_false, Bool.true_and, Bool.and_eq_true, bne_iff_ne, ne_eq]
              refine ⟨hce, allIx_of fun j b hb => ?_⟩
              cases b with
              | false => rfl
              | true =>
                simp only [Bool.not_true, Bool.false_or]
                have hjl : j < ops.size := by rw [← hlen]; exact (List.getElem?_eq_some_iff.1 hb).1
                split
                · rename_i hlt
                  have hL := (heff j hb).2 hlt
                  cases hp : isPre (preOf ops) i j with
                  | false => rfl
                  | true => exact absurd (closed_pre h.stat hclosed j hp hL) hni
                · rename_i hge
                  have hnL : ¬ Lof listed j := fun hL => hge ((heff j hb).1 hL)
                  cases hp : isPre (preOf ops) j i with
                  | false => rfl
                  | true => exact absurd (ready_pre h.stat hclosed hpre' hp) hnL
            · exact aop_heedless cx (by simpa using hh) y2 _
        have hop' : aop cx o.op (sL ops s s' (Lof listed)) (heapAt tr H' c) = some (t.val, heapAt tr H' c) := by rw [aop_reads cx o _ hreads]; exact hop
        refine aop_wp hcx hst hB hs hop' fun u w1 ρ1 s1 e1 v1 => ?_
        exact same _ w1 ρ1 hef s1 e1 ((hs.mono e1.stab e1.pre).put v1 hput)
      | true =>
        rw [hef] at hfl
        have hce : c = effs (flags tr) i := by
          have hge : c ≤ effs (flags tr) i := by
            rcases Nat.lt_or_ge (effs (flags tr) i) c with hlt | hge
            · exact absurd ((heff i hfl).2 hlt) hni
            · exact hge
          rcases Nat.lt_or_ge c (effs (flags tr) i) with hlt | hge'
          · obtain ⟨j, j1, j2, j3⟩ := effs_find _ _ _ hlt
            have hpr : isPre (preOf ops) j i = true := by
              have := allIx_spec (allIx_spec h.ord j2) hfl
              simpa [j1] using this
            have hL := ready_pre h.stat hclosed hpre' hpr
            have := (heff j j2).1 hL
            omega
          · omega
        have hnext : heapAt tr H' (c + 1) = t.H1 := by
          have e1 := effs_step (flags tr) i true hfl
          simp only [if_true] at e1
          rw [hce, ← e1, h.heap (i := i + 1) (by rw [h.len]; omega), hl.next]
        have hop' : aop cx o.op (sL ops s s' (Lof listed)) (heapAt tr H' c) = some (t.val, heapAt tr H' (c + 1)) := by
          rw [aop_reads cx o _ hreads, hnext]
          rw [hce, hHi]
          exact y2
        refine aop_wp hcx hst hB hs hop' fun u w1 ρ1 s1 e1 v1 => ?_
        refine ih _ _ w1 ρ1 (c + 1) hsz' (by omega) hclosed' ?_ (fun j hj => ?_) s1 (Nat.le_trans hB e1.below.size) ((hs.mono e1.stab e1.pre).put v1 hput) fun a2 w2 ρ2 p q r => hn a2 w2 ρ2 p (e1.trans q) r
        · have := effs_lt (flags tr) (i := i) (j := ops.size) h1 hfl
          omega
        · rw [hset j, heff j hj]
          constructor
          · rintro (e | e)
            · omega
            · subst e; omega
          · intro e
            rcases Nat.lt_trichotomy j i with hlt | he | hgt
            · have := effs_lt (flags tr) hlt hj
              exact .inl (by omega)
            · exact .inr he
            · have := effs_lt (flags tr) hgt hfl
              omega

theorem adraw_wp (hcx : CallOk cx) (hm : cx.P.follows .mixedOrders = true) {id : Nat} {a : Act} {w : World} {ρ : Pl} (hst : St cx.P B ok0 ρ H w) (hB : B ≤ w.heap.size) (hs : SR cx.P (okS B ok0 ρ H) w ρ nt s a) (h : adraw cx nt ops s H = some (s', H'))
    (hn : ∀ a' w' ρ', St cx.P B ok0 ρ' H' w' → Evo B ok0 ρ H w ρ' H' w' → SR cx.P (okS B ok0 ρ' H') w' ρ' nt s' a' → Q .normal a' w') : (Code.region id ops true).wp cx.P Q a w := by
  unfold adraw at h
  split at h
  · rename_i tr s1 H1 htr
    split at h
    · rename_i hc
      simp only [Option.some.injEq, Prod.mk.injEq] at h
      obtain ⟨rfl, rfl⟩ := h
      obtain ⟨k1, k2, k3, k4⟩ := trail_spec cx nt ops _ _ _ _ _ _ htr
      have hD : Drawn cx nt ops s H tr s1 H1 := ⟨drawStatic_spec hc.1, hc.2.1, hc.2.2, by simpa using k1, k2, k3, fun i o ho => k4 i o (by simpa using ho)⟩
      have hbw : Below w.heap.size w { w with drawn := w.drawn + 1 } := ⟨rfl, rfl, rfl, Nat.le_refl _, fun _ _ => rfl⟩
      obtain ⟨t1, t2⟩ := hst.below hB hbw
      have hL0 : ∀ j, ¬ Lof (Array.replicate ops.size false) j := by
        intro j
        unfold Lof
        rw [Array.getD_eq_getD_getElem?, Array.getElem?_replicate]
        split <;> simp
      have hH0 : heapAt tr H1 0 = H := by
        have := hD.heap (i := 0) (Nat.zero_le _)
        rw [effs_zero] at this
        rw [this, k3]
      have hS0 : sL ops s s1 (Lof (Array.replicate ops.size false)) = s := by
        funext d
        unfold sL
        rw [if_neg (fun ⟨j, o, _, _, hl⟩ => hL0 j hl)]
      refine wp_region_any hm (hD.walk (B := B) (ok0 := ok0) hcx ops.size _ a _ ρ 0 (by simp) (by simp) (fun i o _ hl => absurd hl (hL0 i)) (Nat.zero_le _) (fun j hj => ⟨fun hl => absurd hl (hL0 j), fun hl => absurd hl (by omega)⟩) ?_ hB ?_ ?_)
      · rw [hH0]; exact t1
      · rw [hH0, hS0]; exact hs.mono t2.stab t2.pre
      · rw [hH0]
        exact fun a' w' ρ' p q r => hn a' w' ρ' p (t2.trans q) r
    · cases h
  · cases h
end
end Go.Vam
/- The abstract machine VAM is sound: code, functions. -/


namespace Go.Vam
open Go.RowKit

def toExit : AX → Exit
  | .nrm => .normal
  | .ext i => .exit i
  | .ret => .ret

section
variable {B : Nat} {ok0 : Nat → Nat → Prop} {cx : Cx} {nt : Nat}

/-- What follows from code that is told to end so. -/
def Goes (cx : Cx) (nt : Nat) (B : Nat) (ok0 : Nat → Nat → Prop) (c : Code) (r : ARun) : Prop :=
  ∀ (s : Slots) (H : AHeap) (x : AX) (s' : Slots) (H' : AHeap) (a : Act) (w : World) (ρ : Pl) (Q : Exit → Act → World → Prop), r s H = some (x, s', H') → St cx.P B ok0 ρ H w → B ≤ w.heap.size → SR cx.P (okS B ok0 ρ H) w ρ nt s a →
    (∀ a' w' ρ', St cx.P B ok0 ρ' H' w' → Evo B ok0 ρ H w ρ' H' w' → SR cx.P (okS B ok0 ρ' H') w' ρ' nt s' a' → Q (toExit x) a' w') → c.wp cx.P Q a w

theorem loop_goes {c : Code} {b : ARun} (h : Goes cx nt B ok0 c b) (n : Nat) : Goes cx nt B ok0 (.loop c) (aloopN b n) := by
  intro s H x s' H' a w ρ Q hr hst hB hs hn
  refine wp_loop_rounds n ?_
  induction n generalizing s H a w ρ with
  | zero => cases hr
  | succ n ih =>
    rw [rounds_succ]
    unfold aloopN at hr
    cases hb : b s H with
    | none => rw [hb] at hr; cases hr
    | some y =>
      obtain ⟨x1, s1, H1⟩ := y
      rw [hb] at hr
      cases x1 with
      | nrm =>
        refine h s H .nrm s1 H1 a w ρ _ hb hst hB hs fun a1 w1 ρ1 p q r => ?_
        exact ih s1 H1 a1 w1 ρ1 hr p (Nat.le_trans hB q.below.size) r fun a2 w2 ρ2 p2 q2 r2 => hn a2 w2 ρ2 p2 (q.trans q2) r2
      | ext i =>
        simp only [Option.some.injEq, Prod.mk.injEq] at hr
        obtain ⟨rfl, rfl, rfl⟩ := hr
        exact h s H _ s1 H1 a w ρ _ hb hst hB hs fun a1 w1 ρ1 p q r => hn a1 w1 ρ1 p q r
      | ret =>
        simp only [Option.some.injEq, Prod.mk.injEq] at hr
        obtain ⟨rfl, rfl, rfl⟩ := hr
        exact h s H _ s1 H1 a w ρ _ hb hst hB hs fun a1 w1 ρ1 p q r => hn a1 w1 ρ1 p q r

theorem code_goes (hcx : CallOk cx) (hm : cx.P.follows .mixedOrders = true) (hl : ∃ n, cx.loop = fun b => aloopN b n) : ∀ c : Code, Goes cx nt B ok0 c (acode cx nt c)
  | .skip => fun s H x s' H' a w ρ Q hr hst hB hs hn => by
    simp only [acode, Option.some.injEq, Prod.mk.injEq] at hr
    obtain ⟨rfl, rfl, rfl⟩ := hr
    exact wp_skip (hn a w ρ hst (Evo.refl _ _ _ _ _) hs)
  | .label _ => fun s H x s' H' a w ρ Q hr hst hB hs hn => by
    simp only [acode, Option.some.injEq, Prod.mk.injEq] at hr
    obtain ⟨rfl, rfl, rfl⟩ := hr
    exact wp_label (hn a w ρ hst (Evo.refl _ _ _ _ _) hs)
  | .region id ops draw => fun s H x s' H' a w ρ Q hr hst hB hs hn => by
    unfold acode at hr
    cases draw with
    | true =>
      simp only [if_true] at hr
      cases hd : adraw cx nt ops s H with
      | none => rw [hd] at hr; cases hr
      | some y =>
        obtain ⟨s1, H1⟩ := y
        rw [hd] at hr
        simp only [Option.some.injEq, Prod.mk.injEq] at hr
        obtain ⟨rfl, rfl, rfl⟩ := hr
        exact adraw_wp hcx hm hst hB hs hd hn
    | false =>
      simp only [Bool.false_eq_true, if_false] at hr
      cases hd : aops cx nt ops ops.toList s H with
      | none => rw [hd] at hr; cases hr
      | some y =>
        obtain ⟨s1, H1⟩ := y
        rw [hd] at hr
        simp only [Option.some.injEq, Prod.mk.injEq] at hr
        obtain ⟨rfl, rfl, rfl⟩ := hr
        exact wp_region_list (aops_wp hcx _ _ _ _ _ _ _ _ hst hB hs hd hn)
  | .seq c d => fun s H x s' H' a w ρ Q hr hst hB hs hn => by
    unfold acode at hr
    refine wp_seq ?_
    cases ha : acode cx nt c s H with
    | none => rw [ha] at hr; cases hr
    | some y =>
      obtain ⟨x1, s1, H1⟩ := y
      rw [ha] at hr
      cases x1 with
      | nrm =>
        refine code_goes hcx hm hl c s H .nrm s1 H1 a w ρ _ ha hst hB hs fun a1 w1 ρ1 p q r => ?_
        exact code_goes hcx hm hl d s1 H1 x s' H' a1 w1 ρ1 Q hr p (Nat.le_trans hB q.below.size) r fun a2 w2 ρ2 p2 q2 r2 => hn a2 w2 ρ2 p2 (q.trans q2) r2
      | ext i =>
        simp only [Option.some.injEq, Prod.mk.injEq] at hr
        obtain ⟨rfl, rfl, rfl⟩ := hr
        exact code_goes hcx hm hl c s H _ s1 H1 a w ρ _ ha hst hB hs fun a1 w1 ρ1 p q r => hn a1 w1 ρ1 p q r
      | ret =>
        simp only [Option.some.injEq, Prod.mk.injEq] at hr
        obtain ⟨rfl, rfl, rfl⟩ := hr
        exact code_goes hcx hm hl c s H _ s1 H1 a w ρ _ ha hst hB hs fun a1 w1 ρ1 p q r => hn a1 w1 ρ1 p q r
  | .cond c t e => fun s H x s' H' a w ρ Q hr hst hB hs hn => by
    unfold acode at hr
    have hv := ev_VR hs c
    split at hr
    · rename_i hc
      rw [hc] at hv
      generalize he : a.eval c = u at hv
      cases hv
      exact wp_cond_true he (code_goes hcx hm hl t s H x s' H' a w ρ Q hr hst hB hs hn)
    · rename_i hc
      rw [hc] at hv
      generalize he : a.eval c = u at hv
      cases hv
      exact wp_cond_false he (code_goes hcx hm hl e s H x s' H' a w ρ Q hr hst hB hs hn)
    · cases hr
  | .block id b => fun s H x s' H' a w ρ Q hr hst hB hs hn => by
    unfold acode at hr
    refine wp_block ?_
    cases ha : acode cx nt b s H with
    | none => rw [ha] at hr; cases hr
    | some y =>
      obtain ⟨x1, s1, H1⟩ := y
      rw [ha] at hr
      cases x1 with
      | nrm =>
        simp only [Option.some.injEq, Prod.mk.injEq] at hr
        obtain ⟨rfl, rfl, rfl⟩ := hr
        exact code_goes hcx hm hl b s H _ s1 H1 a w ρ _ ha hst hB hs fun a1 w1 ρ1 p q r => hn a1 w1 ρ1 p q r
      | ext j =>
        simp only at hr
        split at hr
        · rename_i hj
          simp only [Option.some.injEq, Prod.mk.injEq] at hr
          obtain ⟨rfl, rfl, rfl⟩ := hr
          refine code_goes hcx hm hl b s H _ s1 H1 a w ρ _ ha hst hB hs fun a1 w1 ρ1 p q r => ?_
          simp only [toExit, Exit.inBlock, if_pos hj]
          exact hn a1 w1 ρ1 p q r
        · rename_i hj
          simp only [Option.some.injEq, Prod.mk.injEq] at hr
          obtain ⟨rfl, rfl, rfl⟩ := hr
          refine code_goes hcx hm hl b s H _ s1 H1 a w ρ _ ha hst hB hs fun a1 w1 ρ1 p q r => ?_
          simp only [toExit, Exit.inBlock, if_neg hj]
          exact hn a1 w1 ρ1 p q r
      | ret =>
        simp only [Option.some.injEq, Prod.mk.injEq] at hr
        obtain ⟨rfl, rfl, rfl⟩ := hr
        exact code_goes hcx hm hl b s H _ s1 H1 a w ρ _ ha hst hB hs fun a1 w1 ρ1 p q r => hn a1 w1 ρ1 p q r
  | .loop b => fun s H x s' H' a w ρ Q hr hst hB hs hn => by
    obtain ⟨n, hn'⟩ := hl
    unfold acode at hr
    rw [hn'] at hr
    exact loop_goes (code_goes hcx hm ⟨n, hn'⟩ b) n s H x s' H' a w ρ Q hr hst hB hs hn
  | .exit i => fun s H x s' H' a w ρ Q hr hst hB hs hn => by
    simp only [acode, Option.some.injEq, Prod.mk.injEq] at hr
    obtain ⟨rfl, rfl, rfl⟩ := hr
    exact wp_exit (hn a w ρ hst (Evo.refl _ _ _ _ _) hs)
  | .ret => fun s H x s' H' a w ρ Q hr hst hB hs hn => by
    simp only [acode, Option.some.injEq, Prod.mk.injEq] at hr
    obtain ⟨rfl, rfl, rfl⟩ := hr
    exact wp_ret (hn a w ρ hst (Evo.refl _ _ _ _ _) hs)
  | .rangeFunc .. => fun s H x s' H' a w ρ Q hr => by cases hr
  | .scope b => fun s H x s' H' a w ρ Q hr hst hB hs hn => by
    refine wp_scope_straight (code_goes hcx hm hl b s H x s' H' a w ρ _ hr hst hB hs fun a1 w1 ρ1 p q r => ?_)
    have := hn a1 w1 ρ1 p q r
    cases x <;> exact this
  | .goto _ => fun s H x s' H' a w ρ Q hr => by cases hr
  | .refuse _ => fun s H x s' H' a w ρ Q hr => by cases hr
end

/-! ### results -/
def resF (tmps : Array Value) : ResultVar → Sem Value
  | .tmp t => pure (tmps.getD t undef)
  | .cell a t => do loadVar t (← asAddr (tmps.getD a undef))
theorem results_eq (fn : Func) (tmps : Array Value) : results fn tmps = (do
    let vs ← fn.results.mapM (resF tmps)
    pure (if h : vs.size = 1 then vs[0] else .tuple vs)) := by
  unfold results
  congr 1
section
variable {P : Program} {w : World} {B : Nat} {ok0 : Nat → Nat → Prop} {ρ : Pl} {H : AHeap} {nt : Nat} {s : Slots} {a : Act}
theorem res1_sound (hst : St P B ok0 ρ H w) (hs : SR P (okS B ok0 ρ H) w ρ nt s a) {r : ResultVar} {y : AV} (h : ares1 P s H r = some y) : ∃ u, (resF a.tmps r).run P w = .ok u w ∧ VR P (okS B ok0 ρ H) w ρ y u := by
  cases r with
  | tmp t =>
    simp only [ares1, Option.some.injEq] at h
    subst h
    exact ⟨_, rfl, hs.val t⟩
  | cell p t =>
    simp only [ares1] at h
    have hv := hs.val p
    obtain ⟨u, h1, h2⟩ := aload_sound hst hv h
    refine ⟨u, ?_, h2⟩
    unfold aload at h
    split at h
    · rename_i cs e
      rw [e] at hv
      generalize hq : a.tmps.getD p undef = q at h1 hv
      cases hv
      simp [Instr.loadAt, Instr.sureAddr] at h1
      show (do loadVar t (← asAddr (a.tmps.getD p undef)) : Sem Value).run P w = .ok u w
      rw [hq]
      simp [asAddr, h1]
    · rename_i id i j e
      rw [e] at hv
      generalize hq : a.tmps.getD p undef = q at h1 hv
      cases hv
      simp [Instr.loadAt, Instr.sureAddr] at h1
      show (do loadVar t (← asAddr (a.tmps.getD p undef)) : Sem Value).run P w = .ok u w
      rw [hq]
      simp [asAddr, h1]
    · cases h
theorem resL_sound (hst : St P B ok0 ρ H w) (hs : SR P (okS B ok0 ρ H) w ρ nt s a) : ∀ (l : List ResultVar) (ys : List AV), mapO (ares1 P s H) l = some ys → ∃ us : List Value, (l.mapM (resF a.tmps)).run P w = .ok us w ∧ ys.length = us.length ∧ ∀ i y, ys[i]? = some y → VR P (okS B ok0 ρ H) w ρ y (us.getD i undef)
  | [], ys, h => by
    simp only [mapO, Option.some.injEq] at h
    subst h
    exact ⟨[], rfl, rfl, by simp⟩
  | r :: l, ys, h => by
    unfold mapO at h
    cases h1 : ares1 P s H r with
    | none => rw [h1] at h; cases h
    | some y =>
      rw [h1] at h
      simp only at h
      cases h2 : mapO (ares1 P s H) l with
      | none => rw [h2] at h; cases h
      | some ys' =>
        rw [h2] at h
        simp only [Option.map_some, Option.some.injEq] at h
        subst h
        obtain ⟨u, k1, k2⟩ := res1_sound hst hs h1
        obtain ⟨us, k3, k4, k5⟩ := resL_sound hst hs l ys' h2
        refine ⟨u :: us, ?_, by simp [k4], fun i z hz => ?_⟩
        · simp only [List.mapM_cons, Sem.run_bind, k1, Result.andThen_ok, k3, Sem.run_pure]
        · cases i with
          | zero => simp at hz; subst hz; exact k2
          | succ i => simpa using k5 i z (by simpa using hz)
theorem ares_sound {fn : Func} (hst : St P B ok0 ρ H w) (hs : SR P (okS B ok0 ρ H) w ρ nt s a) {y : AV} (h : ares P fn.results s H = some y) : ∃ u, (results fn a.tmps).run P w = .ok u w ∧ VR P (okS B ok0 ρ H) w ρ y u := by
  unfold ares at h
  cases hm : mapO (ares1 P s H) fn.results.toList with
  | none => rw [hm] at h; cases h
  | some ys =>
    rw [hm] at h
    obtain ⟨us, k1, k2, k3⟩ := resL_sound hst hs _ _ hm
    have hrun : (results fn a.tmps).run P w = .ok (if h : us.toArray.size = 1 then us.toArray[0] else .tuple us.toArray) w := by
      rw [results_eq, Array.mapM_eq_mapM_toList]
      simp only [Sem.run_bind, Sem.run_map, k1, Result.andThen_ok, Sem.run_pure]
    split at h
    · rename_i v e
      cases e
      simp only [Option.some.injEq] at h
      subst h
      match us, k2, k3, hrun with
      | [u], k2, k3, hrun => exact ⟨u, hrun, k3 0 _ rfl⟩
    · rename_i vs hne e
      cases e
      simp only [Option.some.injEq] at h
      subst h
      refine ⟨.tuple us.toArray, ?_, .tup _ _ _ k2 k3⟩
      rw [hrun, dif_neg]
      intro e1
      have h1 : ys.length = 1 := by rw [k2]; simpa using e1
      obtain ⟨v, hv⟩ := List.length_eq_one_iff.1 h1
      exact hne v hv
    · cases h
end

/-! ### functions -/
theorem s0_VR {P : Program} {ok : Nat → Nat → Prop} {w : World} {ρ : Pl} {xs : List AV} {vs : List Value} {nt : Nat} (hlen : vs.length = xs.length) (hle : xs.length ≤ nt) (h : ∀ i x, xs[i]? = some x → VR P ok w ρ x (vs.getD i undef)) :
    SR P ok w ρ nt (s0 xs) { tmps := vs.toArray ++ Array.replicate (nt - vs.toArray.size) undef, defers := [] } := by
  refine ⟨by simp; omega, rfl, fun t => ?_⟩
  unfold s0
  by_cases ht : t < xs.length
  · have hv := h t _ (List.getElem?_eq_getElem ht)
    have e1 : xs.getD t .junk = xs[t] := by simp [List.getD, ht]
    have ht2 : t < vs.length := by omega
    have e2 : (vs.toArray ++ Array.replicate (nt - vs.toArray.size) undef).getD t undef = vs.getD t undef := by
      rw [Array.getD_eq_getD_getElem?, Array.getElem?_append_left (by simpa using ht2)]
      simp [List.getD]
    rw [e1]
    simp only [e2]
    exact hv
  · have e1 : xs.getD t .junk = .junk := by
      rw [List.getD, List.getElem?_eq_none (by omega)]
      rfl
    rw [e1]
    exact .junk _ _

theorem body_told {cx : Cx} (hcx : CallOk cx) (hm : cx.P.follows .mixedOrders = true) (hl : ∃ n, cx.loop = fun b => aloopN b n) {f : FuncId} {xs : List AV} {H : AHeap} {r : AV} {H' : AHeap} (h : abody cx f xs H = some (r, H')) : Told cx.P f xs H r H' := by
  unfold abody at h
  split at h
  · rename_i fn hf
    split at h
    · rename_i c hb
      split at h
      · rename_i hc
        refine ⟨⟨fn, c, hf, hb, hc.2⟩, fun B ok0 ρ w vs hst hB hlen hargs => ?_⟩
        have hs := s0_VR hlen hc.1 hargs
        have post : ∀ (x : AX) (s : Slots) (H1 : AHeap) (v : AV), acode cx fn.ntmps c (s0 xs) H = some (x, s, H1) → (x = .nrm ∨ x = .ret) → ares cx.P fn.results s H1 = some v → v = r → H1 = H' →
            Calls cx.P f vs.toArray w fun e w' => match e with
              | .returned v => ∃ ρ', St cx.P B ok0 ρ' H' w' ∧ Evo B ok0 ρ H w ρ' H' w' ∧ VR cx.P (okS B ok0 ρ' H') w' ρ' r v
              | _ => False := by
          intro x s H1 v hac hx hv e1 e2
          subst e1
          subst e2
          refine calls_of_wp hf hb (code_goes hcx hm hl c (s0 xs) H x s H1 _ w ρ _ hac hst hB hs fun a' w' ρ' p q r => ?_)
          obtain ⟨u, h1, h2⟩ := ares_sound p r hv
          rcases hx with rfl | rfl
          · exact ⟨r.defers, u, h1, ρ', p, q, h2⟩
          · exact ⟨r.defers, u, h1, ρ', p, q, h2⟩
        split at h
        · rename_i s1 H1 hac
          cases hv : ares cx.P fn.results s1 H1 with
          | none => rw [hv] at h; cases h
          | some v =>
            rw [hv] at h
            simp only [Option.map_some, Option.some.injEq, Prod.mk.injEq] at h
            exact post .nrm s1 H1 v hac (.inl rfl) hv h.1 h.2
        · rename_i s1 H1 hac
          cases hv : ares cx.P fn.results s1 H1 with
          | none => rw [hv] at h; cases h
          | some v =>
            rw [hv] at h
            simp only [Option.map_some, Option.some.injEq, Prod.mk.injEq] at h
            exact post .ret s1 H1 v hac (.inr rfl) hv h.1 h.2
        · cases h
      · cases h
    · cases h
  · cases h

def ExtOk (E : Env) : Prop := ∀ f g, E.ext f = some g → ∀ xs H r H', g xs H = some (r, H') → Told E.P f xs H r H'
theorem acallN_ok {E : Env} (hm : E.P.follows .mixedOrders = true) (hx : ExtOk E) : ∀ k, CallOk (cxN E k)
  | 0 => fun f xs H r H' h => by cases h
  | k + 1 => fun f xs H r H' h => by
    change acallN E (k + 1) f xs H = some (r, H') at h
    unfold acallN at h
    split at h
    · rename_i g hg
      exact hx f g hg xs H r H' h
    · exact body_told (cx := cxN E k) (acallN_ok hm hx k) hm ⟨k, rfl⟩ h
/-- WHAT THE ABSTRACT MACHINE TELLS OF A CALL, THE CALL DOES. -/
theorem callV_told {E : Env} (hm : E.P.follows .mixedOrders = true) (hx : ExtOk E) {f : FuncId} {xs : List AV} {H : AHeap} {r : AV} {H' : AHeap} (h : callV E f xs H = some (r, H')) : Told E.P f xs H r H' := by
  obtain ⟨k, hk⟩ := callV_some h
  exact acallN_ok hm hx k f xs H r H' hk
end Go.Vam
/- The abstract machine VAM: code without what it doesn't look at, and 'C cx c s H Q': code c, from slots s and heap H on, comes to an end that meets Q; its rules, for simp. -/

namespace Go.Vam

structure AOp where
  dst : Option Nat
  g : Option (Nat × Bool)
  op : Op
inductive AC where
  | skip
  | reg (ops : List AOp)
  | draw (nt : Nat) (ops : Array Oper)
  | seq (a b : AC)
  | cond (c : Operand) (t e : AC)
  | block (id : Nat) (b : AC)
  | loop (b : AC)
  | exit (id : Nat)
  | ret
  | bad
def stripOp (ops : Array Oper) (o : Oper) : Option AOp :=
  match o.guard with
  | none => some ⟨o.dst, none, o.op⟩
  | some (j, b) => match (ops[j]?).bind (·.dst) with
    | some d => some ⟨o.dst, some (d, b), o.op⟩
    | none => none
def dstOk (nt : Nat) (o : Oper) : Bool :=
  match o.dst with
  | some d => decide (d < nt)
  | none => true
def strip (nt : Nat) : Code → AC
  | .skip | .label _ => .skip
  | .region _ ops draw => if draw then .draw nt ops else if ops.toList.all (dstOk nt) then match mapO (stripOp ops) ops.toList with
    | some l => .reg l
    | none => .bad
    else .bad
  | .seq a b => .seq (strip nt a) (strip nt b)
  | .cond c t e => .cond c (strip nt t) (strip nt e)
  | .block id b => .block id (strip nt b)
  | .loop b => .loop (strip nt b)
  | .scope b => strip nt b
  | .exit id => .exit id
  | .ret => .ret
  | _ => .bad
def putS (s : Slots) (d : Option Nat) (v : AV) : Slots :=
  match d with
  | none => s
  | some d => upd s d v
def xops (cx : Cx) : List AOp → Slots → AHeap → Option (Slots × AHeap)
  | [], s, H => some (s, H)
  | o :: rest, s, H =>
    match (match o.g with
      | none => some true
      | some (d, b) => guardV (s d) b) with
    | some true => match aop cx o.op s H with
      | some (v, H1) => xops cx rest (putS s o.dst v) H1
      | none => none
    | some false => xops cx rest (putS s o.dst (.tup [])) H
    | none => none
noncomputable def arun (cx : Cx) : AC → ARun
  | .skip, s, H => some (.nrm, s, H)
  | .reg ops, s, H =>
    match xops cx ops s H with
    | some (s', H') => some (.nrm, s', H')
    | none => none
  | .draw nt ops, s, H =>
    match adraw cx nt ops s H with
    | some (s', H') => some (.nrm, s', H')
    | none => none
  | .seq a b, s, H =>
    match arun cx a s H with
    | some (.nrm, s', H') => arun cx b s' H'
    | r => r
  | .cond c t e, s, H =>
    match ev s c with
    | .bool true => arun cx t s H
    | .bool false => arun cx e s H
    | _ => none
  | .block id b, s, H =>
    match arun cx b s H with
    | some (.ext j, s', H') => if j = id then some (.nrm, s', H') else some (.ext j, s', H')
    | r => r
  | .loop b, s, H => cx.loop (arun cx b) s H
  | .exit id, s, H => some (.ext id, s, H)
  | .ret, s, H => some (.ret, s, H)
  | .bad, _, _ => none

theorem xops_aops (cx : Cx) (nt : Nat) (ops : Array Oper) : ∀ (l : List Oper) (k : List AOp) (s : Slots) (H : AHeap) (r : Slots × AHeap), l.all (dstOk nt) = true → mapO (stripOp ops) l = some k →
    xops cx k s H = some r → aops cx nt ops l s H = some r
  | [], k, s, H, r, _, hm, he => by
    simp only [mapO, Option.some.injEq] at hm
    subst hm
    exact he
  | o :: l, k, s, H, r, hd, hm, he => by
    simp only [List.all_cons, Bool.and_eq_true] at hd
    have put : ∀ v, aput nt s o.dst v = some (putS s o.dst v) := fun v => by
      have := hd.1
      unfold dstOk at this
      unfold aput putS
      cases hd' : o.dst with
      | none => rfl
      | some d =>
        rw [hd'] at this
        simp only [decide_eq_true_eq] at this
        simp only [if_pos this]
    simp only [mapO] at hm
    cases hs : stripOp ops o with
    | none => rw [hs] at hm; cases hm
    | some a =>
      rw [hs] at hm
      simp only at hm
      cases hk : mapO (stripOp ops) l with
      | none => rw [hk] at hm; cases hm
      | some k' =>
        rw [hk] at hm
        simp only [Option.map_some, Option.some.injEq] at hm
        subst hm
        have ih := fun s H r => xops_aops cx nt ops l k' s H r hd.2 hk
        unfold stripOp at hs
        unfold xops at he
        unfold aops
        cases hg : o.guard with
        | none =>
          rw [hg] at hs
          simp only [Option.some.injEq] at hs
          subst hs
          simp only at he
          simp only [wants, hg]
          cases ho : aop cx o.op s H with
          | none => rw [ho] at he; cases he
          | some y => rw [ho] at he; simp only [put]; exact ih _ _ _ he
        | some jb =>
          obtain ⟨j, b⟩ := jb
          rw [hg] at hs
          simp only at hs
          cases hj : (ops[j]?).bind (·.dst) with
          | none => rw [hj] at hs; cases hs
          | some d =>
            rw [hj] at hs
            simp only [Option.some.injEq] at hs
            subst hs
            simp only at he
            simp only [wants, hg, hj]
            cases hcb : guardV (s d) b with
            | none => rw [hcb] at he; cases he
            | some q =>
              rw [hcb] at he
              cases q with
              | false => simp only at he; simp only [put]; exact ih _ _ _ he
              | true =>
                simp only at he
                simp only
                cases ho : aop cx o.op s H with
                | none => rw [ho] at he; cases he
                | some y => rw [ho] at he; simp only [put]; exact ih _ _ _ he
theorem arun_acode {cx : Cx} (hl : ∀ b b', ALe b b' → ALe (cx.loop b) (cx.loop b')) (nt : Nat) : ∀ c : Code, ALe (arun cx (strip nt c)) (acode cx nt c)
  | .skip => fun s H r he => he
  | .label _ => fun s H r he => he
  | .region _ ops draw => fun s H r he => by
    unfold strip at he
    cases draw with
    | true => exact he
    | false =>
      simp only [Bool.false_eq_true, if_false] at he
      split at he
      · rename_i hd
        cases hm : mapO (stripOp ops) ops.toList with
        | none => rw [hm] at he; cases he
        | some l =>
          rw [hm] at he
          simp only [arun] at he
          cases hx : xops cx l s H with
          | none => rw [hx] at he; cases he
          | some y => rw [hx] at he; simp only [acode, Bool.false_eq_true, if_false, xops_aops cx nt ops _ _ _ _ _ hd hm hx]; exact he
      · cases he
  | .seq a b => fun s H r he => by
    simp only [strip, arun] at he
    cases ha : arun cx (strip nt a) s H with
    | none => rw [ha] at he; cases he
    | some y =>
      rw [ha] at he
      simp only [acode, arun_acode hl nt a _ _ _ ha]
      obtain ⟨e, s1, H1⟩ := y
      cases e with
      | nrm => exact arun_acode hl nt b _ _ _ he
      | ext i => exact he
      | ret => exact he
  | .cond c t e => fun s H r he => by
    simp only [strip, arun] at he
    simp only [acode]
    split at he
    · rename_i hc; simp only [hc]; exact arun_acode hl nt t _ _ _ he
    · rename_i hc; simp only [hc]; exact arun_acode hl nt e _ _ _ he
    · cases he
  | .block id b => fun s H r he => by
    simp only [strip, arun] at he
    cases ha : arun cx (strip nt b) s H with
    | none => rw [ha] at he; cases he
    | some y => rw [ha] at he; simp only [acode, arun_acode hl nt b _ _ _ ha]; exact he
  | .loop b => fun s H r he => by
    simp only [strip, arun] at he
    simp only [acode]
    exact hl _ _ (arun_acode hl nt b) _ _ _ he
  | .exit _ => fun s H r he => he
  | .ret => fun s H r he => he
  | .rangeFunc .. => fun s H r he => by cases he
  | .scope b => arun_acode hl nt b
  | .goto _ => fun s H r he => by cases he
  | .refuse _ => fun s H r he => by cases he
theorem loopV_mono {b b' : ARun} (h : ALe b b') : ALe (loopV b) (loopV b') := fun s H r he => by
  obtain ⟨k, hk⟩ := loopV_some he
  exact loopV_of (aloopN_mono h k s H r hk)

/-! ### 'comes to an end that meets Q' -/
abbrev QT := AX → Slots → AHeap → Prop
def Out : AR → QT → Prop
  | some (e, s, H), Q => Q e s H
  | none, _ => False
theorem Out.get {r : AR} {Q : QT} (h : Out r Q) : ∃ e s H, r = some (e, s, H) ∧ Q e s H := by
  match r, h with
  | some (e, s, H), h => exact ⟨e, s, H, rfl, h⟩
def OutX : Option (Slots × AHeap) → (Slots → AHeap → Prop) → Prop
  | some (s, H), K => K s H
  | none, _ => False
def X (cx : Cx) (l : List AOp) (s : Slots) (H : AHeap) (K : Slots → AHeap → Prop) : Prop := OutX (xops cx l s H) K
def C (cx : Cx) (c : AC) (s : Slots) (H : AHeap) (Q : QT) : Prop := Out (arun cx c s H) Q
/-- One operation's value, then the rest. -/
def XR (cx : Cx) (rest : List AOp) (s : Slots) (d : Option Nat) (K : Slots → AHeap → Prop) : Option (AV × AHeap) → Prop
  | some (v, H1) => X cx rest (putS s d v) H1 K
  | none => False
/-- The guard's value, then the operation. -/
def XG (cx : Cx) (o : Op) (rest : List AOp) (s : Slots) (H : AHeap) (d : Option Nat) (K : Slots → AHeap → Prop) (b : Bool) : AV → Prop
  | .bool c => if c = b then XR cx rest s d K (aop cx o s H) else X cx rest (putS s d (.tup [])) H K
  | .tup [] => X cx rest (putS s d (.tup [])) H K
  | _ => False
def Qr (Q : QT) : Slots → AHeap → Prop := fun s H => Q .nrm s H
def Qseq (cx : Cx) (b : AC) (Q : QT) : QT
  | .nrm, s, H => C cx b s H Q
  | e, s, H => Q e s H
def Qblk (id : Nat) (Q : QT) : QT
  | .ext j, s, H => if j = id then Q .nrm s H else Q (.ext j) s H
  | e, s, H => Q e s H
def Qloop (cx : Cx) (b : AC) (Q : QT) : QT
  | .nrm, s, H => C cx (.loop b) s H Q
  | e, s, H => Q e s H
/-- A test's two ways. -/
def Cond (cx : Cx) (t e : AC) (s : Slots) (H : AHeap) (Q : QT) : AV → Prop
  | .bool true => C cx t s H Q
  | .bool false => C cx e s H Q
  | _ => False
theorem X_nil (cx : Cx) (s : Slots) (H : AHeap) (K : Slots → AHeap → Prop) : X cx [] s H K = K s H := rfl
theorem X_cons (cx : Cx) (d : Option Nat) (o : Op) (rest : List AOp) (s : Slots) (H : AHeap) (K : Slots → AHeap → Prop) : X cx (⟨d, none, o⟩ :: rest) s H K = XR cx rest s d K (aop cx o s H) := by
  unfold X
  simp only [xops]
  cases aop cx o s H <;> rfl
theorem X_consg (cx : Cx) (d : Option Nat) (g : Nat) (b : Bool) (o : Op) (rest : List AOp) (s : Slots) (H : AHeap) (K : Slots → AHeap → Prop) :
    X cx (⟨d, some (g, b), o⟩ :: rest) s H K = XG cx o rest s H d K b (s g) := by
  unfold X
  simp only [xops]
  generalize s g = q
  cases q with
  | bool c =>
    simp only [guardV, XG]
    by_cases h : c = b
    · subst h
      simp only [BEq.rfl, if_true]
      cases aop cx o s H <;> rfl
    · have : (c == b) = false := by simpa using h
      simp only [this, h, if_false]
      rfl
  | tup xs => cases xs <;> rfl
  | _ => rfl
theorem XR_some (cx : Cx) (rest : List AOp) (s : Slots) (d : Nat) (K : Slots → AHeap → Prop) (v : AV) (H1 : AHeap) : XR cx rest s (some d) K (some (v, H1)) = X cx rest (upd s d v) H1 K := rfl
theorem XR_none (cx : Cx) (rest : List AOp) (s : Slots) (K : Slots → AHeap → Prop) (v : AV) (H1 : AHeap) : XR cx rest s none K (some (v, H1)) = X cx rest s H1 K := rfl
theorem XG_yes (cx : Cx) (o : Op) (rest : List AOp) (s : Slots) (H : AHeap) (d : Option Nat) (K : Slots → AHeap → Prop) (b : Bool) : XG cx o rest s H d K b (.bool b) = XR cx rest s d K (aop cx o s H) := by simp [XG]
theorem XG_tf (cx : Cx) (o : Op) (rest : List AOp) (s : Slots) (H : AHeap) (d : Nat) (K : Slots → AHeap → Prop) : XG cx o rest s H (some d) K true (.bool false) = X cx rest (upd s d (.tup [])) H K := by simp [XG, putS]
theorem XG_ft (cx : Cx) (o : Op) (rest : List AOp) (s : Slots) (H : AHeap) (d : Nat) (K : Slots → AHeap → Prop) : XG cx o rest s H (some d) K false (.bool true) = X cx rest (upd s d (.tup [])) H K := by simp [XG, putS]
theorem XG_nul (cx : Cx) (o : Op) (rest : List AOp) (s : Slots) (H : AHeap) (d : Nat) (K : Slots → AHeap → Prop) (b : Bool) : XG cx o rest s H (some d) K b (.tup []) = X cx rest (upd s d (.tup [])) H K := by simp [XG, putS]
section
variable (cx : Cx) (s : Slots) (H : AHeap) (Q : QT)
theorem Qr_eq : Qr Q s H = Q .nrm s H := rfl
theorem Qseq_nrm (b : AC) : Qseq cx b Q .nrm s H = C cx b s H Q := rfl
theorem Qseq_ext (b : AC) (i : Nat) : Qseq cx b Q (.ext i) s H = Q (.ext i) s H := rfl
theorem Qseq_ret (b : AC) : Qseq cx b Q .ret s H = Q .ret s H := rfl
theorem Qblk_nrm (i : Nat) : Qblk i Q .nrm s H = Q .nrm s H := rfl
theorem Qblk_same (i : Nat) : Qblk i Q (.ext i) s H = Q .nrm s H := by simp [Qblk]
theorem Qblk_ext (i j : Nat) (h : j ≠ i) : Qblk i Q (.ext j) s H = Q (.ext j) s H := by simp [Qblk, h]
theorem Qblk_ret (i : Nat) : Qblk i Q .ret s H = Q .ret s H := rfl
theorem Qloop_nrm (b : AC) : Qloop cx b Q .nrm s H = C cx (.loop b) s H Q := rfl
theorem Qloop_ext (b : AC) (i : Nat) : Qloop cx b Q (.ext i) s H = Q (.ext i) s H := rfl
theorem Qloop_ret (b : AC) : Qloop cx b Q .ret s H = Q .ret s H := rfl
theorem Cond_true (t e : AC) : Cond cx t e s H Q (.bool true) = C cx t s H Q := rfl
theorem Cond_false (t e : AC) : Cond cx t e s H Q (.bool false) = C cx e s H Q := rfl
theorem C_skip : C cx .skip s H Q = Q .nrm s H := rfl
theorem C_exit (i : Nat) : C cx (.exit i) s H Q = Q (.ext i) s H := rfl
theorem C_ret : C cx .ret s H Q = Q .ret s H := rfl
theorem C_reg (ops : List AOp) : C cx (.reg ops) s H Q = X cx ops s H (Qr Q) := by
  unfold C X
  simp only [arun]
  cases xops cx ops s H <;> rfl
theorem C_draw (nt : Nat) (ops : Array Oper) : C cx (.draw nt ops) s H Q = OutX (adraw cx nt ops s H) (Qr Q) := by
  unfold C
  simp only [arun]
  cases adraw cx nt ops s H <;> rfl
theorem C_seq (a b : AC) : C cx (.seq a b) s H Q = C cx a s H (Qseq cx b Q) := by
  unfold C
  simp only [arun]
  cases arun cx a s H with
  | none => rfl
  | some y =>
    obtain ⟨e, s1, H1⟩ := y
    cases e <;> rfl
theorem C_cond (c : Operand) (t e : AC) : C cx (.cond c t e) s H Q = Cond cx t e s H Q (ev s c) := by
  unfold C
  simp only [arun]
  cases ev s c <;> try rfl
  rename_i b
  cases b <;> rfl
theorem C_block (i : Nat) (b : AC) : C cx (.block i b) s H Q = C cx b s H (Qblk i Q) := by
  unfold C
  simp only [arun]
  cases arun cx b s H with
  | none => rfl
  | some y =>
    obtain ⟨e, s1, H1⟩ := y
    cases e with
    | nrm => rfl
    | ret => rfl
    | ext j => by_cases h : j = i <;> simp [h, Out, Qblk]
end
/-- A round, then the rest of the loop. -/
theorem C_loop {E : Env} {b : AC} {s : Slots} {H : AHeap} {Q : QT} (h : C (cxV E) b s H (Qloop (cxV E) b Q)) : C (cxV E) (.loop b) s H Q := by
  obtain ⟨e, s', H', hr, hq⟩ := Out.get h
  show Out (loopV (arun (cxV E) b) s H) Q
  cases e with
  | nrm =>
    obtain ⟨e2, s2, H2, hr2, hq2⟩ := Out.get hq
    have : loopV (arun (cxV E) b) s H = some (e2, s2, H2) := loopV_step hr hr2
    rw [this]
    exact hq2
  | ext i => rw [loopV_exit hr]; exact hq
  | ret => rw [loopV_ret hr]; exact hq
theorem C_mono {cx : Cx} {c : AC} {s : Slots} {H : AHeap} {Q Q' : QT} (h : C cx c s H Q) (hq : ∀ e s H, Q e s H → Q' e s H) : C cx c s H Q' := by
  obtain ⟨e, s', H', hr, h2⟩ := Out.get h
  unfold C
  rw [hr]
  exact hq _ _ _ h2

/-! ### calls -/
/-- The call tells what meets R. -/
def Tells (E : Env) (f : FuncId) (xs : List AV) (H : AHeap) (R : AV → AHeap → Prop) : Prop := ∃ r H', callV E f xs H = some (r, H') ∧ R r H'
def Res (R : AV → AHeap → Prop) (H : AHeap) : Option AV → Prop
  | some r => R r H
  | none => False
def Qres (P : Program) (rs : Array ResultVar) (R : AV → AHeap → Prop) : QT
  | .ext _, _, _ => False
  | _, s, H => Res R H (ares P rs s H)
theorem tells {E : Env} {f : FuncId} {fn : Func} {c : Code} {a : AC} {xs : List AV} {H : AHeap} {R : AV → AHeap → Prop} (hf : E.P.funcs[f]? = some fn) (hb : fn.body = some c) (hx : E.ext f = none) (hs : strip fn.ntmps c = a)
    (hn : xs.length ≤ fn.ntmps ∧ fn.name ≠ "runtime.NumGoroutine") (h : C (cxV E) a (s0 xs) H (Qres E.P fn.results R)) : Tells E f xs H R := by
  subst hs
  obtain ⟨e, s', H', hr, hq⟩ := Out.get h
  have hr' := arun_acode (cx := cxV E) (fun _ _ => loopV_mono) fn.ntmps c _ _ _ hr
  cases e with
  | ext i => exact hq.elim
  | nrm =>
    obtain ⟨r, ha, hR⟩ : ∃ r, ares E.P fn.results s' H' = some r ∧ R r H' := by
      simp only [Qres] at hq
      cases ha : ares E.P fn.results s' H' with
      | none => rw [ha] at hq; exact hq.elim
      | some r => rw [ha] at hq; exact ⟨r, rfl, hq⟩
    refine ⟨r, H', callV_body hx ?_, hR⟩
    unfold abody
    have hP : (cxV E).P = E.P := rfl
    simp only [hP, hf, hb]
    rw [if_pos hn, hr']
    simp only [ha, Option.map_some]
  | ret =>
    obtain ⟨r, ha, hR⟩ : ∃ r, ares E.P fn.results s' H' = some r ∧ R r H' := by
      simp only [Qres] at hq
      cases ha : ares E.P fn.results s' H' with
      | none => rw [ha] at hq; exact hq.elim
      | some r => rw [ha] at hq; exact ⟨r, rfl, hq⟩
    refine ⟨r, H', callV_body hx ?_, hR⟩
    unfold abody
    have hP : (cxV E).P = E.P := rfl
    simp only [hP, hf, hb]
    rw [if_pos hn, hr']
    simp only [ha, Option.map_some]
theorem Qres_nrm (P : Program) (rs : Array ResultVar) (R : AV → AHeap → Prop) (s : Slots) (H : AHeap) : Qres P rs R .nrm s H = Res R H (ares P rs s H) := rfl
theorem Qres_ret (P : Program) (rs : Array ResultVar) (R : AV → AHeap → Prop) (s : Slots) (H : AHeap) : Qres P rs R .ret s H = Res R H (ares P rs s H) := rfl
theorem Res_some (R : AV → AHeap → Prop) (H : AHeap) (r : AV) : Res R H (some r) = R r H := rfl
/-- The value that a pure call hands back. -/
theorem acallf_pure {E : Env} {f : FuncId} {xs ys : List AV} {H : AHeap} {r : AV} {H1 : AHeap} {z : AV} (hp : E.pure f = true) (hx : mapO (frz depth H) xs = some ys) (hc : callV E f ys [] = some (r, H1))
    (hz : frz depth H1 r = some z) (hl : leads depth z = false) : acallf (cxV E) f xs H = some (z, H) := by
  unfold acallf
  have hp' : (cxV E).pure f = true := hp
  have hc' : (cxV E).call f ys [] = some (r, H1) := hc
  rw [if_pos hp', hx]
  simp only [hc', hz, hl, Bool.false_eq_true, if_false]
/-- PURE CALLS: what f makes of values, the heap left alone. -/
def Pure (E : Env) (f : FuncId) (xs : List AV) (z : AV) : Prop := E.pure f = true ∧ ∃ r H1, callV E f xs [] = some (r, H1) ∧ frz depth H1 r = some z
theorem Pure.of {E : Env} {f : FuncId} {xs : List AV} {z : AV} (hp : E.pure f = true) (h : Tells E f xs [] fun r H1 => frz depth H1 r = some z) : Pure E f xs z :=
  let ⟨r, H1, a, b⟩ := h
  ⟨hp, r, H1, a, b⟩
theorem Pure.call {E : Env} {f : FuncId} {xs ys : List AV} {H : AHeap} {z : AV} (h : Pure E f ys z) (hx : mapO (frz depth H) xs = some ys) :
    acallf (cxV E) f xs H = some (z, if leads depth z then (xs.flatMap (reach depth H)).foldl settle1 H else H) := by
  obtain ⟨hp, r, H1, hc, hz⟩ := h
  unfold acallf
  have hp' : (cxV E).pure f = true := hp
  have hc' : (cxV E).call f ys [] = some (r, H1) := hc
  rw [if_pos hp', hx]
  simp only [hc', hz]
end Go.Vam
/- The abstract machine VAM: its equations, for simp. -/

namespace Go.Vam

/-! ### operands, slots -/
@[go_sem] theorem ev_tmp (s : Slots) (t : Tmp) : ev s (.tmp t) = s t := rfl
@[go_sem] theorem ev_int (s : Slots) (k : IntKind) (n : Int) : ev s (.const (.int k n)) = .int k n := rfl
@[go_sem] theorem ev_bool (s : Slots) (b : Bool) : ev s (.const (.bool b)) = .bool b := rfl
@[go_sem] theorem ev_str (s : Slots) (l : List UInt8) : ev s (.const (.string ⟨⟨l⟩⟩)) = .str l := rfl
@[go_sem] theorem ev_nils (s : Slots) : ev s (.const (.slice none 0 0)) = .nils := rfl
@[go_sem] theorem ev_nilp (s : Slots) : ev s (.const (.pointer none)) = .nilp := rfl
@[go_sem] theorem ev_nilm (s : Slots) : ev s (.const (.map none)) = .nilm := rfl
@[go_sem] theorem ev_nilf (s : Slots) : ev s (.const .nilFunc) = .nilf := rfl
@[go_sem] theorem ev_func (s : Slots) (f : FuncId) : ev s (.func f) = .fn f [] := rfl
@[go_sem] theorem upd_get (s : Slots) (d : Nat) (v : AV) (t : Nat) : upd s d v t = if t = d then v else s t := rfl
theorem upd_same (s : Slots) (d : Nat) (v : AV) : upd s d v d = v := if_pos rfl

/-! ### operations -/
section
variable (cx : Cx) (s : Slots) (H : AHeap)
def pickV (a b : AV) (H : AHeap) : AV → Option (AV × AHeap)
  | .bool true => some (a, H)
  | .bool false => some (b, H)
  | _ => none
def plainV (H : AHeap) : Option AV → Option (AV × AHeap)
  | some x => some (x, H)
  | none => none
def heapV (v : AV) : Option AHeap → Option (AV × AHeap)
  | some H => some (v, H)
  | none => none
@[go_sem] theorem plainV_some (x : AV) : plainV H (some x) = some (x, H) := rfl
@[go_sem] theorem heapV_some (v : AV) : heapV v (some H) = some (v, H) := rfl
@[go_sem] theorem pickV_true (a b : AV) : pickV a b H (.bool true) = some (a, H) := rfl
@[go_sem] theorem pickV_false (a b : AV) : pickV a b H (.bool false) = some (b, H) := rfl
@[go_sem] theorem o_move (x : Operand) : aop cx (.move x) s H = some (ev s x, H) := rfl
@[go_sem] theorem o_assign (x : Operand) : aop cx (.assign x) s H = some (ev s x, H) := rfl
@[go_sem] theorem o_pick (c a b : Operand) : aop cx (.pick c a b) s H = pickV (ev s a) (ev s b) H (ev s c) := by
  simp only [aop, aop0]
  generalize ev s c = q
  cases q with
  | bool b => cases b <;> rfl
  | _ => rfl
def newV (t : TypeId) (H : AHeap) : Option (List AV) → Option (AV × AHeap)
  | some z => some (.ptr H.length 0 0, H ++ [.arr t true 0 [z]])
  | none => none
@[go_sem] theorem newV_some (t : TypeId) (z : List AV) : newV t H (some z) = some (.ptr H.length 0 0, H ++ [.arr t true 0 [z]]) := rfl
@[go_sem] theorem o_alloc (t : TypeId) : aop cx (.alloc t) s H = newV t H (zeroT cx.P t) := by
  simp only [aop, aop0]
  cases zeroT cx.P t <;> rfl
@[go_sem] theorem o_box (t : TypeId) (x : Operand) : aop cx (.box t x) s H = abox cx.P t (ev s x) H := rfl
@[go_sem] theorem o_build (t : TypeId) (ps : List (Nat × Operand)) : aop cx (.build t ⟨ps⟩) s H = plainV H (abuild cx.P t (ps.map fun p => (p.1, ev s p.2))) := by
  simp only [aop, aop0]
  cases abuild cx.P t (ps.map fun p => (p.1, ev s p.2)) <;> rfl
@[go_sem] theorem o_buildSlice (t : TypeId) (n : Nat) (ps : List (Nat × Operand)) : aop cx (.buildSlice t n ⟨ps⟩) s H = abuildSlice cx.P t n (ps.map fun p => (p.1, ev s p.2)) H := rfl
@[go_sem] theorem o_load (t : TypeId) (p : Operand) : aop cx (.load t p) s H = plainV H (aload cx.P t (ev s p) H) := by
  simp only [aop, aop0]
  cases aload cx.P t (ev s p) H <;> rfl
@[go_sem] theorem o_store (t : TypeId) (p x : Operand) : aop cx (.store t p x) s H = heapV .junk (astore cx.P t (ev s p) (ev s x) H) := by
  simp only [aop, aop0]
  cases astore cx.P t (ev s p) (ev s x) H <;> rfl
def nilV (H : AHeap) : AV → Option (AV × AHeap)
  | .ptr id i j => some (.ptr id i j, H)
  | .ip cs => some (.ip cs, H)
  | _ => none
@[go_sem] theorem nilV_ptr (id i j : Nat) : nilV H (.ptr id i j) = some (.ptr id i j, H) := rfl
@[go_sem] theorem nilV_ip (cs : List AV) : nilV H (.ip cs) = some (.ip cs, H) := rfl
@[go_sem] theorem o_nilCheck (x : Operand) : aop cx (.nilCheck x) s H = nilV H (ev s x) := by
  simp only [aop, aop0]
  cases ev s x <;> rfl
@[go_sem] theorem o_binOp (op : BinOp) (t : TypeId) (x y : Operand) (u : TypeId) : aop cx (.binOp op t x y u) s H = plainV H (abin cx.P op t (ev s x) (ev s y)) := by
  simp only [aop, aop0]
  cases abin cx.P op t (ev s x) (ev s y) <;> rfl
@[go_sem] theorem o_unOp (op : UnOp) (t : TypeId) (x : Operand) : aop cx (.unOp op t x) s H = plainV H (aunop op (ev s x)) := by
  simp only [aop, aop0]
  cases aunop op (ev s x) <;> rfl
@[go_sem] theorem o_convert (a b : TypeId) (x : Operand) : aop cx (.convert a b x) s H = aconvert cx.P a b (ev s x) H := rfl
@[go_sem] theorem o_makeFunc (f : FuncId) (cap : List Operand) : aop cx (.makeFunc (.func f) #[] ⟨cap⟩) s H = some (.fn f (cap.map (ev s)), H) := rfl
@[go_sem] theorem o_makeMap (t : TypeId) : aop cx (.makeMap t none) s H = some (.mp H.length, H ++ [.map []]) := rfl
@[go_sem] theorem o_makeSlice (t : TypeId) (l c : Operand) : aop cx (.makeSlice t l c) s H = amakeSlice cx.P t (ev s l) (ev s c) H := rfl
@[go_sem] theorem o_slice (t : TypeId) (x : Operand) (lo hi : Option Operand) : aop cx (.slice t x lo hi none) s H = plainV H (aslice cx.P t (ev s x) (lo.map (ev s)) (hi.map (ev s)) H) := by
  simp only [aop, aop0]
  cases aslice cx.P t (ev s x) (lo.map (ev s)) (hi.map (ev s)) H <;> rfl
@[go_sem] theorem o_fieldAddr (t : TypeId) (p : Operand) (f : Nat) : aop cx (.fieldAddr t p f) s H = plainV H (afieldAddr cx.P t (ev s p) f) := by
  simp only [aop, aop0]
  cases afieldAddr cx.P t (ev s p) f <;> rfl
@[go_sem] theorem o_field (t : TypeId) (p : Operand) (f : Nat) : aop cx (.field t p f) s H = plainV H (afield cx.P t (ev s p) f) := by
  simp only [aop, aop0]
  cases afield cx.P t (ev s p) f <;> rfl
@[go_sem] theorem o_indexAddr (t : TypeId) (p i : Operand) : aop cx (.indexAddr t p i) s H = plainV H (aindexAddr cx.P t (ev s p) (ev s i) H) := by
  simp only [aop, aop0]
  cases aindexAddr cx.P t (ev s p) (ev s i) H <;> rfl
@[go_sem] theorem o_index (t : TypeId) (p i : Operand) : aop cx (.index t p i) s H = plainV H (aindex cx.P t (ev s p) (ev s i)) := by
  simp only [aop, aop0]
  cases aindex cx.P t (ev s p) (ev s i) <;> rfl
@[go_sem] theorem o_lookup (t : TypeId) (m k : Operand) (b : Bool) : aop cx (.lookup t m k b) s H = plainV H (alookup cx.P t (ev s m) (ev s k) b H) := by
  simp only [aop, aop0]
  cases alookup cx.P t (ev s m) (ev s k) b H <;> rfl
@[go_sem] theorem o_mapUpdate (t : TypeId) (m k x : Operand) : aop cx (.mapUpdate t m k x) s H = heapV .junk (amapUpdate cx.P t (ev s m) (ev s k) (ev s x) H) := by
  simp only [aop, aop0]
  cases amapUpdate cx.P t (ev s m) (ev s k) (ev s x) H <;> rfl
@[go_sem] theorem o_insert (t : TypeId) (m k x : Operand) : aop cx (.insert t m k x) s H = heapV .junk (amapUpdate cx.P t (ev s m) (ev s k) (ev s x) H) := by
  simp only [aop, aop0]
  cases amapUpdate cx.P t (ev s m) (ev s k) (ev s x) H <;> rfl
def extV (i : Nat) (H : AHeap) : AV → Option (AV × AHeap)
  | .tup xs => plainV H (xs[i]?)
  | _ => none
@[go_sem] theorem extV_tup (i : Nat) (xs : List AV) : extV i H (.tup xs) = plainV H (xs[i]?) := rfl
@[go_sem] theorem o_extract (x : Operand) (i : Nat) : aop cx (.extract x i) s H = extV i H (ev s x) := by
  simp only [aop, aop0]
  cases ev s x <;> try rfl
  rename_i xs
  simp only [extV]
  cases xs[i]? <;> rfl
@[go_sem] theorem o_builtin (b : Builtin) (args : List Operand) (ts : List TypeId) : aop cx (.call { callee := .builtin b, args := ⟨args⟩, argTypes := ⟨ts⟩ }) s H = abuiltin cx.P b ts (args.map (ev s)) H := rfl
/-- A call of a function value. -/
def fnV (cx : Cx) (xs : List AV) (H : AHeap) : AV → Option (AV × AHeap)
  | .fn g cap => acallf cx g (xs ++ cap) H
  | _ => none
@[go_sem] theorem fnV_fn (xs : List AV) (g : Nat) (cap : List AV) : fnV cx xs H (.fn g cap) = acallf cx g (xs ++ cap) H := rfl
@[go_sem] theorem o_call (f : Operand) (args : List Operand) (ts : Array TypeId) : aop cx (.call { callee := .value f, args := ⟨args⟩, argTypes := ts }) s H = fnV cx (args.map (ev s)) H (ev s f) := by
  simp only [aop, acallop]
  generalize ev s f = q
  cases q <;> rfl
end

/-! ### numbers, texts -/
section
variable (P : Program) (t : TypeId) (k : IntKind) (a b : Int) (x y : List UInt8)
@[go_sem] theorem b_add : abin P .add t (.int k a) (.int k b) = some (.int k (k.wrap (a + b))) := by simp [abin, abinInt]
@[go_sem] theorem b_sub : abin P .sub t (.int k a) (.int k b) = some (.int k (k.wrap (a - b))) := by simp [abin, abinInt]
@[go_sem] theorem b_mul : abin P .mul t (.int k a) (.int k b) = some (.int k (k.wrap (a * b))) := by simp [abin, abinInt]
@[go_sem] theorem b_eql : abin P .eql t (.int k a) (.int k b) = some (.bool (decide (a = b))) := by simp [abin, abinInt]
@[go_sem] theorem b_neq : abin P .neq t (.int k a) (.int k b) = some (.bool (!decide (a = b))) := by simp [abin, abinInt]
@[go_sem] theorem b_lss : abin P .lss t (.int k a) (.int k b) = some (.bool (decide (a < b))) := by simp [abin, abinInt]
@[go_sem] theorem b_leq : abin P .leq t (.int k a) (.int k b) = some (.bool (decide (a ≤ b))) := by simp [abin, abinInt]
@[go_sem] theorem b_gtr : abin P .gtr t (.int k a) (.int k b) = some (.bool (decide (b < a))) := by simp [abin, abinInt]
@[go_sem] theorem b_geq : abin P .geq t (.int k a) (.int k b) = some (.bool (decide (b ≤ a))) := by simp [abin, abinInt]
@[go_sem] theorem b_seql : abin P .eql t (.str x) (.str y) = some (.bool (x == y)) := rfl
@[go_sem] theorem b_sneq : abin P .neq t (.str x) (.str y) = some (.bool !(x == y)) := rfl
@[go_sem] theorem b_slss : abin P .lss t (.str x) (.str y) = some (.bool (Op.bytesLess x y)) := rfl
theorem b_sadd (h : x.length + y.length ≤ 9223372036854775807) : abin P .add t (.str x) (.str y) = some (.str (x ++ y)) := by simp [abin, abinStr, h]
@[go_sem] theorem u_not (b : Bool) : aunop .not (.bool b) = some (.bool !b) := rfl
@[go_sem] theorem u_neg : aunop .neg (.int k a) = some (.int k (k.wrap (0 - a))) := rfl
end

/-! ### lengths -/
section
variable (P : Program) (t : TypeId) (H : AHeap)
def lenV (H : AHeap) (x : Option Int) : Bool → Option (AV × AHeap)
  | true => x.map fun n => (.int .i64 n, H)
  | false => none
@[go_sem] theorem lenV_true (n : Int) : lenV H (some n) true = some (.int .i64 n, H) := rfl
@[go_sem] theorem bi_len (x : AV) : abuiltin P .len [t] [x] H = lenV H (alen x H) (lenT P t x) := by
  simp only [abuiltin]
  cases lenT P t x <;> rfl
@[go_sem] theorem len_str (l : List UInt8) : alen (.str l) H = some (l.length : Int) := rfl
@[go_sem] theorem len_sl (es : List (List AV)) : alen (.sl es) H = some (es.length : Int) := rfl
@[go_sem] theorem len_nils : alen .nils H = some (0 : Int) := rfl
@[go_sem] theorem len_hs (id i n : Nat) : alen (.hs id i n) H = some (n : Int) := rfl
@[go_sem] theorem lenT_str (l : List UInt8) : lenT P t (.str l) = strT P t := by
  unfold lenT strT
  cases P.underlying t <;> try rfl
  rename_i d
  cases d <;> rfl
@[go_sem] theorem lenT_sl (es : List (List AV)) : lenT P t (.sl es) = (sliceT P t).isSome := by
  unfold lenT sliceT
  cases P.underlying t <;> try rfl
  rename_i d
  cases d <;> rfl
@[go_sem] theorem lenT_nils : lenT P t .nils = (sliceT P t).isSome := by
  unfold lenT sliceT
  cases P.underlying t <;> try rfl
  rename_i d
  cases d <;> rfl
@[go_sem] theorem lenT_hs (id i n : Nat) : lenT P t (.hs id i n) = (sliceT P t).isSome := by
  unfold lenT sliceT
  cases P.underlying t <;> try rfl
  rename_i d
  cases d <;> rfl
@[go_sem] theorem lenT_mp (id : Nat) : lenT P t (.mp id) = (mapT P t).isSome := by
  unfold lenT mapT
  cases P.underlying t <;> try rfl
  rename_i d
  cases d <;> rfl
@[go_sem] theorem bi_append (t2 : TypeId) (x y : AV) : abuiltin P .append [t, t2] [x, y] H = aappend P t t2 x y H := rfl
@[go_sem] theorem bi_copy (t2 : TypeId) (x y : AV) : abuiltin P .copy [t, t2] [x, y] H = acopy P t x y H := rfl
@[go_sem] theorem keyT_str (l : List UInt8) : keyT P t (.str l) = strT P t := by
  unfold keyT strT
  cases P.underlying t <;> try rfl
  rename_i d
  cases d <;> rfl
end

/-! ### loads, addresses -/
section
variable (P : Program) (t : TypeId) (H : AHeap)
def pick1 (n : Option Nat) (cs : List AV) : Option Bool → Option AV
  | some true => match n with
    | some n => if n ≤ cs.length then some (.agg (cs.take n)) else none
    | none => none
  | some false => cs.head?
  | none => none
@[go_sem] theorem ld_eq (cs : List AV) : ldCells P t cs = pick1 (szOf P t) cs (aggT P t) := by
  unfold ldCells pick1
  cases aggT P t with
  | none => rfl
  | some g =>
    cases g with
    | true => cases szOf P t <;> rfl
    | false => cases cs <;> rfl
@[go_sem] theorem pick1_true (n : Nat) (cs : List AV) : pick1 (some n) cs (some true) = if n ≤ cs.length then some (.agg (cs.take n)) else none := rfl
@[go_sem] theorem pick1_false (n : Option Nat) (cs : List AV) : pick1 n cs (some false) = cs.head? := rfl
@[go_sem] theorem load_ip (cs : List AV) : aload P t (.ip cs) H = ldCells P t cs := rfl
def ldObj (P : Program) (t : TypeId) (i j : Nat) : Option AO → Option AV
  | some (.arr _ _ _ es) => match es[i]? with
    | some e => ldCells P t (e.drop j)
    | none => none
  | _ => none
@[go_sem] theorem load_ptr (id i j : Nat) : aload P t (.ptr id i j) H = ldObj P t i j (H[id]?) := by
  simp only [aload, ldObj]
  generalize H[id]? = q
  cases q with
  | none => rfl
  | some x => cases x <;> rfl
def ldElem (P : Program) (t : TypeId) (j : Nat) : Option (List AV) → Option AV
  | some e => ldCells P t (e.drop j)
  | none => none
@[go_sem] theorem ldObj_arr (ty : TypeId) (ap : Bool) (fz i j : Nat) (es : List (List AV)) : ldObj P t i j (some (.arr ty ap fz es)) = ldElem P t j (es[i]?) := by
  simp only [ldObj, ldElem]
@[go_sem] theorem ldElem_some (j : Nat) (e : List AV) : ldElem P t j (some e) = ldCells P t (e.drop j) := rfl
def fldV (P : Program) (p : AV) : Option (Nat × TypeId) → Option AV
  | some (off, ty) => match szOf P ty with
    | some (_ + 1) => match p with
      | .ptr id i j => some (.ptr id i (j + off))
      | .ip cs => some (.ip (cs.drop off))
      | _ => none
    | _ => none
  | none => none
def fldV2 (p : AV) (off : Nat) : Option Nat → Option AV
  | some (_ + 1) => match p with
    | .ptr id i j => some (.ptr id i (j + off))
    | .ip cs => some (.ip (cs.drop off))
    | _ => none
  | _ => none
@[go_sem] theorem fieldAddr_eq (p : AV) (f : Nat) : afieldAddr P t p f = fldV P p (fldT P t f) := by
  unfold afieldAddr fldV
  cases fldT P t f <;> rfl
@[go_sem] theorem fldV_some (p : AV) (off : Nat) (ty : TypeId) : fldV P p (some (off, ty)) = fldV2 p off (szOf P ty) := rfl
@[go_sem] theorem fldV2_ip (cs : List AV) (off n : Nat) : fldV2 (.ip cs) off (some (n + 1)) = some (.ip (cs.drop off)) := rfl
@[go_sem] theorem fldV2_ptr (id i j off n : Nat) : fldV2 (.ptr id i j) off (some (n + 1)) = some (.ptr id i (j + off)) := rfl
@[go_sem] theorem fldV2_ip1 (cs : List AV) (off : Nat) : fldV2 (.ip cs) off (some 1) = some (.ip (cs.drop off)) := rfl
@[go_sem] theorem fldV2_ptr1 (id i j off : Nat) : fldV2 (.ptr id i j) off (some 1) = some (.ptr id i (j + off)) := rfl
/-- The address of an element of a slice that lies still. -/
theorem indexAddr_sl {es : List (List AV)} {k : IntKind} {i : Nat} {e : TypeId} {c : List AV} (hT : sliceT P t = some e) (hc : es[i]? = some c) (hz : szOf P e = some c.length) : aindexAddr P t (.sl es) (.int k i) H = some (.ip c) := by
  simp [aindexAddr, hT, hc, hz]
theorem indexAddr_hs {id i0 n : Nat} {k : IntKind} {i : Nat} {e : TypeId} {ap : Bool} {fz : Nat} {es : List (List AV)} (hT : sliceT P t = some e) (hx : H[id]? = some (.arr e ap fz es)) (hi : i < n) : aindexAddr P t (.hs id i0 n) (.int k i) H = some (.ptr id (i0 + i) 0) := by
  simp [aindexAddr, hT, hx, hi]
theorem index_str {l : List UInt8} {k : IntKind} {i : Nat} {b : UInt8} (hT : strT P t = true) (hb : l[i]? = some b) : aindex P t (.str l) (.int k i) = some (.int .u8 b.toNat) := by
  simp [aindex, hT, hb]
end
/-! ### loops -/
/-- A LOOP BY A MEASURE. -/
theorem C_while {E : Env} {b : AC} {Q : QT} (I : Nat → Slots → AHeap → Prop)
    (step : ∀ n s H, I n s H → C (cxV E) b s H (fun x s' H' => match x with
      | .nrm => ∃ m, m < n ∧ I m s' H'
      | x => Q x s' H')) : ∀ n s H, I n s H → C (cxV E) (.loop b) s H Q := by
  intro n
  induction n using Nat.strongRecOn with
  | _ n ih =>
    intro s H h
    refine C_loop (C_mono (step n s H h) fun x s' H' hx => ?_)
    cases x with
    | nrm =>
      obtain ⟨m, hm, hI⟩ := hx
      exact ih m hm s' H' hI
    | ext i => exact hx
    | ret => exact hx
attribute [go_sem] X_nil X_cons X_consg XR_some XR_none XG_yes XG_tf XG_ft XG_nul Qr_eq Qseq_nrm Qseq_ext Qseq_ret Qblk_nrm Qblk_same Qblk_ext Qblk_ret Qloop_nrm Qloop_ext Qloop_ret Cond_true Cond_false C_skip C_exit C_ret C_reg C_seq C_cond C_block Qres_nrm Qres_ret Res_some
/-- A function's code, its results, its temporaries. -/
def codeAt (P : Program) (f : FuncId) : Option (AC × Array ResultVar × Nat) :=
  match P.funcs[f]? with
  | some fn => match fn.body with
    | some c => if fn.name ≠ "runtime.NumGoroutine" then some (strip fn.ntmps c, fn.results, fn.ntmps) else none
    | none => none
  | none => none
/-- The operations of a code's region, by its number. -/
def regIn (id : Nat) : Code → Option (Array Oper)
  | .region i ops _ => if i = id then some ops else none
  | .seq a b => match regIn id a with
    | some r => some r
    | none => regIn id b
  | .cond _ a b => match regIn id a with
    | some r => some r
    | none => regIn id b
  | .block _ b => regIn id b
  | .loop b => regIn id b
  | .scope b => regIn id b
  | _ => none
def regionOf (fn : Func) (id : Nat) : Array Oper := (fn.body.bind (regIn id)).getD #[]
theorem codeAt_some {P : Program} {f : FuncId} {a : AC} {rs : Array ResultVar} {n : Nat} (h : codeAt P f = some (a, rs, n)) : ∃ fn c, P.funcs[f]? = some fn ∧ fn.body = some c ∧ fn.name ≠ "runtime.NumGoroutine" ∧ strip fn.ntmps c = a ∧ fn.results = rs ∧ fn.ntmps = n := by
  unfold codeAt at h
  split at h
  · rename_i fn hf
    split at h
    · rename_i c hc
      split at h
      · rename_i hn
        simp only [Option.some.injEq, Prod.mk.injEq] at h
        exact ⟨fn, c, hf, hc, hn, h.1, h.2.1, h.2.2⟩
      · cases h
    · cases h
  · cases h
theorem tells_at {E : Env} {f : FuncId} {a : AC} {rs : Array ResultVar} {n : Nat} {xs : List AV} {H : AHeap} {R : AV → AHeap → Prop} (hk : codeAt E.P f = some (a, rs, n)) (hx : E.ext f = none) (hn : xs.length ≤ n)
    (h : C (cxV E) a (s0 xs) H (Qres E.P rs R)) : Tells E f xs H R := by
  obtain ⟨fn, c, h1, h2, h3, h4, h5, h6⟩ := codeAt_some hk
  subst h5
  subst h6
  exact tells h1 h2 hx h4 ⟨hn, h3⟩ h
attribute [go_sem] mapO ares ares1 s0 List.getD List.getElem?_cons_zero List.getElem?_cons_succ Option.getD_some Option.map_some Option.map_none List.nil_append List.cons_append if_true if_false Bool.false_eq_true List.all_cons List.all_nil decide_true decide_false Bool.and_self List.map_cons List.map_nil Option.isSome_some Option.isSome_none List.head?_cons Bool.not_true Bool.not_false List.drop_zero List.drop_succ_cons List.length_cons List.length_nil
/-! ### both ways of what is not known -/
section
variable (cx : Cx) (s : Slots) (H : AHeap)
theorem split_cond (t e : AC) (Q : QT) (c : Bool) : Cond cx t e s H Q (.bool c) = ((c = true → C cx t s H Q) ∧ (c = false → C cx e s H Q)) := by
  cases c <;> simp [Cond]
theorem split_guard (o : Op) (rest : List AOp) (d : Nat) (K : Slots → AHeap → Prop) (b c : Bool) : XG cx o rest s H (some d) K b (.bool c) = ((c = b → XR cx rest s (some d) K (aop cx o s H)) ∧ (c = (!b) → X cx rest (upd s d (.tup [])) H K)) := by
  cases b <;> cases c <;> simp [XG, putS]
end
end Go.Vam
/- The abstract machine VAM: regions of open order that need no look at their orders: what turns the heap stands in one order, what looks at it is in order with that. -/

namespace Go.Vam

/-- May an operation turn the heap? none: not to be told from its text. -/
def effS (pure : FuncId → Bool) : Op → Option Bool
  | .alloc _ | .box _ _ | .buildSlice _ _ _ | .store _ _ _ | .makeMap _ _ | .makeSlice _ _ _ | .mapUpdate _ _ _ _ | .insert _ _ _ _ | .range _ _ | .next _ _ | .convert _ _ _ => some true
  | .call c => match c.callee with
    | .builtin .append | .builtin .copy | .builtin .delete => some true
    | .builtin _ => some false
    | .value (.func g) => some (!pure g)
    | .value _ => none
    | _ => some true
  | _ => some false
theorem effS_sound {cx : Cx} {o : Op} {b : Bool} (h : effS cx.pure o = some b) (s : Slots) : effOp cx s o = b := by
  cases o <;> simp only [effS, Option.some.injEq] at h <;> try (subst h; rfl)
  rename_i c
  unfold effOp
  simp only
  cases hc : c.callee with
  | builtin x => rw [hc] at h; cases x <;> simp only [Option.some.injEq] at h <;> subst h <;> rfl
  | value f =>
    rw [hc] at h
    cases f with
    | func g => simp only [Option.some.injEq] at h; subst h; rfl
    | tmp t => simp only [reduceCtorEq] at h
    | const v => simp only [reduceCtorEq] at h
    | global g => simp only [reduceCtorEq] at h
  | invoke r n => rw [hc] at h; simp only [Option.some.injEq] at h; subst h; rfl
def drawOp (pure : FuncId → Bool) (nt : Nat) (ops : Array Oper) (o : Oper) : Option (Bool × AOp) :=
  match effS pure o.op, stripOp ops o with
  | some b, some a => if dstOk nt o = true ∧ (b = true → o.guard = none) then some (b, a) else none
  | _, _ => none
/-- What is asked of such a region, at once; its operations. -/
def drawList (pure : FuncId → Bool) (nt : Nat) (ops : Array Oper) : Option (List (Bool × AOp)) :=
  match mapO (drawOp pure nt ops) ops.toList with
  | some l => if drawStatic ops && effOrdered (preOf ops) (l.map (·.1)) && (pairs ops (l.map (·.1))).isEmpty then some l else none
  | none => none

def gV (s : Slots) : Option (Nat × Bool) → Option Bool
  | none => some true
  | some (j, b) => guardV (s j) b
def XD (cx : Cx) : List (Bool × AOp) → Slots → AHeap → (Slots → AHeap → Prop) → Prop
  | [], s, H, K => K s H
  | (e, ⟨d, g, o⟩) :: rest, s, H, K =>
    match gV s g with
    | some true => match aop cx o s H with
      | some (v, H1) => (e = false → H1 = H) ∧ XD cx rest (putS s d v) H1 K
      | none => False
    | some false => XD cx rest (putS s d (.tup [])) H K
    | none => False

theorem drawn_trail {cx : Cx} {nt : Nat} {ops : Array Oper} {K : Slots → AHeap → Prop} : ∀ (l : List Oper) (k : List (Bool × AOp)) (s : Slots) (H : AHeap), mapO (drawOp cx.pure nt ops) l = some k → XD cx k s H K →
    ∃ tr s' H', atrail cx nt ops l s H = some (tr, s', H') ∧ flags tr = k.map (·.1) ∧ quiet tr ∧ K s' H'
  | [], k, s, H, hm, h => by
    simp only [mapO, Option.some.injEq] at hm
    subst hm
    exact ⟨[], s, H, rfl, rfl, fun t ht => by simp at ht, h⟩
  | o :: l, k, s, H, hm, h => by
    simp only [mapO] at hm
    cases hd : drawOp cx.pure nt ops o with
    | none => rw [hd] at hm; cases hm
    | some q =>
      rw [hd] at hm
      simp only at hm
      cases hk : mapO (drawOp cx.pure nt ops) l with
      | none => rw [hk] at hm; cases hm
      | some k' =>
        rw [hk] at hm
        simp only [Option.map_some, Option.some.injEq] at hm
        subst hm
        obtain ⟨e, d, g, op⟩ := q
        unfold drawOp at hd
        cases he : effS cx.pure o.op with
        | none => rw [he] at hd; cases hd
        | some b =>
          cases hs : stripOp ops o with
          | none => rw [he, hs] at hd; cases hd
          | some a =>
            rw [he, hs] at hd
            simp only at hd
            split at hd
            · rename_i hc
              simp only [Option.some.injEq, Prod.mk.injEq] at hd
              obtain ⟨rfl, rfl⟩ := hd
              have put : ∀ v, aput nt s o.dst v = some (putS s o.dst v) := fun v => by
                have := hc.1
                unfold dstOk at this
                unfold aput putS
                cases hd' : o.dst with
                | none => rfl
                | some d =>
                  rw [hd'] at this
                  simp only [decide_eq_true_eq] at this
                  simp only [if_pos this]
              -- the guard's value
              have hab : d = o.dst ∧ op = o.op ∧ wants ops s o = gV s g := by
                unfold stripOp at hs
                unfold wants
                split at hs
                · rename_i hg
                  simp only [Option.some.injEq, AOp.mk.injEq] at hs
                  obtain ⟨e1, e2, e3⟩ := hs
                  subst e2
                  simp only [hg, gV]
                  exact ⟨e1.symm, e3.symm, trivial⟩
                · rename_i j b' hg
                  split at hs
                  · rename_i d' hd'
                    simp only [Option.some.injEq, AOp.mk.injEq] at hs
                    obtain ⟨e1, e2, e3⟩ := hs
                    subst e2
                    simp only [hg, hd', gV]
                    exact ⟨e1.symm, e3.symm, trivial⟩
                  · cases hs
              obtain ⟨rfl, rfl, hwant⟩ := hab
              unfold XD at h
              rw [← hwant] at h
              have heff := effS_sound he s
              unfold atrail
              cases hw : wants ops s o with
              | none => rw [hw] at h; exact h.elim
              | some q =>
                rw [hw] at h
                cases q with
                | true =>
                  simp only at h ⊢
                  cases ho : aop cx o.op s H with
                  | none => rw [ho] at h; exact h.elim
                  | some y =>
                    obtain ⟨v, H1⟩ := y
                    rw [ho] at h
                    simp only at h
                    obtain ⟨tr, s', H', h1, h2, h3, h4⟩ := drawn_trail l k' _ _ hk h.2
                    simp only [put, h1]
                    refine ⟨_, _, _, rfl, by simp only [flags, List.map_cons, heff]; rw [← h2]; rfl, fun t ht hf => ?_, h4⟩
                    rcases List.mem_cons.1 ht with rfl | ht
                    · simp only at hf ⊢
                      rw [heff] at hf
                      exact h.1 hf
                    · exact h3 t ht hf
                | false =>
                  simp only at h ⊢
                  obtain ⟨tr, s', H', h1, h2, h3, h4⟩ := drawn_trail l k' _ _ hk h
                  simp only [put, h1]
                  have hb : b = false := by
                    cases b with
                    | false => rfl
                    | true =>
                      have := hc.2 rfl
                      unfold wants at hw
                      rw [this] at hw
                      cases hw
                  refine ⟨_, _, _, rfl, by simp only [flags, List.map_cons, hb]; rw [← h2]; rfl, fun t ht hf => ?_, h4⟩
                  rcases List.mem_cons.1 ht with rfl | ht
                  · rfl
                  · exact h3 t ht hf
            · cases hd
/-- A REGION OF OPEN ORDER that need not be looked at order by order. -/
theorem C_drawn {cx : Cx} {nt : Nat} {ops : Array Oper} {l : List (Bool × AOp)} {s : Slots} {H : AHeap} {Q : QT} (hl : drawList cx.pure nt ops = some l) (h : XD cx l s H (Qr Q)) : C cx (.draw nt ops) s H Q := by
  unfold drawList at hl
  cases hm : mapO (drawOp cx.pure nt ops) ops.toList with
  | none => rw [hm] at hl; cases hl
  | some k =>
    rw [hm] at hl
    simp only at hl
    split at hl
    · rename_i hc
      simp only [Option.some.injEq] at hl
      subst hl
      simp only [Bool.and_eq_true, List.isEmpty_iff] at hc
      obtain ⟨tr, s', H', h1, h2, h3, h4⟩ := drawn_trail _ _ _ _ hm h
      rw [C_draw]
      have : adraw cx nt ops s H = some (s', H') := by
        unfold adraw
        rw [h1]
        simp only
        rw [if_pos ⟨hc.1.1, by rw [h2]; exact hc.1.2, h3, fun p hp => by rw [h2, hc.2] at hp; cases hp⟩]
      rw [this]
      exact h4
    · cases hl
theorem drawOp_spec {pure : FuncId → Bool} {nt : Nat} {ops : Array Oper} {o : Oper} {e : Bool} {a : AOp} (h : drawOp pure nt ops o = some (e, a)) :
    effS pure o.op = some e ∧ (∀ (s : Slots) (v : AV), aput nt s o.dst v = some (putS s a.dst v)) ∧ a.op = o.op ∧ (∀ s, wants ops s o = gV s a.g) ∧ (e = true → o.guard = none) := by
  unfold drawOp at h
  split at h
  · rename_i b a' he hs
    split at h
    · rename_i hc
      simp only [Option.some.injEq, Prod.mk.injEq] at h
      obtain ⟨rfl, rfl⟩ := h
      have hdst : a'.dst = o.dst ∧ a'.op = o.op ∧ ∀ s, wants ops s o = gV s a'.g := by
        unfold stripOp at hs
        unfold wants
        split at hs
        · rename_i hg
          simp only [Option.some.injEq] at hs
          subst hs
          simp only [hg, gV]
          exact ⟨trivial, trivial, fun _ => trivial⟩
        · rename_i j b' hg
          split at hs
          · rename_i d' hd'
            simp only [Option.some.injEq] at hs
            subst hs
            simp only [hg, hd', gV]
            exact ⟨trivial, trivial, fun _ => trivial⟩
          · cases hs
      refine ⟨he, fun s v => ?_, hdst.2.1, hdst.2.2, hc.2⟩
      rw [hdst.1]
      have := hc.1
      unfold dstOk at this
      unfold aput putS
      cases hd' : o.dst with
      | none => rfl
      | some d =>
        rw [hd'] at this
        simp only [decide_eq_true_eq] at this
        simp only [if_pos this]
    · cases h
  · cases h
theorem trail_drawn {cx : Cx} {nt : Nat} {ops : Array Oper} {K : Slots → AHeap → Prop} : ∀ (l : List Oper) (k : List (Bool × AOp)) (s : Slots) (H : AHeap) (tr : List Trail) (s' : Slots) (H' : AHeap), mapO (drawOp cx.pure nt ops) l = some k →
    atrail cx nt ops l s H = some (tr, s', H') → quiet tr → K s' H' → XD cx k s H K
  | [], k, s, H, tr, s', H', hm, ht, hq, hk => by
    simp only [mapO, Option.some.injEq] at hm
    simp only [atrail, Option.some.injEq, Prod.mk.injEq] at ht
    obtain ⟨_, rfl, rfl⟩ := ht
    subst hm
    exact hk
  | o :: l, k, s, H, tr, s', H', hm, ht, hq, hK => by
    simp only [mapO] at hm
    cases hd : drawOp cx.pure nt ops o with
    | none => rw [hd] at hm; cases hm
    | some q =>
      rw [hd] at hm
      simp only at hm
      cases hk : mapO (drawOp cx.pure nt ops) l with
      | none => rw [hk] at hm; cases hm
      | some k' =>
        rw [hk] at hm
        simp only [Option.map_some, Option.some.injEq] at hm
        subst hm
        obtain ⟨e, a⟩ := q
        obtain ⟨h1, h2, h3, h4, h5⟩ := drawOp_spec hd
        obtain ⟨d, g, op⟩ := a
        simp only at h2 h3 h4
        subst h3
        unfold XD
        unfold atrail at ht
        rw [h4] at ht
        cases hw : gV s g with
        | none => rw [hw] at ht; cases ht
        | some b =>
          rw [hw] at ht
          cases b with
          | true =>
            simp only at ht ⊢
            cases ho : aop cx o.op s H with
            | none => rw [ho] at ht; cases ht
            | some y =>
              obtain ⟨v, H1⟩ := y
              rw [ho] at ht
              simp only [h2] at ht
              cases hr : atrail cx nt ops l (putS s d v) H1 with
              | none => rw [hr] at ht; cases ht
              | some z =>
                obtain ⟨tr1, s2, H2⟩ := z
                rw [hr] at ht
                simp only [Option.some.injEq, Prod.mk.injEq] at ht
                obtain ⟨rfl, rfl, rfl⟩ := ht
                simp only
                refine ⟨fun he => ?_, trail_drawn l k' _ _ tr1 s2 H2 hk hr (fun t ht => hq t (List.mem_cons_of_mem _ ht)) hK⟩
                exact hq _ (List.mem_cons_self) (by simp only; rw [effS_sound h1 s, he])
          | false =>
            simp only [h2] at ht ⊢
            cases hr : atrail cx nt ops l (putS s d (.tup [])) H with
            | none => rw [hr] at ht; cases ht
            | some z =>
              obtain ⟨tr1, s2, H2⟩ := z
              rw [hr] at ht
              simp only [Option.some.injEq, Prod.mk.injEq] at ht
              obtain ⟨rfl, rfl, rfl⟩ := ht
              exact trail_drawn l k' _ _ tr1 s2 H2 hk hr (fun t ht => hq t (List.mem_cons_of_mem _ ht)) hK
/-- As an equation, for simp. -/
theorem C_draw_eq {cx : Cx} {nt : Nat} {ops : Array Oper} {l : List (Bool × AOp)} (hl : drawList cx.pure nt ops = some l) (s : Slots) (H : AHeap) (Q : QT) : C cx (.draw nt ops) s H Q = XD cx l s H (Qr Q) := by
  apply propext
  refine ⟨fun h => ?_, fun h => C_drawn hl h⟩
  rw [C_draw] at h
  unfold drawList at hl
  cases hm : mapO (drawOp cx.pure nt ops) ops.toList with
  | none => rw [hm] at hl; cases hl
  | some k =>
    rw [hm] at hl
    simp only at hl
    split at hl
    · simp only [Option.some.injEq] at hl
      subst hl
      cases ha : adraw cx nt ops s H with
      | none => rw [ha] at h; exact h.elim
      | some y =>
        obtain ⟨s', H'⟩ := y
        rw [ha] at h
        unfold adraw at ha
        split at ha
        · rename_i tr s1 H1 htr
          split at ha
          · rename_i hc
            simp only [Option.some.injEq, Prod.mk.injEq] at ha
            obtain ⟨rfl, rfl⟩ := ha
            exact trail_drawn _ _ _ _ tr s1 H1 hm htr hc.2.2.1 h
          · cases ha
        · cases ha
    · cases hl
/-! ### equations -/
def XDR (cx : Cx) (e : Bool) (rest : List (Bool × AOp)) (s : Slots) (H : AHeap) (d : Option Nat) (K : Slots → AHeap → Prop) : Option (AV × AHeap) → Prop
  | some (v, H1) => (e = false → H1 = H) ∧ XD cx rest (putS s d v) H1 K
  | none => False
def XDG (cx : Cx) (e : Bool) (o : Op) (rest : List (Bool × AOp)) (s : Slots) (H : AHeap) (d : Option Nat) (K : Slots → AHeap → Prop) (b : Bool) : AV → Prop
  | .bool c => if c = b then XDR cx e rest s H d K (aop cx o s H) else XD cx rest (putS s d (.tup [])) H K
  | .tup [] => XD cx rest (putS s d (.tup [])) H K
  | _ => False
section
variable (cx : Cx) (e : Bool) (s : Slots) (H : AHeap) (K : Slots → AHeap → Prop) (o : Op) (rest : List (Bool × AOp))
@[go_sem] theorem XD_nil : XD cx [] s H K = K s H := rfl
@[go_sem] theorem XD_cons (d : Option Nat) : XD cx ((e, ⟨d, none, o⟩) :: rest) s H K = XDR cx e rest s H d K (aop cx o s H) := by
  simp only [XD, XDR, gV]
@[go_sem] theorem XD_consg (d : Option Nat) (g : Nat) (b : Bool) : XD cx ((e, ⟨d, some (g, b), o⟩) :: rest) s H K = XDG cx e o rest s H d K b (s g) := by
  simp only [XD, gV]
  generalize s g = q
  cases q with
  | bool c =>
    simp only [guardV, XDG]
    by_cases h : c = b
    · subst h
      simp only [BEq.rfl, if_true, XDR]
    · have : (c == b) = false := by simpa using h
      simp only [this, h, if_false]
  | tup xs => cases xs <;> rfl
  | _ => rfl
@[go_sem] theorem XDR_eff (d : Nat) (v : AV) (H1 : AHeap) : XDR cx true rest s H (some d) K (some (v, H1)) = XD cx rest (upd s d v) H1 K := by simp [XDR, putS]
@[go_sem] theorem XDR_eff0 (v : AV) (H1 : AHeap) : XDR cx true rest s H none K (some (v, H1)) = XD cx rest s H1 K := by simp [XDR, putS]
@[go_sem] theorem XDR_same (d : Nat) (v : AV) : XDR cx false rest s H (some d) K (some (v, H)) = XD cx rest (upd s d v) H K := by simp [XDR, putS]
@[go_sem] theorem XDR_same0 (v : AV) : XDR cx false rest s H none K (some (v, H)) = XD cx rest s H K := by simp [XDR, putS]
@[go_sem] theorem XDG_yes (d : Option Nat) (b : Bool) : XDG cx e o rest s H d K b (.bool b) = XDR cx e rest s H d K (aop cx o s H) := by simp [XDG]
@[go_sem] theorem XDG_tf (d : Nat) : XDG cx e o rest s H (some d) K true (.bool false) = XD cx rest (upd s d (.tup [])) H K := by simp [XDG, putS]
@[go_sem] theorem XDG_ft (d : Nat) : XDG cx e o rest s H (some d) K false (.bool true) = XD cx rest (upd s d (.tup [])) H K := by simp [XDG, putS]
@[go_sem] theorem XDG_nul (d : Nat) (b : Bool) : XDG cx e o rest s H (some d) K b (.tup []) = XD cx rest (upd s d (.tup [])) H K := by simp [XDG, putS]
end
end Go.Vam
/- The abstract machine VAM: chains of tests of one text against texts, as a switch makes them. -/

namespace Go.Vam
/-- One of some texts? x: the slot of the text, d: the answer's. -/
def sw (x d : Nat) : List (Nat × List UInt8) → AC
  | [] => .bad
  | [(t, k)] => .reg [⟨some t, none, .binOp .eql 9 (.tmp x) (.const (.string ⟨⟨k⟩⟩)) 9⟩, ⟨some d, none, .assign (.tmp t)⟩]
  | (t, k) :: p :: l => .seq (.reg [⟨some t, none, .binOp .eql 9 (.tmp x) (.const (.string ⟨⟨k⟩⟩)) 9⟩, ⟨some d, none, .assign (.tmp t)⟩]) (.cond (.tmp d) .skip (sw x d (p :: l)))
def strOf : AV → List UInt8
  | .str v => v
  | _ => []
def isStr : AV → Bool
  | .str _ => true
  | _ => false
@[go_sem] theorem strOf_str (v : List UInt8) : strOf (.str v) = v := rfl
@[go_sem] theorem isStr_str (v : List UInt8) : isStr (.str v) = true := rfl
def swS (d : Nat) (v : List UInt8) : List (Nat × List UInt8) → Slots → Slots
  | [], s => s
  | (t, k) :: l, s => if v == k then upd (upd s t (.bool (v == k))) d (.bool (v == k)) else swS d v l (upd (upd s t (.bool (v == k))) d (.bool (v == k)))
def swOk (x d : Nat) (l : List (Nat × List UInt8)) : Bool := !l.isEmpty && x != d && l.all fun p => p.1 != x && p.1 != d
theorem swS_one (d : Nat) (v : List UInt8) (t : Nat) (k : List UInt8) (s : Slots) : swS d v [(t, k)] s = upd (upd s t (.bool (v == k))) d (.bool (v == k)) := by
  rw [swS]
  split <;> rfl
theorem C_sw {cx : Cx} {x d : Nat} : ∀ (l : List (Nat × List UInt8)) (s : Slots) (H : AHeap) (Q : QT), swOk x d l = true → isStr (s x) = true → C cx (sw x d l) s H Q = Q .nrm (swS d (strOf (s x)) l s) H
  | [], s, H, Q, hok, hs => by simp [swOk] at hok
  | [(t, k)], s, H, Q, hok, hs => by
    simp only [swOk, List.all_cons, List.all_nil, Bool.and_eq_true, bne_iff_ne, ne_eq] at hok
    obtain ⟨⟨_, hxd⟩, ⟨htx, htd⟩, _⟩ := hok
    cases hv : s x with
    | str v =>
      simp only [sw, C_reg, X_cons, o_binOp, ev_tmp, hv, ev_str, b_seql, plainV_some, XR_some, o_assign, upd_same, X_nil, Qr_eq, strOf_str]
      rw [swS_one]
    | _ => rw [hv] at hs; cases hs
  | (t, k) :: p :: l, s, H, Q, hok, hs => by
    have hok' := hok
    simp only [swOk, List.all_cons, Bool.and_eq_true, bne_iff_ne, ne_eq] at hok
    obtain ⟨⟨_, hxd⟩, ⟨htx, htd⟩, hp, hl⟩ := hok
    have ih := fun s' h => C_sw (cx := cx) (x := x) (d := d) (p :: l) s' H Q (by simp only [swOk, List.all_cons, Bool.and_eq_true, bne_iff_ne, ne_eq]; exact ⟨⟨rfl, hxd⟩, hp, hl⟩) h
    cases hv : s x with
    | str v =>
      simp only [sw, C_seq, C_reg, X_cons, o_binOp, ev_tmp, hv, ev_str, b_seql, plainV_some, XR_some, o_assign, upd_same, X_nil, Qr_eq, Qseq_nrm, C_cond, strOf_str]
      have hx' : (upd (upd s t (.bool (v == k))) d (.bool (v == k))) x = .str v := by
        unfold upd
        rw [if_neg hxd, if_neg (fun e => htx e.symm), hv]
      cases hb : (v == k) with
      | true =>
        simp only [Cond_true, C_skip]
        rw [swS]
        simp only [hb, if_true]
      | false =>
        rw [hb] at hx'
        simp only [Cond_false]
        rw [ih _ (by rw [hx']; rfl), hx']
        conv => rhs; rw [swS]
        simp only [hb, Bool.false_eq_true, if_false, strOf_str]
    | _ => rw [hv] at hs; cases hs
theorem swS_d {d : Nat} {v : List UInt8} : ∀ (l : List (Nat × List UInt8)) (s : Slots), l ≠ [] → swS d v l s d = .bool ((l.map (·.2)).contains v)
  | [], s, h => absurd rfl h
  | (t, k) :: l, s, _ => by
    simp only [swS, List.map_cons, List.contains_cons]
    cases hb : (v == k) with
    | true => simp [upd]
    | false =>
      simp only [Bool.false_eq_true, if_false, Bool.false_or]
      cases l with
      | nil => simp [swS, upd]
      | cons p l => exact swS_d (p :: l) _ (by simp)
theorem swS_o {d t : Nat} {v : List UInt8} : ∀ (l : List (Nat × List UInt8)) (s : Slots), t ≠ d → (∀ p ∈ l, p.1 ≠ t) → swS d v l s t = s t
  | [], s, _, _ => rfl
  | (u, k) :: l, s, hd, hl => by
    have hu : u ≠ t := hl (u, k) (by simp)
    have hu' : t ≠ u := fun e => hu e.symm
    have h1 : (upd (upd s u (.bool (v == k))) d (.bool (v == k))) t = s t := by
      unfold upd
      rw [if_neg hd, if_neg hu']
    rw [swS]
    split
    · exact h1
    · rw [swS_o l _ hd fun p hp => hl p (by simp [hp])]
      exact h1
theorem swS_out {d t lo hi : Nat} {v : List UInt8} {l : List (Nat × List UInt8)} (hr : (l.all fun p => decide (lo ≤ p.1) && decide (p.1 < hi)) = true) (hd : lo ≤ d ∧ d < hi) (s : Slots) (h : t < lo ∨ hi ≤ t) : swS d v l s t = s t := by
  refine swS_o l s (by omega) fun p hp => ?_
  have := List.all_eq_true.1 hr p hp
  simp only [Bool.and_eq_true, decide_eq_true_eq] at this
  omega
end Go.Vam
/- The abstract machine VAM: loops that range over a map: rules by hand, where what comes next hangs on the tape. -/



namespace Go.Vam
open Go.RowKit
open Go.ChangeMaps (setBlock)

/-- Code without a call: a machine that knows no function. -/
noncomputable def cx0 (P : Program) : Cx := cxN { P := P, pure := fun _ => false, ext := fun _ => none } 0
@[go_sem] theorem cx0_P (P : Program) : (cx0 P).P = P := rfl
theorem cx0_ok (P : Program) : CallOk (cx0 P) := fun f xs H r H' h => by cases h

section
variable {P : Program} {B : Nat} {ok0 : Nat → Nat → Prop} {nt M : Nat} {p : Nat × Nat}
/-- From slots s, heap H on, code k does what R says; object M lies at p. -/
def G (P : Program) (B : Nat) (ok0 : Nat → Nat → Prop) (nt M : Nat) (p : Nat × Nat) (k : AC) (s : Slots) (H : AHeap) (R : QT) : Prop :=
  ∀ (c : Code), strip nt c = k → ∀ (w : World) (ρ : Pl) (a : Act) (Q : Exit → Act → World → Prop), St P B ok0 ρ H w → B ≤ w.heap.size → ρ[M]? = some p → SR P (okS B ok0 ρ H) w ρ nt s a →
    (∀ x s' H' a' w' ρ', R x s' H' → St P B ok0 ρ' H' w' → Evo B ok0 ρ H w ρ' H' w' → SR P (okS B ok0 ρ' H') w' ρ' nt s' a' → Q (toExit x) a' w') → c.wp P Q a w
def GX (P : Program) (B : Nat) (ok0 : Nat → Nat → Prop) (nt M : Nat) (p : Nat × Nat) (k : List AOp) (s : Slots) (H : AHeap) (R : Slots → AHeap → Prop) : Prop :=
  ∀ (ops : Array Oper) (l : List Oper), l.all (dstOk nt) = true → mapO (stripOp ops) l = some k → ∀ (w : World) (ρ : Pl) (a : Act) (Q : Exit → Act → World → Prop), St P B ok0 ρ H w → B ≤ w.heap.size → ρ[M]? = some p → SR P (okS B ok0 ρ H) w ρ nt s a →
    (∀ s' H' a' w' ρ', R s' H' → St P B ok0 ρ' H' w' → Evo B ok0 ρ H w ρ' H' w' → SR P (okS B ok0 ρ' H') w' ρ' nt s' a' → Q .normal a' w') → wpList P ops Q l a w

theorem G_C (hm : P.follows .mixedOrders = true) {k : AC} {s : Slots} {H : AHeap} {R : QT} (h : C (cx0 P) k s H R) : G P B ok0 nt M p k s H R := by
  intro c hk w ρ a Q hst hB _ hs hn
  subst hk
  obtain ⟨x, s', H', h1, h2⟩ := h.get
  have h3 := arun_acode (cx := cx0 P) (fun b b' _ s H r he => by cases he) nt c s H _ h1
  exact code_goes (cx := cx0 P) (cx0_ok P) hm ⟨0, rfl⟩ c s H x s' H' a w ρ Q h3 hst hB hs fun a' w' ρ' q1 q2 q3 => hn x s' H' a' w' ρ' h2 q1 q2 q3
theorem G_scope {s : Slots} {H : AHeap} {R : QT} {c : Code} (h : ∀ (w : World) (ρ : Pl) (a : Act) (Q : Exit → Act → World → Prop), St P B ok0 ρ H w → B ≤ w.heap.size → ρ[M]? = some p → SR P (okS B ok0 ρ H) w ρ nt s a →
    (∀ x s' H' a' w' ρ', R x s' H' → St P B ok0 ρ' H' w' → Evo B ok0 ρ H w ρ' H' w' → SR P (okS B ok0 ρ' H') w' ρ' nt s' a' → Q (toExit x) a' w') → c.wp P Q a w) :
    ∀ (w : World) (ρ : Pl) (a : Act) (Q : Exit → Act → World → Prop), St P B ok0 ρ H w → B ≤ w.heap.size → ρ[M]? = some p → SR P (okS B ok0 ρ H) w ρ nt s a →
    (∀ x s' H' a' w' ρ', R x s' H' → St P B ok0 ρ' H' w' → Evo B ok0 ρ H w ρ' H' w' → SR P (okS B ok0 ρ' H') w' ρ' nt s' a' → Q (toExit x) a' w') → (Code.scope c).wp P Q a w := by
  intro w ρ a Q hst hB hp hs hn
  refine wp_scope_straight (h w ρ a _ hst hB hp hs fun x s' H' a' w' ρ' q1 q2 q3 q4 => ?_)
  have := hn x s' H' a' w' ρ' q1 q2 q3 q4
  cases x <;> exact this
def Gseq (P : Program) (B : Nat) (ok0 : Nat → Nat → Prop) (nt M : Nat) (p : Nat × Nat) (b : AC) (R : QT) : QT
  | .nrm, s, H => G P B ok0 nt M p b s H R
  | x, s, H => R x s H
theorem G_seq {b d : AC} {R : QT} {s : Slots} {H : AHeap} (h : G P B ok0 nt M p b s H (Gseq P B ok0 nt M p d R)) : G P B ok0 nt M p (.seq b d) s H R := by
  intro c
  induction c with
  | seq c1 c2 _ _ =>
    intro hk w ρ a Q hst hB hp hs hn
    simp only [strip, AC.seq.injEq] at hk
    refine wp_seq (h c1 hk.1 w ρ a _ hst hB hp hs fun x s' H' a' w' ρ' q1 q2 q3 q4 => ?_)
    cases x with
    | nrm => exact q1 c2 hk.2 w' ρ' a' Q q2 (Nat.le_trans hB q3.below.size) (q3.pre _ _ hp) q4 fun y s2 H2 a2 w2 ρ2 r1 r2 r3 r4 => hn y s2 H2 a2 w2 ρ2 r1 r2 (q3.trans r3) r4
    | ext i => exact hn _ s' H' a' w' ρ' q1 q2 q3 q4
    | ret => exact hn _ s' H' a' w' ρ' q1 q2 q3 q4
  | scope c ih => intro hk; exact G_scope (ih hk)
  | region id ops dr =>
    intro hk
    unfold strip at hk
    split at hk
    · cases hk
    · split at hk
      · split at hk <;> cases hk
      · cases hk
  | _ => intro hk; first | (simp only [strip] at hk; cases hk; done) | (cases hk; done)
def Gblk (id : Nat) (R : QT) : QT
  | .ext j, s, H => if j = id then R .nrm s H else R (.ext j) s H
  | x, s, H => R x s H
theorem G_block {id : Nat} {b : AC} {R : QT} {s : Slots} {H : AHeap} (h : G P B ok0 nt M p b s H (Gblk id R)) : G P B ok0 nt M p (.block id b) s H R := by
  intro c
  induction c with
  | block i c1 _ =>
    intro hk w ρ a Q hst hB hp hs hn
    simp only [strip, AC.block.injEq] at hk
    obtain ⟨rfl, hk⟩ := hk
    refine wp_block (h c1 hk w ρ a _ hst hB hp hs fun x s' H' a' w' ρ' q1 q2 q3 q4 => ?_)
    cases x with
    | nrm => exact hn _ s' H' a' w' ρ' q1 q2 q3 q4
    | ret => exact hn _ s' H' a' w' ρ' q1 q2 q3 q4
    | ext j =>
      simp only [Gblk] at q1
      simp only [toExit, Exit.inBlock]
      split
      · rename_i e; rw [if_pos e] at q1; exact hn .nrm s' H' a' w' ρ' q1 q2 q3 q4
      · rename_i e; rw [if_neg e] at q1; exact hn (.ext j) s' H' a' w' ρ' q1 q2 q3 q4
  | scope c ih => intro hk; exact G_scope (ih hk)
  | region id ops dr =>
    intro hk
    unfold strip at hk
    split at hk
    · cases hk
    · split at hk
      · split at hk <;> cases hk
      · cases hk
  | _ => intro hk; first | (simp only [strip] at hk; cases hk; done) | (cases hk; done)
def Glp (I : Nat → Slots → AHeap → Prop) (n : Nat) (R : QT) : QT
  | .nrm, s, H => ∃ m, m < n ∧ I m s H
  | x, s, H => R x s H
theorem G_loop {b : AC} {R : QT} (I : Nat → Slots → AHeap → Prop) (step : ∀ n s H, I n s H → G P B ok0 nt M p b s H (Glp I n R)) (n : Nat) (s : Slots) (H : AHeap) (h0 : I n s H) : G P B ok0 nt M p (.loop b) s H R := by
  intro c
  induction c with
  | loop c1 _ =>
    intro hk w ρ a Q hst hB hp hs hn
    simp only [strip, AC.loop.injEq] at hk
    refine wp_loop_rounds (n + 1) ?_
    have key : ∀ (f n : Nat), n < f → ∀ (s : Slots) (H : AHeap) (w : World) (ρ : Pl) (a : Act), I n s H → St P B ok0 ρ H w → B ≤ w.heap.size → ρ[M]? = some p → SR P (okS B ok0 ρ H) w ρ nt s a →
        (∀ x s' H' a' w' ρ', R x s' H' → St P B ok0 ρ' H' w' → Evo B ok0 ρ H w ρ' H' w' → SR P (okS B ok0 ρ' H') w' ρ' nt s' a' → Q (toExit x) a' w') → Code.rounds P c1 Q f a w := by
      intro f
      induction f with
      | zero => intro n hlt; omega
      | succ f ih =>
        intro n hlt s H w ρ a hI hst hB hp hs hn
        rw [rounds_succ]
        refine step n s H hI c1 hk w ρ a _ hst hB hp hs fun x s' H' a' w' ρ' q1 q2 q3 q4 => ?_
        cases x with
        | nrm =>
          obtain ⟨m, hm, hI'⟩ := q1
          exact ih m (by omega) s' H' w' ρ' a' hI' q2 (Nat.le_trans hB q3.below.size) (q3.pre _ _ hp) q4 fun y s2 H2 a2 w2 ρ2 r1 r2 r3 r4 => hn y s2 H2 a2 w2 ρ2 r1 r2 (q3.trans r3) r4
        | ext j => exact hn _ s' H' a' w' ρ' q1 q2 q3 q4
        | ret => exact hn _ s' H' a' w' ρ' q1 q2 q3 q4
    exact key (n + 1) n (Nat.lt_succ_self n) s H w ρ a h0 hst hB hp hs hn
  | scope c ih => intro hk; exact G_scope (ih hk)
  | region id ops dr =>
    intro hk
    unfold strip at hk
    split at hk
    · cases hk
    · split at hk
      · split at hk <;> cases hk
      · cases hk
  | _ => intro hk; first | (simp only [strip] at hk; cases hk; done) | (cases hk; done)
theorem G_reg {k : List AOp} {R : QT} {s : Slots} {H : AHeap} (h : GX P B ok0 nt M p k s H (R .nrm)) : G P B ok0 nt M p (.reg k) s H R := by
  intro c
  induction c with
  | scope c ih => intro hk; exact G_scope (ih hk)
  | region id ops dr =>
    intro hk w ρ a Q hst hB hp hs hn
    unfold strip at hk
    cases dr with
    | true => simp only [if_true] at hk; cases hk
    | false =>
      simp only [Bool.false_eq_true, if_false] at hk
      split at hk
      · rename_i hd
        cases hm : mapO (stripOp ops) ops.toList with
        | none => rw [hm] at hk; cases hk
        | some l =>
          rw [hm] at hk
          simp only [AC.reg.injEq] at hk
          subst hk
          exact wp_region_list (h ops ops.toList hd hm w ρ a Q hst hB hp hs fun s' H' a' w' ρ' q1 q2 q3 q4 => hn .nrm s' H' a' w' ρ' q1 q2 q3 q4)
      · cases hk
  | _ => intro hk; first | (simp only [strip] at hk; cases hk; done) | (cases hk; done)
theorem G_mono {k : AC} {s : Slots} {H : AHeap} {R R' : QT} (h : G P B ok0 nt M p k s H R) (hr : ∀ x s' H', R x s' H' → R' x s' H') : G P B ok0 nt M p k s H R' :=
  fun c hk w ρ a Q hst hB hp hs hn => h c hk w ρ a Q hst hB hp hs fun x s' H' a' w' ρ' q1 q2 q3 q4 => hn x s' H' a' w' ρ' (hr _ _ _ q1) q2 q3 q4
theorem GX_X {k : List AOp} {s : Slots} {H : AHeap} {R : Slots → AHeap → Prop} (h : X (cx0 P) k s H R) : GX P B ok0 nt M p k s H R := by
  intro ops l hd hk w ρ a Q hst hB _ hs hn
  unfold X at h
  cases hx : xops (cx0 P) k s H with
  | none => rw [hx] at h; exact h.elim
  | some y =>
    obtain ⟨s', H'⟩ := y
    rw [hx] at h
    have := xops_aops (cx0 P) nt ops l k s H _ hd hk hx
    exact aops_wp (cx := cx0 P) (cx0_ok P) l s H a w ρ s' H' hst hB hs this fun a' w' ρ' q1 q2 q3 => hn s' H' a' w' ρ' h q1 q2 q3
/-- One operation, by hand: T is what may come of it. -/
theorem GX_op {d : Nat} {op : Op} {rest : List AOp} {s : Slots} {H : AHeap} {R : Slots → AHeap → Prop} (T : AV → AHeap → Prop)
    (h : ∀ (o : Oper) (w : World) (ρ : Pl) (a : Act) (next : Act → World → Prop) (Q : Exit → Act → World → Prop), o.op = op → St P B ok0 ρ H w → B ≤ w.heap.size → ρ[M]? = some p → SR P (okS B ok0 ρ H) w ρ nt s a →
      (∀ v H1 u w1 ρ1, T v H1 → St P B ok0 ρ1 H1 w1 → Evo B ok0 ρ H w ρ1 H1 w1 → VR P (okS B ok0 ρ1 H1) w1 ρ1 v u → next (a.put o.dst u) w1) → o.wp P a w next Q)
    (hn : ∀ v H1, T v H1 → GX P B ok0 nt M p rest (upd s d v) H1 R) : GX P B ok0 nt M p (⟨some d, none, op⟩ :: rest) s H R := by
  intro ops l hd hk w ρ a Q hst hB hp hs hq
  cases l with
  | nil => simp only [mapO, Option.some.injEq] at hk; cases hk
  | cons o l =>
    simp only [List.all_cons, Bool.and_eq_true] at hd
    simp only [mapO] at hk
    cases hso : stripOp ops o with
    | none => rw [hso] at hk; cases hk
    | some a0 =>
      rw [hso] at hk
      simp only at hk
      cases hkk : mapO (stripOp ops) l with
      | none => rw [hkk] at hk; cases hk
      | some k' =>
        rw [hkk] at hk
        simp only [Option.map_some, Option.some.injEq, List.cons.injEq] at hk
        obtain ⟨rfl, rfl⟩ := hk
        unfold stripOp at hso
        cases hg : o.guard with
        | some jb =>
          obtain ⟨j, b⟩ := jb
          rw [hg] at hso
          simp only at hso
          cases hj : (ops[j]?).bind (·.dst) with
          | none => rw [hj] at hso; cases hso
          | some d' => rw [hj] at hso; simp only [Option.some.injEq, AOp.mk.injEq] at hso; exact absurd hso.2.1 (by simp)
        | none =>
          rw [hg] at hso
          simp only [Option.some.injEq, AOp.mk.injEq] at hso
          obtain ⟨e1, _, e3⟩ := hso
          unfold wpList
          have hwt : Region.wanted o (yielded ops a.tmps) = true := wants_sound (o := o) hs (by unfold wants; rw [hg])
          rw [if_pos hwt]
          refine .inl (h o w ρ a _ Q e3 hst hB hp hs fun v H1 u w1 ρ1 q1 q2 q3 q4 => ?_)
          have hdl : aput nt s o.dst v = some (upd s d v) := by
            have := hd.1
            unfold dstOk at this
            rw [e1] at this ⊢
            simp only [decide_eq_true_eq] at this
            simp only [aput, if_pos this]
          exact hn v H1 q1 ops l hd.2 hkk w1 ρ1 _ Q q2 (Nat.le_trans hB q3.below.size) (q3.pre _ _ hp) ((hs.mono q3.stab q3.pre).put q4 hdl) fun s' H' a' w' ρ' r1 r2 r3 r4 => hq s' H' a' w' ρ' r1 r2 (q3.trans r3) r4

theorem GX_range {d t m : Nat} {kt et : TypeId} {rest : List AOp} {s : Slots} {H : AHeap} {R : Slots → AHeap → Prop} {es : Array MapEntry} {ck : Nat} (hT : mapT P t = some (kt, et)) (hm : s m = .mp M) (hM : H[M]? = some (.raw (.map es ck)))
    (hn : GX P B ok0 nt M p rest (upd s d (.it H.length)) (H ++ [.raw (.mapIter (some p.1) ck #[] ck)]) R) : GX P B ok0 nt M p (⟨some d, none, .range t (.tmp m)⟩ :: rest) s H R := by
  refine GX_op (fun v H1 => v = .it H.length ∧ H1 = H ++ [.raw (.mapIter (some p.1) ck #[] ck)]) ?_ ?_
  · intro o w ρ a next Q ho hst hB hp hs hq
    have hx := ev_VR hs (.tmp m)
    have e1 : ev s (.tmp m) = .mp M := hm
    rw [e1] at hx
    generalize he : a.eval (.tmp m) = q at hx
    cases hx with
    | mp _ _ b sz hr =>
      have e2 := hr.symm.trans hp
      simp only [Option.some.injEq] at e2
      subst e2
      have hb := hst.raw _ _ _ _ hM hr
      have hu : P.underlying t = some (.map kt et) := mapT_some hT
      have hrun := run_range_map w t kt et b es ck hu hb
      obtain ⟨a1, a2⟩ := hst.alloc (x := .raw (.mapIter (some b) ck #[] ck)) (o := .mapIter (some b) ck #[] ck) (sz := 0) hB (below_alloc' w _) (heap_alloc_new w _) (fun ty ap fz es e => by cases e)
        (fun es e => by cases e) (fun s p e => by cases e) (fun o' e => by cases e; rfl)
      exact wp_v (by simp only [execOp, ho, he]) hrun (hq _ _ _ _ _ ⟨rfl, rfl⟩ a1 a2 (.it _ _ _ _ (plNew hst _)))
  · rintro v H1 ⟨rfl, rfl⟩
    exact hn
theorem GX_next {d i id : Nat} {rest : List AOp} {s : Slots} {H : AHeap} {R : Slots → AHeap → Prop} {es : Array MapEntry} {ck : Nat} {seen : Array Nat} (hi : s i = .it id) (hI : H[id]? = some (.raw (.mapIter (some p.1) ck seen ck))) (hM : H[M]? = some (.raw (.map es ck)))
    (hold : ∀ x ∈ es.toList, x.born < ck)
    (hn0 : (leftOf es seen).size = 0 → GX P B ok0 nt M p rest (upd s d (.tup [.bool false])) H R)
    (hn1 : ∀ e ∈ (leftOf es seen).toList, GX P B ok0 nt M p rest (upd s d (.tup [.bool true, .junk, .junk])) (H.set id (.raw (.mapIter (some p.1) ck (seen.push e.born) ck))) R) :
    GX P B ok0 nt M p (⟨some d, none, .next (.tmp i) false⟩ :: rest) s H R := by
  refine GX_op (fun v H1 => ((leftOf es seen).size = 0 ∧ v = .tup [.bool false] ∧ H1 = H) ∨ ∃ e ∈ (leftOf es seen).toList, v = .tup [.bool true, .junk, .junk] ∧ H1 = H.set id (.raw (.mapIter (some p.1) ck (seen.push e.born) ck))) ?_ ?_
  · intro o w ρ a next Q ho hst hB hp hs hq
    have hx := ev_VR hs (.tmp i)
    have e1 : ev s (.tmp i) = .it id := hi
    rw [e1] at hx
    generalize he : a.eval (.tmp i) = q at hx
    cases hx with
    | it _ _ b sz hr =>
      have hbI := hst.raw _ _ _ _ hI hr
      have hbM := hst.raw _ _ p.1 p.2 hM hp
      rcases run_next_at (P := P) w o.type b p.1 ck ck seen es ck hbI hbM hold (Nat.le_refl _) with ⟨h0, hrun⟩ | ⟨e, he1, w1, hw1, hrun⟩
      · refine wp_v (by simp only [execOp, ho, he]) hrun (hq _ _ _ _ ρ (.inl ⟨h0, rfl, rfl⟩) hst (Evo.refl _ _ _ _ _) ?_)
        refine VR.tup ρ _ [.bool false] rfl fun i x hx => ?_
        match i, hx with
        | 0, hx => simp at hx; subst hx; exact .bool _ _
        | i + 1, hx => simp at hx
      · have hheap : w1.heap = w.heap := by rcases hw1 with rfl | rfl <;> rfl
        have hbel : Below w.heap.size w w1 := by
          rcases hw1 with rfl | rfl
          · exact Below.refl _ _
          · exact (Below.refl _ _).drew
        obtain ⟨c1, c2⟩ := hst.below hB hbel
        have hbI1 : w1.heap[b]? = some (.mapIter (some p.1) ck seen ck) := by rw [hheap]; exact hbI
        obtain ⟨s1, s2⟩ := MapKept.heap_set (o' := .mapIter (some p.1) ck (seen.push e.born) ck) hbI1
        obtain ⟨a1, a2⟩ := c1.modify (x' := .raw (.mapIter (some p.1) ck (seen.push e.born) ck)) hI hr trivial trivial (fun o => Iff.rfl) (set_world (w := w1) (o' := .mapIter (some p.1) ck (seen.push e.born) ck)) s2 s1 (fun o u hk => hk.elim)
          (fun s hs => by simp [World.shape?, hbI1] at hs) (fun ty ap fz es e => by cases e) (fun es e => by cases e) (fun s p e => by cases e) (fun o e => by cases e; rfl)
        refine wp_v (by simp only [execOp, ho, he]) hrun (hq _ _ _ _ ρ (.inr ⟨e, he1, rfl, rfl⟩) a1 (c2.trans a2) ?_)
        refine VR.tup ρ _ [.bool true, e.key, e.val] rfl fun i x hx => ?_
        match i, hx with
        | 0, hx => simp at hx; subst hx; exact .bool _ _
        | 1, hx => simp at hx; subst hx; exact .junk _ _
        | 2, hx => simp at hx; subst hx; exact .junk _ _
        | i + 3, hx => simp at hx
  · rintro v H1 (⟨h0, rfl, rfl⟩ | ⟨e, he, rfl, rfl⟩)
    · exact hn0 h0
    · exact hn1 e he
theorem GX_entry {d i id : Nat} {rest : List AOp} {s : Slots} {H : AHeap} {R : Slots → AHeap → Prop} {es : Array MapEntry} {ck : Nat} {seen : Array Nat} {e : MapEntry} {kb : ByteArray} (hi : s i = .it id) (hI : H[id]? = some (.raw (.mapIter (some p.1) ck (seen.push e.born) ck))) (hM : H[M]? = some (.raw (.map es ck)))
    (hn : (es.toList.map (·.born)).Nodup) (he : e ∈ es.toList) (hk : e.key = .string kb) (hq : GX P B ok0 nt M p rest (upd s d (.tup [.str kb.data.toList, .junk])) H R) :
    GX P B ok0 nt M p (⟨some d, none, .entry (.tmp i)⟩ :: rest) s H R := by
  refine GX_op (fun v H1 => v = .tup [.str kb.data.toList, .junk] ∧ H1 = H) ?_ ?_
  · intro o w ρ a next Q ho hst hB hp hs hq
    have hx := ev_VR hs (.tmp i)
    have e1 : ev s (.tmp i) = .it id := hi
    rw [e1] at hx
    generalize he' : a.eval (.tmp i) = q at hx
    cases hx with
    | it _ _ b sz hr =>
      have hbI := hst.raw _ _ _ _ hI hr
      have hbM := hst.raw _ _ p.1 p.2 hM hp
      have hrun := run_entry_at (P := P) w b p.1 ck seen es ck e hbI hbM he hn
      refine wp_v (by simp only [execOp, ho, he']) hrun (hq _ _ _ _ ρ ⟨rfl, rfl⟩ hst (Evo.refl _ _ _ _ _) ?_)
      refine VR.tup ρ _ [e.key, e.val] rfl fun i x hx => ?_
      match i, hx with
      | 0, hx => simp at hx; subst hx; simp only [List.getD_cons_zero, hk]; exact .str _ _
      | 1, hx => simp at hx; subst hx; exact .junk _ _
      | i + 2, hx => simp at hx
  · rintro v H1 ⟨rfl, rfl⟩
    exact hq
/-- The map's very entries, for a while. -/
theorem G_raw {k : AC} {s : Slots} {H : AHeap} {R : QT} {es : List (AV × AV)} (hM : H[M]? = some (.map es))
    (h : ∀ (ents : List MapEntry) (ck : Nat), Born ents ck → es.length = ents.length → (∀ (i : Nat) (kk : List UInt8) (v : AV), es[i]? = some (.str kk, v) → ∃ kb : ByteArray, (ents.getD i default).key = .string kb ∧ kb.data.toList = kk) →
      G P B ok0 nt M p k s (H.set M (.raw (.map ents.toArray ck))) (fun x s' H' => H'[M]? = some (.raw (.map ents.toArray ck)) ∧ R x s' (H'.set M (.map es)))) : G P B ok0 nt M p k s H R := by
  intro c hk w ρ a Q hst hB hp hs hn
  obtain ⟨ents, ck, hb, hbn, hl, h1, h2⟩ := hst.map M es p.1 p.2 hM hp
  obtain ⟨a1, a2⟩ := hst.modify (x' := .raw (.map ents.toArray ck)) (w' := w) hM hp trivial trivial (fun o => Iff.rfl) (Below.refl _ _) (fun _ _ => rfl) hb (fun o u hk => hk.elim) (fun s hs => hs) (fun ty ap fz es e => by cases e) (fun es e => by cases e) (fun s p e => by cases e) (fun o e => by cases e; rfl)
  refine h ents ck hbn hl (fun i kk v hi => ?_) c hk w ρ a Q a1 hB hp (hs.mono a2.stab a2.pre) fun x s' H' a' w' ρ' q1 q2 q3 q4 => ?_
  · have := h1 i _ _ hi
    generalize (ents.getD i default).key = u at this
    cases this with
    | str _ b => exact ⟨b, rfl, rfl⟩
  · have hp' := q3.pre _ _ hp
    have hb' := q2.raw _ _ p.1 p.2 q1.1 hp'
    have ev := a2.trans q3
    obtain ⟨b1, b2⟩ := q2.modify (x' := .map es) (w' := w') q1.1 hp' trivial trivial (fun o => Iff.rfl) (Below.refl _ _) (fun _ _ => rfl) hb' (fun o u hk => hk.elim) (fun s hs => hs) (fun ty ap fz es e => by cases e)
      (fun es' e => by cases e; exact ⟨ents, ck, rfl, hbn, hl, fun i k v hi => (h1 i k v hi).mono ev.stab ev.pre, fun i k v hi => (h2 i k v hi).mono ev.stab ev.pre⟩) (fun s p e => by cases e) (fun o e => by cases e)
    exact hn x s' _ a' w' ρ' q1.2 b1 (ev.trans b2) (q4.mono b2.stab b2.pre)
/-- An object is spent. -/
theorem G_die {k : AC} {s : Slots} {H : AHeap} {R : QT} (h : G P B ok0 nt M p k s H (fun x s' H' => ∃ I, I < H'.length ∧ R x s' (H'.set I .dead))) : G P B ok0 nt M p k s H R := by
  intro c hk w ρ a Q hst hB hp hs hn
  refine h c hk w ρ a Q hst hB hp hs fun x s' H' a' w' ρ' q1 q2 q3 q4 => ?_
  obtain ⟨I, hI, hR⟩ := q1
  obtain ⟨b1, b2⟩ := q2.relax (H' := H'.set I .dead) (by simp) (fun id x' hx => by
    by_cases e : id = I
    · subst e
      rw [List.getElem?_set_self hI] at hx
      simp only [Option.some.injEq] at hx
      subst hx
      exact ⟨H'[id], List.getElem?_eq_getElem hI, .inr (.inl rfl)⟩
    · rw [List.getElem?_set_ne (Ne.symm e)] at hx
      exact ⟨x', hx, .inl rfl⟩)
  exact hn x s' _ a' w' ρ' hR b1 (q3.trans b2) (q4.mono b2.stab b2.pre)
/-- A function of one map, by hand. -/
theorem told_G {f : FuncId} {k : AC} {d n : Nat} {H H' : AHeap} {r : AV} (hk : codeAt P f = some (k, #[.tmp d], n)) (hn : 1 ≤ n)
    (h : ∀ B ok0 p, G P B ok0 n M p k (s0 [.mp M]) H (fun x s' H1 => (x = .nrm ∨ x = .ret) ∧ s' d = r ∧ H1 = H')) : Told P f [.mp M] H r H' := by
  obtain ⟨fn, c, h1, h2, h3, h4, h5, h6⟩ := codeAt_some hk
  refine ⟨⟨fn, c, h1, h2, h3⟩, fun B ok0 ρ w vs hst hB hlen hargs => ?_⟩
  subst h6
  have hs := s0_VR hlen hn hargs
  have hv := hargs 0 _ rfl
  generalize hu : vs.getD 0 undef = u at hv
  cases hv with
  | mp _ _ b sz hr =>
    refine calls_of_wp h1 h2 (h B ok0 (b, sz) c h4 w ρ _ _ hst hB hr hs fun x s' H1 a' w' ρ' q1 q2 q3 q4 => ?_)
    obtain ⟨hx, hd, rfl⟩ := q1
    have hres : ares P fn.results s' H1 = some r := by
      rw [h5]
      simp [ares, mapO, ares1, hd]
    obtain ⟨u, g1, g2⟩ := ares_sound q2 q4 hres
    rcases hx with rfl | rfl
    · exact ⟨q4.defers, u, g1, ρ', q2, q3, g2⟩
    · exact ⟨q4.defers, u, g1, ρ', q2, q3, g2⟩
/-- An operation that hangs on no tape. -/
theorem GX_one {d : Nat} {op : Op} {rest : List AOp} {s : Slots} {H H1 : AHeap} {v : AV} {R : Slots → AHeap → Prop} (ho : aop (cx0 P) op s H = some (v, H1)) (hn : GX P B ok0 nt M p rest (upd s d v) H1 R) : GX P B ok0 nt M p (⟨some d, none, op⟩ :: rest) s H R := by
  refine GX_op (fun v' H' => v' = v ∧ H' = H1) ?_ ?_
  · intro o w ρ a next Q ho' hst hB hp hs hq
    refine aop_wp (cx := cx0 P) (cx0_ok P) hst hB hs (by rw [ho']; exact ho) fun u w1 ρ1 q1 q2 q3 => hq v H1 u w1 ρ1 ⟨rfl, rfl⟩ q1 q2 q3
  · rintro v' H' ⟨rfl, rfl⟩
    exact hn
@[go_sem] theorem Gseq_nrm (b : AC) (R : QT) (s : Slots) (H : AHeap) : Gseq P B ok0 nt M p b R .nrm s H = G P B ok0 nt M p b s H R := rfl
@[go_sem] theorem Gseq_ext (b : AC) (R : QT) (s : Slots) (H : AHeap) (i : Nat) : Gseq P B ok0 nt M p b R (.ext i) s H = R (.ext i) s H := rfl
@[go_sem] theorem Gseq_ret (b : AC) (R : QT) (s : Slots) (H : AHeap) : Gseq P B ok0 nt M p b R .ret s H = R .ret s H := rfl
@[go_sem] theorem Gblk_nrm (id : Nat) (R : QT) (s : Slots) (H : AHeap) : Gblk id R .nrm s H = R .nrm s H := rfl
@[go_sem] theorem Gblk_ret (id : Nat) (R : QT) (s : Slots) (H : AHeap) : Gblk id R .ret s H = R .ret s H := rfl
@[go_sem] theorem Gblk_ext (id j : Nat) (R : QT) (s : Slots) (H : AHeap) : Gblk id R (.ext j) s H = if j = id then R .nrm s H else R (.ext j) s H := rfl
theorem Glp_nrm (I : Nat → Slots → AHeap → Prop) (n : Nat) (R : QT) (s : Slots) (H : AHeap) : Glp I n R .nrm s H = ∃ m, m < n ∧ I m s H := rfl
@[go_sem] theorem Glp_ext (I : Nat → Slots → AHeap → Prop) (n : Nat) (R : QT) (s : Slots) (H : AHeap) (i : Nat) : Glp I n R (.ext i) s H = R (.ext i) s H := rfl
end
end Go.Vam
/- Facts on the types of the program's operations. MADE BY A PROGRAM of this claim (facts.py). -/



namespace Go.Proofs
open Go.Vam
@[go_sem] theorem szOf_0 : szOf Try.prog 0 = some 1 := by kernel_rfl
@[go_sem] theorem szOf_1 : szOf Try.prog 1 = some 1 := by kernel_rfl
@[go_sem] theorem szOf_2 : szOf Try.prog 2 = some 1 := by kernel_rfl
@[go_sem] theorem szOf_3 : szOf Try.prog 3 = some 1 := by kernel_rfl
@[go_sem] theorem szOf_4 : szOf Try.prog 4 = some 1 := by kernel_rfl
@[go_sem] theorem szOf_5 : szOf Try.prog 5 = some 1 := by kernel_rfl
@[go_sem] theorem szOf_6 : szOf Try.prog 6 = some 1 := by kernel_rfl
@[go_sem] theorem szOf_7 : szOf Try.prog 7 = some 4 := by kernel_rfl
@[go_sem] theorem szOf_8 : szOf Try.prog 8 = some 4 := by kernel_rfl
@[go_sem] theorem szOf_9 : szOf Try.prog 9 = some 1 := by kernel_rfl
@[go_sem] theorem szOf_10 : szOf Try.prog 10 = some 1 := by kernel_rfl
@[go_sem] theorem szOf_12 : szOf Try.prog 12 = some 1 := by kernel_rfl
@[go_sem] theorem szOf_13 : szOf Try.prog 13 = some 2 := by kernel_rfl
@[go_sem] theorem szOf_17 : szOf Try.prog 17 = some 1 := by kernel_rfl
@[go_sem] theorem szOf_21 : szOf Try.prog 21 = some 1 := by kernel_rfl
@[go_sem] theorem szOf_22 : szOf Try.prog 22 = some 1 := by kernel_rfl
@[go_sem] theorem szOf_24 : szOf Try.prog 24 = some 1 := by kernel_rfl
@[go_sem] theorem szOf_25 : szOf Try.prog 25 = some 1 := by kernel_rfl
@[go_sem] theorem szOf_26 : szOf Try.prog 26 = some 1 := by kernel_rfl
@[go_sem] theorem szOf_30 : szOf Try.prog 30 = some 4 := by kernel_rfl
@[go_sem] theorem szOf_32 : szOf Try.prog 32 = some 1 := by kernel_rfl
@[go_sem] theorem szOf_33 : szOf Try.prog 33 = some 1 := by kernel_rfl
@[go_sem] theorem szOf_34 : szOf Try.prog 34 = some 1 := by kernel_rfl
@[go_sem] theorem szOf_36 : szOf Try.prog 36 = some 1 := by kernel_rfl
@[go_sem] theorem szOf_38 : szOf Try.prog 38 = some 1 := by kernel_rfl
@[go_sem] theorem szOf_39 : szOf Try.prog 39 = some 3 := by kernel_rfl
@[go_sem] theorem szOf_40 : szOf Try.prog 40 = some 3 := by kernel_rfl
@[go_sem] theorem szOf_41 : szOf Try.prog 41 = some 1 := by kernel_rfl
@[go_sem] theorem szOf_42 : szOf Try.prog 42 = some 1 := by kernel_rfl
@[go_sem] theorem szOf_43 : szOf Try.prog 43 = some 1 := by kernel_rfl
@[go_sem] theorem szOf_46 : szOf Try.prog 46 = some 1 := by kernel_rfl
@[go_sem] theorem szOf_48 : szOf Try.prog 48 = some 1 := by kernel_rfl
@[go_sem] theorem szOf_52 : szOf Try.prog 52 = some 1 := by kernel_rfl
@[go_sem] theorem szOf_54 : szOf Try.prog 54 = some 1 := by kernel_rfl
@[go_sem] theorem szOf_57 : szOf Try.prog 57 = some 1 := by kernel_rfl
@[go_sem] theorem szOf_59 : szOf Try.prog 59 = some 1 := by kernel_rfl
@[go_sem] theorem szOf_60 : szOf Try.prog 60 = some 1 := by kernel_rfl
@[go_sem] theorem szOf_63 : szOf Try.prog 63 = some 1 := by kernel_rfl
@[go_sem] theorem szOf_65 : szOf Try.prog 65 = some 1 := by kernel_rfl
@[go_sem] theorem szOf_66 : szOf Try.prog 66 = some 1 := by kernel_rfl
@[go_sem] theorem szOf_69 : szOf Try.prog 69 = some 1 := by kernel_rfl
@[go_sem] theorem szOf_71 : szOf Try.prog 71 = some 1 := by kernel_rfl
@[go_sem] theorem szOf_74 : szOf Try.prog 74 = some 1 := by kernel_rfl
@[go_sem] theorem szOf_76 : szOf Try.prog 76 = some 1 := by kernel_rfl
@[go_sem] theorem szOf_77 : szOf Try.prog 77 = some 1 := by kernel_rfl
@[go_sem] theorem szOf_78 : szOf Try.prog 78 = some 1 := by kernel_rfl
@[go_sem] theorem szOf_79 : szOf Try.prog 79 = some 1 := by kernel_rfl
@[go_sem] theorem szOf_88 : szOf Try.prog 88 = some 1 := by kernel_rfl
@[go_sem] theorem szOf_90 : szOf Try.prog 90 = some 4 := by kernel_rfl
@[go_sem] theorem szOf_95 : szOf Try.prog 95 = some 1 := by kernel_rfl
@[go_sem] theorem szOf_97 : szOf Try.prog 97 = some 1 := by kernel_rfl
@[go_sem] theorem szOf_100 : szOf Try.prog 100 = some 1 := by kernel_rfl
@[go_sem] theorem bytesT_0 : bytesT Try.prog 0 = some 0 := by kernel_rfl
@[go_sem] theorem bytesT_1 : bytesT Try.prog 1 = some 8 := by kernel_rfl
@[go_sem] theorem bytesT_2 : bytesT Try.prog 2 = some 8 := by kernel_rfl
@[go_sem] theorem bytesT_3 : bytesT Try.prog 3 = some 8 := by kernel_rfl
@[go_sem] theorem bytesT_4 : bytesT Try.prog 4 = some 1 := by kernel_rfl
@[go_sem] theorem bytesT_5 : bytesT Try.prog 5 = some 1 := by kernel_rfl
@[go_sem] theorem bytesT_6 : bytesT Try.prog 6 = some 1 := by kernel_rfl
@[go_sem] theorem bytesT_7 : bytesT Try.prog 7 = some 24 := by kernel_rfl
@[go_sem] theorem bytesT_8 : bytesT Try.prog 8 = some 24 := by kernel_rfl
@[go_sem] theorem bytesT_9 : bytesT Try.prog 9 = some 16 := by kernel_rfl
@[go_sem] theorem bytesT_10 : bytesT Try.prog 10 = some 16 := by kernel_rfl
@[go_sem] theorem bytesT_12 : bytesT Try.prog 12 = some 8 := by kernel_rfl
@[go_sem] theorem bytesT_13 : bytesT Try.prog 13 = some 24 := by kernel_rfl
@[go_sem] theorem bytesT_17 : bytesT Try.prog 17 = some 8 := by kernel_rfl
@[go_sem] theorem bytesT_21 : bytesT Try.prog 21 = some 4 := by kernel_rfl
@[go_sem] theorem bytesT_22 : bytesT Try.prog 22 = some 24 := by kernel_rfl
@[go_sem] theorem bytesT_24 : bytesT Try.prog 24 = some 8 := by kernel_rfl
@[go_sem] theorem bytesT_25 : bytesT Try.prog 25 = some 8 := by kernel_rfl
@[go_sem] theorem bytesT_26 : bytesT Try.prog 26 = some 24 := by kernel_rfl
@[go_sem] theorem bytesT_30 : bytesT Try.prog 30 = some 72 := by kernel_rfl
@[go_sem] theorem bytesT_32 : bytesT Try.prog 32 = some 8 := by kernel_rfl
@[go_sem] theorem bytesT_33 : bytesT Try.prog 33 = some 8 := by kernel_rfl
@[go_sem] theorem bytesT_34 : bytesT Try.prog 34 = some 0 := by kernel_rfl
@[go_sem] theorem bytesT_36 : bytesT Try.prog 36 = some 8 := by kernel_rfl
@[go_sem] theorem bytesT_38 : bytesT Try.prog 38 = some 8 := by kernel_rfl
@[go_sem] theorem bytesT_39 : bytesT Try.prog 39 = some 32 := by kernel_rfl
@[go_sem] theorem bytesT_40 : bytesT Try.prog 40 = some 32 := by kernel_rfl
@[go_sem] theorem bytesT_41 : bytesT Try.prog 41 = some 8 := by kernel_rfl
@[go_sem] theorem bytesT_42 : bytesT Try.prog 42 = some 24 := by kernel_rfl
@[go_sem] theorem bytesT_43 : bytesT Try.prog 43 = some 8 := by kernel_rfl
@[go_sem] theorem bytesT_46 : bytesT Try.prog 46 = some 8 := by kernel_rfl
@[go_sem] theorem bytesT_48 : bytesT Try.prog 48 = some 8 := by kernel_rfl
@[go_sem] theorem bytesT_52 : bytesT Try.prog 52 = some 0 := by kernel_rfl
@[go_sem] theorem bytesT_54 : bytesT Try.prog 54 = some 24 := by kernel_rfl
@[go_sem] theorem bytesT_57 : bytesT Try.prog 57 = some 8 := by kernel_rfl
@[go_sem] theorem bytesT_59 : bytesT Try.prog 59 = some 0 := by kernel_rfl
@[go_sem] theorem bytesT_60 : bytesT Try.prog 60 = some 8 := by kernel_rfl
@[go_sem] theorem bytesT_63 : bytesT Try.prog 63 = some 0 := by kernel_rfl
@[go_sem] theorem bytesT_65 : bytesT Try.prog 65 = some 8 := by kernel_rfl
@[go_sem] theorem bytesT_66 : bytesT Try.prog 66 = some 8 := by kernel_rfl
@[go_sem] theorem bytesT_69 : bytesT Try.prog 69 = some 8 := by kernel_rfl
@[go_sem] theorem bytesT_71 : bytesT Try.prog 71 = some 0 := by kernel_rfl
@[go_sem] theorem bytesT_74 : bytesT Try.prog 74 = some 0 := by kernel_rfl
@[go_sem] theorem bytesT_76 : bytesT Try.prog 76 = some 8 := by kernel_rfl
@[go_sem] theorem bytesT_77 : bytesT Try.prog 77 = some 8 := by kernel_rfl
@[go_sem] theorem bytesT_78 : bytesT Try.prog 78 = some 8 := by kernel_rfl
@[go_sem] theorem bytesT_79 : bytesT Try.prog 79 = some 8 := by kernel_rfl
@[go_sem] theorem bytesT_88 : bytesT Try.prog 88 = some 24 := by kernel_rfl
@[go_sem] theorem bytesT_90 : bytesT Try.prog 90 = some 40 := by kernel_rfl
@[go_sem] theorem bytesT_95 : bytesT Try.prog 95 = some 8 := by kernel_rfl
@[go_sem] theorem bytesT_97 : bytesT Try.prog 97 = some 1 := by kernel_rfl
@[go_sem] theorem bytesT_100 : bytesT Try.prog 100 = some 8 := by kernel_rfl
@[go_sem] theorem aggT_0 : aggT Try.prog 0 = some false := by kernel_rfl
@[go_sem] theorem aggT_1 : aggT Try.prog 1 = some false := by kernel_rfl
@[go_sem] theorem aggT_2 : aggT Try.prog 2 = some false := by kernel_rfl
@[go_sem] theorem aggT_3 : aggT Try.prog 3 = some false := by kernel_rfl
@[go_sem] theorem aggT_4 : aggT Try.prog 4 = some false := by kernel_rfl
@[go_sem] theorem aggT_5 : aggT Try.prog 5 = some false := by kernel_rfl
@[go_sem] theorem aggT_6 : aggT Try.prog 6 = some false := by kernel_rfl
@[go_sem] theorem aggT_7 : aggT Try.prog 7 = some true := by kernel_rfl
@[go_sem] theorem aggT_8 : aggT Try.prog 8 = some true := by kernel_rfl
@[go_sem] theorem aggT_9 : aggT Try.prog 9 = some false := by kernel_rfl
@[go_sem] theorem aggT_10 : aggT Try.prog 10 = some false := by kernel_rfl
@[go_sem] theorem aggT_12 : aggT Try.prog 12 = some false := by kernel_rfl
@[go_sem] theorem aggT_13 : aggT Try.prog 13 = some true := by kernel_rfl
@[go_sem] theorem aggT_17 : aggT Try.prog 17 = some false := by kernel_rfl
@[go_sem] theorem aggT_21 : aggT Try.prog 21 = some false := by kernel_rfl
@[go_sem] theorem aggT_22 : aggT Try.prog 22 = some false := by kernel_rfl
@[go_sem] theorem aggT_24 : aggT Try.prog 24 = some false := by kernel_rfl
@[go_sem] theorem aggT_25 : aggT Try.prog 25 = some false := by kernel_rfl
@[go_sem] theorem aggT_26 : aggT Try.prog 26 = some false := by kernel_rfl
@[go_sem] theorem aggT_30 : aggT Try.prog 30 = some true := by kernel_rfl
@[go_sem] theorem aggT_32 : aggT Try.prog 32 = some false := by kernel_rfl
@[go_sem] theorem aggT_33 : aggT Try.prog 33 = some false := by kernel_rfl
@[go_sem] theorem aggT_34 : aggT Try.prog 34 = some false := by kernel_rfl
@[go_sem] theorem aggT_36 : aggT Try.prog 36 = some false := by kernel_rfl
@[go_sem] theorem aggT_38 : aggT Try.prog 38 = some false := by kernel_rfl
@[go_sem] theorem aggT_39 : aggT Try.prog 39 = some true := by kernel_rfl
@[go_sem] theorem aggT_40 : aggT Try.prog 40 = some true := by kernel_rfl
@[go_sem] theorem aggT_41 : aggT Try.prog 41 = some false := by kernel_rfl
@[go_sem] theorem aggT_42 : aggT Try.prog 42 = some false := by kernel_rfl
@[go_sem] theorem aggT_43 : aggT Try.prog 43 = some false := by kernel_rfl
@[go_sem] theorem aggT_46 : aggT Try.prog 46 = some false := by kernel_rfl
@[go_sem] theorem aggT_48 : aggT Try.prog 48 = some false := by kernel_rfl
@[go_sem] theorem aggT_52 : aggT Try.prog 52 = some false := by kernel_rfl
@[go_sem] theorem aggT_54 : aggT Try.prog 54 = some false := by kernel_rfl
@[go_sem] theorem aggT_57 : aggT Try.prog 57 = some false := by kernel_rfl
@[go_sem] theorem aggT_59 : aggT Try.prog 59 = some false := by kernel_rfl
@[go_sem] theorem aggT_60 : aggT Try.prog 60 = some false := by kernel_rfl
@[go_sem] theorem aggT_63 : aggT Try.prog 63 = some false := by kernel_rfl
@[go_sem] theorem aggT_65 : aggT Try.prog 65 = some false := by kernel_rfl
@[go_sem] theorem aggT_66 : aggT Try.prog 66 = some false := by kernel_rfl
@[go_sem] theorem aggT_69 : aggT Try.prog 69 = some false := by kernel_rfl
@[go_sem] theorem aggT_71 : aggT Try.prog 71 = some false := by kernel_rfl
@[go_sem] theorem aggT_74 : aggT Try.prog 74 = some false := by kernel_rfl
@[go_sem] theorem aggT_76 : aggT Try.prog 76 = some false := by kernel_rfl
@[go_sem] theorem aggT_77 : aggT Try.prog 77 = some false := by kernel_rfl
@[go_sem] theorem aggT_78 : aggT Try.prog 78 = some false := by kernel_rfl
@[go_sem] theorem aggT_79 : aggT Try.prog 79 = some false := by kernel_rfl
@[go_sem] theorem aggT_88 : aggT Try.prog 88 = some false := by kernel_rfl
@[go_sem] theorem aggT_90 : aggT Try.prog 90 = some true := by kernel_rfl
@[go_sem] theorem aggT_95 : aggT Try.prog 95 = some false := by kernel_rfl
@[go_sem] theorem aggT_97 : aggT Try.prog 97 = some false := by kernel_rfl
@[go_sem] theorem aggT_100 : aggT Try.prog 100 = some false := by kernel_rfl
@[go_sem] theorem strT_0 : strT Try.prog 0 = false := by kernel_rfl
@[go_sem] theorem strT_1 : strT Try.prog 1 = false := by kernel_rfl
@[go_sem] theorem strT_2 : strT Try.prog 2 = false := by kernel_rfl
@[go_sem] theorem strT_3 : strT Try.prog 3 = false := by kernel_rfl
@[go_sem] theorem strT_4 : strT Try.prog 4 = false := by kernel_rfl
@[go_sem] theorem strT_5 : strT Try.prog 5 = false := by kernel_rfl
@[go_sem] theorem strT_6 : strT Try.prog 6 = false := by kernel_rfl
@[go_sem] theorem strT_7 : strT Try.prog 7 = false := by kernel_rfl
@[go_sem] theorem strT_8 : strT Try.prog 8 = false := by kernel_rfl
@[go_sem] theorem strT_9 : strT Try.prog 9 = true := by kernel_rfl
@[go_sem] theorem strT_10 : strT Try.prog 10 = true := by kernel_rfl
@[go_sem] theorem strT_12 : strT Try.prog 12 = false := by kernel_rfl
@[go_sem] theorem strT_13 : strT Try.prog 13 = false := by kernel_rfl
@[go_sem] theorem strT_17 : strT Try.prog 17 = false := by kernel_rfl
@[go_sem] theorem strT_21 : strT Try.prog 21 = false := by kernel_rfl
@[go_sem] theorem strT_22 : strT Try.prog 22 = false := by kernel_rfl
@[go_sem] theorem strT_24 : strT Try.prog 24 = false := by kernel_rfl
@[go_sem] theorem strT_25 : strT Try.prog 25 = false := by kernel_rfl
@[go_sem] theorem strT_26 : strT Try.prog 26 = false := by kernel_rfl
@[go_sem] theorem strT_30 : strT Try.prog 30 = false := by kernel_rfl
@[go_sem] theorem strT_32 : strT Try.prog 32 = false := by kernel_rfl
@[go_sem] theorem strT_33 : strT Try.prog 33 = false := by kernel_rfl
@[go_sem] theorem strT_34 : strT Try.prog 34 = false := by kernel_rfl
@[go_sem] theorem strT_36 : strT Try.prog 36 = false := by kernel_rfl
@[go_sem] theorem strT_38 : strT Try.prog 38 = false := by kernel_rfl
@[go_sem] theorem strT_39 : strT Try.prog 39 = false := by kernel_rfl
@[go_sem] theorem strT_40 : strT Try.prog 40 = false := by kernel_rfl
@[go_sem] theorem strT_41 : strT Try.prog 41 = false := by kernel_rfl
@[go_sem] theorem strT_42 : strT Try.prog 42 = false := by kernel_rfl
@[go_sem] theorem strT_43 : strT Try.prog 43 = false := by kernel_rfl
@[go_sem] theorem strT_46 : strT Try.prog 46 = false := by kernel_rfl
@[go_sem] theorem strT_48 : strT Try.prog 48 = false := by kernel_rfl
@[go_sem] theorem strT_52 : strT Try.prog 52 = false := by kernel_rfl
@[go_sem] theorem strT_54 : strT Try.prog 54 = false := by kernel_rfl
@[go_sem] theorem strT_57 : strT Try.prog 57 = false := by kernel_rfl
@[go_sem] theorem strT_59 : strT Try.prog 59 = false := by kernel_rfl
@[go_sem] theorem strT_60 : strT Try.prog 60 = false := by kernel_rfl
@[go_sem] theorem strT_63 : strT Try.prog 63 = false := by kernel_rfl
@[go_sem] theorem strT_65 : strT Try.prog 65 = false := by kernel_rfl
@[go_sem] theorem strT_66 : strT Try.prog 66 = false := by kernel_rfl
@[go_sem] theorem strT_69 : strT Try.prog 69 = false := by kernel_rfl
@[go_sem] theorem strT_71 : strT Try.prog 71 = false := by kernel_rfl
@[go_sem] theorem strT_74 : strT Try.prog 74 = false := by kernel_rfl
@[go_sem] theorem strT_76 : strT Try.prog 76 = false := by kernel_rfl
@[go_sem] theorem strT_77 : strT Try.prog 77 = false := by kernel_rfl
@[go_sem] theorem strT_78 : strT Try.prog 78 = false := by kernel_rfl
@[go_sem] theorem strT_79 : strT Try.prog 79 = false := by kernel_rfl
@[go_sem] theorem strT_88 : strT Try.prog 88 = false := by kernel_rfl
@[go_sem] theorem strT_90 : strT Try.prog 90 = false := by kernel_rfl
@[go_sem] theorem strT_95 : strT Try.prog 95 = false := by kernel_rfl
@[go_sem] theorem strT_97 : strT Try.prog 97 = false := by kernel_rfl
@[go_sem] theorem strT_100 : strT Try.prog 100 = false := by kernel_rfl
@[go_sem] theorem boolT_0 : boolT Try.prog 0 = false := by kernel_rfl
@[go_sem] theorem boolT_1 : boolT Try.prog 1 = false := by kernel_rfl
@[go_sem] theorem boolT_2 : boolT Try.prog 2 = false := by kernel_rfl
@[go_sem] theorem boolT_3 : boolT Try.prog 3 = false := by kernel_rfl
@[go_sem] theorem boolT_4 : boolT Try.prog 4 = true := by kernel_rfl
@[go_sem] theorem boolT_5 : boolT Try.prog 5 = false := by kernel_rfl
@[go_sem] theorem boolT_6 : boolT Try.prog 6 = false := by kernel_rfl
@[go_sem] theorem boolT_7 : boolT Try.prog 7 = false := by kernel_rfl
@[go_sem] theorem boolT_8 : boolT Try.prog 8 = false := by kernel_rfl
@[go_sem] theorem boolT_9 : boolT Try.prog 9 = false := by kernel_rfl
@[go_sem] theorem boolT_10 : boolT Try.prog 10 = false := by kernel_rfl
@[go_sem] theorem boolT_12 : boolT Try.prog 12 = false := by kernel_rfl
@[go_sem] theorem boolT_13 : boolT Try.prog 13 = false := by kernel_rfl
@[go_sem] theorem boolT_17 : boolT Try.prog 17 = false := by kernel_rfl
@[go_sem] theorem boolT_21 : boolT Try.prog 21 = false := by kernel_rfl
@[go_sem] theorem boolT_22 : boolT Try.prog 22 = false := by kernel_rfl
@[go_sem] theorem boolT_24 : boolT Try.prog 24 = false := by kernel_rfl
@[go_sem] theorem boolT_25 : boolT Try.prog 25 = false := by kernel_rfl
@[go_sem] theorem boolT_26 : boolT Try.prog 26 = false := by kernel_rfl
@[go_sem] theorem boolT_30 : boolT Try.prog 30 = false := by kernel_rfl
@[go_sem] theorem boolT_32 : boolT Try.prog 32 = false := by kernel_rfl
@[go_sem] theorem boolT_33 : boolT Try.prog 33 = false := by kernel_rfl
@[go_sem] theorem boolT_34 : boolT Try.prog 34 = false := by kernel_rfl
@[go_sem] theorem boolT_36 : boolT Try.prog 36 = false := by kernel_rfl
@[go_sem] theorem boolT_38 : boolT Try.prog 38 = false := by kernel_rfl
@[go_sem] theorem boolT_39 : boolT Try.prog 39 = false := by kernel_rfl
@[go_sem] theorem boolT_40 : boolT Try.prog 40 = false := by kernel_rfl
@[go_sem] theorem boolT_41 : boolT Try.prog 41 = false := by kernel_rfl
@[go_sem] theorem boolT_42 : boolT Try.prog 42 = false := by kernel_rfl
@[go_sem] theorem boolT_43 : boolT Try.prog 43 = false := by kernel_rfl
@[go_sem] theorem boolT_46 : boolT Try.prog 46 = false := by kernel_rfl
@[go_sem] theorem boolT_48 : boolT Try.prog 48 = false := by kernel_rfl
@[go_sem] theorem boolT_52 : boolT Try.prog 52 = false := by kernel_rfl
@[go_sem] theorem boolT_54 : boolT Try.prog 54 = false := by kernel_rfl
@[go_sem] theorem boolT_57 : boolT Try.prog 57 = false := by kernel_rfl
@[go_sem] theorem boolT_59 : boolT Try.prog 59 = false := by kernel_rfl
@[go_sem] theorem boolT_60 : boolT Try.prog 60 = false := by kernel_rfl
@[go_sem] theorem boolT_63 : boolT Try.prog 63 = false := by kernel_rfl
@[go_sem] theorem boolT_65 : boolT Try.prog 65 = false := by kernel_rfl
@[go_sem] theorem boolT_66 : boolT Try.prog 66 = false := by kernel_rfl
@[go_sem] theorem boolT_69 : boolT Try.prog 69 = false := by kernel_rfl
@[go_sem] theorem boolT_71 : boolT Try.prog 71 = false := by kernel_rfl
@[go_sem] theorem boolT_74 : boolT Try.prog 74 = false := by kernel_rfl
@[go_sem] theorem boolT_76 : boolT Try.prog 76 = false := by kernel_rfl
@[go_sem] theorem boolT_77 : boolT Try.prog 77 = false := by kernel_rfl
@[go_sem] theorem boolT_78 : boolT Try.prog 78 = false := by kernel_rfl
@[go_sem] theorem boolT_79 : boolT Try.prog 79 = false := by kernel_rfl
@[go_sem] theorem boolT_88 : boolT Try.prog 88 = false := by kernel_rfl
@[go_sem] theorem boolT_90 : boolT Try.prog 90 = false := by kernel_rfl
@[go_sem] theorem boolT_95 : boolT Try.prog 95 = false := by kernel_rfl
@[go_sem] theorem boolT_97 : boolT Try.prog 97 = false := by kernel_rfl
@[go_sem] theorem boolT_100 : boolT Try.prog 100 = false := by kernel_rfl
@[go_sem] theorem ptrT_0 : ptrT Try.prog 0 = false := by kernel_rfl
@[go_sem] theorem ptrT_1 : ptrT Try.prog 1 = false := by kernel_rfl
@[go_sem] theorem ptrT_2 : ptrT Try.prog 2 = false := by kernel_rfl
@[go_sem] theorem ptrT_3 : ptrT Try.prog 3 = false := by kernel_rfl
@[go_sem] theorem ptrT_4 : ptrT Try.prog 4 = false := by kernel_rfl
@[go_sem] theorem ptrT_5 : ptrT Try.prog 5 = false := by kernel_rfl
@[go_sem] theorem ptrT_6 : ptrT Try.prog 6 = false := by kernel_rfl
@[go_sem] theorem ptrT_7 : ptrT Try.prog 7 = false := by kernel_rfl
@[go_sem] theorem ptrT_8 : ptrT Try.prog 8 = false := by kernel_rfl
@[go_sem] theorem ptrT_9 : ptrT Try.prog 9 = false := by kernel_rfl
@[go_sem] theorem ptrT_10 : ptrT Try.prog 10 = false := by kernel_rfl
@[go_sem] theorem ptrT_12 : ptrT Try.prog 12 = false := by kernel_rfl
@[go_sem] theorem ptrT_13 : ptrT Try.prog 13 = false := by kernel_rfl
@[go_sem] theorem ptrT_17 : ptrT Try.prog 17 = true := by kernel_rfl
@[go_sem] theorem ptrT_21 : ptrT Try.prog 21 = false := by kernel_rfl
@[go_sem] theorem ptrT_22 : ptrT Try.prog 22 = false := by kernel_rfl
@[go_sem] theorem ptrT_24 : ptrT Try.prog 24 = false := by kernel_rfl
@[go_sem] theorem ptrT_25 : ptrT Try.prog 25 = false := by kernel_rfl
@[go_sem] theorem ptrT_26 : ptrT Try.prog 26 = false := by kernel_rfl
@[go_sem] theorem ptrT_30 : ptrT Try.prog 30 = false := by kernel_rfl
@[go_sem] theorem ptrT_32 : ptrT Try.prog 32 = false := by kernel_rfl
@[go_sem] theorem ptrT_33 : ptrT Try.prog 33 = false := by kernel_rfl
@[go_sem] theorem ptrT_34 : ptrT Try.prog 34 = false := by kernel_rfl
@[go_sem] theorem ptrT_36 : ptrT Try.prog 36 = false := by kernel_rfl
@[go_sem] theorem ptrT_38 : ptrT Try.prog 38 = false := by kernel_rfl
@[go_sem] theorem ptrT_39 : ptrT Try.prog 39 = false := by kernel_rfl
@[go_sem] theorem ptrT_40 : ptrT Try.prog 40 = false := by kernel_rfl
@[go_sem] theorem ptrT_41 : ptrT Try.prog 41 = false := by kernel_rfl
@[go_sem] theorem ptrT_42 : ptrT Try.prog 42 = false := by kernel_rfl
@[go_sem] theorem ptrT_43 : ptrT Try.prog 43 = false := by kernel_rfl
@[go_sem] theorem ptrT_46 : ptrT Try.prog 46 = false := by kernel_rfl
@[go_sem] theorem ptrT_48 : ptrT Try.prog 48 = false := by kernel_rfl
@[go_sem] theorem ptrT_52 : ptrT Try.prog 52 = false := by kernel_rfl
@[go_sem] theorem ptrT_54 : ptrT Try.prog 54 = false := by kernel_rfl
@[go_sem] theorem ptrT_57 : ptrT Try.prog 57 = false := by kernel_rfl
@[go_sem] theorem ptrT_59 : ptrT Try.prog 59 = false := by kernel_rfl
@[go_sem] theorem ptrT_60 : ptrT Try.prog 60 = false := by kernel_rfl
@[go_sem] theorem ptrT_63 : ptrT Try.prog 63 = false := by kernel_rfl
@[go_sem] theorem ptrT_65 : ptrT Try.prog 65 = false := by kernel_rfl
@[go_sem] theorem ptrT_66 : ptrT Try.prog 66 = false := by kernel_rfl
@[go_sem] theorem ptrT_69 : ptrT Try.prog 69 = false := by kernel_rfl
@[go_sem] theorem ptrT_71 : ptrT Try.prog 71 = false := by kernel_rfl
@[go_sem] theorem ptrT_74 : ptrT Try.prog 74 = false := by kernel_rfl
@[go_sem] theorem ptrT_76 : ptrT Try.prog 76 = false := by kernel_rfl
@[go_sem] theorem ptrT_77 : ptrT Try.prog 77 = false := by kernel_rfl
@[go_sem] theorem ptrT_78 : ptrT Try.prog 78 = false := by kernel_rfl
@[go_sem] theorem ptrT_79 : ptrT Try.prog 79 = false := by kernel_rfl
@[go_sem] theorem ptrT_88 : ptrT Try.prog 88 = false := by kernel_rfl
@[go_sem] theorem ptrT_90 : ptrT Try.prog 90 = false := by kernel_rfl
@[go_sem] theorem ptrT_95 : ptrT Try.prog 95 = false := by kernel_rfl
@[go_sem] theorem ptrT_97 : ptrT Try.prog 97 = false := by kernel_rfl
@[go_sem] theorem ptrT_100 : ptrT Try.prog 100 = true := by kernel_rfl
@[go_sem] theorem structT_0 : structT Try.prog 0 = false := by kernel_rfl
@[go_sem] theorem structT_1 : structT Try.prog 1 = false := by kernel_rfl
@[go_sem] theorem structT_2 : structT Try.prog 2 = false := by kernel_rfl
@[go_sem] theorem structT_3 : structT Try.prog 3 = false := by kernel_rfl
@[go_sem] theorem structT_4 : structT Try.prog 4 = false := by kernel_rfl
@[go_sem] theorem structT_5 : structT Try.prog 5 = false := by kernel_rfl
@[go_sem] theorem structT_6 : structT Try.prog 6 = false := by kernel_rfl
@[go_sem] theorem structT_7 : structT Try.prog 7 = true := by kernel_rfl
@[go_sem] theorem structT_8 : structT Try.prog 8 = true := by kernel_rfl
@[go_sem] theorem structT_9 : structT Try.prog 9 = false := by kernel_rfl
@[go_sem] theorem structT_10 : structT Try.prog 10 = false := by kernel_rfl
@[go_sem] theorem structT_12 : structT Try.prog 12 = false := by kernel_rfl
@[go_sem] theorem structT_13 : structT Try.prog 13 = true := by kernel_rfl
@[go_sem] theorem structT_17 : structT Try.prog 17 = false := by kernel_rfl
@[go_sem] theorem structT_21 : structT Try.prog 21 = false := by kernel_rfl
@[go_sem] theorem structT_22 : structT Try.prog 22 = false := by kernel_rfl
@[go_sem] theorem structT_24 : structT Try.prog 24 = false := by kernel_rfl
@[go_sem] theorem structT_25 : structT Try.prog 25 = false := by kernel_rfl
@[go_sem] theorem structT_26 : structT Try.prog 26 = false := by kernel_rfl
@[go_sem] theorem structT_30 : structT Try.prog 30 = true := by kernel_rfl
@[go_sem] theorem structT_32 : structT Try.prog 32 = false := by kernel_rfl
@[go_sem] theorem structT_33 : structT Try.prog 33 = false := by kernel_rfl
@[go_sem] theorem structT_34 : structT Try.prog 34 = false := by kernel_rfl
@[go_sem] theorem structT_36 : structT Try.prog 36 = false := by kernel_rfl
@[go_sem] theorem structT_38 : structT Try.prog 38 = false := by kernel_rfl
@[go_sem] theorem structT_39 : structT Try.prog 39 = true := by kernel_rfl
@[go_sem] theorem structT_40 : structT Try.prog 40 = true := by kernel_rfl
@[go_sem] theorem structT_41 : structT Try.prog 41 = false := by kernel_rfl
@[go_sem] theorem structT_42 : structT Try.prog 42 = false := by kernel_rfl
@[go_sem] theorem structT_43 : structT Try.prog 43 = false := by kernel_rfl
@[go_sem] theorem structT_46 : structT Try.prog 46 = false := by kernel_rfl
@[go_sem] theorem structT_48 : structT Try.prog 48 = false := by kernel_rfl
@[go_sem] theorem structT_52 : structT Try.prog 52 = false := by kernel_rfl
@[go_sem] theorem structT_54 : structT Try.prog 54 = false := by kernel_rfl
@[go_sem] theorem structT_57 : structT Try.prog 57 = false := by kernel_rfl
@[go_sem] theorem structT_59 : structT Try.prog 59 = false := by kernel_rfl
@[go_sem] theorem structT_60 : structT Try.prog 60 = false := by kernel_rfl
@[go_sem] theorem structT_63 : structT Try.prog 63 = false := by kernel_rfl
@[go_sem] theorem structT_65 : structT Try.prog 65 = false := by kernel_rfl
@[go_sem] theorem structT_66 : structT Try.prog 66 = false := by kernel_rfl
@[go_sem] theorem structT_69 : structT Try.prog 69 = false := by kernel_rfl
@[go_sem] theorem structT_71 : structT Try.prog 71 = false := by kernel_rfl
@[go_sem] theorem structT_74 : structT Try.prog 74 = false := by kernel_rfl
@[go_sem] theorem structT_76 : structT Try.prog 76 = false := by kernel_rfl
@[go_sem] theorem structT_77 : structT Try.prog 77 = false := by kernel_rfl
@[go_sem] theorem structT_78 : structT Try.prog 78 = false := by kernel_rfl
@[go_sem] theorem structT_79 : structT Try.prog 79 = false := by kernel_rfl
@[go_sem] theorem structT_88 : structT Try.prog 88 = false := by kernel_rfl
@[go_sem] theorem structT_90 : structT Try.prog 90 = true := by kernel_rfl
@[go_sem] theorem structT_95 : structT Try.prog 95 = false := by kernel_rfl
@[go_sem] theorem structT_97 : structT Try.prog 97 = false := by kernel_rfl
@[go_sem] theorem structT_100 : structT Try.prog 100 = false := by kernel_rfl
@[go_sem] theorem notIntT_0 : notIntT Try.prog 0 = true := by kernel_rfl
@[go_sem] theorem notIntT_1 : notIntT Try.prog 1 = true := by kernel_rfl
@[go_sem] theorem notIntT_2 : notIntT Try.prog 2 = false := by kernel_rfl
@[go_sem] theorem notIntT_3 : notIntT Try.prog 3 = false := by kernel_rfl
@[go_sem] theorem notIntT_4 : notIntT Try.prog 4 = true := by kernel_rfl
@[go_sem] theorem notIntT_5 : notIntT Try.prog 5 = false := by kernel_rfl
@[go_sem] theorem notIntT_6 : notIntT Try.prog 6 = false := by kernel_rfl
@[go_sem] theorem notIntT_7 : notIntT Try.prog 7 = true := by kernel_rfl
@[go_sem] theorem notIntT_8 : notIntT Try.prog 8 = true := by kernel_rfl
@[go_sem] theorem notIntT_9 : notIntT Try.prog 9 = true := by kernel_rfl
@[go_sem] theorem notIntT_10 : notIntT Try.prog 10 = true := by kernel_rfl
@[go_sem] theorem notIntT_12 : notIntT Try.prog 12 = false := by kernel_rfl
@[go_sem] theorem notIntT_13 : notIntT Try.prog 13 = true := by kernel_rfl
@[go_sem] theorem notIntT_17 : notIntT Try.prog 17 = true := by kernel_rfl
@[go_sem] theorem notIntT_21 : notIntT Try.prog 21 = false := by kernel_rfl
@[go_sem] theorem notIntT_22 : notIntT Try.prog 22 = true := by kernel_rfl
@[go_sem] theorem notIntT_24 : notIntT Try.prog 24 = true := by kernel_rfl
@[go_sem] theorem notIntT_25 : notIntT Try.prog 25 = true := by kernel_rfl
@[go_sem] theorem notIntT_26 : notIntT Try.prog 26 = true := by kernel_rfl
@[go_sem] theorem notIntT_30 : notIntT Try.prog 30 = true := by kernel_rfl
@[go_sem] theorem notIntT_32 : notIntT Try.prog 32 = true := by kernel_rfl
@[go_sem] theorem notIntT_33 : notIntT Try.prog 33 = false := by kernel_rfl
@[go_sem] theorem notIntT_34 : notIntT Try.prog 34 = true := by kernel_rfl
@[go_sem] theorem notIntT_36 : notIntT Try.prog 36 = true := by kernel_rfl
@[go_sem] theorem notIntT_38 : notIntT Try.prog 38 = true := by kernel_rfl
@[go_sem] theorem notIntT_39 : notIntT Try.prog 39 = true := by kernel_rfl
@[go_sem] theorem notIntT_40 : notIntT Try.prog 40 = true := by kernel_rfl
@[go_sem] theorem notIntT_41 : notIntT Try.prog 41 = true := by kernel_rfl
@[go_sem] theorem notIntT_42 : notIntT Try.prog 42 = true := by kernel_rfl
@[go_sem] theorem notIntT_43 : notIntT Try.prog 43 = true := by kernel_rfl
@[go_sem] theorem notIntT_46 : notIntT Try.prog 46 = true := by kernel_rfl
@[go_sem] theorem notIntT_48 : notIntT Try.prog 48 = true := by kernel_rfl
@[go_sem] theorem notIntT_52 : notIntT Try.prog 52 = true := by kernel_rfl
@[go_sem] theorem notIntT_54 : notIntT Try.prog 54 = true := by kernel_rfl
@[go_sem] theorem notIntT_57 : notIntT Try.prog 57 = true := by kernel_rfl
@[go_sem] theorem notIntT_59 : notIntT Try.prog 59 = true := by kernel_rfl
@[go_sem] theorem notIntT_60 : notIntT Try.prog 60 = true := by kernel_rfl
@[go_sem] theorem notIntT_63 : notIntT Try.prog 63 = true := by kernel_rfl
@[go_sem] theorem notIntT_65 : notIntT Try.prog 65 = true := by kernel_rfl
@[go_sem] theorem notIntT_66 : notIntT Try.prog 66 = true := by kernel_rfl
@[go_sem] theorem notIntT_69 : notIntT Try.prog 69 = true := by kernel_rfl
@[go_sem] theorem notIntT_71 : notIntT Try.prog 71 = true := by kernel_rfl
@[go_sem] theorem notIntT_74 : notIntT Try.prog 74 = true := by kernel_rfl
@[go_sem] theorem notIntT_76 : notIntT Try.prog 76 = true := by kernel_rfl
@[go_sem] theorem notIntT_77 : notIntT Try.prog 77 = true := by kernel_rfl
@[go_sem] theorem notIntT_78 : notIntT Try.prog 78 = true := by kernel_rfl
@[go_sem] theorem notIntT_79 : notIntT Try.prog 79 = true := by kernel_rfl
@[go_sem] theorem notIntT_88 : notIntT Try.prog 88 = true := by kernel_rfl
@[go_sem] theorem notIntT_90 : notIntT Try.prog 90 = true := by kernel_rfl
@[go_sem] theorem notIntT_95 : notIntT Try.prog 95 = true := by kernel_rfl
@[go_sem] theorem notIntT_97 : notIntT Try.prog 97 = false := by kernel_rfl
@[go_sem] theorem notIntT_100 : notIntT Try.prog 100 = true := by kernel_rfl
@[go_sem] theorem plainT_7 : plainT Try.prog 7 = true := by kernel_rfl
@[go_sem] theorem plainT_8 : plainT Try.prog 8 = true := by kernel_rfl
@[go_sem] theorem plainT_39 : plainT Try.prog 39 = true := by kernel_rfl
@[go_sem] theorem plainT_40 : plainT Try.prog 40 = true := by kernel_rfl
@[go_sem] theorem zeroV_1 : zeroV Try.prog 1 = some (.nilf) := by kernel_rfl
@[go_sem] theorem zeroV_2 : zeroV Try.prog 2 = some (.int .i64 0) := by kernel_rfl
@[go_sem] theorem zeroV_3 : zeroV Try.prog 3 = some (.int .i64 0) := by kernel_rfl
@[go_sem] theorem zeroV_4 : zeroV Try.prog 4 = some (.bool false) := by kernel_rfl
@[go_sem] theorem zeroV_5 : zeroV Try.prog 5 = some (.int .u8 0) := by kernel_rfl
@[go_sem] theorem zeroV_6 : zeroV Try.prog 6 = some (.int .u8 0) := by kernel_rfl
@[go_sem] theorem zeroV_7 : zeroV Try.prog 7 = some (.agg [.int .i64 0, .int .i64 0, .bool false, .int .u8 0]) := by kernel_rfl
@[go_sem] theorem zeroV_8 : zeroV Try.prog 8 = some (.agg [.int .i64 0, .int .i64 0, .bool false, .int .u8 0]) := by kernel_rfl
@[go_sem] theorem zeroV_9 : zeroV Try.prog 9 = some (.str []) := by kernel_rfl
@[go_sem] theorem zeroV_10 : zeroV Try.prog 10 = some (.str []) := by kernel_rfl
@[go_sem] theorem zeroV_12 : zeroV Try.prog 12 = some (.int .u64 0) := by kernel_rfl
@[go_sem] theorem zeroV_13 : zeroV Try.prog 13 = some (.agg [.str [], .int .u64 0]) := by kernel_rfl
@[go_sem] theorem zeroV_17 : zeroV Try.prog 17 = some (.nilp) := by kernel_rfl
@[go_sem] theorem zeroV_21 : zeroV Try.prog 21 = some (.int .i32 0) := by kernel_rfl
@[go_sem] theorem zeroV_22 : zeroV Try.prog 22 = some (.nils) := by kernel_rfl
@[go_sem] theorem zeroV_24 : zeroV Try.prog 24 = some (.nilf) := by kernel_rfl
@[go_sem] theorem zeroV_25 : zeroV Try.prog 25 = some (.nilf) := by kernel_rfl
@[go_sem] theorem zeroV_26 : zeroV Try.prog 26 = some (.nils) := by kernel_rfl
@[go_sem] theorem zeroV_30 : zeroV Try.prog 30 = some (.agg [.int .i64 0, .nils, .nils, .str []]) := by kernel_rfl
@[go_sem] theorem zeroV_32 : zeroV Try.prog 32 = some (.nilf) := by kernel_rfl
@[go_sem] theorem zeroV_33 : zeroV Try.prog 33 = some (.int .i64 0) := by kernel_rfl
@[go_sem] theorem zeroV_36 : zeroV Try.prog 36 = some (.nilf) := by kernel_rfl
@[go_sem] theorem zeroV_38 : zeroV Try.prog 38 = some (.nilf) := by kernel_rfl
@[go_sem] theorem zeroV_39 : zeroV Try.prog 39 = some (.agg [.int .i64 0, .str [], .int .i64 0]) := by kernel_rfl
@[go_sem] theorem zeroV_40 : zeroV Try.prog 40 = some (.agg [.int .i64 0, .str [], .int .i64 0]) := by kernel_rfl
@[go_sem] theorem zeroV_41 : zeroV Try.prog 41 = some (.nilf) := by kernel_rfl
@[go_sem] theorem zeroV_42 : zeroV Try.prog 42 = some (.nils) := by kernel_rfl
@[go_sem] theorem zeroV_43 : zeroV Try.prog 43 = some (.nilm) := by kernel_rfl
@[go_sem] theorem zeroV_46 : zeroV Try.prog 46 = some (.nilf) := by kernel_rfl
@[go_sem] theorem zeroV_48 : zeroV Try.prog 48 = some (.nilf) := by kernel_rfl
@[go_sem] theorem zeroV_54 : zeroV Try.prog 54 = some (.nils) := by kernel_rfl
@[go_sem] theorem zeroV_57 : zeroV Try.prog 57 = some (.nilf) := by kernel_rfl
@[go_sem] theorem zeroV_60 : zeroV Try.prog 60 = some (.nilf) := by kernel_rfl
@[go_sem] theorem zeroV_65 : zeroV Try.prog 65 = some (.nilf) := by kernel_rfl
@[go_sem] theorem zeroV_66 : zeroV Try.prog 66 = some (.nilf) := by kernel_rfl
@[go_sem] theorem zeroV_69 : zeroV Try.prog 69 = some (.nilf) := by kernel_rfl
@[go_sem] theorem zeroV_76 : zeroV Try.prog 76 = some (.nilf) := by kernel_rfl
@[go_sem] theorem zeroV_77 : zeroV Try.prog 77 = some (.nilf) := by kernel_rfl
@[go_sem] theorem zeroV_78 : zeroV Try.prog 78 = some (.nilf) := by kernel_rfl
@[go_sem] theorem zeroV_79 : zeroV Try.prog 79 = some (.nilf) := by kernel_rfl
@[go_sem] theorem zeroV_88 : zeroV Try.prog 88 = some (.nils) := by kernel_rfl
@[go_sem] theorem zeroV_90 : zeroV Try.prog 90 = some (.agg [.nilp, .nilp, .nilp, .str []]) := by kernel_rfl
@[go_sem] theorem zeroV_95 : zeroV Try.prog 95 = some (.nilf) := by kernel_rfl
@[go_sem] theorem zeroV_97 : zeroV Try.prog 97 = some (.int .u8 0) := by kernel_rfl
@[go_sem] theorem zeroV_100 : zeroV Try.prog 100 = some (.nilp) := by kernel_rfl
@[go_sem] theorem zeroT_1 : zeroT Try.prog 1 = some [.nilf] := by kernel_rfl
@[go_sem] theorem zeroT_2 : zeroT Try.prog 2 = some [.int .i64 0] := by kernel_rfl
@[go_sem] theorem zeroT_3 : zeroT Try.prog 3 = some [.int .i64 0] := by kernel_rfl
@[go_sem] theorem zeroT_4 : zeroT Try.prog 4 = some [.bool false] := by kernel_rfl
@[go_sem] theorem zeroT_5 : zeroT Try.prog 5 = some [.int .u8 0] := by kernel_rfl
@[go_sem] theorem zeroT_6 : zeroT Try.prog 6 = some [.int .u8 0] := by kernel_rfl
@[go_sem] theorem zeroT_7 : zeroT Try.prog 7 = some [.int .i64 0, .int .i64 0, .bool false, .int .u8 0] := by kernel_rfl
@[go_sem] theorem zeroT_8 : zeroT Try.prog 8 = some [.int .i64 0, .int .i64 0, .bool false, .int .u8 0] := by kernel_rfl
@[go_sem] theorem zeroT_9 : zeroT Try.prog 9 = some [.str []] := by kernel_rfl
@[go_sem] theorem zeroT_10 : zeroT Try.prog 10 = some [.str []] := by kernel_rfl
@[go_sem] theorem zeroT_12 : zeroT Try.prog 12 = some [.int .u64 0] := by kernel_rfl
@[go_sem] theorem zeroT_13 : zeroT Try.prog 13 = some [.str [], .int .u64 0] := by kernel_rfl
@[go_sem] theorem zeroT_17 : zeroT Try.prog 17 = some [.nilp] := by kernel_rfl
@[go_sem] theorem zeroT_21 : zeroT Try.prog 21 = some [.int .i32 0] := by kernel_rfl
@[go_sem] theorem zeroT_22 : zeroT Try.prog 22 = some [.nils] := by kernel_rfl
@[go_sem] theorem zeroT_24 : zeroT Try.prog 24 = some [.nilf] := by kernel_rfl
@[go_sem] theorem zeroT_25 : zeroT Try.prog 25 = some [.nilf] := by kernel_rfl
@[go_sem] theorem zeroT_26 : zeroT Try.prog 26 = some [.nils] := by kernel_rfl
@[go_sem] theorem zeroT_30 : zeroT Try.prog 30 = some [.int .i64 0, .nils, .nils, .str []] := by kernel_rfl
@[go_sem] theorem zeroT_32 : zeroT Try.prog 32 = some [.nilf] := by kernel_rfl
@[go_sem] theorem zeroT_33 : zeroT Try.prog 33 = some [.int .i64 0] := by kernel_rfl
@[go_sem] theorem zeroT_36 : zeroT Try.prog 36 = some [.nilf] := by kernel_rfl
@[go_sem] theorem zeroT_38 : zeroT Try.prog 38 = some [.nilf] := by kernel_rfl
@[go_sem] theorem zeroT_39 : zeroT Try.prog 39 = some [.int .i64 0, .str [], .int .i64 0] := by kernel_rfl
@[go_sem] theorem zeroT_40 : zeroT Try.prog 40 = some [.int .i64 0, .str [], .int .i64 0] := by kernel_rfl
@[go_sem] theorem zeroT_41 : zeroT Try.prog 41 = some [.nilf] := by kernel_rfl
@[go_sem] theorem zeroT_42 : zeroT Try.prog 42 = some [.nils] := by kernel_rfl
@[go_sem] theorem zeroT_43 : zeroT Try.prog 43 = some [.nilm] := by kernel_rfl
@[go_sem] theorem zeroT_46 : zeroT Try.prog 46 = some [.nilf] := by kernel_rfl
@[go_sem] theorem zeroT_48 : zeroT Try.prog 48 = some [.nilf] := by kernel_rfl
@[go_sem] theorem zeroT_54 : zeroT Try.prog 54 = some [.nils] := by kernel_rfl
@[go_sem] theorem zeroT_57 : zeroT Try.prog 57 = some [.nilf] := by kernel_rfl
@[go_sem] theorem zeroT_60 : zeroT Try.prog 60 = some [.nilf] := by kernel_rfl
@[go_sem] theorem zeroT_65 : zeroT Try.prog 65 = some [.nilf] := by kernel_rfl
@[go_sem] theorem zeroT_66 : zeroT Try.prog 66 = some [.nilf] := by kernel_rfl
@[go_sem] theorem zeroT_69 : zeroT Try.prog 69 = some [.nilf] := by kernel_rfl
@[go_sem] theorem zeroT_76 : zeroT Try.prog 76 = some [.nilf] := by kernel_rfl
@[go_sem] theorem zeroT_77 : zeroT Try.prog 77 = some [.nilf] := by kernel_rfl
@[go_sem] theorem zeroT_78 : zeroT Try.prog 78 = some [.nilf] := by kernel_rfl
@[go_sem] theorem zeroT_79 : zeroT Try.prog 79 = some [.nilf] := by kernel_rfl
@[go_sem] theorem zeroT_88 : zeroT Try.prog 88 = some [.nils] := by kernel_rfl
@[go_sem] theorem zeroT_90 : zeroT Try.prog 90 = some [.nilp, .nilp, .nilp, .str []] := by kernel_rfl
@[go_sem] theorem zeroT_95 : zeroT Try.prog 95 = some [.nilf] := by kernel_rfl
@[go_sem] theorem zeroT_97 : zeroT Try.prog 97 = some [.int .u8 0] := by kernel_rfl
@[go_sem] theorem zeroT_100 : zeroT Try.prog 100 = some [.nilp] := by kernel_rfl
@[go_sem] theorem intT_2 : intT Try.prog 2 = some .i64 := by kernel_rfl
@[go_sem] theorem intT_3 : intT Try.prog 3 = some .i64 := by kernel_rfl
@[go_sem] theorem intT_5 : intT Try.prog 5 = some .u8 := by kernel_rfl
@[go_sem] theorem intT_6 : intT Try.prog 6 = some .u8 := by kernel_rfl
@[go_sem] theorem intT_12 : intT Try.prog 12 = some .u64 := by kernel_rfl
@[go_sem] theorem intT_21 : intT Try.prog 21 = some .i32 := by kernel_rfl
@[go_sem] theorem intT_33 : intT Try.prog 33 = some .i64 := by kernel_rfl
@[go_sem] theorem intT_97 : intT Try.prog 97 = some .u8 := by kernel_rfl
@[go_sem] theorem fldT_7_0 : fldT Try.prog 7 0 = some (0, 2) := by kernel_rfl
@[go_sem] theorem fldT_7_1 : fldT Try.prog 7 1 = some (1, 3) := by kernel_rfl
@[go_sem] theorem fldT_7_2 : fldT Try.prog 7 2 = some (2, 4) := by kernel_rfl
@[go_sem] theorem fldT_7_3 : fldT Try.prog 7 3 = some (3, 6) := by kernel_rfl
@[go_sem] theorem fldT_8_0 : fldT Try.prog 8 0 = some (0, 2) := by kernel_rfl
@[go_sem] theorem fldT_8_1 : fldT Try.prog 8 1 = some (1, 3) := by kernel_rfl
@[go_sem] theorem fldT_8_2 : fldT Try.prog 8 2 = some (2, 4) := by kernel_rfl
@[go_sem] theorem fldT_8_3 : fldT Try.prog 8 3 = some (3, 6) := by kernel_rfl
@[go_sem] theorem fldT_13_0 : fldT Try.prog 13 0 = some (0, 9) := by kernel_rfl
@[go_sem] theorem fldT_13_1 : fldT Try.prog 13 1 = some (1, 12) := by kernel_rfl
@[go_sem] theorem fldT_30_0 : fldT Try.prog 30 0 = some (0, 3) := by kernel_rfl
@[go_sem] theorem fldT_30_1 : fldT Try.prog 30 1 = some (1, 26) := by kernel_rfl
@[go_sem] theorem fldT_30_2 : fldT Try.prog 30 2 = some (2, 26) := by kernel_rfl
@[go_sem] theorem fldT_30_3 : fldT Try.prog 30 3 = some (3, 9) := by kernel_rfl
@[go_sem] theorem fldT_39_0 : fldT Try.prog 39 0 = some (0, 3) := by kernel_rfl
@[go_sem] theorem fldT_39_1 : fldT Try.prog 39 1 = some (1, 9) := by kernel_rfl
@[go_sem] theorem fldT_39_2 : fldT Try.prog 39 2 = some (2, 3) := by kernel_rfl
@[go_sem] theorem fldT_40_0 : fldT Try.prog 40 0 = some (0, 3) := by kernel_rfl
@[go_sem] theorem fldT_40_1 : fldT Try.prog 40 1 = some (1, 9) := by kernel_rfl
@[go_sem] theorem fldT_40_2 : fldT Try.prog 40 2 = some (2, 3) := by kernel_rfl
@[go_sem] theorem fldT_90_0 : fldT Try.prog 90 0 = some (0, 17) := by kernel_rfl
@[go_sem] theorem fldT_90_1 : fldT Try.prog 90 1 = some (1, 17) := by kernel_rfl
@[go_sem] theorem fldT_90_2 : fldT Try.prog 90 2 = some (2, 17) := by kernel_rfl
@[go_sem] theorem fldT_90_3 : fldT Try.prog 90 3 = some (3, 9) := by kernel_rfl
@[go_sem] theorem sliceT_22 : sliceT Try.prog 22 = some 40 := by kernel_rfl
@[go_sem] theorem sliceT_26 : sliceT Try.prog 26 = some 9 := by kernel_rfl
@[go_sem] theorem sliceT_42 : sliceT Try.prog 42 = some 40 := by kernel_rfl
@[go_sem] theorem sliceT_54 : sliceT Try.prog 54 = some 22 := by kernel_rfl
@[go_sem] theorem sliceT_88 : sliceT Try.prog 88 = some 5 := by kernel_rfl
@[go_sem] theorem mapT_43 : mapT Try.prog 43 = some (9, 3) := by kernel_rfl
end Go.Proofs
/- The sets' layer: the functions that leave the heap alone; values. -/

namespace Go.Proofs
open Go.Vam
attribute [go_sem] decide_eq_true_eq decide_eq_false_iff_not List.nil_append List.take_zero List.take_succ_cons Nat.reduceEqDiff reduceCtorEq Nat.reduceAdd Nat.reduceSub Nat.reduceLT Nat.reduceLeDiff Int.reduceAdd Int.reduceSub Int.reduceNeg Int.reduceEq Int.reduceLT Int.reduceLE
/-- Words for simp, in one. -/
theorem bx : (∀ {α : Type} (a b : α), (a ≠ b) = ¬(a = b)) ∧ ((¬False) = True) ∧ ((¬True) = False) ∧ (∀ p : Prop, (True ∨ p) = True) ∧ (∀ p : Prop, (p ∨ True) = True) ∧ (∀ p : Prop, (True ∧ p) = p) ∧ (∀ p : Prop, (p ∧ True) = p) ∧ ∀ {α : Type} (l : List α), l ++ [] = l :=
  ⟨fun _ _ => rfl, not_false_eq_true, not_true_eq_false, true_or, or_true, true_and, and_true, List.append_nil⟩

/-- The functions of the layer that turn the heap, or look at what may be turned. -/
def impure : List Nat := [25, 27, 28, 32, 66, 75, 76, 77, 78, 79]
/-- The least first, each once: what sets.sorted makes of a map's names. -/
def insertS (x : List UInt8) : List (List UInt8) → List (List UInt8)
  | [] => [x]
  | y :: l => if Op.bytesLess x y then x :: y :: l else y :: insertS x l
def sortS (l : List (List UInt8)) : List (List UInt8) := l.foldr insertS []
def keysOf : List (AV × AV) → Option (List (List UInt8))
  | [] => some []
  | (.str s, _) :: es => (keysOf es).map (s :: ·)
  | _ => none
def strs (l : List (List UInt8)) : List (List AV) := l.map fun x => [.str x]
/-- The least of these names. -/
def leastK (ks : List (List UInt8)) : List UInt8 := (ks.find? fun b => ks.all fun x => !Op.bytesLess x b).getD []
noncomputable def sortR (M : Nat) (v : AV) (H : AHeap) (b : List UInt8) : Option (AV × AHeap) :=
  (adelete Try.prog 43 (.mp M) (.str b) (H ++ [.dead])).bind fun H1 => (abuildSlice Try.prog 26 1 [(0, .str b)] H1).bind fun u => aappend Try.prog 26 26 v u.1 u.2
noncomputable def sortN (M : Nat) : Nat → AV → AHeap → Option (AV × AHeap)
  | 0, v, H => match H[M]? with
    | some (.map []) => some (v, H)
    | _ => none
  | n + 1, v, H => match H[M]? with
    | some (.map es) => match keysOf es with
      | some ks => if ks.length = n + 1 then (sortR M v H (leastK ks)).bind fun r => sortN M n r.1 r.2 else none
      | none => none
    | _ => none
/-- sets.sorted takes all out of a map, and hands its names back, rising. -/
noncomputable def sortedG (xs : List AV) (H : AHeap) : Option (AV × AHeap) :=
  match xs with
  | [.mp M] => match H[M]? with
    | some (.map es) => sortN M es.length .nils H
    | _ => none
  | _ => none
noncomputable def E : Env := { P := Try.prog, pure := fun f => !impure.contains f, ext := fun f => if f = 28 then some sortedG else none }
@[go_sem] theorem E_P : E.P = Try.prog := rfl
@[go_sem] theorem cx_P : (cxV E).P = Try.prog := rfl
theorem pure_3 : E.pure 3 = true := rfl
theorem pure_4 : E.pure 4 = true := rfl
theorem pure_5 : E.pure 5 = true := rfl
theorem pure_6 : E.pure 6 = true := rfl
theorem pure_7 : E.pure 7 = true := rfl
theorem pure_8 : E.pure 8 = true := rfl
theorem pure_9 : E.pure 9 = true := rfl
theorem pure_10 : E.pure 10 = true := rfl
theorem pure_11 : E.pure 11 = true := rfl
theorem pure_12 : E.pure 12 = true := rfl
theorem pure_13 : E.pure 13 = true := rfl
theorem pure_14 : E.pure 14 = true := rfl
theorem pure_15 : E.pure 15 = true := rfl
theorem pure_16 : E.pure 16 = true := rfl
theorem pure_17 : E.pure 17 = true := rfl
theorem pure_18 : E.pure 18 = true := rfl
theorem pure_19 : E.pure 19 = true := rfl
theorem pure_20 : E.pure 20 = true := rfl
theorem pure_21 : E.pure 21 = true := rfl
theorem pure_22 : E.pure 22 = true := rfl
theorem pure_23 : E.pure 23 = true := rfl
theorem pure_24 : E.pure 24 = true := rfl
theorem pure_26 : E.pure 26 = true := rfl
theorem pure_29 : E.pure 29 = true := rfl
theorem pure_30 : E.pure 30 = true := rfl
theorem pure_31 : E.pure 31 = true := rfl
theorem pure_33 : E.pure 33 = true := rfl
theorem pure_34 : E.pure 34 = true := rfl
theorem pure_35 : E.pure 35 = true := rfl
theorem pure_36 : E.pure 36 = true := rfl
theorem pure_37 : E.pure 37 = true := rfl
theorem pure_38 : E.pure 38 = true := rfl
theorem pure_39 : E.pure 39 = true := rfl
theorem pure_40 : E.pure 40 = true := rfl
theorem pure_41 : E.pure 41 = true := rfl
theorem pure_42 : E.pure 42 = true := rfl
theorem pure_43 : E.pure 43 = true := rfl
theorem pure_44 : E.pure 44 = true := rfl
theorem pure_45 : E.pure 45 = true := rfl
theorem pure_46 : E.pure 46 = true := rfl
theorem pure_47 : E.pure 47 = true := rfl
theorem pure_48 : E.pure 48 = true := rfl
theorem pure_49 : E.pure 49 = true := rfl
theorem pure_50 : E.pure 50 = true := rfl
theorem pure_51 : E.pure 51 = true := rfl
theorem pure_52 : E.pure 52 = true := rfl
theorem pure_53 : E.pure 53 = true := rfl
theorem pure_54 : E.pure 54 = true := rfl
theorem pure_55 : E.pure 55 = true := rfl
theorem pure_56 : E.pure 56 = true := rfl
theorem pure_57 : E.pure 57 = true := rfl
theorem pure_58 : E.pure 58 = true := rfl
theorem pure_59 : E.pure 59 = true := rfl
theorem pure_60 : E.pure 60 = true := rfl
theorem pure_61 : E.pure 61 = true := rfl
theorem pure_62 : E.pure 62 = true := rfl
theorem pure_63 : E.pure 63 = true := rfl
theorem pure_64 : E.pure 64 = true := rfl
theorem pure_65 : E.pure 65 = true := rfl
theorem pure_67 : E.pure 67 = true := rfl
theorem pure_68 : E.pure 68 = true := rfl
theorem pure_69 : E.pure 69 = true := rfl
theorem pure_70 : E.pure 70 = true := rfl
theorem pure_71 : E.pure 71 = true := rfl
theorem pure_72 : E.pure 72 = true := rfl
theorem pure_73 : E.pure 73 = true := rfl
theorem pure_74 : E.pure 74 = true := rfl
theorem pure_80 : E.pure 80 = true := rfl
theorem pure_81 : E.pure 81 = true := rfl
theorem pure_82 : E.pure 82 = true := rfl
theorem pure_83 : E.pure 83 = true := rfl
theorem pure_84 : E.pure 84 = true := rfl
theorem pure_85 : E.pure 85 = true := rfl
theorem pure_86 : E.pure 86 = true := rfl
theorem pure_87 : E.pure 87 = true := rfl
theorem pure_88 : E.pure 88 = true := rfl
theorem pure_89 : E.pure 89 = true := rfl
theorem pure_90 : E.pure 90 = true := rfl
theorem pure_91 : E.pure 91 = true := rfl
theorem pure_92 : E.pure 92 = true := rfl
theorem pure_93 : E.pure 93 = true := rfl
theorem pure_94 : E.pure 94 = true := rfl
theorem pure_95 : E.pure 95 = true := rfl
theorem pure_96 : E.pure 96 = true := rfl
theorem pure_97 : E.pure 97 = true := rfl
theorem pure_98 : E.pure 98 = true := rfl
theorem pure_99 : E.pure 99 = true := rfl
theorem pure_100 : E.pure 100 = true := rfl
theorem pure_101 : E.pure 101 = true := rfl
theorem pure_102 : E.pure 102 = true := rfl

/-! ### pure calls -/
/-- What a function that leaves the heap alone makes of values. -/
noncomputable def PV (f : FuncId) (ys : List AV) : Option AV :=
  match callV E f ys [] with
  | some (r, H1) => frz depth H1 r
  | none => none
noncomputable def PC (xs : List AV) (H : AHeap) : Option AV → Option (AV × AHeap)
  | some z => some (z, if leads depth z then (xs.flatMap (reach depth H)).foldl settle1 H else H)
  | none => none
def bindL (g : List AV → Option AV) : Option (List AV) → Option AV
  | some ys => g ys
  | none => none
@[go_sem] theorem bindL_some (g : List AV → Option AV) (ys : List AV) : bindL g (some ys) = g ys := rfl
theorem PC_some (xs : List AV) (H : AHeap) (z : AV) : PC xs H (some z) = some (z, if leads depth z then (xs.flatMap (reach depth H)).foldl settle1 H else H) := rfl
@[go_sem] theorem PC_int (xs : List AV) (H : AHeap) (k : IntKind) (n : Int) : PC xs H (some (.int k n)) = some (.int k n, H) := rfl
@[go_sem] theorem PC_bool (xs : List AV) (H : AHeap) (b : Bool) : PC xs H (some (.bool b)) = some (.bool b, H) := rfl
@[go_sem] theorem PC_str (xs : List AV) (H : AHeap) (l : List UInt8) : PC xs H (some (.str l)) = some (.str l, H) := rfl
def flatV : AV → Bool
  | .int _ _ | .bool _ | .str _ => true
  | _ => false
@[go_sem] theorem flatV_int (k : IntKind) (n : Int) : flatV (.int k n) = true := rfl
@[go_sem] theorem flatV_bool (b : Bool) : flatV (.bool b) = true := rfl
@[go_sem] theorem flatV_str (l : List UInt8) : flatV (.str l) = true := rfl
@[go_sem] theorem PC_tup (xs : List AV) (H : AHeap) (l : List AV) (h : l.all flatV = true) : PC xs H (some (.tup l)) = some (.tup l, H) := by
  have : leads depth (.tup l) = false := by
    simp only [depth, leads, List.any_eq_false]
    intro x hx
    have := List.all_eq_true.1 h x hx
    cases x <;> first | (cases this; done) | (intro h; cases h; done)
  simp [PC, this]
/-- In the empty heap nothing is settled. -/
@[go_sem] theorem PC_nil (xs : List AV) (z : AV) : PC xs [] (some z) = some (z, []) := by
  have : ∀ l : List Nat, l.foldl settle1 [] = [] := by
    intro l
    induction l with
    | nil => rfl
    | cons a l ih => simpa [settle1] using ih
  simp [PC, this]
theorem call_pure {f : FuncId} (h : E.pure f = true) (xs : List AV) (H : AHeap) : acallf (cxV E) f xs H = PC xs H (bindL (PV f) (mapO (frz depth H) xs)) := by
  unfold acallf
  have h' : (cxV E).pure f = true := h
  rw [if_pos h']
  cases mapO (frz depth H) xs with
  | none => rfl
  | some ys =>
    simp only [bindL, PV]
    have hc : (cxV E).call f ys [] = callV E f ys [] := rfl
    rw [hc]
    cases callV E f ys [] with
    | none => rfl
    | some y =>
      obtain ⟨r, H1⟩ := y
      simp only
      cases frz depth H1 r <;> rfl
theorem PV_of {f : FuncId} {xs : List AV} {z : AV} (h : Tells E f xs [] fun r H1 => frz depth H1 r = some z) : PV f xs = some z := by
  obtain ⟨r, H1, h1, h2⟩ := h
  unfold PV
  rw [h1]
  exact h2
theorem PV_start {f : FuncId} {a : AC} {rs : Array ResultVar} {n : Nat} {xs : List AV} {z : AV} (hk : codeAt Try.prog f = some (a, rs, n)) (hx : E.ext f = none) (hn : xs.length ≤ n)
    (h : C (cxV E) a (s0 xs) [] (Qres Try.prog rs fun r H1 => frz depth H1 r = some z)) : PV f xs = some z :=
  PV_of (tells_at hk hx hn h)
def consO (a : Option AV) (l : Option (List AV)) : Option (List AV) :=
  match a, l with
  | some a, some l => some (a :: l)
  | _, _ => none
@[go_sem] theorem consO_some (a : AV) (l : List AV) : consO (some a) (some l) = some (a :: l) := rfl
@[go_sem] theorem mapO_nil (g : AV → Option AV) : mapO g [] = some [] := rfl
@[go_sem] theorem mapO_cons (g : AV → Option AV) (a : AV) (l : List AV) : mapO g (a :: l) = consO (g a) (mapO g l) := by
  simp only [mapO, consO]
  cases g a with
  | none => rfl
  | some b => cases mapO g l <;> rfl
section
variable (H : AHeap)
@[go_sem] theorem frz_int (k : IntKind) (n : Int) : frz depth H (.int k n) = some (.int k n) := rfl
@[go_sem] theorem frz_bool (b : Bool) : frz depth H (.bool b) = some (.bool b) := rfl
@[go_sem] theorem frz_str (l : List UInt8) : frz depth H (.str l) = some (.str l) := rfl
@[go_sem] theorem frz_sl (es : List (List AV)) : frz depth H (.sl es) = some (.sl es) := rfl
@[go_sem] theorem frz_nils : frz depth H .nils = some (.sl []) := rfl
@[go_sem] theorem frz_fn (f : Nat) : frz depth H (.fn f []) = some (.fn f []) := rfl
end
/-! ### tokens -/
structure Tok where
  kind : Int
  text : List UInt8
  pos : Int
def tok (t : Tok) : List AV := [.int .i64 t.kind, .str t.text, .int .i64 t.pos]
def toks (l : List Tok) : List (List AV) := l.map tok
theorem toks_get {l : List Tok} {i : Nat} {t : Tok} (h : l[i]? = some t) : (toks l)[i]? = some (tok t) := by simp [toks, h]
theorem strs_get {l : List (List UInt8)} {i : Nat} {x : List UInt8} (h : l[i]? = some x) : (strs l)[i]? = some [.str x] := by simp [strs, h]
@[go_sem] theorem toks_len (l : List Tok) : (toks l).length = l.length := by simp [toks]
@[go_sem] theorem strs_len (l : List (List UInt8)) : (strs l).length = l.length := by simp [strs]
/-- The token at a place. -/
def tokAt (l : List Tok) (i : Int) : Tok := (l[i.toNat]?).getD ⟨0, [], 0⟩
theorem tokAt_nat {l : List Tok} {i : Nat} (h : i < l.length) : tokAt l i = l[i] := by simp [tokAt, h]
theorem indexAddr_toks (t : TypeId) (hT : sliceT Try.prog t = some 40) (l : List Tok) (k : IntKind) (i : Int) (H : AHeap) (h0 : 0 ≤ i) (h1 : i < l.length) : aindexAddr Try.prog t (.sl (toks l)) (.int k i) H = some (.ip (tok (tokAt l i))) := by
  obtain ⟨n, rfl⟩ := Int.eq_ofNat_of_zero_le h0
  have hn : n < l.length := by omega
  have := indexAddr_sl Try.prog t H (k := k) hT (toks_get (List.getElem?_eq_getElem hn)) (by simp only [szOf_40]; rfl)
  rw [tokAt_nat hn]
  exact this
theorem indexAddr_22 (l : List Tok) (k : IntKind) (i : Int) (H : AHeap) (h0 : 0 ≤ i) (h1 : i < l.length) : aindexAddr Try.prog 22 (.sl (toks l)) (.int k i) H = some (.ip (tok (tokAt l i))) := indexAddr_toks 22 sliceT_22 l k i H h0 h1
theorem indexAddr_42 (l : List Tok) (k : IntKind) (i : Int) (H : AHeap) (h0 : 0 ≤ i) (h1 : i < l.length) : aindexAddr Try.prog 42 (.sl (toks l)) (.int k i) H = some (.ip (tok (tokAt l i))) := indexAddr_toks 42 sliceT_42 l k i H h0 h1
theorem wrap_ok {n : Int} (h1 : -9223372036854775808 ≤ n) (h2 : n ≤ 9223372036854775807) : IntKind.i64.wrap n = n := by rw [IntKind.wrap_i64]; omega
end Go.Proofs
