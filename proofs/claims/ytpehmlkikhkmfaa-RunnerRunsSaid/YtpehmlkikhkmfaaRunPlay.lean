/- Runner: runners side by side, as they lie in memory. -/
import Derived.Test.YtpehmlkikhkmfaaRunOps
import Derived.Test.YtpehmlkikhkmfaaRunBatch
namespace Go.Proofs.Ytpehmlkikhkmfaa
open Go.RowKit

section
variable {w w' : World} {Z p q b : Nat} {P : List ByteArray} {R : List (List Int)} {O : List Int} {F : List Bool} {s : Nat} {c : Array Value} {e : TypeId} {fr : Nat × Nat}
/-- A block of another kind has turned. -/
theorem Live.turn (h : Live w Z p P R O F s) (hb : w.heap[b]? = some (.cells c e fr)) (h1 : 107 ≠ e) (h2 : 3 ≠ e) (h3 : 59 ≠ e) (h4 : 4 ≠ e) (hne : p ≠ b) (hg : w.grownBy w' (some b)) : Live w' Z p P R O F s := by
  obtain ⟨mb, vn, vo, vf, vs, r, n, u⟩ := h
  exact ⟨mb, vn, vo, vf, vs, ⟨by rw [hg.block p r.lt (fun e => hne (Option.some.inj e))]; exact r.blk, r.next.kept hg (own_off r.next hb h1), fun i hi => by obtain ⟨v, hv, hr⟩ := r.each i hi; exact ⟨v, hv, hr.kept hg (own_off hr hb h2)⟩, r.out.kept hg (own_off r.out hb h3), r.fin.kept hg (own_off r.fin hb h4), r.lr, r.lf, r.st, r.small, r.inr⟩, n.kept hg (n.off hb), u⟩
theorem Ref.turn (h : Ref w q P R O s) (hb : w.heap[b]? = some (.cells c e fr)) (h1 : 107 ≠ e) (h2 : 3 ≠ e) (h3 : 59 ≠ e) (h4 : 9 ≠ e) (hne : q ≠ b) (hg : w.grownBy w' (some b)) : Ref w' q P R O s := by
  obtain ⟨vp, vn, vo, vs, h⟩ := h
  exact ⟨vp, vn, vo, vs, by rw [hg.block q h.lt (fun e => hne (Option.some.inj e))]; exact h.blk, h.props.kept hg (own_off h.props hb h4), h.next.kept hg (own_off h.next hb h1), fun i hi => by obtain ⟨v, hv, hr⟩ := h.each i hi; exact ⟨v, hv, hr.kept hg (own_off hr hb h2)⟩, h.out.kept hg (own_off h.out hb h3), h.old⟩
theorem blk_ne {w : World} {a b : Nat} {c c' : Array Value} {e e' : TypeId} {f f' : Nat × Nat} (h : w.heap[a]? = some (.cells c e f)) (h' : w.heap[b]? = some (.cells c' e' f')) (he : e ≠ e') : a ≠ b := by
  rintro rfl
  rw [h] at h'
  simp only [Option.some.injEq, Obj.cells.injEq] at h'
  exact he h'.2.1
end

/-- A runner, the document's, where each is. -/
structure Pr where
  p : Nat
  q : Nat
  s : Nat
  t : Nat
def Pr.goS (x : Pr) (s : Nat) : Pr := ⟨x.p, x.q, s, x.t⟩
def Pr.goT (x : Pr) (t : Nat) : Pr := ⟨x.p, x.q, x.s, t⟩
instance : Inhabited Pr := ⟨⟨0, 0, 0, 0⟩⟩
def PairAt (w : World) (P : List ByteArray) (R : List (List Int)) (O : List Int) (x : Pr) : Prop := (∃ Z F, Live w Z x.p P R O F x.s ∧ Hid (Fins O (turnF R) 3 F)) ∧ Ref w x.q P R O x.t
def ptrV (k : Nat) : Value := .pointer (some ⟨k, 0, none⟩)
/-- Runners side by side. -/
structure PlayAt (w : World) (Y pp : Nat) (vr vq : Value) (ps : List Pr) (P : List ByteArray) (R : List (List Int)) (O : List Int) : Prop where
  blk : w.heap[pp]? = some (.cells #[vr, vq] 45 (0, 0))
  rr : w.ownsRow Y 32 1 vr ps.length (ps.map fun x => ptrV x.p)
  rq : w.ownsRow Y 38 1 vq ps.length (ps.map fun x => ptrV x.q)
  each : ∀ i, i < ps.length → PairAt w P R O (ps.getD i default)
  dp : ∀ i j, i < ps.length → j < ps.length → i ≠ j → (ps.getD i default).p ≠ (ps.getD j default).p
  dq : ∀ i j, i < ps.length → j < ps.length → i ≠ j → (ps.getD i default).q ≠ (ps.getD j default).q
  lo : ∀ i, i < ps.length → Y ≤ (ps.getD i default).p ∧ Y ≤ (ps.getD i default).q
  old : Y ≤ pp

section
variable {w w' : World} {Y pp i : Nat} {vr vq : Value} {ps : List Pr} {P : List ByteArray} {R : List (List Int)} {O : List Int}
theorem PlayAt.lt (h : PlayAt w Y pp vr vq ps P R O) : pp < w.heap.size := (Array.getElem?_eq_some_iff.1 h.blk).1
theorem PlayAt.kept (h : PlayAt w Y pp vr vq ps P R O) (hg : w.grownBy w' none) : PlayAt w' Y pp vr vq ps P R O :=
  ⟨by rw [hg.block pp h.lt (by simp)]; exact h.blk, h.rr.kept hg (Classical.em _), h.rq.kept hg (Classical.em _), fun i hi => by
    obtain ⟨⟨Z, F, hl, hf⟩, hr⟩ := h.each i hi
    exact ⟨⟨Z, F, hl.kept hg, hf⟩, hr.kept hg⟩, h.dp, h.dq, h.lo, h.old⟩
theorem getD_set {α : Type} {l : List α} {i j : Nat} {x d : α} (hi : i < l.length) : (l.set i x).getD j d = if i = j then x else l.getD j d := by
  rw [List.getD_eq_getElem?_getD, List.getElem?_set]
  by_cases e : i = j
  · subst e
    rw [if_pos rfl, if_pos rfl, if_pos hi]
    rfl
  · rw [if_neg e, if_neg e, List.getD_eq_getElem?_getD]
theorem map_set_same {l : List Pr} {i : Nat} {x : Pr} {f : Pr → Value} (hi : i < l.length) (hx : f x = f (l.getD i default)) : (l.set i x).map f = l.map f := by
  apply List.ext_getElem (by simp)
  intro j h1 h2
  rw [List.getElem_map, List.getElem_map, List.getElem_set]
  split
  · rename_i e
    subst e
    rw [hx, List.getD_eq_getElem?_getD, List.getElem?_eq_getElem hi]
    rfl
  · rfl
/-- The i-th runner has gone on. -/
theorem PlayAt.moveP {s' : Nat} (h : PlayAt w Y pp vr vq ps P R O) (hi : i < ps.length) (hg : w.grownBy w' (some (ps.getD i default).p)) (hl : ∃ Z F, Live w' Z (ps.getD i default).p P R O F s' ∧ Hid (Fins O (turnF R) 3 F)) : PlayAt w' Y pp vr vq (ps.set i ((ps.getD i default).goS s')) P R O := by
  obtain ⟨⟨Zi, Fi, hli, _⟩, hri⟩ := h.each i hi
  obtain ⟨c, fr, hb⟩ := hli.blk
  refine ⟨by rw [hg.block pp h.lt (fun e => blk_ne h.blk hb (by decide) (Option.some.inj e))]; exact h.blk, ?_, ?_, fun j hj => ?_, fun a b ha hb' hab => ?_, fun a b ha hb' hab => ?_, fun j hj => ?_, h.old⟩
  · rw [List.length_set, map_set_same (x := (ps.getD i default).goS s') (f := fun x => ptrV x.p) hi rfl]
    exact h.rr.kept hg (own_off h.rr hb (by decide))
  · rw [List.length_set, map_set_same (x := (ps.getD i default).goS s') (f := fun x => ptrV x.q) hi rfl]
    exact h.rq.kept hg (own_off h.rq hb (by decide))
  · rw [List.length_set] at hj
    rw [getD_set hi]
    by_cases e : i = j
    · subst e
      rw [if_pos rfl]
      obtain ⟨c2, f2, hb2⟩ := hri.blk
      exact ⟨hl, hri.turn hb (by decide) (by decide) (by decide) (by decide) (blk_ne hb2 hb (by decide)) hg⟩
    · rw [if_neg e]
      obtain ⟨⟨Zj, Fj, hlj, hfj⟩, hrj⟩ := h.each j hj
      obtain ⟨c2, f2, hb2⟩ := hrj.blk
      exact ⟨⟨Zj, Fj, hlj.far hli (h.dp j i hj hi (fun e2 => e e2.symm)) hg, hfj⟩, hrj.turn hb (by decide) (by decide) (by decide) (by decide) (blk_ne hb2 hb (by decide)) hg⟩
  · rw [List.length_set] at ha hb'
    rw [getD_set hi, getD_set hi]
    have := h.dp a b ha hb' hab
    by_cases e1 : i = a
    · subst e1
      rw [if_pos rfl, if_neg hab]
      exact this
    · rw [if_neg e1]
      by_cases e2 : i = b
      · subst e2
        rw [if_pos rfl]
        exact this
      · rw [if_neg e2]
        exact this
  · rw [List.length_set] at ha hb'
    rw [getD_set hi, getD_set hi]
    have := h.dq a b ha hb' hab
    by_cases e1 : i = a
    · subst e1
      rw [if_pos rfl, if_neg hab]
      exact this
    · rw [if_neg e1]
      by_cases e2 : i = b
      · subst e2
        rw [if_pos rfl]
        exact this
      · rw [if_neg e2]
        exact this
  · rw [List.length_set] at hj
    rw [getD_set hi]
    by_cases e : i = j
    · subst e; rw [if_pos rfl]; exact h.lo i hi
    · rw [if_neg e]; exact h.lo j hj
/-- The document's i-th runner has gone on. -/
theorem PlayAt.moveQ {s' : Nat} (h : PlayAt w Y pp vr vq ps P R O) (hi : i < ps.length) (hg : w.grownBy w' (some (ps.getD i default).q)) (hl : Ref w' (ps.getD i default).q P R O s') : PlayAt w' Y pp vr vq (ps.set i ((ps.getD i default).goT s')) P R O := by
  obtain ⟨⟨Zi, Fi, hli, hfi⟩, hri⟩ := h.each i hi
  obtain ⟨c, fr, hb⟩ := hri.blk
  refine ⟨by rw [hg.block pp h.lt (fun e => blk_ne h.blk hb (by decide) (Option.some.inj e))]; exact h.blk, ?_, ?_, fun j hj => ?_, fun a b ha hb' hab => ?_, fun a b ha hb' hab => ?_, fun j hj => ?_, h.old⟩
  · rw [List.length_set, map_set_same (x := (ps.getD i default).goT s') (f := fun x => ptrV x.p) hi rfl]
    exact h.rr.kept hg (own_off h.rr hb (by decide))
  · rw [List.length_set, map_set_same (x := (ps.getD i default).goT s') (f := fun x => ptrV x.q) hi rfl]
    exact h.rq.kept hg (own_off h.rq hb (by decide))
  · rw [List.length_set] at hj
    rw [getD_set hi]
    by_cases e : i = j
    · subst e
      rw [if_pos rfl]
      obtain ⟨c2, f2, hb2⟩ := hli.blk
      exact ⟨⟨Zi, Fi, hli.turn hb (by decide) (by decide) (by decide) (by decide) (blk_ne hb2 hb (by decide)) hg, hfi⟩, hl⟩
    · rw [if_neg e]
      obtain ⟨⟨Zj, Fj, hlj, hfj⟩, hrj⟩ := h.each j hj
      obtain ⟨c2, f2, hb2⟩ := hlj.blk
      exact ⟨⟨Zj, Fj, hlj.turn hb (by decide) (by decide) (by decide) (by decide) (blk_ne hb2 hb (by decide)) hg, hfj⟩, hrj.turn hb (by decide) (by decide) (by decide) (by decide) (h.dq j i hj hi (fun e2 => e e2.symm)) hg⟩
  · rw [List.length_set] at ha hb'
    rw [getD_set hi, getD_set hi]
    have := h.dp a b ha hb' hab
    by_cases e1 : i = a
    · subst e1
      rw [if_pos rfl, if_neg hab]
      exact this
    · rw [if_neg e1]
      by_cases e2 : i = b
      · subst e2
        rw [if_pos rfl]
        exact this
      · rw [if_neg e2]
        exact this
  · rw [List.length_set] at ha hb'
    rw [getD_set hi, getD_set hi]
    have := h.dq a b ha hb' hab
    by_cases e1 : i = a
    · subst e1
      rw [if_pos rfl, if_neg hab]
      exact this
    · rw [if_neg e1]
      by_cases e2 : i = b
      · subst e2
        rw [if_pos rfl]
        exact this
      · rw [if_neg e2]
        exact this
  · rw [List.length_set] at hj
    rw [getD_set hi]
    by_cases e : i = j
    · subst e; rw [if_pos rfl]; exact h.lo i hi
    · rw [if_neg e]; exact h.lo j hj
end
end Go.Proofs.Ytpehmlkikhkmfaa
