/- Runner: the edges, turned round. -/
import Derived.Test.YtpehmlkikhkmfaaRunCheck
import Derived.Deep.AppendLies
namespace Go.Proofs.Ytpehmlkikhkmfaa
open Go.RowKit

def iv (x : Int) : Value := .int .i64 x
theorem Try.info3 : (Try.prog.info? 3).map (fun i => (i.zero, i.size, i.bytes)) = some (some (.int .i64 0), 1, 8) := by kernel_rfl
theorem Try.info107 : (Try.prog.info? 107).map (fun i => (i.zero, i.size, i.bytes)) = some (some (.slice none 0 0), 1, 24) := by kernel_rfl

/-- Rows of our own, each in a block of its own. -/
structure BackAt (w : World) (Z g cap : Nat) (vs : List Value) (B : List (List Int)) : Prop where
  row : w.ownsRow Z 107 1 (.slice (some ⟨g, 0, none⟩) B.length cap) B.length vs
  each : ∀ i, i < B.length → ∃ v, vs[i]? = some v ∧ w.ownsRow Z 3 1 v (B.getD i []).length ((B.getD i []).map iv)
  sep : ∀ i j v u, i < B.length → j < B.length → i ≠ j → vs[i]? = some v → vs[j]? = some u → ∀ k, v.ownBlock = some k → u.ownBlock ≠ some k

theorem own_blk {w : World} {Z e n cap g : Nat} {xs : List Value} (h : w.ownsRow Z e 1 (.slice (some ⟨g, 0, none⟩) n cap) n xs) : ∃ cur, w.heap[g]? = some (.cells cur e (0, 0)) := by
  rcases h.2 with ⟨h', _⟩ | ⟨g', cap', cur, h', _, hg, _⟩
  · simp at h'
  · simp only [Value.slice.injEq, Option.some.injEq, Addr.mk.injEq, and_true, true_and] at h'
    obtain ⟨rfl, rfl⟩ := h'
    exact ⟨cur, hg⟩
theorem own_blk' {w : World} {Z e n k : Nat} {v : Value} {xs : List Value} (h : w.ownsRow Z e 1 v n xs) (hk : v.ownBlock = some k) : ∃ cur, w.heap[k]? = some (.cells cur e (0, 0)) := by
  rcases h.2 with ⟨rfl, _⟩ | ⟨g', cap', cur, rfl, _, hg, _⟩
  · simp [Value.ownBlock] at hk
  · simp only [Value.ownBlock, Option.some.injEq] at hk
    subst hk
    exact ⟨cur, hg⟩
theorem own_ne {w : World} {Z Z' n n' cap g k : Nat} {v : Value} {xs ys : List Value} (h : w.ownsRow Z 107 1 (.slice (some ⟨g, 0, none⟩) n cap) n xs) (h2 : w.ownsRow Z' 3 1 v n' ys) (hk : v.ownBlock = some k) : k ≠ g := by
  rintro rfl
  obtain ⟨c, hc⟩ := own_blk h
  obtain ⟨d, hd⟩ := own_blk' h2 hk
  rw [hc] at hd
  simp at hd

theorem BackAt.kept {w w' : World} {Z g cap : Nat} {vs : List Value} {B : List (List Int)} (h : BackAt w Z g cap vs B) (hg : w.grownBy w' none) : BackAt w' Z g cap vs B :=
  ⟨h.row.kept hg (Or.inr (by simp [Value.ownBlock])), fun i hi => by obtain ⟨v, hv, hr⟩ := h.each i hi; exact ⟨v, hv, hr.kept hg (Classical.em _)⟩, h.sep⟩

theorem BackAt.put {w w5 : World} {Z g cap i g5 cap5 : Nat} {vs : List Value} {B : List (List Int)} {v : Value} {x : Int} (h : BackAt w Z g cap vs B) (hi : i < B.length) (hv : vs[i]? = some v) (hZ : Z ≤ w.heap.size)
    (h5 : w5.ownsRow Z 3 1 (.slice (some ⟨g5, 0, none⟩) ((B.getD i []).length + 1) cap5) ((B.getD i []).length + 1) ((B.getD i []).map iv ++ [.int .i64 x]))
    (h6 : (w.alloc (.cells #[.int .i64 x] 3)).grownBy w5 v.ownBlock) (h7 : v.ownBlock = some g5 ∨ g5 = (w.alloc (.cells #[.int .i64 x] 3)).heap.size) :
    BackAt (w5.setCell ⟨g, i, none⟩ (.slice (some ⟨g5, 0, none⟩) ((B.getD i []).length + 1) cap5)) Z g cap (vs.set i (.slice (some ⟨g5, 0, none⟩) ((B.getD i []).length + 1) cap5)) (B.set i (B.getD i [] ++ [x])) ∧
      Below Z w (w5.setCell ⟨g, i, none⟩ (.slice (some ⟨g5, 0, none⟩) ((B.getD i []).length + 1) cap5)) := by
  obtain ⟨v', hv', hrv⟩ := h.each i hi
  obtain rfl : v' = v := Option.some.inj (hv'.symm.trans hv)
  have ha := World.grownBy_alloc w (.cells #[.int .i64 x] 3) none
  have hvg : ∀ k, v'.ownBlock = some k → k ≠ g := fun k hk => own_ne h.row hrv hk
  have hr5 := (h.row.kept ha (Or.inr (by simp [Value.ownBlock]))).kept h6 (Or.inr (fun e => hvg g e.symm rfl))
  have hs := hr5.stored i (.slice (some ⟨g5, 0, none⟩) ((B.getD i []).length + 1) cap5)
  have hg5 : g5 ≠ g := own_ne hr5 h5 rfl
  have hgz : Z ≤ g := (h.row.lt g rfl).1
  have hvz : ∀ k, v'.ownBlock = some k → Z ≤ k := fun k hk => (hrv.lt k hk).1
  refine ⟨⟨by rw [List.length_set]; exact hs.1, fun j hj => ?_, fun a b va vb hla hlb hab ha' hb' k hk => ?_⟩, ?_⟩
  · rw [List.length_set] at hj
    by_cases e : i = j
    · subst e
      have hl : i < vs.length := (List.getElem?_eq_some_iff.1 hv).1
      refine ⟨_, by rw [List.getElem?_set_self hl], ?_⟩
      have e2 : (B.set i (B.getD i [] ++ [x])).getD i [] = B.getD i [] ++ [x] := by
        rw [List.getD_eq_getElem?_getD, List.getElem?_set_self hi]; rfl
      rw [e2, List.length_append, List.map_append]
      exact h5.kept hs.2 (Or.inr (fun e => hg5 (by simpa [Value.ownBlock] using e)))
    · obtain ⟨u, hu, hru⟩ := h.each j hj
      refine ⟨u, by rw [List.getElem?_set_ne e]; exact hu, ?_⟩
      have e2 : (B.set i (B.getD i [] ++ [x])).getD j [] = B.getD j [] := by
        rw [List.getD_eq_getElem?_getD, List.getElem?_set_ne e, ← List.getD_eq_getElem?_getD]
      rw [e2]
      have hk1 := (hru.kept ha (Classical.em _))
      have hne : u.ownBlock = none ∨ u.ownBlock ≠ v'.ownBlock := by
        rcases hub : u.ownBlock with _ | k
        · exact Or.inl rfl
        · exact Or.inr (fun e3 => h.sep j i u v' hj hi (Ne.symm e) hu hv k hub e3.symm)
      have hk2 := hk1.kept h6 hne
      exact hk2.kept hs.2 (by
        rcases hub : u.ownBlock with _ | k
        · exact Or.inl rfl
        · exact Or.inr (fun e3 => own_ne hr5 hk2 hub (Option.some.inj e3)))
  · rw [List.length_set] at hla hlb
    have hlti : i < vs.length := (List.getElem?_eq_some_iff.1 hv).1
    have hnew : ∀ (j : Nat) (u : Value), j < B.length → j ≠ i → vs[j]? = some u → u.ownBlock ≠ some g5 := fun j u hj hji hu hug => by
      rcases h7 with e | e
      · exact h.sep j i u v' hj hi hji hu hv g5 hug e
      · obtain ⟨u', hu', hru⟩ := h.each j hj
        obtain rfl : u' = u := Option.some.inj (hu'.symm.trans hu)
        have := (hru.lt g5 hug).2
        rw [World.size_alloc] at e
        omega
    by_cases ea : i = a
    · subst ea
      rw [List.getElem?_set_self hlti] at ha'
      cases ha'
      rw [List.getElem?_set_ne hab] at hb'
      have hk' : g5 = k := by simpa [Value.ownBlock] using hk
      subst hk'
      exact hnew b vb hlb (Ne.symm hab) hb'
    · rw [List.getElem?_set_ne ea] at ha'
      by_cases eb : i = b
      · subst eb
        rw [List.getElem?_set_self hlti] at hb'
        cases hb'
        intro e
        have hk' : g5 = k := by simpa [Value.ownBlock] using e
        subst hk'
        exact hnew a va hla (Ne.symm ea) ha' hk
      · rw [List.getElem?_set_ne eb] at hb'
        exact h.sep a b va vb hla hlb hab ha' hb' k hk
  · have b1 : Below Z w w5 := ((Below.refl Z w).alloc hZ _).grown h6 (by rw [World.size_alloc]; omega) hvz
    exact b1.setCell hgz _
end Go.Proofs.Ytpehmlkikhkmfaa
