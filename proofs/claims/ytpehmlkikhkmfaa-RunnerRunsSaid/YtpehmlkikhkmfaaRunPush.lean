/- Runner: one more runner side by side. -/
import Derived.Test.YtpehmlkikhkmfaaRunPlay
namespace Go.Proofs.Ytpehmlkikhkmfaa
open Go.RowKit

/-- A world that turned what no runner holds. -/
theorem pair_turn {w w' : World} {b : Nat} {c : Array Value} {e : TypeId} {fr : Nat × Nat} {P : List ByteArray} {R : List (List Int)} {O : List Int} {x : Pr} (h : PairAt w P R O x) (hb : w.heap[b]? = some (.cells c e fr)) (he : e = 32 ∨ e = 38 ∨ e = 45) (hg : w.grownBy w' (some b)) : PairAt w' P R O x := by
  obtain ⟨⟨Z, F, hl, hf⟩, hr⟩ := h
  obtain ⟨c1, f1, h1⟩ := hl.blk
  obtain ⟨c2, f2, h2⟩ := hr.blk
  have g1 : 107 ≠ e := by rcases he with rfl | rfl | rfl <;> decide
  have g2 : 3 ≠ e := by rcases he with rfl | rfl | rfl <;> decide
  have g3 : 59 ≠ e := by rcases he with rfl | rfl | rfl <;> decide
  have g4 : 4 ≠ e := by rcases he with rfl | rfl | rfl <;> decide
  have g5 : 9 ≠ e := by rcases he with rfl | rfl | rfl <;> decide
  have g6 : 106 ≠ e := by rcases he with rfl | rfl | rfl <;> decide
  have g7 : 51 ≠ e := by rcases he with rfl | rfl | rfl <;> decide
  exact ⟨⟨Z, F, hl.turn hb g1 g2 g3 g4 (blk_ne h1 hb g6) hg, hf⟩, hr.turn hb g1 g2 g3 g5 (blk_ne h2 hb g7) hg⟩
theorem pair_kept {w w' : World} {P : List ByteArray} {R : List (List Int)} {O : List Int} {x : Pr} (h : PairAt w P R O x) (hg : w.grownBy w' none) : PairAt w' P R O x := by
  obtain ⟨⟨Z, F, hl, hf⟩, hr⟩ := h
  exact ⟨⟨Z, F, hl.kept hg, hf⟩, hr.kept hg⟩
/-- .. by a row of pointers that grew. -/
theorem pair_row {w w' : World} {Y n : Nat} {v : Value} {xs : List Value} {e : TypeId} {P : List ByteArray} {R : List (List Int)} {O : List Int} {x : Pr} (h : PairAt w P R O x) (hr : w.ownsRow Y e 1 v n xs) (he : e = 32 ∨ e = 38) (hg : w.grownBy w' v.ownBlock) : PairAt w' P R O x := by
  rcases hv : v.ownBlock with _ | b
  · rw [hv] at hg; exact pair_kept h hg
  · obtain ⟨c, hc⟩ := own_blk' hr hv
    rw [hv] at hg
    exact pair_turn h hc (by rcases he with e | e; exact Or.inl e; exact Or.inr (Or.inl e)) hg

/-- One more stands beside them. -/
theorem PlayAt.push {w w6 w8 : World} {Y pp g6 c6 g8 c8 : Nat} {vr vq : Value} {ps : List Pr} {P : List ByteArray} {R : List (List Int)} {O : List Int} {x : Pr} (h : PlayAt w Y pp vr vq ps P R O) (hx : PairAt w P R O x)
    (hnp : ∀ i, i < ps.length → (ps.getD i default).p ≠ x.p) (hnq : ∀ i, i < ps.length → (ps.getD i default).q ≠ x.q) (hlo : Y ≤ x.p ∧ Y ≤ x.q)
    (h6 : w6.ownsRow Y 32 1 (.slice (some ⟨g6, 0, none⟩) (ps.length + 1) c6) (ps.length + 1) ((ps.map fun x => ptrV x.p) ++ [ptrV x.p])) (hg6 : (w.alloc (.cells #[ptrV x.p] 32)).grownBy w6 vr.ownBlock)
    (h8 : w8.ownsRow Y 38 1 (.slice (some ⟨g8, 0, none⟩) (ps.length + 1) c8) (ps.length + 1) ((ps.map fun x => ptrV x.q) ++ [ptrV x.q])) (hg8 : ((w6.setCell ⟨pp, 0, none⟩ (.slice (some ⟨g6, 0, none⟩) (ps.length + 1) c6)).alloc (.cells #[ptrV x.q] 38)).grownBy w8 vq.ownBlock) :
    PlayAt (w8.setCell ⟨pp, 1, none⟩ (.slice (some ⟨g8, 0, none⟩) (ps.length + 1) c8)) Y pp (.slice (some ⟨g6, 0, none⟩) (ps.length + 1) c6) (.slice (some ⟨g8, 0, none⟩) (ps.length + 1) c8) (ps ++ [x]) P R O := by
  have a1 := World.grownBy_alloc w (.cells #[ptrV x.p] 32) none
  have k1 := h.kept a1
  -- the first row has grown
  have b6 : w6.heap[pp]? = some (.cells #[vr, vq] 45 (0, 0)) := by
    rw [hg6.block pp k1.lt (fun e => by
      rcases own_off k1.rr k1.blk (by decide) with e2 | e2
      · rw [e2] at e; cases e
      · exact e2 e.symm)]
    exact k1.blk
  have q6 := k1.rq.kept hg6 (own_apart k1.rr k1.rq (by decide))
  have p6 : ∀ y, PairAt w P R O y → PairAt w6 P R O y := fun y hy => pair_row (pair_kept hy a1) k1.rr (Or.inl rfl) hg6
  -- the first field is set
  have s7 : w6.grownBy (w6.setCell ⟨pp, 0, none⟩ (.slice (some ⟨g6, 0, none⟩) (ps.length + 1) c6)) (some pp) := gb_set
  have b7 : (w6.setCell ⟨pp, 0, none⟩ (.slice (some ⟨g6, 0, none⟩) (ps.length + 1) c6)).heap[pp]? = some (.cells #[.slice (some ⟨g6, 0, none⟩) (ps.length + 1) c6, vq] 45 (0, 0)) := by
    simp only [World.setCell, Array.getElem?_modify, b6]
    simp
  have r7 := h6.kept s7 (own_off h6 b6 (by decide))
  have q7 := q6.kept s7 (own_off q6 b6 (by decide))
  have p7 : ∀ y, PairAt w P R O y → PairAt (w6.setCell ⟨pp, 0, none⟩ (.slice (some ⟨g6, 0, none⟩) (ps.length + 1) c6)) P R O y := fun y hy => pair_turn (p6 y hy) b6 (Or.inr (Or.inr rfl)) s7
  generalize w6.setCell ⟨pp, 0, none⟩ (.slice (some ⟨g6, 0, none⟩) (ps.length + 1) c6) = w7 at s7 b7 r7 q7 p7 hg8
  have a8 := World.grownBy_alloc w7 (.cells #[ptrV x.q] 38) none
  have b7a : (w7.alloc (.cells #[ptrV x.q] 38)).heap[pp]? = _ := (a8.block pp (Array.getElem?_eq_some_iff.1 b7).1 (by simp)).trans b7
  have q7a := q7.kept a8 (Classical.em _)
  have r7a := r7.kept a8 (Classical.em _)
  -- the second row has grown
  have b8 : w8.heap[pp]? = some (.cells #[.slice (some ⟨g6, 0, none⟩) (ps.length + 1) c6, vq] 45 (0, 0)) := by
    rw [hg8.block pp (Array.getElem?_eq_some_iff.1 b7a).1 (fun e => by
      rcases own_off q7a b7a (by decide) with e2 | e2
      · rw [e2] at e; cases e
      · exact e2 e.symm)]
    exact b7a
  have r8 := r7a.kept hg8 (own_apart q7a r7a (by decide))
  have p8 : ∀ y, PairAt w P R O y → PairAt w8 P R O y := fun y hy => pair_row (pair_kept (p7 y hy) a8) q7a (Or.inr rfl) hg8
  have s9 : w8.grownBy (w8.setCell ⟨pp, 1, none⟩ (.slice (some ⟨g8, 0, none⟩) (ps.length + 1) c8)) (some pp) := gb_set
  have hlen : (ps ++ [x]).length = ps.length + 1 := by rw [List.length_append, List.length_singleton]
  have hget : ∀ i, i < (ps ++ [x]).length → (i < ps.length ∧ (ps ++ [x]).getD i default = ps.getD i default) ∨ (i = ps.length ∧ (ps ++ [x]).getD i default = x) := fun i hi => by
    rw [hlen] at hi
    by_cases e : i < ps.length
    · exact Or.inl ⟨e, by rw [List.getD_eq_getElem?_getD, List.getElem?_append_left e, ← List.getD_eq_getElem?_getD]⟩
    · obtain rfl : i = ps.length := by omega
      exact Or.inr ⟨rfl, by rw [List.getD_eq_getElem?_getD, List.getElem?_append_right (Nat.le_refl _), Nat.sub_self]; rfl⟩
  refine ⟨?_, ?_, ?_, fun i hi => ?_, fun i j hi hj hij => ?_, fun i j hi hj hij => ?_, fun i hi => ?_, h.old⟩
  · simp only [World.setCell, Array.getElem?_modify, b8]
    simp
  · rw [hlen, List.map_append]
    exact r8.kept s9 (own_off r8 b8 (by decide))
  · rw [hlen, List.map_append]
    exact h8.kept s9 (own_off h8 b8 (by decide))
  · refine pair_turn ?_ b8 (Or.inr (Or.inr rfl)) s9
    rcases hget i hi with ⟨h1, e⟩ | ⟨_, e⟩
    · rw [e]; exact p8 _ (h.each i h1)
    · rw [e]; exact p8 _ hx
  · rcases hget i hi with ⟨h1, e1⟩ | ⟨h1, e1⟩ <;> rcases hget j hj with ⟨h2, e2⟩ | ⟨h2, e2⟩ <;> rw [e1, e2]
    · exact h.dp i j h1 h2 hij
    · exact hnp i h1
    · exact fun e => hnp j h2 e.symm
    · omega
  · rcases hget i hi with ⟨h1, e1⟩ | ⟨h1, e1⟩ <;> rcases hget j hj with ⟨h2, e2⟩ | ⟨h2, e2⟩ <;> rw [e1, e2]
    · exact h.dq i j h1 h2 hij
    · exact hnq i h1
    · exact fun e => hnq j h2 e.symm
    · omega
  · rcases hget i hi with ⟨h1, e⟩ | ⟨_, e⟩
    · rw [e]; exact h.lo i h1
    · rw [e]; exact hlo
end Go.Proofs.Ytpehmlkikhkmfaa
