/- The book: names, numbers, yes and no, lists of lists put into it, and asked. -/
import Derived.Test.YtcdepblajobemaaBuilds20
set_option maxRecDepth 100000
namespace Go.Proofs.Ytcdepblajobemaa
open Go.RowKit

/-- A book that holds such lists alone. -/
structure BookAt (w : World) (Y b : Nat) (vt vi vb vr : Value) (ts il bs rs : List Value) : Prop where
  blk : w.heap[b]? = some (.cells #[nilS, vt, vi, vb, nilS, nilS, nilS, nilS, nilS, nilS, vr, nilS, nilS] 79 (0, 0))
  t : w.ownsRow Y 23 1 vt ts.length ts
  i : w.ownsRow Y 43 1 vi il.length il
  o : w.ownsRow Y 25 1 vb bs.length bs
  r : w.ownsRow Y 24 1 vr rs.length rs
/-- Boxes of automata stay. -/
def DfaStay (w w' : World) : Prop := ∀ (k : Nat) (c : Array Value) (fr : Nat × Nat), w.heap[k]? = some (.cells c 27 fr) → w'.heap[k]? = some (.cells c 27 fr)
theorem DfaStay.trans {a b c : World} (h : DfaStay a b) (k : DfaStay b c) : DfaStay a c := fun i x fr hi => k i x fr (h i x fr hi)
theorem dfa_stay_none {w w' : World} (hg : w.grownBy w' none) : DfaStay w w' := fun _ _ _ h => blk_kept h hg (by simp)
theorem book_new (w : World) : BookAt (w.alloc (.cells #[nilS, nilS, nilS, nilS, nilS, nilS, nilS, nilS, nilS, nilS, nilS, nilS, nilS] 79)) w.heap.size w.heap.size nilS nilS nilS nilS [] [] [] [] := ⟨heap_alloc_new w _, World.ownsRow_nil _ _ _ _, World.ownsRow_nil _ _ _ _, World.ownsRow_nil _ _ _ _, World.ownsRow_nil _ _ _ _⟩
theorem BookAt.kept {w w' : World} {Y b : Nat} {vt vi vb vr : Value} {ts il bs rs : List Value} (h : BookAt w Y b vt vi vb vr ts il bs rs) (hg : w.grownBy w' none) : BookAt w' Y b vt vi vb vr ts il bs rs :=
  ⟨blk_kept h.blk hg (by simp), h.t.kept hg (Classical.em _), h.i.kept hg (Classical.em _), h.o.kept hg (Classical.em _), h.r.kept hg (Classical.em _)⟩
theorem book_blk {w w5 : World} {Y n b e : Nat} {c : Array Value} {u : Value} {xs : List Value} (hb : w.heap[b]? = some (.cells c 79 (0, 0))) (hu : w.ownsRow Y e 1 u n xs) (he : e ≠ 79) (hg : w.grownBy w5 u.ownBlock) : w5.heap[b]? = some (.cells c 79 (0, 0)) :=
  blk_kept hb hg (fun e2 => own_off' hu hb he e2.symm)
/-- What turns no such row leaves it. -/
theorem own_over {w w' : World} {Y e n : Nat} {v : Value} {xs : List Value} (h : w.ownsRow Y e 1 v n xs) (hf : ∀ (k : Nat) (c : Array Value) (fr : Nat × Nat), w.heap[k]? = some (.cells c e fr) → w'.heap[k]? = some (.cells c e fr)) : w'.ownsRow Y e 1 v n xs := by
  refine ⟨h.1, ?_⟩
  rcases h.2 with h3 | ⟨g, cap, cur, hv, hb, hg, hrest⟩
  · exact Or.inl h3
  · exact Or.inr ⟨g, cap, cur, hv, hb, hf _ _ _ hg, hrest⟩

set_option maxHeartbeats 2000000 in
theorem book_texts {w : World} {Y b n cap : Nat} {a : Option Addr} {vt vi vb vr : Value} {ts il bs rs : List Value} (h : BookAt w Y b vt vi vb vr ts il bs rs) (hY : Y ≤ w.heap.size) (hb : Y ≤ b) (hs : ts.length ≤ 10000000) :
    Calls Try.prog 75 #[.pointer (some ⟨b, 0, none⟩), .slice a n cap] w fun e w' => e = .returned (.tuple #[]) ∧ (∃ v', BookAt w' Y b v' vi vb vr (ts ++ [.slice a n cap]) il bs rs) ∧ Below Y w w' ∧ DfaStay w w' := by
  obtain ⟨i1, hi1, hz0b, hz1b, hz2b⟩ := info_parts Try.info23
  obtain ⟨av, cv, rfl⟩ := own_val h.t
  have c0 : w.cell? ⟨b, 1, none⟩ = some (.slice av ts.length cv) := by simp [World.cell?, h.blk]
  have f0 : w.frozen? ⟨b, 1, none⟩ = false := by simp [World.frozen?, h.blk]
  have hga := World.grownBy_alloc w (.cells #[.slice a n cap] 23) none
  have HLA := Lib.hid (h.t.kept hga (Classical.em _))
  have HH := Lib.hid (h.kept hga)
  go_enter Try.func75, Try.ntmps75
  have HB0 := Lib.hid HH.out.blk
  have HY1 := hga.size
  clear h
  go_wp2_with (at_builtin; refine wpList_append_lies _ rfl (.tmp 8) (.tmp 10) 67 rfl Y 23 i1 (.slice none 0 0) 1 24 Try.underlying67 hi1 hz0b hz1b hz2b rfl (by decide) (.slice av ts.length cv) ts.length ts rfl HLA.out ⟨w.heap.size, 0, none⟩ 1 1 [.slice a n cap] rfl rfl (cell_one_new _ _ _) (by simp [Value.oneCell']) (by decide) (by unfold maxLen; omega) (by omega) (by rw [World.size_alloc]; omega) _ rfl ?_; intro g5 cap5 w5 hown5 hgr5 hat5 hlt5; have hb5 := book_blk HB0.out HLA.out (by decide) hgr5; have c5x : w5.cell? ⟨b, 1, none⟩ = some (.slice av ts.length cv) := (by simp [World.cell?, hb5]); have f5x : w5.frozen? ⟨b, 1, none⟩ = false := (by simp [World.frozen?, hb5]); have HB5 := Lib.hid hb5; have HO5 := Lib.hid hown5; have HG5 := Lib.hid hgr5; clear hb5 hown5 hgr5 hat5 hlt5)
  have hb6 := heap_setCell_same w5 b 1 _ _ (.slice (some ⟨g5, 0, none⟩) (ts.length + 1) cap5) HB5.out
  have hg6 : w5.grownBy (w5.setCell ⟨b, 1, none⟩ (.slice (some ⟨g5, 0, none⟩) (ts.length + 1) cap5)) (some b) := gb_set
  have hk : ∀ {e m : Nat} {u : Value} {xs : List Value}, (w.alloc (.cells #[.slice a n cap] 23)).ownsRow Y e 1 u m xs → e ≠ 23 → e ≠ 79 → (w5.setCell ⟨b, 1, none⟩ (.slice (some ⟨g5, 0, none⟩) (ts.length + 1) cap5)).ownsRow Y e 1 u m xs := fun {e m u xs} h1 h2 h3 => by
    have h4 := h1.kept HG5.out (own_apart HLA.out h1 (fun e2 => h2 e2.symm))
    exact h4.kept hg6 (own_off h4 HB5.out h3)
  have hrow : (w5.setCell ⟨b, 1, none⟩ (.slice (some ⟨g5, 0, none⟩) (ts.length + 1) cap5)).ownsRow Y 23 1 (.slice (some ⟨g5, 0, none⟩) (ts.length + 1) cap5) (ts ++ [Value.slice a n cap]).length (ts ++ [Value.slice a n cap]) := by
    rw [List.length_append, List.length_singleton]
    exact HO5.out.kept hg6 (own_off HO5.out HB5.out (by decide))
  have hbel : Below Y w (w5.setCell ⟨b, 1, none⟩ (.slice (some ⟨g5, 0, none⟩) (ts.length + 1) cap5)) := (((Below.refl Y w).grown hga hY (fun _ e => by cases e)).grown HG5.out (by omega) (fun k e => (HLA.out.lt k e).1)).grown hg6 (by have := HG5.out.size; omega) (fun k e => by cases e; exact hb)
  have hst : DfaStay w (w5.setCell ⟨b, 1, none⟩ (.slice (some ⟨g5, 0, none⟩) (ts.length + 1) cap5)) := ((dfa_stay_none hga).trans (fun k c fr hk1 => blk_kept hk1 HG5.out (fun e2 => own_off' HLA.out hk1 (by decide) e2.symm))).trans (fun k c fr hk1 => blk_kept hk1 hg6 (fun e2 => blk_ne hk1 HB5.out (by decide) e2))
  have HBk : Hid (BookAt (w5.setCell ⟨b, 1, none⟩ (.slice (some ⟨g5, 0, none⟩) (ts.length + 1) cap5)) Y b (.slice (some ⟨g5, 0, none⟩) (ts.length + 1) cap5) vi vb vr (ts ++ [.slice a n cap]) il bs rs) := Lib.hid ⟨hb6, hrow, hk HH.out.i (by decide) (by decide), hk HH.out.o (by decide) (by decide), hk HH.out.r (by decide) (by decide)⟩
  go_end0
  exact ⟨rfl, ⟨_, HBk.out⟩, hbel, hst⟩
set_option maxHeartbeats 2000000 in
theorem book_ints {w : World} {Y b n cap : Nat} {a : Option Addr} {vt vi vb vr : Value} {ts il bs rs : List Value} (h : BookAt w Y b vt vi vb vr ts il bs rs) (hY : Y ≤ w.heap.size) (hb : Y ≤ b) (hs : il.length ≤ 10000000) :
    Calls Try.prog 107 #[.pointer (some ⟨b, 0, none⟩), .slice a n cap] w fun e w' => e = .returned (.tuple #[]) ∧ (∃ v', BookAt w' Y b vt v' vb vr ts (il ++ [.slice a n cap]) bs rs) ∧ Below Y w w' ∧ DfaStay w w' := by
  obtain ⟨i1, hi1, hz0b, hz1b, hz2b⟩ := info_parts Try.info43
  obtain ⟨av, cv, rfl⟩ := own_val h.i
  have c0 : w.cell? ⟨b, 2, none⟩ = some (.slice av il.length cv) := by simp [World.cell?, h.blk]
  have f0 : w.frozen? ⟨b, 2, none⟩ = false := by simp [World.frozen?, h.blk]
  have hga := World.grownBy_alloc w (.cells #[.slice a n cap] 43) none
  have HLA := Lib.hid (h.i.kept hga (Classical.em _))
  have HH := Lib.hid (h.kept hga)
  go_enter Try.func107, Try.ntmps107
  have HB0 := Lib.hid HH.out.blk
  have HY1 := hga.size
  clear h
  go_wp2_with (at_builtin; refine wpList_append_lies _ rfl (.tmp 8) (.tmp 10) 24 rfl Y 43 i1 (.slice none 0 0) 1 24 Try.underlying24 hi1 hz0b hz1b hz2b rfl (by decide) (.slice av il.length cv) il.length il rfl HLA.out ⟨w.heap.size, 0, none⟩ 1 1 [.slice a n cap] rfl rfl (cell_one_new _ _ _) (by simp [Value.oneCell']) (by decide) (by unfold maxLen; omega) (by omega) (by rw [World.size_alloc]; omega) _ rfl ?_; intro g5 cap5 w5 hown5 hgr5 hat5 hlt5; have hb5 := book_blk HB0.out HLA.out (by decide) hgr5; have c5x : w5.cell? ⟨b, 2, none⟩ = some (.slice av il.length cv) := (by simp [World.cell?, hb5]); have f5x : w5.frozen? ⟨b, 2, none⟩ = false := (by simp [World.frozen?, hb5]); have HB5 := Lib.hid hb5; have HO5 := Lib.hid hown5; have HG5 := Lib.hid hgr5; clear hb5 hown5 hgr5 hat5 hlt5)
  have hb6 := heap_setCell_same w5 b 2 _ _ (.slice (some ⟨g5, 0, none⟩) (il.length + 1) cap5) HB5.out
  have hg6 : w5.grownBy (w5.setCell ⟨b, 2, none⟩ (.slice (some ⟨g5, 0, none⟩) (il.length + 1) cap5)) (some b) := gb_set
  have hk : ∀ {e m : Nat} {u : Value} {xs : List Value}, (w.alloc (.cells #[.slice a n cap] 43)).ownsRow Y e 1 u m xs → e ≠ 43 → e ≠ 79 → (w5.setCell ⟨b, 2, none⟩ (.slice (some ⟨g5, 0, none⟩) (il.length + 1) cap5)).ownsRow Y e 1 u m xs := fun {e m u xs} h1 h2 h3 => by
    have h4 := h1.kept HG5.out (own_apart HLA.out h1 (fun e2 => h2 e2.symm))
    exact h4.kept hg6 (own_off h4 HB5.out h3)
  have hrow : (w5.setCell ⟨b, 2, none⟩ (.slice (some ⟨g5, 0, none⟩) (il.length + 1) cap5)).ownsRow Y 43 1 (.slice (some ⟨g5, 0, none⟩) (il.length + 1) cap5) (il ++ [Value.slice a n cap]).length (il ++ [Value.slice a n cap]) := by
    rw [List.length_append, List.length_singleton]
    exact HO5.out.kept hg6 (own_off HO5.out HB5.out (by decide))
  have hbel : Below Y w (w5.setCell ⟨b, 2, none⟩ (.slice (some ⟨g5, 0, none⟩) (il.length + 1) cap5)) := (((Below.refl Y w).grown hga hY (fun _ e => by cases e)).grown HG5.out (by omega) (fun k e => (HLA.out.lt k e).1)).grown hg6 (by have := HG5.out.size; omega) (fun k e => by cases e; exact hb)
  have hst : DfaStay w (w5.setCell ⟨b, 2, none⟩ (.slice (some ⟨g5, 0, none⟩) (il.length + 1) cap5)) := ((dfa_stay_none hga).trans (fun k c fr hk1 => blk_kept hk1 HG5.out (fun e2 => own_off' HLA.out hk1 (by decide) e2.symm))).trans (fun k c fr hk1 => blk_kept hk1 hg6 (fun e2 => blk_ne hk1 HB5.out (by decide) e2))
  have HBk : Hid (BookAt (w5.setCell ⟨b, 2, none⟩ (.slice (some ⟨g5, 0, none⟩) (il.length + 1) cap5)) Y b vt (.slice (some ⟨g5, 0, none⟩) (il.length + 1) cap5) vb vr ts (il ++ [.slice a n cap]) bs rs) := Lib.hid ⟨hb6, hk HH.out.t (by decide) (by decide), hrow, hk HH.out.o (by decide) (by decide), hk HH.out.r (by decide) (by decide)⟩
  go_end0
  exact ⟨rfl, ⟨_, HBk.out⟩, hbel, hst⟩
set_option maxHeartbeats 2000000 in
theorem book_bools {w : World} {Y b n cap : Nat} {a : Option Addr} {vt vi vb vr : Value} {ts il bs rs : List Value} (h : BookAt w Y b vt vi vb vr ts il bs rs) (hY : Y ≤ w.heap.size) (hb : Y ≤ b) (hs : bs.length ≤ 10000000) :
    Calls Try.prog 77 #[.pointer (some ⟨b, 0, none⟩), .slice a n cap] w fun e w' => e = .returned (.tuple #[]) ∧ (∃ v', BookAt w' Y b vt vi v' vr ts il (bs ++ [.slice a n cap]) rs) ∧ Below Y w w' ∧ DfaStay w w' := by
  obtain ⟨i1, hi1, hz0b, hz1b, hz2b⟩ := info_parts Try.infoBools
  obtain ⟨av, cv, rfl⟩ := own_val h.o
  have c0 : w.cell? ⟨b, 3, none⟩ = some (.slice av bs.length cv) := by simp [World.cell?, h.blk]
  have f0 : w.frozen? ⟨b, 3, none⟩ = false := by simp [World.frozen?, h.blk]
  have hga := World.grownBy_alloc w (.cells #[.slice a n cap] 25) none
  have HLA := Lib.hid (h.o.kept hga (Classical.em _))
  have HH := Lib.hid (h.kept hga)
  go_enter Try.func77, Try.ntmps77
  have HB0 := Lib.hid HH.out.blk
  have HY1 := hga.size
  clear h
  go_wp2_with (at_builtin; refine wpList_append_lies _ rfl (.tmp 8) (.tmp 10) 68 rfl Y 25 i1 (.slice none 0 0) 1 24 Try.underlying68 hi1 hz0b hz1b hz2b rfl (by decide) (.slice av bs.length cv) bs.length bs rfl HLA.out ⟨w.heap.size, 0, none⟩ 1 1 [.slice a n cap] rfl rfl (cell_one_new _ _ _) (by simp [Value.oneCell']) (by decide) (by unfold maxLen; omega) (by omega) (by rw [World.size_alloc]; omega) _ rfl ?_; intro g5 cap5 w5 hown5 hgr5 hat5 hlt5; have hb5 := book_blk HB0.out HLA.out (by decide) hgr5; have c5x : w5.cell? ⟨b, 3, none⟩ = some (.slice av bs.length cv) := (by simp [World.cell?, hb5]); have f5x : w5.frozen? ⟨b, 3, none⟩ = false := (by simp [World.frozen?, hb5]); have HB5 := Lib.hid hb5; have HO5 := Lib.hid hown5; have HG5 := Lib.hid hgr5; clear hb5 hown5 hgr5 hat5 hlt5)
  have hb6 := heap_setCell_same w5 b 3 _ _ (.slice (some ⟨g5, 0, none⟩) (bs.length + 1) cap5) HB5.out
  have hg6 : w5.grownBy (w5.setCell ⟨b, 3, none⟩ (.slice (some ⟨g5, 0, none⟩) (bs.length + 1) cap5)) (some b) := gb_set
  have hk : ∀ {e m : Nat} {u : Value} {xs : List Value}, (w.alloc (.cells #[.slice a n cap] 25)).ownsRow Y e 1 u m xs → e ≠ 25 → e ≠ 79 → (w5.setCell ⟨b, 3, none⟩ (.slice (some ⟨g5, 0, none⟩) (bs.length + 1) cap5)).ownsRow Y e 1 u m xs := fun {e m u xs} h1 h2 h3 => by
    have h4 := h1.kept HG5.out (own_apart HLA.out h1 (fun e2 => h2 e2.symm))
    exact h4.kept hg6 (own_off h4 HB5.out h3)
  have hrow : (w5.setCell ⟨b, 3, none⟩ (.slice (some ⟨g5, 0, none⟩) (bs.length + 1) cap5)).ownsRow Y 25 1 (.slice (some ⟨g5, 0, none⟩) (bs.length + 1) cap5) (bs ++ [Value.slice a n cap]).length (bs ++ [Value.slice a n cap]) := by
    rw [List.length_append, List.length_singleton]
    exact HO5.out.kept hg6 (own_off HO5.out HB5.out (by decide))
  have hbel : Below Y w (w5.setCell ⟨b, 3, none⟩ (.slice (some ⟨g5, 0, none⟩) (bs.length + 1) cap5)) := (((Below.refl Y w).grown hga hY (fun _ e => by cases e)).grown HG5.out (by omega) (fun k e => (HLA.out.lt k e).1)).grown hg6 (by have := HG5.out.size; omega) (fun k e => by cases e; exact hb)
  have hst : DfaStay w (w5.setCell ⟨b, 3, none⟩ (.slice (some ⟨g5, 0, none⟩) (bs.length + 1) cap5)) := ((dfa_stay_none hga).trans (fun k c fr hk1 => blk_kept hk1 HG5.out (fun e2 => own_off' HLA.out hk1 (by decide) e2.symm))).trans (fun k c fr hk1 => blk_kept hk1 hg6 (fun e2 => blk_ne hk1 HB5.out (by decide) e2))
  have HBk : Hid (BookAt (w5.setCell ⟨b, 3, none⟩ (.slice (some ⟨g5, 0, none⟩) (bs.length + 1) cap5)) Y b vt vi (.slice (some ⟨g5, 0, none⟩) (bs.length + 1) cap5) vr ts il (bs ++ [.slice a n cap]) rs) := Lib.hid ⟨hb6, hk HH.out.t (by decide) (by decide), hk HH.out.i (by decide) (by decide), hrow, hk HH.out.r (by decide) (by decide)⟩
  go_end0
  exact ⟨rfl, ⟨_, HBk.out⟩, hbel, hst⟩
set_option maxHeartbeats 2000000 in
theorem book_rows {w : World} {Y b n cap Z : Nat} {a : Option Addr} {vt vi vb vr : Value} {ts il bs rs us : List Value} (h : BookAt w Y b vt vi vb vr ts il bs rs) (hY : Y ≤ w.heap.size) (hb : Y ≤ b) (hs : rs.length ≤ 10000000) (hu : w.ownsRow Z 43 1 (.slice a n cap) n us) (hul : us.length = n) (hus : ∀ k, k < n → ∃ a m c, us.getD k default = .slice a m c) (hlow : ∀ g, (Value.slice a n cap).ownBlock = some g → g < Y) (hil : il.length + n ≤ 10000000) :
    Calls Try.prog 76 #[.pointer (some ⟨b, 0, none⟩), .slice a n cap] w fun e w' => e = .returned (.tuple #[]) ∧ (∃ v1 v2, BookAt w' Y b vt v1 vb v2 ts (il ++ us) bs (rs ++ [.slice a n cap])) ∧ Below Y w w' ∧ DfaStay w w' := by
  obtain ⟨i1, hi1, hz0b, hz1b, hz2b⟩ := info_parts Try.infoRows
  obtain ⟨av, cv, rfl⟩ := own_val h.r
  have c0 : w.cell? ⟨b, 10, none⟩ = some (.slice av rs.length cv) := by simp [World.cell?, h.blk]
  have f0 : w.frozen? ⟨b, 10, none⟩ = false := by simp [World.frozen?, h.blk]
  have hga := World.grownBy_alloc w (.cells #[.slice a n cap] 24) none
  have HLA := Lib.hid (h.r.kept hga (Classical.em _))
  have HH := Lib.hid (h.kept hga)
  go_enter Try.func76, Try.ntmps76
  have HB0 := Lib.hid HH.out.blk
  have HY1 := hga.size
  clear h
  go_wp2_with (at_builtin; refine wpList_append_lies _ rfl (.tmp 9) (.tmp 11) 75 rfl Y 24 i1 (.slice none 0 0) 1 24 Try.underlying75 hi1 hz0b hz1b hz2b rfl (by decide) (.slice av rs.length cv) rs.length rs rfl HLA.out ⟨w.heap.size, 0, none⟩ 1 1 [.slice a n cap] rfl rfl (cell_one_new _ _ _) (by simp [Value.oneCell']) (by decide) (by unfold maxLen; omega) (by omega) (by rw [World.size_alloc]; omega) _ rfl ?_; intro g5 cap5 w5 hown5 hgr5 hat5 hlt5; have hb5 := book_blk HB0.out HLA.out (by decide) hgr5; have c5x : w5.cell? ⟨b, 10, none⟩ = some (.slice av rs.length cv) := (by simp [World.cell?, hb5]); have f5x : w5.frozen? ⟨b, 10, none⟩ = false := (by simp [World.frozen?, hb5]); have HB5 := Lib.hid hb5; have HO5 := Lib.hid hown5; have HG5 := Lib.hid hgr5; clear hb5 hown5 hgr5 hat5 hlt5)
  have hb6 := heap_setCell_same w5 b 10 _ _ (.slice (some ⟨g5, 0, none⟩) (rs.length + 1) cap5) HB5.out
  have hg6 : w5.grownBy (w5.setCell ⟨b, 10, none⟩ (.slice (some ⟨g5, 0, none⟩) (rs.length + 1) cap5)) (some b) := gb_set
  have hk : ∀ {e m : Nat} {u : Value} {xs : List Value}, (w.alloc (.cells #[.slice a n cap] 24)).ownsRow Y e 1 u m xs → e ≠ 24 → e ≠ 79 → (w5.setCell ⟨b, 10, none⟩ (.slice (some ⟨g5, 0, none⟩) (rs.length + 1) cap5)).ownsRow Y e 1 u m xs := fun {e m u xs} h1 h2 h3 => by
    have h4 := h1.kept HG5.out (own_apart HLA.out h1 (fun e2 => h2 e2.symm))
    exact h4.kept hg6 (own_off h4 HB5.out h3)
  have hrow : (w5.setCell ⟨b, 10, none⟩ (.slice (some ⟨g5, 0, none⟩) (rs.length + 1) cap5)).ownsRow Y 24 1 (.slice (some ⟨g5, 0, none⟩) (rs.length + 1) cap5) (rs ++ [Value.slice a n cap]).length (rs ++ [Value.slice a n cap]) := by
    rw [List.length_append, List.length_singleton]
    exact HO5.out.kept hg6 (own_off HO5.out HB5.out (by decide))
  have hbel : Below Y w (w5.setCell ⟨b, 10, none⟩ (.slice (some ⟨g5, 0, none⟩) (rs.length + 1) cap5)) := (((Below.refl Y w).grown hga hY (fun _ e => by cases e)).grown HG5.out (by omega) (fun k e => (HLA.out.lt k e).1)).grown hg6 (by have := HG5.out.size; omega) (fun k e => by cases e; exact hb)
  have hst : DfaStay w (w5.setCell ⟨b, 10, none⟩ (.slice (some ⟨g5, 0, none⟩) (rs.length + 1) cap5)) := ((dfa_stay_none hga).trans (fun k c fr hk1 => blk_kept hk1 HG5.out (fun e2 => own_off' HLA.out hk1 (by decide) e2.symm))).trans (fun k c fr hk1 => blk_kept hk1 hg6 (fun e2 => blk_ne hk1 HB5.out (by decide) e2))
  have HBk : Hid (BookAt (w5.setCell ⟨b, 10, none⟩ (.slice (some ⟨g5, 0, none⟩) (rs.length + 1) cap5)) Y b vt vi vb (.slice (some ⟨g5, 0, none⟩) (rs.length + 1) cap5) ts il bs (rs ++ [.slice a n cap])) := Lib.hid ⟨hb6, hk HH.out.t (by decide) (by decide), hk HH.out.i (by decide) (by decide), hk HH.out.o (by decide) (by decide), hrow⟩
  have HBel := Lib.hid (And.intro hbel hst)
  have HU := Lib.hid hu
  have HUs := Lib.hid hus
  generalize w5.setCell ⟨b, 10, none⟩ (.slice (some ⟨g5, 0, none⟩) (rs.length + 1) cap5) = w6 at HBk HBel ⊢
  generalize (.slice (some ⟨g5, 0, none⟩) (rs.length + 1) cap5 : Value) = vr6 at HBk
  clear hb6 hg6 hk hrow hbel hst HB5 HO5 HG5 HB0 HH HLA hu hus c0 f0 c5x f5x hga HY1
  have hsz6 : Y ≤ w6.heap.size := Nat.le_trans hY HBel.out.1.size
  go_loopw [4] (fun i wr => ∃ (k : Nat) (v1 : Value), k ≤ n ∧ i = .int .i64 (k : Int) ∧ Hid (BookAt wr Y b vt v1 vb vr6 ts (il ++ us.take k) bs (rs ++ [.slice a n cap])) ∧ Hid (Below Y w wr ∧ DfaStay w wr) ∧ Y ≤ wr.heap.size) (fun i _ => n - (intOf i).toNat)
  case atStart => exact ⟨0, _, Nat.zero_le _, rfl, Lib.hid (by rw [List.take_zero, List.append_nil]; exact HBk.out), HBel, hsz6⟩
  case round =>
    obtain ⟨k, v1, hk, rfl, HB, HW, hsz⟩ := hrel
    by_cases hlt : k < n
    · have hltI : (k : Int) < (n : Int) := by omega
      obtain ⟨g, c, hv, _, hc⟩ := own_cell HU.out k hlt
      cases hv
      have hgY := hlow g rfl
      have hcr : wr.cell? ⟨g, k, none⟩ = some (us.getD k default) := by
        rw [HW.out.1.cell (p := ⟨g, k, none⟩) hgY, hc, List.getD_eq_getElem?_getD, List.getElem?_eq_getElem (by omega)]
        rfl
      have HT : Hid (us.take (k + 1) = us.take k ++ [us.getD k default]) := Lib.hid (by rw [List.take_succ_eq_append_getElem (by omega), List.getD_eq_getElem?_getD, List.getElem?_eq_getElem (by omega)]; rfl)
      obtain ⟨ak, mk, ck, hvk⟩ := HUs.out k hlt
      rw [hvk] at hcr HT
      have HI := Lib.hid (book_ints (a := ak) (n := mk) (cap := ck) HB.out hsz hb (by rw [List.length_append, List.length_take]; omega))
      clear hc hvk
      go_wp2_with (go_at_call 107; refine HI.out.mono ?_; rintro e w7 ⟨rfl, ⟨v2, hB7⟩, hw7, hs7⟩)
      exact ⟨⟨k + 1, v2, by omega, by go_num, Lib.hid (by rw [HT.out, ← List.append_assoc]; exact hB7), Lib.hid ⟨HW.out.1.trans hw7, HW.out.2.trans hs7⟩, Nat.le_trans hsz hw7.size⟩, by simp [intOf]; omega⟩
    · obtain rfl : k = n := by omega
      have hltI : ¬ ((k : Int) < (k : Int)) := by omega
      go_wp2_with fail
      go_end0
      refine ⟨rfl, ⟨v1, vr6, ?_⟩, HW.out⟩
      have h1 := HB.out
      rw [List.take_of_length_le (by omega)] at h1
      exact h1
end Go.Proofs.Ytcdepblajobemaa
namespace Go.Proofs.Ytcdepblajobemaa
open Go.RowKit

theorem below_none {Y : Nat} {w w' : World} (hg : w.grownBy w' none) (hY : Y ≤ w.heap.size) : Below Y w w' := (Below.refl Y w).grown hg hY (fun _ e => by cases e)
/-- A block that lies low stands. -/
theorem below_row {Y Z e n : Nat} {w w' : World} {v : Value} {xs : List Value} (h : w.ownsRow Z e 1 v n xs) (hb : Below Y w w') (hl : ∀ g, v.ownBlock = some g → g < Y) : w'.ownsRow Z e 1 v n xs := by
  refine ⟨h.1, ?_⟩
  rcases h.2 with h3 | ⟨g, cap, cur, hv, hz, hg, hrest⟩
  · exact Or.inl h3
  · exact Or.inr ⟨g, cap, cur, hv, hz, (hb.block g (hl g (by rw [hv]; rfl))).trans hg, hrest⟩
set_option maxHeartbeats 2000000 in
theorem book_dfa {w : World} {Y b Z : Nat} {vt vi vb vr vp vn vl : Value} {ts il bs rs us : List Value} {P : List ByteArray} {R : List (List Int)} {B : List Bool} (h : BookAt w Y b vt vi vb vr ts il bs rs) (hY : Y ≤ w.heap.size) (hb : Y ≤ b) (h1 : ts.length ≤ 1000000) (h2 : il.length + R.length ≤ 1000000) (h3 : bs.length ≤ 1000000) (h4 : rs.length ≤ 1000000)
    (hB : BuiltAt Z w vp vn vl us P R B) (hlow : ∀ g, vn.ownBlock = some g → g < Y) :
    Calls Try.prog 32 #[.pointer (some ⟨b, 0, none⟩), .agg #[vp, vn, vl]] w fun e w' => e = .returned (.tuple #[]) ∧ (∃ v1 v2 v3 v4, BookAt w' Y b v1 v2 v3 v4 (ts ++ [vp]) (il ++ us) (bs ++ [vl]) (rs ++ [vn])) ∧ Below Y w w' := by
  have HR := Lib.hid hB.n
  have HUl := Lib.hid hB.u
  have HUs : Hid (∀ k, k < R.length → ∃ a m c, us.getD k default = .slice a m c) := Lib.hid fun k hk => by
    obtain ⟨a, c, e⟩ := own_val (hB.each k hk)
    exact ⟨a, _, c, e⟩
  obtain ⟨ap, cp, rfl⟩ := own_val hB.p
  obtain ⟨an, cn, rfl⟩ := own_val hB.n
  obtain ⟨al, cl, rfl⟩ := own_val hB.b
  have hga := World.grownBy_alloc w (.cells #[.slice ap P.length cp, .slice an R.length cn, .slice al B.length cl] 27) none
  have hbx := heap_alloc_new w (.cells #[.slice ap P.length cp, .slice an R.length cn, .slice al B.length cl] 27)
  have HBx := Lib.hid hbx
  have HGA := Lib.hid hga
  have HT := Lib.hid (book_texts (a := ap) (n := P.length) (cap := cp) (h.kept hga) (Nat.le_trans hY hga.size) hb (Nat.le_trans h1 (by decide)))
  clear hga hbx h hB
  go_enter Try.func32, Try.ntmps32
  go_wp2_with fail
  refine HT.out.mono ?_
  rintro e w1 ⟨rfl, ⟨v1, hB1⟩, hw1, hs1⟩
  have hW1 := (below_none HGA.out hY).trans hw1
  have hY1 : Y ≤ w1.heap.size := Nat.le_trans hY hW1.size
  have hbx1 := hs1 _ _ _ HBx.out
  obtain ⟨d0, d1, d2, _⟩ := dfa_cells hbx1
  have HBx1 := Lib.hid hbx1
  have HW1 := Lib.hid hW1
  have HRr := Lib.hid (book_rows (a := an) (n := R.length) (cap := cn) (us := us) (Z := Z) hB1 hY1 hb (Nat.le_trans h4 (by decide)) (below_row HR.out hW1 hlow) HUl.out HUs.out hlow (Nat.le_trans h2 (by decide)))
  clear hW1 hw1 hs1 hbx1 hB1 HBx HGA HT
  go_wp2_with fail
  refine HRr.out.mono ?_
  rintro e w2 ⟨rfl, ⟨v2, v3, hB2⟩, hw2, hs2⟩
  have hY2 : Y ≤ w2.heap.size := Nat.le_trans hY1 hw2.size
  obtain ⟨e0, e1, e2, _⟩ := dfa_cells (hs2 _ _ _ HBx1.out)
  have HW2 := Lib.hid (HW1.out.trans hw2)
  have HBo := Lib.hid (book_bools (a := al) (n := B.length) (cap := cl) hB2 hY2 hb (Nat.le_trans h3 (by decide)))
  clear hw2 hs2 hB2 HRr
  go_wp2_with fail
  refine HBo.out.mono ?_
  rintro e w3 ⟨rfl, ⟨v4, hB3⟩, hw3, hs3⟩
  go_wp2_with fail
  go_end0
  exact ⟨rfl, ⟨_, _, _, _, hB3⟩, HW2.out.trans hw3⟩
set_option maxHeartbeats 4000000 in
theorem book_own {w : World} {Y b nt ni nb nr : Nat} {vt vi vb vr : Value} {ts il bs rs : List Value} (h : BookAt w Y b vt vi vb vr ts il bs rs) (hY : Y ≤ w.heap.size) (hT : OwnP1 w Y 9 ts (fun _ => nt) mkT 0 0) (hI : OwnP1 w Y 3 il (fun _ => ni) mkI 0 0) (hO : OwnP1 w Y 4 bs (fun _ => nb) mkB 0 0) (hR : OwnP1 w Y 43 rs (fun _ => nr) mkI 0 0)
    (h1 : nt ≤ 1000000) (h2 : ni ≤ 1000000) (h3 : nb ≤ 1000000) (h4 : nr ≤ 1000000) (l1 : ts.length ≤ 1000000) (l2 : il.length ≤ 1000000) (l3 : bs.length ≤ 2) (l4 : rs.length ≤ 1000000) :
    Calls Try.prog 33 #[.pointer (some ⟨b, 0, none⟩)] w fun e w' => e = .returned (.bool true) ∧ Below Y w w' := by
  have HBl := Lib.hid h.blk
  have HC : Hid (∀ wx : World, wx.heap[b]? = w.heap[b]? → wx.cell? ⟨b, 0, none⟩ = some (.slice none 0 0) ∧ wx.cell? ⟨b, 1, none⟩ = some vt ∧ wx.cell? ⟨b, 2, none⟩ = some vi ∧ wx.cell? ⟨b, 3, none⟩ = some vb ∧ wx.cell? ⟨b, 4, none⟩ = some (.slice none 0 0) ∧ wx.cell? ⟨b, 5, none⟩ = some (.slice none 0 0) ∧ wx.cell? ⟨b, 6, none⟩ = some (.slice none 0 0) ∧ wx.cell? ⟨b, 7, none⟩ = some (.slice none 0 0) ∧ wx.cell? ⟨b, 8, none⟩ = some (.slice none 0 0) ∧ wx.cell? ⟨b, 9, none⟩ = some (.slice none 0 0) ∧ wx.cell? ⟨b, 10, none⟩ = some vr ∧ wx.cell? ⟨b, 11, none⟩ = some (.slice none 0 0) ∧ wx.cell? ⟨b, 12, none⟩ = some (.slice none 0 0)) := Lib.hid fun wx hx => by
    rw [HBl.out] at hx
    refine ⟨?_, ?_, ?_, ?_, ?_, ?_, ?_, ?_, ?_, ?_, ?_, ?_, ?_⟩ <;> simp [World.cell?, hx, nilS]
  have hT1 := own_texts h.t hT (fun _ _ => h1) l1 hY
  have hI1 : ∀ w2, Only 9 Y w w2 → Calls Try.prog 80 #[vi] w2 fun e w' => e = .returned (.bool true) ∧ Only 3 Y w2 w' := fun w2 ho => own_ints (own_over h.i (fun k c fr hk => ho.far _ _ _ _ hk (by decide))) (own1_over hI (fun k c fr hk => ho.far _ _ _ _ hk (by decide))) (fun _ _ => h2) l2 (Nat.le_trans hY ho.bel.size)
  have hO1 : ∀ w2 w3, Only 9 Y w w2 → Only 3 Y w2 w3 → Calls Try.prog 81 #[vb] w3 fun e w' => e = .returned (.bool true) ∧ Only 4 Y w3 w' := fun w2 w3 ho hp => own_bools (own_over h.o (fun k c fr hk => hp.far _ _ _ _ (ho.far _ _ _ _ hk (by decide)) (by decide))) (own1_over hO (fun k c fr hk => hp.far _ _ _ _ (ho.far _ _ _ _ hk (by decide)) (by decide))) (fun _ _ => h3) l3 (Nat.le_trans hY (Nat.le_trans ho.bel.size hp.bel.size))
  have hR1 : ∀ w2 w3 w4, Only 9 Y w w2 → Only 3 Y w2 w3 → Only 4 Y w3 w4 → Calls Try.prog 88 #[vr] w4 fun e w' => e = .returned (.bool true) ∧ Only 43 Y w4 w' := fun w2 w3 w4 ho hp hq => own_rows (own_over h.r (fun k c fr hk => hq.far _ _ _ _ (hp.far _ _ _ _ (ho.far _ _ _ _ hk (by decide)) (by decide)) (by decide))) ⟨_, own1_over hR (fun k c fr hk => hq.far _ _ _ _ (hp.far _ _ _ _ (ho.far _ _ _ _ hk (by decide)) (by decide)) (by decide)), fun i k hk => (by unfold bdP at hk; rw [if_neg (Nat.not_lt_zero _), ite_self] at hk; exact absurd hk (Nat.not_lt_zero _))⟩ (fun _ _ => h4) l4 (Nat.le_trans hY (Nat.le_trans ho.bel.size (Nat.le_trans hp.bel.size hq.bel.size)))
  have HT1 := Lib.hid hT1
  have HI1 := Lib.hid hI1
  have HO1 := Lib.hid hO1
  have HR1 := Lib.hid hR1
  obtain ⟨at0, ct0, rfl⟩ := own_val h.t
  obtain ⟨ai0, ci0, rfl⟩ := own_val h.i
  obtain ⟨ao0, co0, rfl⟩ := own_val h.o
  obtain ⟨ar0, cr0, rfl⟩ := own_val h.r
  obtain ⟨c0, c1, c2, c3, c4, c5, c6, c7, c8, c9, c10, c11, c12⟩ := HC.out w rfl
  clear h hT1 hI1 hO1 hR1 hT hI hO hR
  go_enter Try.func33, Try.ntmps33
  go_wp2_with (first
    | (go_at_call 78; refine (ownnil_bytes w).mono ?_; rintro e w1 ⟨rfl, rfl⟩)
    | (go_at_call 79; refine HT1.out.mono ?_; rintro e w2 ⟨rfl, ho2⟩; have hb2 := (ho2.far _ _ _ _ HBl.out (by decide)).trans HBl.out.symm; obtain ⟨-, -, x2, -⟩ := HC.out w2 hb2; have HB2 := Lib.hid hb2; clear hb2)
    | (go_at_call 80; refine (HI1.out _ ho2).mono ?_; rintro e w3 ⟨rfl, ho3⟩; have hb3 := (ho3.far _ _ _ _ (HB2.out.trans HBl.out) (by decide)).trans HBl.out.symm; obtain ⟨-, -, -, x3, -⟩ := HC.out w3 hb3; have HB3 := Lib.hid hb3; clear hb3)
    | (go_at_call 81; refine (HO1.out _ _ ho2 ho3).mono ?_; rintro e w4 ⟨rfl, ho4⟩; have hb4 := (ho4.far _ _ _ _ (HB3.out.trans HBl.out) (by decide)).trans HBl.out.symm; obtain ⟨-, -, -, -, x4, x5, x6, x7, x8, x9, x10, -⟩ := HC.out w4 hb4; have HB4 := Lib.hid hb4; clear hb4)
    | (go_at_call 82; refine (ownnil_letters w4).mono ?_; rintro e wz ⟨rfl, rfl⟩)
    | (go_at_call 83; refine (ownnil_edges w4).mono ?_; rintro e wz ⟨rfl, rfl⟩)
    | (go_at_call 84; refine (ownnil_tokens w4).mono ?_; rintro e wz ⟨rfl, rfl⟩)
    | (go_at_call 85; refine (ownnil_verdicts w4).mono ?_; rintro e wz ⟨rfl, rfl⟩)
    | (go_at_call 86; refine (ownnil_alarms w4).mono ?_; rintro e wz ⟨rfl, rfl⟩)
    | (go_at_call 87; refine (ownnil_slices w4).mono ?_; rintro e wz ⟨rfl, rfl⟩)
    | (go_at_call 88; refine (HR1.out _ _ _ ho2 ho3 ho4).mono ?_; rintro e w5 ⟨rfl, ho5⟩; have hb5 := (ho5.far _ _ _ _ (HB4.out.trans HBl.out) (by decide)).trans HBl.out.symm; obtain ⟨-, -, -, -, -, -, -, -, -, -, -, x11, x12⟩ := HC.out w5 hb5)
    | (go_at_call 89; refine (ownnil_words w5).mono ?_; rintro e wz ⟨rfl, rfl⟩)
    | (go_at_call 90; refine (ownnil_formulas w5).mono ?_; rintro e wz ⟨rfl, rfl⟩))
  go_ret
  exact ⟨rfl, ((ho2.bel.trans ho3.bel).trans ho4.bel).trans ho5.bel⟩
end Go.Proofs.Ytcdepblajobemaa
namespace Go.Proofs.Ytcdepblajobemaa
open Go.RowKit

theorem Below.fr {Y : Nat} {w w' : World} (h : Below Y w w') : Fr (fun k => Y ≤ k) w w' := ⟨h.os, h.tape, h.output, h.size, fun k _ hn => h.block k (Nat.not_le.1 hn)⟩
theorem BuiltAt.below {Z Y : Nat} {w w' : World} {vp vn vl : Value} {us : List Value} {P : List ByteArray} {R : List (List Int)} {B : List Bool} (h : BuiltAt Z w vp vn vl us P R B) (hl : LimB Y vp vn vl us) (hb : Below Y w w') : BuiltAt Z w' vp vn vl us P R B :=
  h.keptS (Below.fr hb) (fun b e hs => absurd (hl.p b e) (Nat.not_lt.2 hs)) (fun b e hs => absurd (hl.n b e) (Nat.not_lt.2 hs)) (fun b e hs => absurd (hl.b b e) (Nat.not_lt.2 hs)) (fun k hk b e hs => absurd (hl.u k hk b e) (Nat.not_lt.2 hs))
theorem BookAt.base {w : World} {Y Z b : Nat} {vt vi vb vr : Value} {ts il bs rs : List Value} (h : BookAt w Y b vt vi vb vr ts il bs rs) (hz : Z ≤ Y) : BookAt w Z b vt vi vb vr ts il bs rs := ⟨h.blk, own_base h.t hz, own_base h.i hz, own_base h.o hz, own_base h.r hz⟩
theorem own1_of {w : World} {Y e n : Nat} {vs : List Value} {mk : Nat → Nat → Value} (h : ∀ i, i < vs.length → ∃ xs, w.ownsRow Y e 1 (vs.getD i default) n xs) (hs : ∀ i j, i < vs.length → j < vs.length → i < j → Sep (vs.getD i default) (vs.getD j default)) : OwnP1 w Y e vs (fun _ => n) mk 0 0 :=
  ⟨fun i hi => by obtain ⟨xs, hx⟩ := h i hi; exact ⟨xs, hx, fun k hk => absurd hk (by rw [if_neg (Nat.not_lt_zero _), ite_self]; exact Nat.not_lt_zero _)⟩, fun i j hi hj hij => by
    rcases Nat.lt_or_gt_of_ne hij with h1 | h1
    · exact hs i j hi hj h1
    · exact (hs j i hj hi h1).symm⟩
theorem own1_two {w : World} {Y e n : Nat} {v u : Value} {xs ys : List Value} {mk : Nat → Nat → Value} (h : w.ownsRow Y e 1 v n xs) (k : w.ownsRow Y e 1 u n ys) (hs : Sep v u) : OwnP1 w Y e (([] ++ [v]) ++ [u]) (fun _ => n) mk 0 0 := by
  refine own1_of (fun i hi => ?_) (fun i j hi hj hij => ?_)
  · have hi2 : i < 2 := hi
    rcases (show i = 0 ∨ i = 1 by omega) with rfl | rfl
    · exact ⟨_, h⟩
    · exact ⟨_, k⟩
  · have hj2 : j < 2 := hj
    obtain rfl : i = 0 := by omega
    obtain rfl : j = 1 := by omega
    exact hs
theorem sep_lim {v u : Value} {Z : Nat} (h : ∀ b, v.ownBlock = some b → b < Z) (k : ∀ b, u.ownBlock = some b → Z ≤ b) : Sep v u := fun b hb e => by have := h b hb; have := k b e; omega
theorem getD_left {α : Type} {l m : List α} {d : α} {i : Nat} (h : i < l.length) : (l ++ m).getD i d = l.getD i d := by
  rw [List.getD_eq_getElem?_getD, List.getElem?_append_left h, ← List.getD_eq_getElem?_getD]
theorem getD_right {α : Type} {l m : List α} {d : α} {i : Nat} (h : l.length ≤ i) : (l ++ m).getD i d = m.getD (i - l.length) d := by
  rw [List.getD_eq_getElem?_getD, List.getElem?_append_right h, ← List.getD_eq_getElem?_getD]
theorem built_ints {Z ZB m : Nat} {w : World} {dp dn dl bp bn bl : Value} {du bu : List Value} {D : Dfa} {mk : Nat → Nat → Value} (hD : BuiltAt Z w dp dn dl du D.P D.R D.B) (hl : LimB ZB dp dn dl du) (hB : BuiltAt ZB w bp bn bl bu D.P D.R D.B) (hz : Z ≤ ZB) (ho : ResOk D m) : OwnP1 w Z 3 (([] ++ du) ++ bu) (fun _ => m) mk 0 0 := by
  have hu := hD.u
  have hv := hB.u
  rw [List.nil_append]
  have hB2 : ∀ i, i < bu.length → ∀ b, (bu.getD i default).ownBlock = some b → ZB ≤ b := fun i hi b hb => ((hB.each i (by omega)).lt b hb).1
  refine own1_of (fun i hi => ?_) (fun i j hi hj hij => ?_)
  · rw [List.length_append] at hi
    by_cases c : i < du.length
    · rw [getD_left c]
      have := hD.each i (by omega)
      rw [ho.row i (by omega)] at this
      exact ⟨_, this⟩
    · rw [getD_right (by omega)]
      have := own_base (hB.each (i - du.length) (by omega)) hz
      rw [ho.row _ (by omega)] at this
      exact ⟨_, this⟩
  · rw [List.length_append] at hi hj
    by_cases c : j < du.length
    · rw [getD_left c, getD_left (by omega)]
      exact hD.sep i j (by omega) c (by omega)
    · rw [getD_right (l := du) (m := bu) (d := default) (i := j) (by omega)]
      by_cases c2 : i < du.length
      · rw [getD_left c2]
        exact sep_lim (hl.u i c2) (hB2 _ (by omega))
      · rw [getD_right (l := du) (m := bu) (d := default) (i := i) (by omega)]
        exact hB.sep _ _ (by omega) (by omega) (by omega)
/-- The book asked of two automata. -/
theorem own_pair {Z ZB m Y b : Nat} {w : World} {dp dn dl bp bn bl vt vi vb vr : Value} {du bu : List Value} {D : Dfa} (h : BookAt w Y b vt vi vb vr (([] ++ [dp]) ++ [bp]) (([] ++ du) ++ bu) (([] ++ [dl]) ++ [bl]) (([] ++ [dn]) ++ [bn])) (hZY : Z ≤ Y) (hY : Z ≤ w.heap.size) (hD : BuiltAt Z w dp dn dl du D.P D.R D.B) (hl : LimB ZB dp dn dl du) (hB : BuiltAt ZB w bp bn bl bu D.P D.R D.B) (hz : Z ≤ ZB) (ho : ResOk D m) :
    Calls Try.prog 33 #[.pointer (some ⟨b, 0, none⟩)] w fun e w' => e = .returned (.bool true) ∧ Below Z w w' :=
  book_own (nt := D.P.length) (ni := m) (nb := D.B.length) (nr := D.R.length) (h.base hZY) hY
    (own1_two hD.p (own_base hB.p hz) (sep_lim hl.p (fun b hb => (hB.p.lt b hb).1)))
    (built_ints hD hl hB hz ho)
    (own1_two hD.b (own_base hB.b hz) (sep_lim hl.b (fun b hb => (hB.b.lt b hb).1)))
    (own1_two hD.n (own_base hB.n hz) (sep_lim hl.n (fun b hb => (hB.n.lt b hb).1)))
    (by have := ho.p; omega) (by have := ho.le; omega) (by have := ho.b; omega) (by have := ho.r; omega) (by simp)
    (by have h1 := hD.u; have h2 := hB.u; have := ho.r; simp; omega) (by simp) (by simp)
end Go.Proofs.Ytcdepblajobemaa
namespace Go.Proofs.Ytcdepblajobemaa
open Go
section
variable {P : Program} {ops : Array Oper} {Q : Exit → Act → World → Prop} {md : Region.Mode} {R S : World → Prop} {Z : List Nat}

/-- None of the late ones has come up. -/
def Early (Z : List Nat) (ls : Array Bool) : Prop := ∀ z ∈ Z, ls.getD z true = false
/-- Whatever order is picked; behind each operation R holds, and S as long as none of Z has come up. -/
def AnyL (P : Program) (md : Region.Mode) (ops : Array Oper) (Q : Exit → Act → World → Prop) (R S : World → Prop) (Z : List Nat) : Nat → Array Bool → Act → World → Prop
  | 0, ls, a, w => Region.ready md ops ls = [] ∧ Q .normal a w
  | n + 1, ls, a, w => (Region.ready md ops ls = [] → Q .normal a w) ∧ ∀ j ∈ Region.ready md ops ls, wpOp P ops Q j (fun a' w' => (R w' ∧ (Early Z (ls.setIfInBounds j true) → S w')) ∧ AnyL P md ops Q R S Z n (ls.setIfInBounds j true) a' w') a w
theorem AnyL.any : ∀ (n : Nat) (ls : Array Bool) (a : Act) (w : World), AnyL P md ops Q R S Z n ls a w → wpAny P md ops Q n ls a w
  | 0, _, _, _, h => h
  | n + 1, _, _, _, h => ⟨h.1, fun j hj => wpOp_mono (fun a' w' h' => AnyL.any n _ a' w' h'.2) (h.2 j hj)⟩
theorem Early.of {ls : Array Bool} {i : Nat} (h : Early Z (ls.setIfInBounds i true)) : Early Z ls := fun z hz => by
  have h1 := h z hz
  by_cases e : i = z
  · subst e
    rcases Nat.lt_or_ge i ls.size with h' | h'
    · simp [h'] at h1
    · simp at h1
  · rw [getD_set_ne true e] at h1
    exact h1
theorem Early.put {ls : Array Bool} {i : Nat} (h : Early Z ls) (hi : i ∉ Z) : Early Z (ls.setIfInBounds i true) := fun z hz => by
  rw [getD_set_ne true (show i ≠ z from fun e => hi (by rw [e]; exact hz))]
  exact h z hz
/-- Does operation j wait for operation i? -/
def waitsB (md : Region.Mode) (ops : Array Oper) (i j : Nat) : Bool := match ops[j]? with
  | some o => o.after.any fun e => Region.binds md e && e.on == i
  | none => false
theorem waits_not {ls : Array Bool} {i j : Nat} (h : waitsB md ops i j = true) (hi : i ∈ Region.ready md ops ls) : j ∉ Region.ready md ops ls := by
  intro hj
  obtain ⟨_, o, ho, hall⟩ := mem_ready.1 hj
  unfold waitsB at h
  rw [ho] at h
  obtain ⟨e, he, hb⟩ := Array.any_eq_true'.1 h
  rw [Bool.and_eq_true, beq_iff_eq] at hb
  have h1 := hall e he hb.1
  have h0 := (mem_ready.1 hi).1
  rw [hb.2] at h1
  rcases Nat.lt_or_ge i ls.size with h' | h'
  · simp [h'] at h0 h1
    rw [h0] at h1
    cases h1
  · simp [Array.getElem?_eq_none h'] at h1
theorem AnyL.firstW {i : Nat} {oi : Oper} {v : Value} (hi : ops[i]? = some oi) (hsel : ∀ (j : Nat) (o : Oper) cs b, ops[j]? = some o → o.op ≠ .select cs b)
    (hQ : ∀ c a w, Q (.panic c) (a.put oi.dst v) w → Q (.panic c) a w) (hiZ : i ∉ Z) :
    ∀ (n : Nat) (ls : Array Bool) (a : Act) (w : World), 
      (∀ j oj, ops[j]? = some oj → j ≠ i → ls.getD j true = false → (∀ e ∈ oj.after, Region.binds md e = true → e.on ≠ i) → oi.apart ops oj = true) →
      i ∈ Region.ready md ops ls → YieldsIf P ops R oi v a → R w ∧ (Early Z ls → S w) → AnyL P md ops Q R S Z n (ls.setIfInBounds i true) (a.put oi.dst v) w → AnyL P md ops Q R S Z (n + 1) ls a w
  | 0, ls, a, w, hf, hr, hy, hS, H => ⟨fun h => (by rw [h] at hr; cases hr), fun j hj => by
      by_cases e : j = i
      · subst e
        exact hy.wpOp hi hS.1 ⟨⟨hS.1, fun h => hS.2 h.of⟩, H⟩
      · have h1 := ready_mono hj e
        rw [H.1] at h1
        cases h1⟩
  | n + 1, ls, a, w, hf, hr, hy, hS, H => ⟨fun h => (by rw [h] at hr; cases hr), fun j hj => by
      by_cases e : j = i
      · subst e
        exact hy.wpOp hi hS.1 ⟨⟨hS.1, fun h => hS.2 h.of⟩, H⟩
      · have h1 := H.2 j (ready_mono hj e)
        obtain ⟨hun, oj, hoj, hall⟩ := mem_ready.1 hj
        have hno : ∀ x ∈ oj.after, Region.binds md x = true → x.on ≠ i := fun x hx hb he => by
          refine waits_not (md := md) (ops := ops) (i := i) (j := j) ?_ hr hj
          unfold waitsB
          rw [hoj]
          exact Array.any_eq_true'.2 ⟨x, hx, by rw [Bool.and_eq_true, beq_iff_eq]; exact ⟨hb, he⟩⟩
        have h2 := wpOp_putIf hoj (hf j oj hoj e hun hno) (fun cs b => hsel i oi cs b hi) (fun cs b => hsel j oj cs b hoj) hQ hy h1
        refine wpOp_mono (fun a' w' h3 => ?_) h2
        have hS' : Early Z (ls.setIfInBounds j true) → S w' := fun h4 => by
          refine h3.2.1.2 ?_
          rw [Array.setIfInBounds_comm _ _ (Ne.symm e)]
          exact h4.put hiZ
        refine ⟨⟨h3.2.1.1, hS'⟩, AnyL.firstW hi hsel hQ hiZ n (ls.setIfInBounds j true) a' w' (fun k ok hk hki hku hkn => hf k ok hk hki ?_ hkn) (ready_mono hr (Ne.symm e)) h3.1 ⟨h3.2.1.1, hS'⟩ ?_⟩
        · by_cases ejk : j = k
          · subst ejk
            exact hun
          · rw [getD_set_ne true ejk] at hku
            exact hku
        · rw [Array.setIfInBounds_comm _ _ e]
          exact h3.2.2⟩
theorem AnyL.firstL {i : Nat} {oi : Oper} {v : Value} (hi : ops[i]? = some oi) (hsel : ∀ (j : Nat) (o : Oper) cs b, ops[j]? = some o → o.op ≠ .select cs b)
    (hQ : ∀ c a w, Q (.panic c) (a.put oi.dst v) w → Q (.panic c) a w) (hiZ : i ∉ Z) (hZ : ∀ j ∈ Z, waitsB md ops i j = true) :
    ∀ (n : Nat) (ls : Array Bool) (a : Act) (w : World), Early Z ls →
      (∀ j oj, ops[j]? = some oj → j ≠ i → ls.getD j true = false → (∀ e ∈ oj.after, Region.binds md e = true → e.on ≠ i) → oi.apart ops oj = true) →
      i ∈ Region.ready md ops ls → YieldsIf P ops (fun w => R w ∧ S w) oi v a → R w ∧ (Early Z ls → S w) → AnyL P md ops Q R S Z n (ls.setIfInBounds i true) (a.put oi.dst v) w → AnyL P md ops Q R S Z (n + 1) ls a w
  | 0, ls, a, w, hE, hf, hr, hy, hS, H => ⟨fun h => (by rw [h] at hr; cases hr), fun j hj => by
      by_cases e : j = i
      · subst e
        exact hy.wpOp hi ⟨hS.1, hS.2 hE⟩ ⟨⟨hS.1, fun h => hS.2 h.of⟩, H⟩
      · have h1 := ready_mono hj e
        rw [H.1] at h1
        cases h1⟩
  | n + 1, ls, a, w, hE, hf, hr, hy, hS, H => ⟨fun h => (by rw [h] at hr; cases hr), fun j hj => by
      by_cases e : j = i
      · subst e
        exact hy.wpOp hi ⟨hS.1, hS.2 hE⟩ ⟨⟨hS.1, fun h => hS.2 h.of⟩, H⟩
      · have h1 := H.2 j (ready_mono hj e)
        obtain ⟨hun, oj, hoj, hall⟩ := mem_ready.1 hj
        have hno : ∀ x ∈ oj.after, Region.binds md x = true → x.on ≠ i := fun x hx hb he => by
          refine waits_not (md := md) (ops := ops) (i := i) (j := j) ?_ hr hj
          unfold waitsB
          rw [hoj]
          exact Array.any_eq_true'.2 ⟨x, hx, by rw [Bool.and_eq_true, beq_iff_eq]; exact ⟨hb, he⟩⟩
        have h2 := wpOp_putIf hoj (hf j oj hoj e hun hno) (fun cs b => hsel i oi cs b hi) (fun cs b => hsel j oj cs b hoj) hQ hy h1
        refine wpOp_mono (fun a' w' h3 => ?_) h2
        have hS' : Early Z (ls.setIfInBounds j true) → S w' := fun h4 => by
          refine h3.2.1.2 ?_
          rw [Array.setIfInBounds_comm _ _ (Ne.symm e)]
          exact h4.put hiZ
        refine ⟨⟨h3.2.1.1, hS'⟩, AnyL.firstL hi hsel hQ hiZ hZ n (ls.setIfInBounds j true) a' w' (hE.put fun hjz => waits_not (hZ j hjz) hr hj) (fun k ok hk hki hku hkn => hf k ok hk hki ?_ hkn) (ready_mono hr (Ne.symm e)) h3.1 ⟨h3.2.1.1, hS'⟩ ?_⟩
        · by_cases ejk : j = k
          · subst ejk
            exact hun
          · rw [getD_set_ne true ejk] at hku
            exact hku
        · rw [Array.setIfInBounds_comm _ _ e]
          exact h3.2.2⟩
theorem AnyL.takeW {i : Nat} {oi : Oper} {v : Value} {n : Nat} {ls : Array Bool} {a : Act} {w : World} (hi : ops[i]? = some oi) (hs : Region.noSelect ops = true) (hf : Region.free md ops ls i = true) (hr : (Region.ready md ops ls).contains i = true)
    (hZ : Z.contains i = false) (hQ : ∀ c a w, Q (.panic c) (a.put oi.dst v) w → Q (.panic c) a w) (hy : YieldsIf P ops R oi v a) (hR : R w) (hS : Early Z ls → S w)
    (h : AnyL P md ops Q R S Z n (ls.setIfInBounds i true) (a.put oi.dst v) w) : AnyL P md ops Q R S Z (n + 1) ls a w :=
  AnyL.firstW hi (Region.noSelect_spec hs) hQ (by simpa using hZ) n ls a w (Region.free_spec hi hf) (by simpa using hr) hy ⟨hR, hS⟩ h
theorem AnyL.takeL {i : Nat} {oi : Oper} {v : Value} {n : Nat} {ls : Array Bool} {a : Act} {w : World} (hi : ops[i]? = some oi) (hs : Region.noSelect ops = true) (hf : Region.free md ops ls i = true) (hr : (Region.ready md ops ls).contains i = true)
    (hZ : (!Z.contains i && Z.all fun j => waitsB md ops i j && !(ls.getD j true)) = true) (hQ : ∀ c a w, Q (.panic c) (a.put oi.dst v) w → Q (.panic c) a w) (hy : YieldsIf P ops (fun w => R w ∧ S w) oi v a) (hR : R w) (hS : S w)
    (h : AnyL P md ops Q R S Z n (ls.setIfInBounds i true) (a.put oi.dst v) w) : AnyL P md ops Q R S Z (n + 1) ls a w := by
  rw [Bool.and_eq_true, List.all_eq_true] at hZ
  refine AnyL.firstL hi (Region.noSelect_spec hs) hQ (by simpa using hZ.1) (fun j hj => ?_) n ls a w (fun z hz => ?_) (Region.free_spec hi hf) (by simpa using hr) hy ⟨hR, fun _ => hS⟩ h
  · have := hZ.2 j hj
    rw [Bool.and_eq_true] at this
    exact this.1
  · have := hZ.2 z hz
    rw [Bool.and_eq_true] at this
    simpa using this.2
theorem AnyL.done {ls : Array Bool} {a : Act} {w : World} (hr : Region.ready md ops ls = []) (h : Q .normal a w) : ∀ n, AnyL P md ops Q R S Z n ls a w
  | 0 => ⟨hr, h⟩
  | _ + 1 => ⟨fun _ => h, by rw [hr]; simp⟩
/-- One operation alone may come up, a late one: it is carried out. -/
theorem AnyL.one {i n : Nat} {ls : Array Bool} {a : Act} {w : World} {o : Oper} (hr : Region.ready md ops ls = [i]) (ho : ops[i]? = some o) (hiZ : Z.contains i = true)
    (h : ∀ K : Act → World → Prop, Shut (∀ a w, R w → AnyL P md ops Q R S Z n (ls.setIfInBounds i true) a w → K a w) → if Region.wanted o (yielded ops a.tmps) = true then Oper.wp P o a w K Q else K (a.put o.dst undef) w) : AnyL P md ops Q R S Z (n + 1) ls a w :=
  ⟨(fun h0 => by rw [hr] at h0; cases h0), fun j hj => by
    have hj1 : j ∈ Region.ready md ops ls := hj
    rw [hr, List.mem_singleton] at hj
    subst hj
    refine wpOp_step ho (fun K hK => h K (fun a w hR hW => hK a w ⟨⟨hR, fun hE => ?_⟩, hW⟩))
    have h1 := hE j (by simpa using hiZ)
    rcases Nat.lt_or_ge j ls.size with h' | h'
    · simp [h'] at h1
    · simp at h1⟩
theorem region_late {id : Nat} {a : Act} {w : World} (hm : P.follows .mixedOrders = true) (h : AnyL P .any ops Q R S Z ops.size (Array.replicate ops.size false) a w.drew) : (Code.region id ops true).wp P Q a w :=
  wp_region_any hm (AnyL.any _ _ _ _ h)
end
end Go.Proofs.Ytcdepblajobemaa
