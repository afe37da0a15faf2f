/- The book: verdicts put into it, and asked. -/
import Derived.Test.YtpehmlkikhkmfaaOwnVerdicts
import Derived.Test.YtpehmlkikhkmfaaOwnNil
namespace Go.Proofs.Ytpehmlkikhkmfaa
open Go.RowKit

def nilS : Value := .slice none 0 0
/-- A book that holds lists of verdicts alone. -/
structure BookAt (w : World) (Y b : Nat) (v : Value) (vs : List Value) : Prop where
  blk : w.heap[b]? = some (.cells #[nilS, nilS, nilS, nilS, nilS, nilS, nilS, v, nilS, nilS, nilS, nilS, nilS] 76 (0, 0))
  row : w.ownsRow Y 25 1 v vs.length vs

theorem book_blk {w w5 : World} {Y n b : Nat} {c : Array Value} {u : Value} {xs : List Value} (hb : w.heap[b]? = some (.cells c 76 (0, 0))) (hu : w.ownsRow Y 25 1 u n xs) (hg : w.grownBy w5 u.ownBlock) : w5.heap[b]? = some (.cells c 76 (0, 0)) := by
  rw [hg.block b (Array.getElem?_eq_some_iff.1 hb).1 (fun e => ?_)]
  · exact hb
  · rcases own_off hu hb (by decide) with h | h
    · rw [h] at e; cases e
    · exact h e.symm
set_option maxRecDepth 100000 in
theorem book_verdicts {w : World} {Y b n cap : Nat} {a : Option Addr} {v : Value} {vs : List Value} (h : BookAt w Y b v vs) (hY : Y ≤ w.heap.size) (hb : Y ≤ b) (hs : vs.length ≤ 1000000) :
    Calls Try.prog 26 #[.pointer (some ⟨b, 0, none⟩), .slice a n cap] w fun e w' => e = .returned (.tuple #[]) ∧ (∃ v', BookAt w' Y b v' (vs ++ [.slice a n cap])) ∧ Below Y w w' := by
  obtain ⟨i1, hi1, hz0b, hz1b, hz2b⟩ := info_parts Try.info25
  obtain ⟨av, cv, rfl⟩ := own_val h.row
  have c7 : w.cell? ⟨b, 7, none⟩ = some (.slice av vs.length cv) := by simp [World.cell?, h.blk]
  have f7 : w.frozen? ⟨b, 7, none⟩ = false := by simp [World.frozen?, h.blk]
  have hga := World.grownBy_alloc w (.cells #[.slice a n cap] 25) none
  have HLA := Lib.hid (h.row.kept hga (Classical.em _))
  go_enter Try.func26, Try.ntmps26
  have hb0 := hga.block b (Array.getElem?_eq_some_iff.1 h.blk).1 (by simp)
  rw [h.blk] at hb0
  have HB0 := Lib.hid hb0
  have HY1 := hga.size
  clear hb0
  go_wp2_with (at_builtin; refine wpList_append_lies _ rfl (.tmp 8) (.tmp 10) 69 rfl Y 25 i1 (.slice none 0 0) 1 24 Try.underlying69 hi1 hz0b hz1b hz2b rfl (by decide) (.slice av vs.length cv) vs.length vs rfl HLA.out ⟨w.heap.size, 0, none⟩ 1 1 [.slice a n cap] rfl rfl (cell_one_new _ _ _) (by simp [Value.oneCell']) (by decide) (by unfold maxLen; omega) (by omega) (by rw [World.size_alloc]; omega) _ rfl ?_; intro g5 cap5 w5 hown5 hgr5 hat5 hlt5; have hb5 := book_blk HB0.out HLA.out hgr5; have c75 : w5.cell? ⟨b, 7, none⟩ = some (.slice av vs.length cv) := (by simp [World.cell?, hb5]); have f75 : w5.frozen? ⟨b, 7, none⟩ = false := (by simp [World.frozen?, hb5]); have HB5 := Lib.hid hb5; have HO5 := Lib.hid hown5; have HG5 := Lib.hid hgr5; clear hb5 hown5 hgr5 hat5 hlt5)
  go_end0
  have hb6 : (w5.setCell ⟨b, 7, none⟩ (.slice (some ⟨g5, 0, none⟩) (vs.length + 1) cap5)).heap[b]? = _ := heap_setCell_same w5 b 7 _ _ (.slice (some ⟨g5, 0, none⟩) (vs.length + 1) cap5) HB5.out
  have hg6 : w5.grownBy (w5.setCell ⟨b, 7, none⟩ (.slice (some ⟨g5, 0, none⟩) (vs.length + 1) cap5)) (some b) := gb_set
  refine ⟨rfl, ⟨_, hb6, ?_⟩, ?_⟩
  · rw [List.length_append, List.length_singleton]
    exact HO5.out.kept hg6 (own_off HO5.out HB5.out (by decide))
  · exact (((Below.refl Y w).grown hga hY (fun _ e => by cases e)).grown HG5.out (by omega) (fun k e => (HLA.out.lt k e).1)).grown hg6 (by have := HG5.out.size; omega) (fun k e => by cases e; exact hb)

set_option maxRecDepth 100000 in
set_option maxHeartbeats 4000000 in
theorem book_own {w : World} {Y b : Nat} {v : Value} {vs : List Value} {ns : Nat → Nat} (h : BookAt w Y b v vs) (hP : OwnP1 w Y 59 vs ns mkV 0 0) (hn : ∀ i, i < vs.length → ns i ≤ 1000000) (hm : vs.length ≤ 1000000) (hY : Y ≤ w.heap.size) :
    Calls Try.prog 27 #[.pointer (some ⟨b, 0, none⟩)] w fun e w' => e = .returned (.bool true) ∧ Only 59 Y w w' := by
  have c0 : w.cell? ⟨b, 0, none⟩ = some (.slice none 0 0) := by simp [World.cell?, h.blk, nilS]
  have c1 : w.cell? ⟨b, 1, none⟩ = some (.slice none 0 0) := by simp [World.cell?, h.blk, nilS]
  have c2 : w.cell? ⟨b, 2, none⟩ = some (.slice none 0 0) := by simp [World.cell?, h.blk, nilS]
  have c3 : w.cell? ⟨b, 3, none⟩ = some (.slice none 0 0) := by simp [World.cell?, h.blk, nilS]
  have c4 : w.cell? ⟨b, 4, none⟩ = some (.slice none 0 0) := by simp [World.cell?, h.blk, nilS]
  have c5 : w.cell? ⟨b, 5, none⟩ = some (.slice none 0 0) := by simp [World.cell?, h.blk, nilS]
  have c6 : w.cell? ⟨b, 6, none⟩ = some (.slice none 0 0) := by simp [World.cell?, h.blk, nilS]
  have c7 : w.cell? ⟨b, 7, none⟩ = some v := by simp [World.cell?, h.blk]
  have HBl := Lib.hid h.blk
  obtain ⟨av, cv, rfl⟩ := own_val h.row
  have HV := Lib.hid (own_verdicts h.row hP hn hm hY)
  clear h hP hn
  go_enter Try.func27, Try.ntmps27
  go_wp2_with (first
    | (go_at_call 58; refine (ownnil_bytes w).mono ?_; rintro e w1 ⟨rfl, rfl⟩)
    | (go_at_call 59; refine (ownnil_texts w).mono ?_; rintro e w1 ⟨rfl, rfl⟩)
    | (go_at_call 60; refine (ownnil_ints w).mono ?_; rintro e w1 ⟨rfl, rfl⟩)
    | (go_at_call 61; refine (ownnil_bools w).mono ?_; rintro e w1 ⟨rfl, rfl⟩)
    | (go_at_call 62; refine (ownnil_letters w).mono ?_; rintro e w1 ⟨rfl, rfl⟩)
    | (go_at_call 63; refine (ownnil_edges w).mono ?_; rintro e w1 ⟨rfl, rfl⟩)
    | (go_at_call 64; refine (ownnil_tokens w).mono ?_; rintro e w1 ⟨rfl, rfl⟩)
    | (go_at_call 65; refine HV.out.mono ?_; rintro e w2 ⟨rfl, ho⟩; have hb2 := ho.far _ _ _ _ HBl.out (by decide); have d8 : w2.cell? ⟨b, 8, none⟩ = some (.slice none 0 0) := (by simp [World.cell?, hb2, nilS]); have d9 : w2.cell? ⟨b, 9, none⟩ = some (.slice none 0 0) := (by simp [World.cell?, hb2, nilS]); have d10 : w2.cell? ⟨b, 10, none⟩ = some (.slice none 0 0) := (by simp [World.cell?, hb2, nilS]); have d11 : w2.cell? ⟨b, 11, none⟩ = some (.slice none 0 0) := (by simp [World.cell?, hb2, nilS]); have d12 : w2.cell? ⟨b, 12, none⟩ = some (.slice none 0 0) := (by simp [World.cell?, hb2, nilS]); have HO := Lib.hid ho; clear hb2 ho)
    | (go_at_call 66; refine (ownnil_alarms w2).mono ?_; rintro e w3 ⟨rfl, rfl⟩)
    | (go_at_call 67; refine (ownnil_slices w2).mono ?_; rintro e w3 ⟨rfl, rfl⟩)
    | (go_at_call 68; refine (ownnil_rows w2).mono ?_; rintro e w3 ⟨rfl, rfl⟩)
    | (go_at_call 69; refine (ownnil_words w2).mono ?_; rintro e w3 ⟨rfl, rfl⟩)
    | (go_at_call 70; refine (ownnil_formulas w2).mono ?_; rintro e w3 ⟨rfl, rfl⟩))
  go_ret
  exact ⟨rfl, HO.out⟩
end Go.Proofs.Ytpehmlkikhkmfaa
