/- The book: tokens put into it, and asked. -/
import Derived.Test.YtlmpeddacadfkaaOwnTokens
import Derived.Test.YtlmpeddacadfkaaOwnNil
namespace Go.Proofs.Ytlmpeddacadfkaa
open Go.RowKit

def nilS : Value := .slice none 0 0
/-- A book that holds lists of tokens alone. -/
structure BookAt (w : World) (Y b : Nat) (v : Value) (vs : List Value) : Prop where
  blk : w.heap[b]? = some (.cells #[nilS, nilS, nilS, nilS, nilS, nilS, v, nilS, nilS, nilS, nilS, nilS, nilS] 42 (0, 0))
  row : w.ownsRow Y 23 1 v vs.length vs

theorem book_blk {w w5 : World} {Y n b : Nat} {c : Array Value} {u : Value} {xs : List Value} (hb : w.heap[b]? = some (.cells c 42 (0, 0))) (hu : w.ownsRow Y 23 1 u n xs) (hg : w.grownBy w5 u.ownBlock) : w5.heap[b]? = some (.cells c 42 (0, 0)) := by
  rw [hg.block b (Array.getElem?_eq_some_iff.1 hb).1 (fun e => ?_)]
  · exact hb
  · rcases own_offS hu hb (by decide) with h | h
    · rw [h] at e; cases e
    · exact h e.symm
set_option maxRecDepth 100000 in
theorem book_tokens {w : World} {Y b n cap : Nat} {a : Option Addr} {v : Value} {vs : List Value} (h : BookAt w Y b v vs) (hY : Y ≤ w.heap.size) (hb : Y ≤ b) (hs : vs.length ≤ 1000000) :
    Calls Try.prog 15 #[.pointer (some ⟨b, 0, none⟩), .slice a n cap] w fun e w' => e = .returned (.tuple #[]) ∧ (∃ v', BookAt w' Y b v' (vs ++ [.slice a n cap])) ∧ Below Y w w' ∧ (∀ (k : Nat) (c : Array Value) (fr : Nat × Nat), w.heap[k]? = some (.cells c 50 fr) → w'.heap[k]? = some (.cells c 50 fr)) := by
  obtain ⟨i1, hi1, hz0b, hz1b, hz2b⟩ := info_parts Try.info23
  obtain ⟨av, cv, rfl⟩ := own_valS h.row
  have c6 : w.cell? ⟨b, 6, none⟩ = some (.slice av vs.length cv) := by simp [World.cell?, h.blk]
  have f6 : w.frozen? ⟨b, 6, none⟩ = false := by simp [World.frozen?, h.blk]
  have hga := World.grownBy_alloc w (.cells #[.slice a n cap] 23) none
  have HLA := Lib.hid (h.row.kept hga (Classical.em _))
  go_enter Try.func15, Try.ntmps15
  have hb0 := hga.block b (Array.getElem?_eq_some_iff.1 h.blk).1 (by simp)
  rw [h.blk] at hb0
  have HB0 := Lib.hid hb0
  have HY1 := hga.size
  clear hb0
  go_wp2_with (at_builtin; refine wpList_append_lies _ rfl (.tmp 8) (.tmp 10) 34 rfl Y 23 i1 (.slice none 0 0) 1 24 Try.underlying34 hi1 hz0b hz1b hz2b rfl (by decide) (.slice av vs.length cv) vs.length vs rfl HLA.out ⟨w.heap.size, 0, none⟩ 1 1 [.slice a n cap] rfl rfl (cell_one_new _ _ _) (by simp [Value.oneCell']) (by decide) (by unfold maxLen; omega) (by omega) (by rw [World.size_alloc]; omega) _ rfl ?_; intro g5 cap5 w5 hown5 hgr5 hat5 hlt5; have hb5 := book_blk HB0.out HLA.out hgr5; have c65x : w5.cell? ⟨b, 6, none⟩ = some (.slice av vs.length cv) := (by simp [World.cell?, hb5]); have f65x : w5.frozen? ⟨b, 6, none⟩ = false := (by simp [World.frozen?, hb5]); have HB5 := Lib.hid hb5; have HO5 := Lib.hid hown5; have HG5 := Lib.hid hgr5; clear hb5 hown5 hgr5 hat5 hlt5)
  go_end0
  have hb6 : (w5.setCell ⟨b, 6, none⟩ (.slice (some ⟨g5, 0, none⟩) (vs.length + 1) cap5)).heap[b]? = _ := heap_setCell_same w5 b 6 _ _ (.slice (some ⟨g5, 0, none⟩) (vs.length + 1) cap5) HB5.out
  have hg6 : w5.grownBy (w5.setCell ⟨b, 6, none⟩ (.slice (some ⟨g5, 0, none⟩) (vs.length + 1) cap5)) (some b) := gb_set
  refine ⟨rfl, ⟨_, hb6, ?_⟩, ?_, fun k c fr hk => ?_⟩
  · rw [List.length_append, List.length_singleton]
    exact HO5.out.kept hg6 (own_offS HO5.out HB5.out (by decide))
  · exact (((Below.refl Y w).grown hga hY (fun _ e => by cases e)).grown HG5.out (by omega) (fun k e => (HLA.out.lt k e).1)).grown hg6 (by have := HG5.out.size; omega) (fun k e => by cases e; exact hb)
  · have h1 := (hga.block k (Array.getElem?_eq_some_iff.1 hk).1 (by simp)).trans hk
    have h2 : w5.heap[k]? = some (.cells c 50 fr) := (HG5.out.block k (Array.getElem?_eq_some_iff.1 h1).1 (fun e => by
      rcases own_offS HLA.out h1 (by decide) with h | h
      · rw [h] at e; cases e
      · exact h e.symm)).trans h1
    exact (hg6.block k (Array.getElem?_eq_some_iff.1 h2).1 (fun e => by
      obtain rfl : k = b := Option.some.inj e
      rw [HB5.out] at h2
      simp only [Option.some.injEq, Obj.cells.injEq] at h2
      exact absurd h2.2.1 (by decide))).trans h2

set_option maxRecDepth 100000 in
set_option maxHeartbeats 4000000 in
theorem book_own {w : World} {Y b : Nat} {v : Value} {vs : List Value} {ns : Nat → Nat} (h : BookAt w Y b v vs) (hP : OwnP1 w Y 50 vs ns mkT 0 0) (hn : ∀ i, i < vs.length → ns i ≤ 30000000) (hm : vs.length ≤ 1000000) (hY : Y ≤ w.heap.size) :
    Calls Try.prog 16 #[.pointer (some ⟨b, 0, none⟩)] w fun e w' => e = .returned (.bool true) ∧ Only 50 Y w w' := by
  have c0 : w.cell? ⟨b, 0, none⟩ = some (.slice none 0 0) := by simp [World.cell?, h.blk, nilS]
  have c1 : w.cell? ⟨b, 1, none⟩ = some (.slice none 0 0) := by simp [World.cell?, h.blk, nilS]
  have c2 : w.cell? ⟨b, 2, none⟩ = some (.slice none 0 0) := by simp [World.cell?, h.blk, nilS]
  have c3 : w.cell? ⟨b, 3, none⟩ = some (.slice none 0 0) := by simp [World.cell?, h.blk, nilS]
  have c4 : w.cell? ⟨b, 4, none⟩ = some (.slice none 0 0) := by simp [World.cell?, h.blk, nilS]
  have c5 : w.cell? ⟨b, 5, none⟩ = some (.slice none 0 0) := by simp [World.cell?, h.blk, nilS]
  have c6 : w.cell? ⟨b, 6, none⟩ = some v := by simp [World.cell?, h.blk]
  have HBl := Lib.hid h.blk
  obtain ⟨av, cv, rfl⟩ := own_valS h.row
  have HV := Lib.hid (own_tokens h.row hP hn hm hY)
  clear h hP hn
  go_enter Try.func16, Try.ntmps16
  go_wp2_with (first
    | (go_at_call 29; refine (ownnil_bytes w).mono ?_; rintro e w1 ⟨rfl, rfl⟩)
    | (go_at_call 30; refine (ownnil_texts w).mono ?_; rintro e w1 ⟨rfl, rfl⟩)
    | (go_at_call 31; refine (ownnil_ints w).mono ?_; rintro e w1 ⟨rfl, rfl⟩)
    | (go_at_call 32; refine (ownnil_bools w).mono ?_; rintro e w1 ⟨rfl, rfl⟩)
    | (go_at_call 33; refine (ownnil_letters w).mono ?_; rintro e w1 ⟨rfl, rfl⟩)
    | (go_at_call 34; refine (ownnil_edges w).mono ?_; rintro e w1 ⟨rfl, rfl⟩)
    | (go_at_call 35; refine HV.out.mono ?_; rintro e w2 ⟨rfl, ho⟩; have hb2 := ho.far _ _ _ _ HBl.out (by decide); have d7 : w2.cell? ⟨b, 7, none⟩ = some (.slice none 0 0) := (by simp [World.cell?, hb2, nilS]); have d8 : w2.cell? ⟨b, 8, none⟩ = some (.slice none 0 0) := (by simp [World.cell?, hb2, nilS]); have d9 : w2.cell? ⟨b, 9, none⟩ = some (.slice none 0 0) := (by simp [World.cell?, hb2, nilS]); have d10 : w2.cell? ⟨b, 10, none⟩ = some (.slice none 0 0) := (by simp [World.cell?, hb2, nilS]); have d11 : w2.cell? ⟨b, 11, none⟩ = some (.slice none 0 0) := (by simp [World.cell?, hb2, nilS]); have d12 : w2.cell? ⟨b, 12, none⟩ = some (.slice none 0 0) := (by simp [World.cell?, hb2, nilS]); have HO := Lib.hid ho; clear hb2 ho)
    | (go_at_call 36; refine (ownnil_verdicts w2).mono ?_; rintro e w3 ⟨rfl, rfl⟩)
    | (go_at_call 37; refine (ownnil_alarms w2).mono ?_; rintro e w3 ⟨rfl, rfl⟩)
    | (go_at_call 38; refine (ownnil_slices w2).mono ?_; rintro e w3 ⟨rfl, rfl⟩)
    | (go_at_call 39; refine (ownnil_rows w2).mono ?_; rintro e w3 ⟨rfl, rfl⟩)
    | (go_at_call 40; refine (ownnil_words w2).mono ?_; rintro e w3 ⟨rfl, rfl⟩)
    | (go_at_call 41; refine (ownnil_formulas w2).mono ?_; rintro e w3 ⟨rfl, rfl⟩))
  go_ret
  exact ⟨rfl, HO.out⟩
theorem book_new (w : World) : BookAt (w.alloc (.cells #[nilS, nilS, nilS, nilS, nilS, nilS, nilS, nilS, nilS, nilS, nilS, nilS, nilS] 42)) w.heap.size w.heap.size nilS [] := ⟨heap_alloc_new w _, World.ownsRow_nil _ _ _ _⟩
/-- One list more, made last. -/
theorem own1_push {w w' : World} {Y e n : Nat} {vs : List Value} {v : Value} {xs : List Value} {mk : Nat → Nat → Nat → Value} (h : OwnP1 w Y e vs (fun _ => n) mk 0 0) (hg : w.grownBy w' none) (hv : w'.ownsRow w.heap.size e 3 v n xs) (hY : Y ≤ w.heap.size) : OwnP1 w' Y e (vs ++ [v]) (fun _ => n) mk 0 0 := by
  have e0 : ∀ i : Nat, (if i < 0 then n else if i = 0 then 0 else 0) = 0 := fun i => by rw [if_neg (Nat.not_lt_zero _), ite_self]
  have hgt : ∀ i, i < (vs ++ [v]).length → (i < vs.length ∧ (vs ++ [v]).getD i default = vs.getD i default) ∨ (i = vs.length ∧ (vs ++ [v]).getD i default = v) := fun i hi => by
    rw [List.length_append, List.length_singleton] at hi
    by_cases c : i < vs.length
    · left; exact ⟨c, by rw [List.getD_eq_getElem?_getD, List.getElem?_append_left c, ← List.getD_eq_getElem?_getD]⟩
    · right
      obtain rfl : i = vs.length := by omega
      exact ⟨rfl, by rw [List.getD_eq_getElem?_getD, List.getElem?_append_right (Nat.le_refl _), Nat.sub_self]; rfl⟩
  have hk := h.kept hg
  have hnew : ∀ i, i < vs.length → Sep (vs.getD i default) v := fun i hi b hb e2 => by
    have h1 := ((h.rows i hi).lt b hb).2
    have h2 := (hv.lt b e2).1
    omega
  refine ⟨fun i hi => ?_, fun i j hi hj hij => ?_⟩
  · rw [e0]
    rcases hgt i hi with ⟨c, e1⟩ | ⟨rfl, e1⟩
    · rw [e1]
      have := hk.rows i c
      rw [e0] at this
      exact this
    · rw [e1]
      refine ⟨xs, ⟨hv.1, ?_⟩, fun k hk => absurd hk (Nat.not_lt_zero _)⟩
      rcases hv.2 with h4 | ⟨g', cap', cur, hvv, hb, hrest⟩
      · exact Or.inl h4
      · exact Or.inr ⟨g', cap', cur, hvv, Nat.le_trans hY hb, hrest⟩
  · rcases hgt i hi with ⟨c, e1⟩ | ⟨rfl, e1⟩
    · rcases hgt j hj with ⟨d, e2⟩ | ⟨rfl, e2⟩
      · rw [e1, e2]; exact h.sep i j c d hij
      · rw [e1, e2]; exact hnew i c
    · rcases hgt j hj with ⟨d, e2⟩ | ⟨rfl, e2⟩
      · rw [e1, e2]; exact (hnew j d).symm
      · exact absurd rfl hij
/-- What turns no such row leaves them. -/
theorem own1_over {w w' : World} {Y e n : Nat} {vs : List Value} {mk : Nat → Nat → Nat → Value} (h : OwnP1 w Y e vs (fun _ => n) mk 0 0) (hf : ∀ (k : Nat) (c : Array Value) (fr : Nat × Nat), w.heap[k]? = some (.cells c e fr) → w'.heap[k]? = some (.cells c e fr)) : OwnP1 w' Y e vs (fun _ => n) mk 0 0 := by
  refine ⟨fun i hi => ?_, h.sep⟩
  obtain ⟨xs, h1, h2⟩ := h.rows i hi
  refine ⟨xs, ⟨h1.1, ?_⟩, h2⟩
  rcases h1.2 with h3 | ⟨g, cap, cur, hv, hb, hg, hrest⟩
  · exact Or.inl h3
  · exact Or.inr ⟨g, cap, cur, hv, hb, hf _ _ _ hg, hrest⟩
theorem own1_nil (w : World) (Y e n : Nat) (mk : Nat → Nat → Nat → Value) : OwnP1 w Y e [] (fun _ => n) mk 0 0 := ⟨fun i hi => absurd hi (Nat.not_lt_zero _), fun i _ hi => absurd hi (Nat.not_lt_zero _)⟩
end Go.Proofs.Ytlmpeddacadfkaa
