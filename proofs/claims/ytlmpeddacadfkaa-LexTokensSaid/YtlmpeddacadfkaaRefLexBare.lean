/- Lex: the document's token at a letter. -/
import Derived.Test.YtlmpeddacadfkaaRefLexPart
namespace Go.Proofs.Ytlmpeddacadfkaa
open Go.RowKit

/-- The token that is made ahead of IsWord stands behind it. -/
theorem bare_box {w w3 : World} {x : ByteArray} {p : Nat} (hg3 : ((w.alloc (.cells #[.int .u8 0, .string ⟨#[]⟩, .int .i64 0] 50)).alloc (.cells #[.int .u8 2, .string x, .int .i64 (p : Int)] 50)).grownBy w3 none) : w3.heap[w.heap.size + 1]? = some (.cells #[.int .u8 2, .string x, .int .i64 (p : Int)] 50 (0, 0)) := by
  have e := heap_alloc_new (w.alloc (.cells #[.int .u8 0, .string ⟨#[]⟩, .int .i64 0] 50)) (.cells #[.int .u8 2, .string x, .int .i64 (p : Int)] 50)
  rw [World.size_alloc] at e
  exact (hg3.block _ (Array.getElem?_eq_some_iff.1 e).1 (by simp)).trans e
set_option maxRecDepth 100000 in
set_option maxHeartbeats 4000000 in
theorem refbare_any (s : ByteArray) (p : Nat) (w : World) (hs : s.size ≤ maxLen) (hp : p < s.size) :
    Calls Try.prog 50 #[.string s, .int .i64 (p : Int)] w fun e w' => e = .returned (refV (wordR (s.extract p s.size)) p) ∧ w.grownBy w' none := by
  have hsz : (s.extract p s.size).size = s.size - p := by rw [ByteArray.size_extract]; omega
  have HW := Lib.hid (fun t w => isword_any t w)
  unfold maxLen at hs
  go_enter Try.func50, Try.ntmps50
  go_wp2_with fail
  go_loop [7] (fun i => ∃ k : Nat, p + k ≤ s.size ∧ i = .int .i64 (k : Int) ∧ Hid (∀ j, j < k → isLD (bAt (s.extract p s.size) j) = true)) (fun i => s.size - (intOf i).toNat)
  case atStart => exact ⟨0, by omega, rfl, Lib.hid fun j h => absurd h (Nat.not_lt_zero _)⟩
  case round =>
    obtain ⟨k, hk, rfl, HO⟩ := hrel
    -- behind the loop: whatever ended it
    have HX : Hid (runF (s.extract p s.size) = k → wordR (s.extract p s.size) = if hasF wordsL (s.extract p (p + k)) = true then ⟨3, s.extract p (p + k), k, 0⟩ else if 32 < k then ⟨0, ⟨#[]⟩, 0, 22⟩ else ⟨2, s.extract p (p + k), k, 0⟩) := Lib.hid fun h => by
      unfold wordR
      rw [h, extract_part (by omega), Nat.add_zero]
    have htn : ((p : Int) + (k : Int)).toNat = p + k := by omega
    have hle : (p : Int) ≤ (p : Int) + (k : Int) := by omega
    have hkI : (p : Int) + (k : Int) ≤ (s.size : Int) := by omega
    by_cases hlt : p + k < s.size
    · have hltI : (p : Int) + (k : Int) < (s.size : Int) := by omega
      have hbk := bAt_byte s (p + k)
      have HLk := Lib.hid (refletter_any (bAt s (p + k)) hbk.1 hbk.2)
      have HDk := Lib.hid (refdigit_any (bAt s (p + k)) hbk.1 hbk.2)
      have HG : Hid (isLD (bAt s (p + k)) = true → ∀ j, j < k + 1 → isLD (bAt (s.extract p s.size) j) = true) := Lib.hid fun h j hj => by
        by_cases e : j < k
        · exact HO.out j e
        · obtain rfl : j = k := by omega
          rw [bAt_extract hlt]
          exact h
      have HR : Hid (isLD (bAt s (p + k)) = false → runF (s.extract p s.size) = k) := Lib.hid fun h => runF_eq HO.out (by omega) (Or.inr (by rw [bAt_extract hlt]; exact h))
      cases h1 : isLet (bAt s (p + k)) <;> cases h2 : isDig (bAt s (p + k)) <;> rw [h1] at HLk <;> rw [h2] at HDk <;> rw [← bAt_get hlt] at HLk HDk
      · have HX2 := Lib.hid (HX.out (HR.out (by unfold isLD; rw [h1, h2]; rfl)))
        clear h1 h2 HG HR HX
        have HWk := Lib.hid (HW.out (s.extract p (p + k)))
        cases hw : hasF wordsL (s.extract p (p + k)) <;> rw [hw] at HWk
        · by_cases h32 : 32 < k
          · have hI : (32 : Int) < (k : Int) := by omega
            have HW3 : Hid (wordR (s.extract p s.size) = ⟨0, ⟨#[]⟩, 0, 22⟩) := Lib.hid (by rw [HX2.out, hw, if_neg (by simp), if_pos h32])
            clear HX2
            go_wp2_with (first
            | (go_at_call 48; refine (HLk.out _).mono ?_; rintro e w2 ⟨rfl, rfl⟩)
            | (go_at_call 49; refine (HDk.out _).mono ?_; rintro e w2 ⟨rfl, rfl⟩)
            | (go_at_call 47; refine (HWk.out _).mono ?_; rintro e w3 ⟨rfl, hg3⟩; have hgT : (w.alloc (.cells #[.int .u8 0, .string ⟨#[]⟩, .int .i64 0] 50)).grownBy w3 none := (gb_trans (World.grownBy_alloc _ (.cells #[.int .u8 2, .string (s.extract p (p + k)), .int .i64 (p : Int)] 50) none) hg3 (Or.inl rfl)); have hbT : w3.heap[w.heap.size + 1]? = some (.cells #[.int .u8 2, .string (s.extract p (p + k)), .int .i64 (p : Int)] 50 (0, 0)) := (bare_box hg3); obtain ⟨k0, k1, k2, f0, f1, f2⟩ := tok_box hgT; have HEnd := Lib.hid (fun x y z => tok_end hgT x y z); have HEndS := Lib.hid (fun x y z => tok_end (gb_trans hgT (gb_set (w := w3) (a := ⟨w.heap.size + 1, 0, none⟩) (v := .int .u8 3)) (Or.inr (Or.inr ⟨_, rfl, by simp⟩))) x y z); have j0 : w3.cell? ⟨w.heap.size + 1, 0, none⟩ = some (.int .u8 2) := (by simp [World.cell?, hbT]); have j1 : w3.cell? ⟨w.heap.size + 1, 1, none⟩ = some (.string (s.extract p (p + k))) := (by simp [World.cell?, hbT]); have j2 : w3.cell? ⟨w.heap.size + 1, 2, none⟩ = some (.int .i64 (p : Int)) := (by simp [World.cell?, hbT]); have jf : w3.frozen? ⟨w.heap.size + 1, 0, none⟩ = false := (by simp [World.frozen?, hbT]); clear hgT hbT hg3))
            refine bodyPost_ret (results_tok rfl _ _ _ _ rfl (HEnd.out _ _ _).1 rfl) rfl ?_
            rw [HW3.out]
            exact ⟨rfl, (HEnd.out _ _ _).2⟩
          · have hI : ¬ (32 : Int) < (k : Int) := by omega
            have HW3 : Hid (wordR (s.extract p s.size) = ⟨2, s.extract p (p + k), k, 0⟩) := Lib.hid (by rw [HX2.out, hw, if_neg (by simp), if_neg h32])
            clear HX2
            go_wp2_with (first
            | (go_at_call 48; refine (HLk.out _).mono ?_; rintro e w2 ⟨rfl, rfl⟩)
            | (go_at_call 49; refine (HDk.out _).mono ?_; rintro e w2 ⟨rfl, rfl⟩)
            | (go_at_call 47; refine (HWk.out _).mono ?_; rintro e w3 ⟨rfl, hg3⟩; have hgT : (w.alloc (.cells #[.int .u8 0, .string ⟨#[]⟩, .int .i64 0] 50)).grownBy w3 none := (gb_trans (World.grownBy_alloc _ (.cells #[.int .u8 2, .string (s.extract p (p + k)), .int .i64 (p : Int)] 50) none) hg3 (Or.inl rfl)); have hbT : w3.heap[w.heap.size + 1]? = some (.cells #[.int .u8 2, .string (s.extract p (p + k)), .int .i64 (p : Int)] 50 (0, 0)) := (bare_box hg3); obtain ⟨k0, k1, k2, f0, f1, f2⟩ := tok_box hgT; have HEnd := Lib.hid (fun x y z => tok_end hgT x y z); have HEndS := Lib.hid (fun x y z => tok_end (gb_trans hgT (gb_set (w := w3) (a := ⟨w.heap.size + 1, 0, none⟩) (v := .int .u8 3)) (Or.inr (Or.inr ⟨_, rfl, by simp⟩))) x y z); have j0 : w3.cell? ⟨w.heap.size + 1, 0, none⟩ = some (.int .u8 2) := (by simp [World.cell?, hbT]); have j1 : w3.cell? ⟨w.heap.size + 1, 1, none⟩ = some (.string (s.extract p (p + k))) := (by simp [World.cell?, hbT]); have j2 : w3.cell? ⟨w.heap.size + 1, 2, none⟩ = some (.int .i64 (p : Int)) := (by simp [World.cell?, hbT]); have jf : w3.frozen? ⟨w.heap.size + 1, 0, none⟩ = false := (by simp [World.frozen?, hbT]); clear hgT hbT hg3))
            refine bodyPost_ret (results_tok rfl _ _ _ _ rfl (HEnd.out _ _ _).1 rfl) rfl ?_
            rw [HW3.out]
            exact ⟨by simp [refV], (HEnd.out _ _ _).2⟩
        · have HW3 : Hid (wordR (s.extract p s.size) = ⟨3, s.extract p (p + k), k, 0⟩) := Lib.hid (by rw [HX2.out, hw, if_pos rfl])
          clear HX2
          go_wp2_with (first
            | (go_at_call 48; refine (HLk.out _).mono ?_; rintro e w2 ⟨rfl, rfl⟩)
            | (go_at_call 49; refine (HDk.out _).mono ?_; rintro e w2 ⟨rfl, rfl⟩)
            | (go_at_call 47; refine (HWk.out _).mono ?_; rintro e w3 ⟨rfl, hg3⟩; have hgT : (w.alloc (.cells #[.int .u8 0, .string ⟨#[]⟩, .int .i64 0] 50)).grownBy w3 none := (gb_trans (World.grownBy_alloc _ (.cells #[.int .u8 2, .string (s.extract p (p + k)), .int .i64 (p : Int)] 50) none) hg3 (Or.inl rfl)); have hbT : w3.heap[w.heap.size + 1]? = some (.cells #[.int .u8 2, .string (s.extract p (p + k)), .int .i64 (p : Int)] 50 (0, 0)) := (bare_box hg3); obtain ⟨k0, k1, k2, f0, f1, f2⟩ := tok_box hgT; have HEnd := Lib.hid (fun x y z => tok_end hgT x y z); have HEndS := Lib.hid (fun x y z => tok_end (gb_trans hgT (gb_set (w := w3) (a := ⟨w.heap.size + 1, 0, none⟩) (v := .int .u8 3)) (Or.inr (Or.inr ⟨_, rfl, by simp⟩))) x y z); have j0 : w3.cell? ⟨w.heap.size + 1, 0, none⟩ = some (.int .u8 2) := (by simp [World.cell?, hbT]); have j1 : w3.cell? ⟨w.heap.size + 1, 1, none⟩ = some (.string (s.extract p (p + k))) := (by simp [World.cell?, hbT]); have j2 : w3.cell? ⟨w.heap.size + 1, 2, none⟩ = some (.int .i64 (p : Int)) := (by simp [World.cell?, hbT]); have jf : w3.frozen? ⟨w.heap.size + 1, 0, none⟩ = false := (by simp [World.frozen?, hbT]); clear hgT hbT hg3))
          refine bodyPost_ret (results_tok rfl _ _ _ _ rfl (HEndS.out _ _ _).1 rfl) rfl ?_
          rw [HW3.out]
          exact ⟨by simp [refV], (HEndS.out _ _ _).2⟩
      all_goals
        have HG2 := Lib.hid (HG.out (by unfold isLD; rw [h1, h2]; rfl))
        clear h1 h2 HG HR HX
        go_wp2_with (first
          | (go_at_call 48; refine (HLk.out _).mono ?_; rintro e w2 ⟨rfl, rfl⟩)
          | (go_at_call 49; refine (HDk.out _).mono ?_; rintro e w2 ⟨rfl, rfl⟩))
        exact ⟨⟨k + 1, by omega, by go_num, HG2⟩, by simp [intOf]; omega⟩
    · have hltI : ¬ (p : Int) + (k : Int) < (s.size : Int) := by omega
      have HX2 := Lib.hid (HX.out (runF_eq HO.out (by omega) (Or.inl (by omega))))
      clear HX
      have HWk := Lib.hid (HW.out (s.extract p (p + k)))
      cases hw : hasF wordsL (s.extract p (p + k)) <;> rw [hw] at HWk
      · by_cases h32 : 32 < k
        · have hI : (32 : Int) < (k : Int) := by omega
          have HW3 : Hid (wordR (s.extract p s.size) = ⟨0, ⟨#[]⟩, 0, 22⟩) := Lib.hid (by rw [HX2.out, hw, if_neg (by simp), if_pos h32])
          clear HX2
          go_wp2_with (go_at_call 47; refine (HWk.out _).mono ?_; rintro e w3 ⟨rfl, hg3⟩; have hgT : (w.alloc (.cells #[.int .u8 0, .string ⟨#[]⟩, .int .i64 0] 50)).grownBy w3 none := (gb_trans (World.grownBy_alloc _ (.cells #[.int .u8 2, .string (s.extract p (p + k)), .int .i64 (p : Int)] 50) none) hg3 (Or.inl rfl)); have hbT : w3.heap[w.heap.size + 1]? = some (.cells #[.int .u8 2, .string (s.extract p (p + k)), .int .i64 (p : Int)] 50 (0, 0)) := (bare_box hg3); obtain ⟨k0, k1, k2, f0, f1, f2⟩ := tok_box hgT; have HEnd := Lib.hid (fun x y z => tok_end hgT x y z); have HEndS := Lib.hid (fun x y z => tok_end (gb_trans hgT (gb_set (w := w3) (a := ⟨w.heap.size + 1, 0, none⟩) (v := .int .u8 3)) (Or.inr (Or.inr ⟨_, rfl, by simp⟩))) x y z); have j0 : w3.cell? ⟨w.heap.size + 1, 0, none⟩ = some (.int .u8 2) := (by simp [World.cell?, hbT]); have j1 : w3.cell? ⟨w.heap.size + 1, 1, none⟩ = some (.string (s.extract p (p + k))) := (by simp [World.cell?, hbT]); have j2 : w3.cell? ⟨w.heap.size + 1, 2, none⟩ = some (.int .i64 (p : Int)) := (by simp [World.cell?, hbT]); have jf : w3.frozen? ⟨w.heap.size + 1, 0, none⟩ = false := (by simp [World.frozen?, hbT]); clear hgT hbT hg3)
          refine bodyPost_ret (results_tok rfl _ _ _ _ rfl (HEnd.out _ _ _).1 rfl) rfl ?_
          rw [HW3.out]
          exact ⟨rfl, (HEnd.out _ _ _).2⟩
        · have hI : ¬ (32 : Int) < (k : Int) := by omega
          have HW3 : Hid (wordR (s.extract p s.size) = ⟨2, s.extract p (p + k), k, 0⟩) := Lib.hid (by rw [HX2.out, hw, if_neg (by simp), if_neg h32])
          clear HX2
          go_wp2_with (go_at_call 47; refine (HWk.out _).mono ?_; rintro e w3 ⟨rfl, hg3⟩; have hgT : (w.alloc (.cells #[.int .u8 0, .string ⟨#[]⟩, .int .i64 0] 50)).grownBy w3 none := (gb_trans (World.grownBy_alloc _ (.cells #[.int .u8 2, .string (s.extract p (p + k)), .int .i64 (p : Int)] 50) none) hg3 (Or.inl rfl)); have hbT : w3.heap[w.heap.size + 1]? = some (.cells #[.int .u8 2, .string (s.extract p (p + k)), .int .i64 (p : Int)] 50 (0, 0)) := (bare_box hg3); obtain ⟨k0, k1, k2, f0, f1, f2⟩ := tok_box hgT; have HEnd := Lib.hid (fun x y z => tok_end hgT x y z); have HEndS := Lib.hid (fun x y z => tok_end (gb_trans hgT (gb_set (w := w3) (a := ⟨w.heap.size + 1, 0, none⟩) (v := .int .u8 3)) (Or.inr (Or.inr ⟨_, rfl, by simp⟩))) x y z); have j0 : w3.cell? ⟨w.heap.size + 1, 0, none⟩ = some (.int .u8 2) := (by simp [World.cell?, hbT]); have j1 : w3.cell? ⟨w.heap.size + 1, 1, none⟩ = some (.string (s.extract p (p + k))) := (by simp [World.cell?, hbT]); have j2 : w3.cell? ⟨w.heap.size + 1, 2, none⟩ = some (.int .i64 (p : Int)) := (by simp [World.cell?, hbT]); have jf : w3.frozen? ⟨w.heap.size + 1, 0, none⟩ = false := (by simp [World.frozen?, hbT]); clear hgT hbT hg3)
          refine bodyPost_ret (results_tok rfl _ _ _ _ rfl (HEnd.out _ _ _).1 rfl) rfl ?_
          rw [HW3.out]
          exact ⟨by simp [refV], (HEnd.out _ _ _).2⟩
      · have HW3 : Hid (wordR (s.extract p s.size) = ⟨3, s.extract p (p + k), k, 0⟩) := Lib.hid (by rw [HX2.out, hw, if_pos rfl])
        clear HX2
        go_wp2_with (go_at_call 47; refine (HWk.out _).mono ?_; rintro e w3 ⟨rfl, hg3⟩; have hgT : (w.alloc (.cells #[.int .u8 0, .string ⟨#[]⟩, .int .i64 0] 50)).grownBy w3 none := (gb_trans (World.grownBy_alloc _ (.cells #[.int .u8 2, .string (s.extract p (p + k)), .int .i64 (p : Int)] 50) none) hg3 (Or.inl rfl)); have hbT : w3.heap[w.heap.size + 1]? = some (.cells #[.int .u8 2, .string (s.extract p (p + k)), .int .i64 (p : Int)] 50 (0, 0)) := (bare_box hg3); obtain ⟨k0, k1, k2, f0, f1, f2⟩ := tok_box hgT; have HEnd := Lib.hid (fun x y z => tok_end hgT x y z); have HEndS := Lib.hid (fun x y z => tok_end (gb_trans hgT (gb_set (w := w3) (a := ⟨w.heap.size + 1, 0, none⟩) (v := .int .u8 3)) (Or.inr (Or.inr ⟨_, rfl, by simp⟩))) x y z); have j0 : w3.cell? ⟨w.heap.size + 1, 0, none⟩ = some (.int .u8 2) := (by simp [World.cell?, hbT]); have j1 : w3.cell? ⟨w.heap.size + 1, 1, none⟩ = some (.string (s.extract p (p + k))) := (by simp [World.cell?, hbT]); have j2 : w3.cell? ⟨w.heap.size + 1, 2, none⟩ = some (.int .i64 (p : Int)) := (by simp [World.cell?, hbT]); have jf : w3.frozen? ⟨w.heap.size + 1, 0, none⟩ = false := (by simp [World.frozen?, hbT]); clear hgT hbT hg3)
        refine bodyPost_ret (results_tok rfl _ _ _ _ rfl (HEndS.out _ _ _).1 rfl) rfl ?_
        rw [HW3.out]
        exact ⟨by simp [refV], (HEndS.out _ _ _).2⟩
end Go.Proofs.Ytlmpeddacadfkaa
