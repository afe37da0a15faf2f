/- Lex, plain: a token hangs on its own bytes, and on the one behind them. -/
import Derived.Test.YtlmpeddacadfkaaLexToks
namespace Go.Proofs.Ytlmpeddacadfkaa

theorem ba_ext {a b : ByteArray} (h : a.size = b.size) (k : ∀ i, i < a.size → bAt a i = bAt b i) : a = b := by
  refine ByteArray.ext_getElem h fun i h1 h2 => ?_
  have := k i h1
  rw [← bAt_get h1, ← bAt_get h2] at this
  exact UInt8.toNat_inj.1 (by omega)
theorem bAt_ext {s : ByteArray} {a b i : Nat} (hb : b ≤ s.size) (h : a + i < b) : bAt (s.extract a b) i = bAt s (a + i) := by
  have h1 : i < (s.extract a b).size := by rw [ByteArray.size_extract]; omega
  rw [← bAt_get h1, ← bAt_get (show a + i < s.size by omega), ByteArray.getElem_extract]
theorem bAt_left {a b : ByteArray} {i : Nat} (h : i < a.size) : bAt (a ++ b) i = bAt a i := by
  rw [← bAt_get (show i < (a ++ b).size by rw [ByteArray.size_append]; omega), ← bAt_get h, ByteArray.getElem_append_left h]
theorem bAt_right {a b : ByteArray} {i : Nat} (h : i < b.size) : bAt (a ++ b) (a.size + i) = bAt b i := by
  rw [← bAt_get (show a.size + i < (a ++ b).size by rw [ByteArray.size_append]; omega), ← bAt_get h, ByteArray.getElem_append_right (by omega)]
  congr 2
  simp
theorem size_ext {s : ByteArray} {a b : Nat} (hb : b ≤ s.size) : (s.extract a b).size = b - a := by rw [ByteArray.size_extract]; omega
theorem ext_eq {x y : ByteArray} {a b : Nat} (hx : b ≤ x.size) (hy : b ≤ y.size) (h : ∀ i, a ≤ i → i < b → bAt y i = bAt x i) : y.extract a b = x.extract a b := by
  refine ba_ext (by rw [size_ext hx, size_ext hy]) fun i hi => ?_
  rw [size_ext hy] at hi
  rw [bAt_ext hy (by omega), bAt_ext hx (by omega)]
  exact h _ (by omega) (by omega)

theorem runL_spec : ∀ l : List UInt8, (∀ j, j < runL l → isLD ((l.getD j 0).toNat : Int) = true) ∧ (runL l = l.length ∨ isLD ((l.getD (runL l) 0).toNat : Int) = false)
  | [] => ⟨fun j h => absurd h (Nat.not_lt_zero _), Or.inl rfl⟩
  | c :: l => by
    have ih := runL_spec l
    unfold runL
    by_cases h : isLD (c.toNat : Int) = true
    · rw [if_pos h]
      refine ⟨fun j hj => ?_, ?_⟩
      · cases j with
        | zero => exact h
        | succ j => exact ih.1 j (by omega)
      · rcases ih.2 with e | e
        · left; rw [e]; rfl
        · right; exact e
    · rw [if_neg h]
      exact ⟨fun j hj => absurd hj (Nat.not_lt_zero _), Or.inr (by simpa using h)⟩
theorem runF_ld {s : ByteArray} : ∀ j, j < runF s → isLD (bAt s j) = true := (runL_spec s.data.toList).1
theorem runF_end (s : ByteArray) : runF s = s.size ∨ isLD (bAt s (runF s)) = false := (runL_spec s.data.toList).2
theorem prefL_spec (p : Int → Bool) : ∀ l : List UInt8, (∀ j, j < prefL p l → p ((l.getD j 0).toNat : Int) = true) ∧ (prefL p l = l.length ∨ p ((l.getD (prefL p l) 0).toNat : Int) = false) ∧ prefL p l ≤ l.length
  | [] => ⟨fun j h => absurd h (Nat.not_lt_zero _), Or.inl rfl, Nat.le_refl _⟩
  | c :: l => by
    have ih := prefL_spec p l
    unfold prefL
    by_cases h : p (c.toNat : Int) = true
    · rw [if_pos h]
      refine ⟨fun j hj => ?_, ?_, by rw [List.length_cons]; omega⟩
      · cases j with
        | zero => exact h
        | succ j => exact ih.1 j (by omega)
      · rcases ih.2.1 with e | e
        · left; rw [e]; rfl
        · right; exact e
    · rw [if_neg h]
      exact ⟨fun j hj => absurd hj (Nat.not_lt_zero _), Or.inr (by simpa using h), Nat.zero_le _⟩
theorem drop_getD (s : ByteArray) (k j : Nat) : (s.data.toList.drop k).getD j 0 = s.data.toList.getD (k + j) 0 := by
  rw [List.getD_eq_getElem?_getD, List.getElem?_drop, List.getD_eq_getElem?_getD]
/-- Where blanks end. -/
theorem skip_spec {s : ByteArray} {k : Nat} (hk : k ≤ s.size) : k ≤ skipF s k ∧ skipF s k ≤ s.size ∧ (∀ j, k ≤ j → j < skipF s k → blankB (bAt s j) = true) ∧ (skipF s k = s.size ∨ blankB (bAt s (skipF s k)) = false) := by
  have h := prefL_spec blankB (s.data.toList.drop k)
  have hl : (s.data.toList.drop k).length = s.size - k := by rw [List.length_drop]; rfl
  unfold skipF
  refine ⟨by omega, by omega, fun j h1 h2 => ?_, ?_⟩
  · have := h.1 (j - k) (by omega)
    rw [drop_getD, show k + (j - k) = j by omega] at this
    exact this
  · rcases h.2.1 with e | e
    · left; omega
    · right
      rw [drop_getD] at e
      exact e
theorem qEnd_spec {s : ByteArray} (h : 1 ≤ s.size) : 1 ≤ qEnd s ∧ qEnd s ≤ s.size ∧ (∀ j, 1 ≤ j → j < qEnd s → plainB (bAt s j) = true) ∧ (qEnd s = s.size ∨ plainB (bAt s (qEnd s)) = false) := by
  have h0 := prefL_spec plainB (s.data.toList.drop 1)
  have hl : (s.data.toList.drop 1).length = s.size - 1 := by rw [List.length_drop]; rfl
  unfold qEnd
  refine ⟨by omega, by omega, fun j h1 h2 => ?_, ?_⟩
  · have := h0.1 (j - 1) (by omega)
    rw [drop_getD, show 1 + (j - 1) = j by omega] at this
    exact this
  · rcases h0.2.1 with e | e
    · left; omega
    · right
      rw [drop_getD] at e
      exact e

theorem word_local {x y : ByteArray} {n : Nat} (he : (wordR x).err = 0) (hn : (wordR x).n = n) (hy : n ≤ y.size) (hb : ∀ i, i < n → bAt y i = bAt x i) (hs : y.size = n ∨ isLD (bAt y n) = false) : wordR y = wordR x := by
  have hrx : runF x = n := by
    unfold wordR at he hn
    split at he
    · rename_i h; rw [if_pos h] at hn; exact hn
    · rename_i h
      rw [if_neg h] at hn
      split at he
      · cases he
      · rename_i h2; rw [if_neg h2] at hn; exact hn
  have hry : runF y = n := runF_eq (fun j hj => by rw [hb j hj]; exact runF_ld j (by omega)) hy (hs.elim (fun h => Or.inl h.symm) Or.inr)
  have hxe : y.extract 0 n = x.extract 0 n := ext_eq (by have := runF_le x; omega) hy (fun i _ h => hb i h)
  unfold wordR
  rw [hrx, hry, hxe]
theorem quoted_local {x y : ByteArray} {n : Nat} (he : (quotedR x).err = 0) (hn : (quotedR x).n = n) (hx : 1 ≤ x.size) (hy : n ≤ y.size) (hb : ∀ i, i < n → bAt y i = bAt x i) : quotedR y = quotedR x := by
  have hq := qEnd_spec hx
  have h0 : ¬ x.size ≤ qEnd x ∧ bAt x (qEnd x) = 34 ∧ ¬ (qEnd x = 1 ∨ 33 < qEnd x) ∧ n = qEnd x + 1 := by
    unfold quotedR at he hn
    split at he
    · cases he
    · rename_i h1
      rw [if_neg h1] at hn
      split at he
      · rename_i h2
        rw [if_pos h2] at hn
        split at he
        · cases he
        · rename_i h3
          rw [if_neg h3] at hn
          exact ⟨h1, h2, h3, hn.symm⟩
      · cases he
  obtain ⟨h1, h2, h3, h4⟩ := h0
  have hqy : qEnd y = qEnd x := qEnd_eq hq.1 (fun j hj hl => by rw [hb j (by omega)]; exact hq.2.2.1 j hj hl) (Or.inl (by omega)) (Or.inr (by rw [hb _ (by omega), h2]; decide))
  have hxe : y.extract 1 (qEnd x) = x.extract 1 (qEnd x) := ext_eq (by omega) (by omega) (fun i _ h => hb i (by omega))
  unfold quotedR
  rw [hqy, hb _ (by omega), hxe, if_neg (show ¬ y.size ≤ qEnd x by omega), if_neg h1]
theorem preB_local {x y p : ByteArray} (hx : p.size ≤ x.size) (hy : p.size ≤ y.size) (hb : ∀ i, i < p.size → bAt y i = bAt x i) : preB y p = preB x p := by
  unfold preB
  rw [decide_eq_true hx, decide_eq_true hy, ext_eq hx hy (fun i _ h => hb i h)]
theorem toList_eq {a b : ByteArray} (h : a.toList = b.toList) : a = b := by
  rw [ByteArray.toList_eq, ByteArray.toList_eq] at h
  exact ByteArray.ext (by rw [← Array.toList_inj]; exact h)
theorem preB_at {x p : ByteArray} (h : preB x p = true) : p.size ≤ x.size ∧ ∀ i, i < p.size → bAt x i = bAt p i := by
  unfold preB at h
  simp only [Bool.and_eq_true, decide_eq_true_eq, beq_iff_eq] at h
  refine ⟨h.1, fun i hi => ?_⟩
  have e : x.extract 0 p.size = p := toList_eq h.2
  have h2 : bAt (x.extract 0 p.size) i = bAt p i := congrArg (fun z => bAt z i) e
  rw [bAt_ext h.1 (by omega), Nat.zero_add] at h2
  exact h2
theorem sign_local {x y : ByteArray} {n : Nat} (he : (signR x).err = 0) (hn : (signR x).n = n) (hx : 1 ≤ x.size) (hy : n ≤ y.size) (hb : ∀ i, i < n → bAt y i = bAt x i) : signR y = signR x := by
  unfold signR at he hn
  by_cases h1 : preB x ⟨#[45, 62]⟩ = true
  · rw [if_pos h1] at he hn
    obtain rfl : 2 = n := hn
    have := (preB_at h1).1
    have h1y : preB y ⟨#[45, 62]⟩ = true := by rw [preB_local this hy hb]; exact h1
    unfold signR
    rw [if_pos h1, if_pos h1y]
  · rw [if_neg h1] at he hn
    by_cases h2 : preB x ⟨#[60, 45, 62]⟩ = true
    · rw [if_pos h2] at he hn
      obtain rfl : 3 = n := hn
      have hp := preB_at h2
      have h2y : preB y ⟨#[60, 45, 62]⟩ = true := by rw [preB_local hp.1 hy hb]; exact h2
      have h1y : ¬ preB y ⟨#[45, 62]⟩ = true := fun h => by
        have h3 := (preB_at h).2 0 (by decide)
        rw [hb 0 (by decide), hp.2 0 (by decide)] at h3
        revert h3
        decide
      unfold signR
      rw [if_neg h1, if_neg h1y, if_pos h2, if_pos h2y]
    · rw [if_neg h2] at he hn
      by_cases h3 : (bAt x 0 == 45 || bAt x 0 == 60) = true
      · rw [if_pos h3] at he
        cases he
      · rw [if_neg h3] at he hn
        obtain rfl : 1 = n := hn
        have h3b : ¬ bAt x 0 = 45 ∧ ¬ bAt x 0 = 60 := by simpa using h3
        have h0 := hb 0 (by decide)
        have h1y : ¬ preB y ⟨#[45, 62]⟩ = true := fun h => by
          have h4 := (preB_at h).2 0 (by decide)
          rw [h0] at h4
          exact h3b.1 (h4.trans (by decide))
        have h2y : ¬ preB y ⟨#[60, 45, 62]⟩ = true := fun h => by
          have h4 := (preB_at h).2 0 (by decide)
          rw [h0] at h4
          exact h3b.2 (h4.trans (by decide))
        unfold signR
        rw [if_neg h1, if_neg h1y, if_neg h2, if_neg h2y, h0, ext_eq hx hy (fun i _ h => hb i h)]
/-- A part hangs on its own bytes; a bare one on the byte behind, too. -/
theorem part_local {x y : ByteArray} {n : Nat} (he : (partR x).err = 0) (hn : (partR x).n = n) (hx : 1 ≤ x.size) (hy : n ≤ y.size) (hb : ∀ i, i < n → bAt y i = bAt x i) (hs : isLet (bAt x 0) = true → y.size = n ∨ isLD (bAt y n) = false) : partR y = partR x := by
  have h1 := (partR_ok hx he).1
  have h0 := hb 0 (by omega)
  unfold partR at he hn ⊢
  rw [h0]
  by_cases c1 : isLet (bAt x 0) = true
  · rw [if_pos c1] at he hn
    rw [if_pos c1, if_pos c1]
    exact word_local he hn hy hb (hs c1)
  · rw [if_neg c1] at he hn
    rw [if_neg c1, if_neg c1]
    by_cases c2 : (bAt x 0 == 34) = true
    · rw [if_pos c2] at he hn
      rw [if_pos c2, if_pos c2]
      exact quoted_local he hn hx hy hb
    · rw [if_neg c2] at he hn
      rw [if_neg c2, if_neg c2]
      by_cases c3 : signB (bAt x 0) = true
      · rw [if_pos c3] at he hn
        rw [if_pos c3, if_pos c3]
        exact sign_local he hn hx hy hb
      · rw [if_neg c3] at he
        cases he
/-- Behind a bare part stands no letter, no digit. -/
theorem part_stop {x : ByteArray} (he : (partR x).err = 0) (hl : isLet (bAt x 0) = true) : (partR x).n = runF x := by
  unfold partR at he ⊢
  rw [if_pos hl] at he ⊢
  unfold wordR at he ⊢
  split
  · rfl
  · rename_i h
    rw [if_neg h] at he
    split
    · rename_i h2; rw [if_pos h2] at he; cases he
    · rfl
/-- How a token stands in a text. -/
def writF (s : ByteArray) (t : Tok) : ByteArray := if t.kind = 2 ∧ t.at' < s.size ∧ bAt s t.at' = 34 then ⟨#[34]⟩ ++ t.text ++ ⟨#[34]⟩ else t.text
theorem part_text {x : ByteArray} (hx : 1 ≤ x.size) (he : (partR x).err = 0) : (if (partR x).kind = 2 ∧ bAt x 0 = 34 then ⟨#[34]⟩ ++ (partR x).text ++ ⟨#[34]⟩ else (partR x).text) = x.extract 0 (partR x).n := by
  unfold partR at he ⊢
  by_cases c1 : isLet (bAt x 0) = true
  · have hne : ¬ bAt x 0 = 34 := fun h => by rw [h] at c1; revert c1; decide
    rw [if_pos c1] at he ⊢
    rw [if_neg (fun h => hne h.2)]
    unfold wordR at he ⊢
    split
    · rfl
    · rename_i h
      rw [if_neg h] at he
      split
      · rename_i h2; rw [if_pos h2] at he; cases he
      · rfl
  · rw [if_neg c1] at he ⊢
    by_cases c2 : (bAt x 0 == 34) = true
    · have h34 : bAt x 0 = 34 := by simpa using c2
      rw [if_pos c2] at he ⊢
      have hq := qEnd_spec hx
      unfold quotedR at he ⊢
      by_cases d1 : x.size ≤ qEnd x
      · rw [if_pos d1] at he; cases he
      · rw [if_neg d1] at he ⊢
        by_cases d2 : bAt x (qEnd x) = 34
        · rw [if_pos d2] at he ⊢
          by_cases d3 : qEnd x = 1 ∨ 33 < qEnd x
          · rw [if_pos d3] at he; cases he
          · rw [if_neg d3, if_pos ⟨rfl, h34⟩]
            show (⟨#[34]⟩ : ByteArray) ++ x.extract 1 (qEnd x) ++ ⟨#[34]⟩ = x.extract 0 (qEnd x + 1)
            have hs1 : (x.extract 1 (qEnd x)).size = qEnd x - 1 := size_ext (by omega)
            have hsa : ((⟨#[34]⟩ : ByteArray) ++ x.extract 1 (qEnd x)).size = qEnd x := by
              rw [ByteArray.size_append, hs1]
              show 1 + (qEnd x - 1) = qEnd x
              omega
            refine ba_ext ?_ fun i hi => ?_
            · rw [ByteArray.size_append, hsa, size_ext (by omega)]
              rfl
            · rw [ByteArray.size_append, hsa] at hi
              have hi2 : i < qEnd x + 1 := hi
              rw [bAt_ext (show qEnd x + 1 ≤ x.size by omega) (by omega), Nat.zero_add]
              by_cases e : i < qEnd x
              · rw [bAt_left (by rw [hsa]; exact e)]
                by_cases e0 : i = 0
                · subst e0
                  rw [bAt_left (show 0 < (⟨#[34]⟩ : ByteArray).size by decide), h34]
                  decide
                · obtain ⟨j, rfl⟩ : ∃ j, i = 1 + j := ⟨i - 1, by omega⟩
                  have := bAt_right (a := ⟨#[34]⟩) (b := x.extract 1 (qEnd x)) (i := j) (by rw [hs1]; omega)
                  rw [show (⟨#[34]⟩ : ByteArray).size = 1 from rfl] at this
                  rw [this, bAt_ext (by omega) (by omega)]
              · obtain rfl : i = qEnd x := by omega
                have := bAt_right (a := (⟨#[34]⟩ : ByteArray) ++ x.extract 1 (qEnd x)) (b := ⟨#[34]⟩) (i := 0) (by decide)
                rw [hsa, Nat.add_zero] at this
                rw [this, d2]
                decide
        · rw [if_neg d2] at he; cases he
    · rw [if_neg c2] at he ⊢
      have hne : ¬ bAt x 0 = 34 := by simpa using c2
      rw [if_neg (fun h => hne h.2)]
      by_cases c3 : signB (bAt x 0) = true
      · rw [if_pos c3] at he ⊢
        unfold signR at he ⊢
        by_cases h1 : preB x ⟨#[45, 62]⟩ = true
        · rw [if_pos h1]
          have hp := preB_at h1
          have hp1 : 2 ≤ x.size := hp.1
          show (⟨#[45, 62]⟩ : ByteArray) = x.extract 0 2
          exact (ba_ext (by rw [size_ext hp1]; rfl) fun i hi => by
            have hi2 : i < 2 := by rw [size_ext hp1] at hi; exact hi
            rw [bAt_ext hp1 (by omega), Nat.zero_add, hp.2 i hi2]).symm
        · rw [if_neg h1] at he ⊢
          by_cases h2 : preB x ⟨#[60, 45, 62]⟩ = true
          · rw [if_pos h2]
            have hp := preB_at h2
            have hp1 : 3 ≤ x.size := hp.1
            show (⟨#[60, 45, 62]⟩ : ByteArray) = x.extract 0 3
            exact (ba_ext (by rw [size_ext hp1]; rfl) fun i hi => by
              have hi2 : i < 3 := by rw [size_ext hp1] at hi; exact hi
              rw [bAt_ext hp1 (by omega), Nat.zero_add, hp.2 i hi2]).symm
          · rw [if_neg h2] at he ⊢
            by_cases h3 : (bAt x 0 == 45 || bAt x 0 == 60) = true
            · rw [if_pos h3] at he; cases he
            · rw [if_neg h3]
      · rw [if_neg c3] at he
        cases he
/-- A token that is none, an end, or a part. -/
theorem tokR_cases (s : ByteArray) (p : Nat) : (s.size ≤ p ∧ tokR s p = ⟨1, ⟨#[]⟩, p, p, 0⟩) ∨ (p < s.size ∧ (partR (s.extract p s.size)).err = 0 ∧ tokR s p = ⟨(partR (s.extract p s.size)).kind, (partR (s.extract p s.size)).text, p, p + (partR (s.extract p s.size)).n, 0⟩) ∨ (p < s.size ∧ (partR (s.extract p s.size)).err ≠ 0 ∧ tokR s p = ⟨0, ⟨#[]⟩, 0, p, (partR (s.extract p s.size)).err⟩) := by
  unfold tokR
  by_cases h : s.size ≤ p
  · exact Or.inl ⟨h, by rw [if_pos h]⟩
  · by_cases h2 : (partR (s.extract p s.size)).err = 0
    · exact Or.inr (Or.inl ⟨by omega, h2, by rw [if_neg h, if_pos h2]⟩)
    · exact Or.inr (Or.inr ⟨by omega, h2, by rw [if_neg h, if_neg h2]⟩)
/-- A token of one text is one of another text that has its bytes, and what is needed behind. -/
theorem tok_local {s z : ByteArray} {p q : Nat} (hp : p < s.size) (he : (partR (s.extract p s.size)).err = 0) (hz : q + (partR (s.extract p s.size)).n ≤ z.size) (hb : ∀ i, i < (partR (s.extract p s.size)).n → bAt z (q + i) = bAt s (p + i)) (hs : isLet (bAt s p) = true → z.size = q + (partR (s.extract p s.size)).n ∨ isLD (bAt z (q + (partR (s.extract p s.size)).n)) = false) :
    tokR z q = ⟨(partR (s.extract p s.size)).kind, (partR (s.extract p s.size)).text, q, q + (partR (s.extract p s.size)).n, 0⟩ := by
  have hsx : (s.extract p s.size).size = s.size - p := size_ext (Nat.le_refl _)
  have hsz : (z.extract q z.size).size = z.size - q := size_ext (Nat.le_refl _)
  have hn1 := (partR_ok (by omega) he).1
  have hn2 := partR_n (s := s.extract p s.size) (by omega)
  have hpp : partR (z.extract q z.size) = partR (s.extract p s.size) := by
    refine part_local he rfl (by omega) (by omega) (fun i hi => ?_) (fun hl => ?_)
    · rw [bAt_ext (Nat.le_refl _) (by omega), bAt_ext (Nat.le_refl _) (by omega)]
      exact hb i hi
    · rw [extract_at hp] at hl
      rcases hs hl with h | h
      · left; omega
      · by_cases e : z.size = q + (partR (s.extract p s.size)).n
        · left; omega
        · right
          rw [bAt_ext (Nat.le_refl _) (by omega)]
          exact h
  rcases tokR_cases z q with h | h | h
  · omega
  · rw [hpp] at h; exact h.2.2
  · rw [hpp] at h; exact absurd he h.2.1
end Go.Proofs.Ytlmpeddacadfkaa
