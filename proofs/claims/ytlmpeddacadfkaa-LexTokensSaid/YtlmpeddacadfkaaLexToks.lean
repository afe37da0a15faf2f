/- Lex: all tokens: in plain Lean. -/
import Derived.Test.YtlmpeddacadfkaaLexNext
namespace Go.Proofs.Ytlmpeddacadfkaa
open Go.RowKit

theorem skip_le {s : ByteArray} {k : Nat} (hk : k ≤ s.size) : k ≤ skipF s k ∧ skipF s k ≤ s.size := by
  have h : ∀ l : List UInt8, prefL blankB l ≤ l.length := by
    intro l
    induction l with
    | nil => exact Nat.le_refl _
    | cons c t ih =>
      unfold prefL
      split
      · simp; omega
      · simp
  have h1 := h (s.data.toList.drop k)
  have h2 : (s.data.toList.drop k).length = s.size - k := by rw [List.length_drop]; rfl
  unfold skipF
  omega
/-- A part that is a token has a byte at least; it is no end. -/
theorem partR_ok {s : ByteArray} (h1 : 1 ≤ s.size) (h : (partR s).err = 0) : 1 ≤ (partR s).n ∧ (partR s).kind ≠ 1 := by
  unfold partR at h ⊢
  split at h
  · rename_i hl
    rw [if_pos hl]
    have hr : 1 ≤ runF s := by
      unfold runF
      cases hs : s.data.toList with
      | nil => have : s.data.toList.length = s.size := rfl
               rw [hs] at this
               simp at this
               omega
      | cons c t =>
        have hc : isLet (c.toNat : Int) = true := by
          unfold bAt at hl
          rw [hs] at hl
          exact hl
        unfold runL isLD
        rw [hc, Bool.true_or, if_pos rfl]
        omega
    unfold wordR at h ⊢
    split at h
    · rename_i hw
      rw [if_pos hw]
      exact ⟨hr, by simp⟩
    · rename_i hw
      rw [if_neg hw]
      split at h
      · cases h
      · rename_i h32
        rw [if_neg h32]
        exact ⟨hr, by simp⟩
  · rename_i hl
    rw [if_neg hl]
    split at h
    · rename_i hq
      rw [if_pos hq]
      unfold quotedR at h ⊢
      split at h
      · cases h
      · rename_i a1
        rw [if_neg a1]
        split at h
        · rename_i a2
          rw [if_pos a2]
          split at h
          · cases h
          · rename_i a3
            rw [if_neg a3]
            exact ⟨by show 1 ≤ qEnd s + 1; omega, by simp⟩
        · cases h
    · rename_i hq
      rw [if_neg hq]
      split at h
      · rename_i hg
        rw [if_pos hg]
        unfold signR at h ⊢
        split at h
        · rename_i a1
          rw [if_pos a1]
          exact ⟨by decide, by decide⟩
        · rename_i a1
          rw [if_neg a1]
          split at h
          · rename_i a2
            rw [if_pos a2]
            exact ⟨by decide, by decide⟩
          · rename_i a2
            rw [if_neg a2]
            split at h
            · cases h
            · rename_i a3
              rw [if_neg a3]
              exact ⟨by simp, by simp⟩
      · cases h
/-- The next token: where it ends; at the end it is the end. -/
theorem nextR_ok {s : ByteArray} {k : Nat} (hk : k ≤ s.size) (h : (nextR s k).err = 0) : (nextR s k).behind ≤ s.size ∧ ((nextR s k).kind = 1 ∨ k < (nextR s k).behind) := by
  have h1 := skip_le hk
  unfold nextR tokR at h ⊢
  by_cases he : s.size ≤ skipF s k
  · rw [if_pos he]
    exact ⟨h1.2, Or.inl rfl⟩
  · rw [if_neg he] at h ⊢
    have hsz : (s.extract (skipF s k) s.size).size = s.size - skipF s k := by rw [ByteArray.size_extract]; omega
    by_cases hp : (partR (s.extract (skipF s k) s.size)).err = 0
    · rw [if_pos hp]
      have h2 := partR_ok (by omega) hp
      have h3 := partR_n (s := s.extract (skipF s k) s.size) (by omega)
      exact ⟨by show skipF s k + _ ≤ s.size; omega, Or.inr (by show k < skipF s k + _; omega)⟩
    · rw [if_neg hp] at h
      exact absurd h hp

/-- The tokens from a place on; what stops them, and where. -/
def toks (s : ByteArray) : Nat → Nat → List Tok × Nat × Nat
  | 0, _ => ([], 0, 0)
  | f + 1, k => if (nextR s k).err ≠ 0 then ([], (nextR s k).err, (nextR s k).behind) else if (nextR s k).kind = 1 then ([nextR s k], 0, 0) else (nextR s k :: (toks s f (nextR s k).behind).1, (toks s f (nextR s k).behind).2)
theorem toks_more (s : ByteArray) : ∀ (f g k : Nat), s.size + 1 ≤ k + f → f ≤ g → k ≤ s.size → toks s f k = toks s g k
  | 0, _, k, h, _, hk => by omega
  | f + 1, 0, _, _, h, _ => by omega
  | f + 1, g + 1, k, h, hfg, hk => by
    unfold toks
    by_cases he : (nextR s k).err ≠ 0
    · rw [if_pos he, if_pos he]
    · rw [if_neg he, if_neg he]
      by_cases h1 : (nextR s k).kind = 1
      · rw [if_pos h1, if_pos h1]
      · rw [if_neg h1, if_neg h1]
        have h2 := nextR_ok hk (by omega)
        rw [toks_more s f g _ (by omega) (by omega) h2.1]
/-- The first tokens of a text, what stops them, and where. -/
def allT (s : ByteArray) (k : Nat) : List Tok × Nat × Nat := toks s (s.size + 1 - k) k
theorem allT_step {s : ByteArray} {k : Nat} (hk : k ≤ s.size) : allT s k = if (nextR s k).err ≠ 0 then ([], (nextR s k).err, (nextR s k).behind) else if (nextR s k).kind = 1 then ([nextR s k], 0, 0) else (nextR s k :: (allT s (nextR s k).behind).1, (allT s (nextR s k).behind).2) := by
  unfold allT
  obtain ⟨f, hf⟩ : ∃ f, s.size + 1 - k = f + 1 := ⟨s.size - k, by omega⟩
  rw [hf]
  show toks s (f + 1) k = _
  rw [toks]
  by_cases he : (nextR s k).err ≠ 0
  · rw [if_pos he, if_pos he]
  · rw [if_neg he, if_neg he]
    by_cases h1 : (nextR s k).kind = 1
    · rw [if_pos h1, if_pos h1]
    · rw [if_neg h1, if_neg h1]
      have h2 := nextR_ok hk (by omega)
      rw [toks_more s (s.size + 1 - (nextR s k).behind) f _ (by omega) (by omega) h2.1]
end Go.Proofs.Ytlmpeddacadfkaa
