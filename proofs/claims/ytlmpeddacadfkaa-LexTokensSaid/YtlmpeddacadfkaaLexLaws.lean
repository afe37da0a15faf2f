/- Lex, plain: where tokens stand; a text that is cut; blanks between; a name and its quotes. -/
import Derived.Test.YtlmpeddacadfkaaLexLocal
import Derived.Test.YtlmpeddacadfkaaRefLexQuote
namespace Go.Proofs.Ytlmpeddacadfkaa

/-- What is said of a token that comes behind place k. -/
structure TokAt (s : ByteArray) (k : Nat) (t : Tok) : Prop where
  next : nextR s k = t
  err : t.err = 0
  ahead : k ≤ t.at'
  upto : t.at' ≤ t.behind
  within : t.behind ≤ s.size
  blanks : ∀ j, k ≤ j → j < t.at' → blankB (bAt s j) = true
  writ : writF s t = s.extract t.at' t.behind
  fin : t.kind = 1 → t.text = ⟨#[]⟩ ∧ t.at' = s.size ∧ t.behind = s.size
  part : t.kind ≠ 1 → t.at' < s.size ∧ (partR (s.extract t.at' s.size)).err = 0 ∧ (partR (s.extract t.at' s.size)).kind = t.kind ∧ (partR (s.extract t.at' s.size)).text = t.text ∧ t.at' + (partR (s.extract t.at' s.size)).n = t.behind ∧ t.at' < t.behind
theorem tokAt_next {s : ByteArray} {k : Nat} (hk : k ≤ s.size) (he : (nextR s k).err = 0) : TokAt s k (nextR s k) := by
  have hs := skip_spec hk
  have hc := tokR_cases s (skipF s k)
  unfold nextR at he
  rcases hc with ⟨h1, h2⟩ | ⟨h1, h2, h3⟩ | ⟨h1, h2, h3⟩
  · have e : skipF s k = s.size := by omega
    have hn : nextR s k = ⟨1, ⟨#[]⟩, s.size, s.size, 0⟩ := by unfold nextR; rw [h2, e]
    rw [hn]
    refine ⟨hn, rfl, hk, Nat.le_refl _, Nat.le_refl _, fun j a b => hs.2.2.1 j a (by rw [e]; exact b), ?_, fun _ => ⟨rfl, rfl, rfl⟩, fun h => absurd rfl h⟩
    unfold writF
    rw [if_neg (fun h => by cases h.1)]
    exact ba_ext (by rw [size_ext (Nat.le_refl _), Nat.sub_self]; rfl) fun i hi => absurd hi (Nat.not_lt_zero _)
  · have hn : nextR s k = ⟨(partR (s.extract (skipF s k) s.size)).kind, (partR (s.extract (skipF s k) s.size)).text, skipF s k, skipF s k + (partR (s.extract (skipF s k) s.size)).n, 0⟩ := h3
    have hsz : (s.extract (skipF s k) s.size).size = s.size - skipF s k := size_ext (Nat.le_refl _)
    have hok := partR_ok (s := s.extract (skipF s k) s.size) (by omega) h2
    have hle := partR_n (s := s.extract (skipF s k) s.size) (by omega)
    rw [hn]
    refine ⟨hn, rfl, hs.1, by show skipF s k ≤ skipF s k + _; omega, by show skipF s k + _ ≤ s.size; omega, hs.2.2.1, ?_, fun h => absurd h hok.2, fun _ => ⟨h1, h2, rfl, rfl, rfl, by show skipF s k < skipF s k + _; omega⟩⟩
    have ht := part_text (x := s.extract (skipF s k) s.size) (by omega) h2
    rw [extract_at h1] at ht
    show writF s _ = s.extract (skipF s k) (skipF s k + (partR (s.extract (skipF s k) s.size)).n)
    have hx : s.extract (skipF s k) (skipF s k + (partR (s.extract (skipF s k) s.size)).n) = (s.extract (skipF s k) s.size).extract 0 (partR (s.extract (skipF s k) s.size)).n := by
      refine ba_ext (by rw [size_ext (by omega), size_ext (by omega)]; omega) fun i hi => ?_
      rw [size_ext (by omega)] at hi
      rw [bAt_ext (by omega) (by omega), bAt_ext (by omega) (by omega), Nat.zero_add, bAt_ext (Nat.le_refl _) (by omega)]
    rw [hx, ← ht]
    unfold writF
    by_cases c : (partR (s.extract (skipF s k) s.size)).kind = 2 ∧ bAt s (skipF s k) = 34
    · rw [if_pos ⟨c.1, h1, c.2⟩, if_pos c]
    · rw [if_neg (fun h => c ⟨h.1, h.2.2⟩), if_neg c]
  · rw [h3] at he
    dsimp only at he
    exact absurd he h2
/-- Tokens one behind the other, up to the end. -/
def Chain (s : ByteArray) : Nat → List Tok → Prop
  | _, [] => False
  | k, t :: r => TokAt s k t ∧ (t.kind = 1 ∧ r = [] ∨ t.kind ≠ 1 ∧ Chain s t.behind r)
theorem chain_all (s : ByteArray) : ∀ (f k : Nat), s.size + 1 ≤ k + f → k ≤ s.size → (allT s k).2.1 = 0 → Chain s k (allT s k).1
  | 0, k, h, hk, _ => by omega
  | f + 1, k, h, hk, h0 => by
    have hst := allT_step hk
    by_cases he : (nextR s k).err = 0
    · rw [if_neg (fun h => h he)] at hst
      have hT := tokAt_next hk he
      by_cases h1 : (nextR s k).kind = 1
      · rw [if_pos h1] at hst
        rw [hst]
        exact ⟨hT, Or.inl ⟨h1, rfl⟩⟩
      · rw [if_neg h1] at hst
        have hp := hT.part h1
        have ha := hT.ahead
        have hw := hT.within
        rw [hst] at h0 ⊢
        exact ⟨hT, Or.inr ⟨h1, chain_all s f _ (by omega) hw h0⟩⟩
    · rw [if_pos he] at hst
      rw [hst] at h0
      exact absurd h0 he
def tok0 : Tok := ⟨0, ⟨#[]⟩, 0, 0, 0⟩
/-- Where the token ahead of the i-th one ends. -/
def prevE (L : List Tok) (k i : Nat) : Nat := if i = 0 then k else (L.getD (i - 1) tok0).behind
theorem prevE_cons (t : Tok) (r : List Tok) (k i : Nat) : prevE (t :: r) k (i + 1) = prevE r t.behind i := by
  unfold prevE
  rw [if_neg (by omega)]
  cases i with
  | zero => rfl
  | succ i => rw [if_neg (by omega)]; rfl
theorem chain_at {s : ByteArray} : ∀ (L : List Tok) (k : Nat), Chain s k L → ∀ i, i < L.length → TokAt s (prevE L k i) (L.getD i tok0) ∧ ((L.getD i tok0).kind = 1 ↔ i + 1 = L.length)
  | [], _, h, _, _ => h.elim
  | t :: r, k, h, i, hi => by
    cases i with
    | zero =>
      refine ⟨h.1, ?_⟩
      show t.kind = 1 ↔ 0 + 1 = r.length + 1
      rcases h.2 with ⟨h1, h2⟩ | ⟨h1, h2⟩
      · rw [h2]; exact ⟨fun _ => rfl, fun _ => h1⟩
      · refine ⟨fun e => absurd e h1, fun e => ?_⟩
        have : r = [] := List.length_eq_zero_iff.1 (by omega)
        rw [this] at h2
        exact h2.elim
    | succ i =>
      rw [prevE_cons]
      rcases h.2 with ⟨h1, h2⟩ | ⟨h1, h2⟩
      · rw [h2] at hi; exact absurd hi (by simp)
      · have := chain_at r t.behind h2 i (by simpa using hi)
        refine ⟨this.1, ?_⟩
        show (r.getD i tok0).kind = 1 ↔ i + 1 + 1 = r.length + 1
        rw [this.2]
        omega
theorem chain_pos {s : ByteArray} {k : Nat} {L : List Tok} (h : Chain s k L) : 0 < L.length := by
  cases L with
  | nil => exact h.elim
  | cons t r => simp
theorem chain_end {s : ByteArray} {k : Nat} {L : List Tok} (h : Chain s k L) : prevE L k L.length = s.size := by
  have hp := chain_pos h
  have := chain_at L k h (L.length - 1) (by omega)
  unfold prevE
  rw [if_neg (by omega)]
  exact (this.1.fin (this.2.2 (by omega))).2.2
/-- Where no token stands, some byte stands. -/
theorem stop_at (s : ByteArray) : ∀ (f k : Nat), s.size + 1 ≤ k + f → k ≤ s.size → (allT s k).2.1 ≠ 0 → k ≤ (allT s k).2.2 ∧ (allT s k).2.2 < s.size ∧ (allT s k).1.length ≤ (allT s k).2.2 - k ∧ allT (s.extract 0 (allT s k).2.2) k = ((allT s k).1 ++ [⟨1, ⟨#[]⟩, (allT s k).2.2, (allT s k).2.2, 0⟩], 0, 0)
  | 0, k, h, hk, _ => by omega
  | f + 1, k, h, hk, h0 => by
    have hst := allT_step hk
    have hs := skip_spec hk
    by_cases he : (nextR s k).err = 0
    · rw [if_neg (fun h => h he)] at hst
      have hT := tokAt_next hk he
      by_cases h1 : (nextR s k).kind = 1
      · rw [if_pos h1] at hst
        rw [hst] at h0
        exact absurd rfl h0
      · rw [if_neg h1] at hst
        obtain ⟨p1, p2, p3, p4, p5, p6⟩ := hT.part h1
        have ha := hT.ahead
        have hw := hT.within
        have hbl := hT.blanks
        have he2 := hT.err
        have hat : (nextR s k).at' = skipF s k := by
          rcases tokR_cases s (skipF s k) with ⟨_, h2⟩ | ⟨_, _, h3⟩ | ⟨_, h2, h3⟩
          · exact absurd (show (tokR s (skipF s k)).kind = 1 by rw [h2]) h1
          · exact (congrArg Tok.at' h3 : _)
          · exact absurd (show (tokR s (skipF s k)).err = 0 from he) (by rw [h3]; exact h2)
        rw [hst] at h0 ⊢
        have ih := stop_at s f (nextR s k).behind (by omega) hw h0
        obtain ⟨i1, i2, i3, i4⟩ := ih
        generalize hM : (allT s (nextR s k).behind).2.2 = m at *
        have hzs : (s.extract 0 m).size = m := by rw [size_ext (by omega)]; omega
        have hzb : ∀ i, i < m → bAt (s.extract 0 m) i = bAt s i := fun i hi => by rw [bAt_ext (by omega) (by omega), Nat.zero_add]
        refine ⟨by show k ≤ m; omega, i2, by show _ + 1 ≤ m - k; omega, ?_⟩
        have hk2 : k ≤ (s.extract 0 m).size := by rw [hzs]; omega
        have hsk : skipF (s.extract 0 m) k = (nextR s k).at' := skip_eq ha (fun j a b => by rw [hzb j (by omega)]; exact hbl j a b) (by rw [hzs]; omega) (Or.inr (by
          rw [hzb _ (by omega), hat]
          rcases hs.2.2.2 with e | e
          · omega
          · exact e))
        have hpe : (nextR s k).at' < (s.extract (nextR s k).at' s.size).size + (nextR s k).at' := by rw [size_ext (Nat.le_refl _)]; omega
        have htk : nextR (s.extract 0 m) k = nextR s k := by
          have hl := tok_local (s := s) (z := s.extract 0 m) (p := (nextR s k).at') (q := (nextR s k).at') p1 p2 (by rw [hzs]; omega) (fun i hi => hzb _ (by omega)) (fun hlet => by
            rw [hzs]
            have hx := part_stop p2 (by rw [extract_at p1]; exact hlet)
            rcases runF_end (s.extract (nextR s k).at' s.size) with e | e
            · rw [size_ext (Nat.le_refl _)] at e
              left; omega
            · by_cases e2 : m = (nextR s k).at' + (partR (s.extract (nextR s k).at' s.size)).n
              · exact Or.inl e2
              · right
                rw [hzb _ (by omega), hx, ← bAt_ext (Nat.le_refl _) (by omega)]
                exact e)
          rw [p3, p4, p5] at hl
          show tokR (s.extract 0 m) (skipF (s.extract 0 m) k) = _
          rw [hsk, hl]
          cases hN : nextR s k
          rw [hN] at he2
          simp only at he2 ⊢
          rw [he2]
        have hst2 := allT_step hk2
        rw [htk, if_neg (fun h => h he), if_neg h1] at hst2
        rw [hst2, i4]
        rfl
    · have hst0 := hst
      rw [if_pos he] at hst
      have hc := tokR_cases s (skipF s k)
      have hn : nextR s k = tokR s (skipF s k) := rfl
      rcases hc with ⟨_, h2⟩ | ⟨_, _, h3⟩ | ⟨h1, h2, h3⟩
      · rw [hn, h2] at he; exact absurd rfl he
      · rw [hn, h3] at he; exact absurd rfl he
      · have hb : (nextR s k).behind = skipF s k := by rw [hn, h3]
        rw [hst, hb]
        refine ⟨hs.1, h1, Nat.zero_le _, ?_⟩
        show allT (s.extract 0 (skipF s k)) k = ([⟨1, ⟨#[]⟩, skipF s k, skipF s k, 0⟩], 0, 0)
        have hzs : (s.extract 0 (skipF s k)).size = skipF s k := by rw [size_ext (by omega)]; omega
        have hzb : ∀ i, i < skipF s k → bAt (s.extract 0 (skipF s k)) i = bAt s i := fun i hi => by rw [bAt_ext (by omega) (by omega), Nat.zero_add]
        have hsk : skipF (s.extract 0 (skipF s k)) k = skipF s k := skip_eq hs.1 (fun j a b => by rw [hzb j b]; exact hs.2.2.1 j a b) (by rw [hzs]; exact Nat.le_refl _) (Or.inl hzs.symm)
        have htk : nextR (s.extract 0 (skipF s k)) k = ⟨1, ⟨#[]⟩, skipF s k, skipF s k, 0⟩ := by
          show tokR (s.extract 0 (skipF s k)) (skipF (s.extract 0 (skipF s k)) k) = _
          rw [hsk]
          unfold tokR
          rw [if_pos (by rw [hzs]; exact Nat.le_refl _)]
        rw [allT_step (by rw [hzs]; exact hs.1), htk]
        rfl
end Go.Proofs.Ytlmpeddacadfkaa
