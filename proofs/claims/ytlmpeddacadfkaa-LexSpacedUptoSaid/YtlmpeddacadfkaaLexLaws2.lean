/- Lex, plain: blanks between tokens; a name and its quotes. -/
import Derived.Test.YtlmpeddacadfkaaLexLaws
namespace Go.Proofs.Ytlmpeddacadfkaa

/-- Tokens, with something ahead of each. -/
def joinS (s : ByteArray) (bl : Nat → ByteArray) : Nat → List Tok → ByteArray
  | _, [] => ⟨#[]⟩
  | i, t :: r => bl i ++ (writF s t ++ joinS s bl (i + 1) r)
/-- Some blanks. -/
def Blanks (b : ByteArray) : Prop := 0 < b.size ∧ ∀ j, j < b.size → blankB (bAt b j) = true
def textsT (L : List Tok) : List (Nat × ByteArray) := L.map fun t => (t.kind, t.text)
theorem app_size (a b : ByteArray) : (a ++ b).size = a.size + b.size := ByteArray.size_append
theorem blank_ld {c : Int} (h0 : 0 ≤ c) (h1 : c ≤ 255) (h : blankB c = true) : isLD c = false := by
  have key : ∀ k : Fin 256, blankB ((k : Nat) : Int) = true → isLD ((k : Nat) : Int) = false := by decide +kernel
  have := key ⟨c.toNat, by omega⟩
  rw [show (((⟨c.toNat, by omega⟩ : Fin 256) : Nat) : Int) = c from Int.toNat_of_nonneg h0] at this
  exact this h
theorem part_first {c : Int} (h0 : 0 ≤ c) (h1 : c ≤ 255) (h : isLet c = true ∨ c = 34 ∨ signB c = true) : blankB c = false := by
  have key : ∀ k : Fin 256, (isLet ((k : Nat) : Int) || (((k : Nat) : Int) == 34 || signB ((k : Nat) : Int))) = true → blankB ((k : Nat) : Int) = false := by decide +kernel
  have := key ⟨c.toNat, by omega⟩
  rw [show (((⟨c.toNat, by omega⟩ : Fin 256) : Nat) : Int) = c from Int.toNat_of_nonneg h0] at this
  refine this ?_
  rcases h with h | h | h
  · rw [h]; rfl
  · rw [h]; decide
  · rw [h]; simp
theorem part_starts {x : ByteArray} (he : (partR x).err = 0) : isLet (bAt x 0) = true ∨ bAt x 0 = 34 ∨ signB (bAt x 0) = true := by
  unfold partR at he
  by_cases c1 : isLet (bAt x 0) = true
  · exact Or.inl c1
  · rw [if_neg c1] at he
    by_cases c2 : (bAt x 0 == 34) = true
    · exact Or.inr (Or.inl (by simpa using c2))
    · rw [if_neg c2] at he
      by_cases c3 : signB (bAt x 0) = true
      · exact Or.inr (Or.inr c3)
      · rw [if_neg c3] at he; cases he
theorem writ_size {s : ByteArray} {k : Nat} {t : Tok} (h : TokAt s k t) : (writF s t).size = t.behind - t.at' := by
  rw [h.writ, size_ext h.within]
theorem spaced_law (s : ByteArray) (bl : Nat → ByteArray) (hb : ∀ i, Blanks (bl i)) : ∀ (L : List Tok) (k i : Nat), Chain s k L → ∀ q : ByteArray, (allT (q ++ joinS s bl i L) q.size).2.1 = 0 ∧ textsT (allT (q ++ joinS s bl i L) q.size).1 = textsT L
  | [], _, _, h, _ => h.elim
  | t :: r, k, i, h, q => by
    obtain ⟨hT, hr⟩ := h
    obtain ⟨hb1, hb2⟩ := hb i
    have hw := writ_size hT
    rcases hr with ⟨h1, rfl⟩ | ⟨h1, hr⟩
    · have hf := hT.fin h1
      have hwe : writF s t = ⟨#[]⟩ := by
        unfold writF
        rw [if_neg (fun h => by omega), hf.1]
      have hj : joinS s bl i [t] = bl i := by
        show bl i ++ (writF s t ++ ⟨#[]⟩) = bl i
        rw [hwe]
        refine ba_ext (by rw [app_size, app_size]; rfl) fun j hj => ?_
        rw [app_size, app_size] at hj
        exact bAt_left hj
      rw [hj]
      have hle : q.size ≤ (q ++ bl i).size := by rw [app_size]; omega
      have hsk : skipF (q ++ bl i) q.size = (q ++ bl i).size := skip_eq hle (fun j h1 h2 => by
        rw [app_size] at h2
        obtain ⟨m, rfl⟩ : ∃ m, j = q.size + m := ⟨j - q.size, by omega⟩
        rw [bAt_right (by omega)]
        exact hb2 m (by omega)) (Nat.le_refl _) (Or.inl rfl)
      have hn : nextR (q ++ bl i) q.size = ⟨1, ⟨#[]⟩, (q ++ bl i).size, (q ++ bl i).size, 0⟩ := by
        show tokR (q ++ bl i) (skipF (q ++ bl i) q.size) = _
        rw [hsk]
        unfold tokR
        rw [if_pos (Nat.le_refl _)]
      rw [allT_step hle, hn]
      refine ⟨rfl, ?_⟩
      show [(1, (⟨#[]⟩ : ByteArray))] = [(t.kind, t.text)]
      rw [h1, hf.1]
    · obtain ⟨p1, p2, p3, p4, p5, p6⟩ := hT.part h1
      have hwi := hT.within
      have hwr := hT.writ
      generalize hJ : joinS s bl (i + 1) r = J at *
      have hj : joinS s bl i (t :: r) = bl i ++ (writF s t ++ J) := by rw [← hJ]; rfl
      rw [hj]
      -- the text, and where its parts lie
      have hzs : (q ++ (bl i ++ (writF s t ++ J))).size = q.size + (bl i).size + (t.behind - t.at') + J.size := by
        rw [app_size, app_size, app_size, hw]; omega
      have hzb : ∀ m, m < (bl i).size → bAt (q ++ (bl i ++ (writF s t ++ J))) (q.size + m) = bAt (bl i) m := fun m hm => by
        rw [bAt_right (by rw [app_size]; omega), bAt_left hm]
      have hzw : ∀ m, m < t.behind - t.at' → bAt (q ++ (bl i ++ (writF s t ++ J))) (q.size + (bl i).size + m) = bAt s (t.at' + m) := fun m hm => by
        rw [Nat.add_assoc, bAt_right (by rw [app_size, app_size, hw]; omega), bAt_right (by rw [app_size, hw]; omega), bAt_left (by rw [hw]; exact hm), hwr, bAt_ext hwi (by omega)]
      have hzj : ∀ m, m < J.size → bAt (q ++ (bl i ++ (writF s t ++ J))) (q.size + (bl i).size + (t.behind - t.at') + m) = bAt J m := fun m hm => by
        rw [show q.size + (bl i).size + (t.behind - t.at') + m = q.size + ((bl i).size + ((writF s t).size + m)) by rw [hw]; omega, bAt_right (by rw [app_size, app_size]; omega), bAt_right (by rw [app_size]; omega), bAt_right hm]
      have hassoc : q ++ (bl i ++ (writF s t ++ J)) = (q ++ (bl i ++ writF s t)) ++ J := by rw [ByteArray.append_assoc, ByteArray.append_assoc]
      have hqs : (q ++ (bl i ++ writF s t)).size = q.size + (bl i).size + (t.behind - t.at') := by rw [app_size, app_size, hw]; omega
      have ih := spaced_law s bl hb r t.behind (i + 1) hr (q ++ (bl i ++ writF s t))
      rw [hJ, ← hassoc, hqs] at ih
      have hJ1 : 0 < J.size ∧ isLD (bAt J 0) = false := by
        cases r with
        | nil => exact hr.elim
        | cons t2 r2 =>
          obtain ⟨b1, b2⟩ := hb (i + 1)
          have e : J = bl (i + 1) ++ (writF s t2 ++ joinS s bl (i + 1 + 1) r2) := hJ.symm
          rw [e]
          refine ⟨by rw [app_size]; omega, ?_⟩
          rw [bAt_left b1]
          exact blank_ld (bAt_byte _ _).1 (bAt_byte _ _).2 (b2 0 b1)
      generalize q ++ (bl i ++ (writF s t ++ J)) = z at *
      have hfirst : bAt z (q.size + (bl i).size) = bAt s t.at' := by
        have := hzw 0 (by omega)
        rw [Nat.add_zero, Nat.add_zero] at this
        exact this
      have hle : q.size ≤ z.size := by omega
      have hsk : skipF z q.size = q.size + (bl i).size := skip_eq (by omega) (fun j h1 h2 => by
        obtain ⟨m, rfl⟩ : ∃ m, j = q.size + m := ⟨j - q.size, by omega⟩
        rw [hzb m (by omega)]
        exact hb2 m (by omega)) (by omega) (Or.inr (by
          rw [hfirst]
          have := part_starts p2
          rw [extract_at p1] at this
          exact part_first (bAt_byte _ _).1 (bAt_byte _ _).2 this))
      have htk := tok_local (s := s) (z := z) (p := t.at') (q := q.size + (bl i).size) p1 p2 (by omega) (fun m hm => hzw m (by omega)) (fun _ => Or.inr (by
        have := hzj 0 hJ1.1
        rw [Nat.add_zero, show t.behind - t.at' = (partR (s.extract t.at' s.size)).n by omega] at this
        rw [this]
        exact hJ1.2))
      have hn : nextR z q.size = ⟨t.kind, t.text, q.size + (bl i).size, q.size + (bl i).size + (t.behind - t.at'), 0⟩ := by
        show tokR z (skipF z q.size) = _
        rw [hsk, htk, p3, p4, show t.behind - t.at' = (partR (s.extract t.at' s.size)).n by omega]
      rw [allT_step hle, hn]
      rw [if_neg (fun h => h rfl), if_neg h1]
      refine ⟨ih.1, ?_⟩
      show (t.kind, t.text) :: textsT (allT z _).1 = (t.kind, t.text) :: textsT r
      rw [ih.2]

/-- A name, quoted, is one token. -/
theorem quoted_law (s : ByteArray) (hn : namedB s = true) : ∃ b, allT (quoteF s) 0 = ([⟨2, s, 0, b, 0⟩, ⟨1, ⟨#[]⟩, b, b, 0⟩], 0, 0) := by
  have hs : 0 < s.size ∧ s.size ≤ 32 ∧ allP s = true := by
    unfold namedB at hn
    simpa using hn
  obtain ⟨h0, h32, hp⟩ := hs
  have hpl : ∀ j, j < s.size → plainB (bAt s j) = true := fun j hj => by
    have h1 := (prefL_spec plainB s.data.toList).1 j
    unfold allP at hp
    rw [decide_eq_true_eq] at hp
    exact h1 (by omega)
  -- a text that is one part and nothing behind
  have fin : ∀ (z : ByteArray), 0 < z.size → blankB (bAt z 0) = false → partR z = ⟨2, s, z.size, 0⟩ → ∃ b, allT z 0 = ([⟨2, s, 0, b, 0⟩, ⟨1, ⟨#[]⟩, b, b, 0⟩], 0, 0) := fun z hz hb hpz => by
    refine ⟨z.size, ?_⟩
    have hsk : skipF z 0 = 0 := skip_eq (Nat.le_refl _) (fun j _ h => absurd h (Nat.not_lt_zero _)) (Nat.zero_le _) (Or.inr hb)
    have hex : z.extract 0 z.size = z := ByteArray.extract_zero_size
    have hn1 : nextR z 0 = ⟨2, s, 0, z.size, 0⟩ := by
      show tokR z (skipF z 0) = _
      rw [hsk]
      rcases tokR_cases z 0 with h | h | h
      · omega
      · rw [hex, hpz] at h
        rw [h.2.2]
        show (⟨2, s, 0, 0 + z.size, 0⟩ : Tok) = _
        rw [Nat.zero_add]
      · rw [hex, hpz] at h
        exact absurd rfl h.2.1
    have hsk2 : skipF z z.size = z.size := skip_eq (Nat.le_refl _) (fun j h1 h2 => by omega) (Nat.le_refl _) (Or.inl rfl)
    have hn2 : nextR z z.size = ⟨1, ⟨#[]⟩, z.size, z.size, 0⟩ := by
      show tokR z (skipF z z.size) = _
      rw [hsk2]
      unfold tokR
      rw [if_pos (Nat.le_refl _)]
    rw [allT_step (Nat.zero_le _), hn1, if_neg (fun h => h rfl), if_neg (fun h => by cases h)]
    show (_ :: (allT z z.size).1, (allT z z.size).2) = _
    rw [allT_step (Nat.le_refl _), hn2, if_neg (fun h => h rfl), if_pos rfl]
  rw [quoteF_eq]
  by_cases hi : isNameF s = true
  · rw [if_pos hi]
    unfold isNameF at hi
    simp only [Bool.and_eq_true, decide_eq_true_eq, Bool.not_eq_true'] at hi
    obtain ⟨_, _, hl, hr, hw⟩ := hi
    refine fin s h0 (part_first (bAt_byte _ _).1 (bAt_byte _ _).2 (Or.inl hl)) ?_
    unfold partR wordR
    rw [if_pos hl, hr, ByteArray.extract_zero_size, hw, if_neg (by decide), if_neg (by omega)]
  · rw [if_neg hi, if_pos hn]
    generalize hz : (⟨#[34]⟩ : ByteArray) ++ s ++ ⟨#[34]⟩ = z
    have hzs : z.size = s.size + 2 := by rw [← hz, app_size, app_size]; show 1 + s.size + 1 = _; omega
    have hz0 : bAt z 0 = 34 := by
      rw [← hz, bAt_left (by rw [app_size]; show 0 < 1 + _; omega), bAt_left (by decide)]
      decide
    have hzm : ∀ j, j < s.size → bAt z (1 + j) = bAt s j := fun j hj => by
      rw [← hz, bAt_left (by rw [app_size]; show 1 + j < 1 + _; omega)]
      exact bAt_right (a := ⟨#[34]⟩) (b := s) hj
    have hze : bAt z (1 + s.size) = 34 := by
      have h := bAt_right (a := (⟨#[34]⟩ : ByteArray) ++ s) (b := ⟨#[34]⟩) (i := 0) (by decide)
      rw [app_size, hz] at h
      exact h.trans (by decide)
    have hq : qEnd z = 1 + s.size := qEnd_eq (by omega) (fun j h1 h2 => by
      obtain ⟨m, rfl⟩ : ∃ m, j = 1 + m := ⟨j - 1, by omega⟩
      rw [hzm m (by omega)]
      exact hpl m (by omega)) (Or.inl (by omega)) (Or.inr (by rw [hze]; decide))
    have hx : z.extract 1 (1 + s.size) = s := ba_ext (by rw [size_ext (by omega)]; omega) fun j hj => by
      rw [size_ext (by omega)] at hj
      rw [bAt_ext (by omega) (by omega), hzm j (by omega)]
    refine fin z (by omega) (by rw [hz0]; decide) ?_
    unfold partR
    rw [hz0, if_neg (by decide), if_pos (by decide)]
    unfold quotedR
    rw [hq, if_neg (by omega), if_pos hze, if_neg (by omega), hx, hzs]
    congr 1
    omega
theorem quote_same (s : ByteArray) (hn : namedB s = true) : (quoteF s).toList = s.toList ↔ isNameF s = true := by
  rw [quoteF_eq]
  by_cases hi : isNameF s = true
  · rw [if_pos hi]
    exact ⟨fun _ => hi, fun _ => rfl⟩
  · rw [if_neg hi, if_pos hn]
    refine ⟨fun h => ?_, fun h => absurd h hi⟩
    have := congrArg ByteArray.size (toList_eq h)
    rw [app_size, app_size] at this
    have e : (⟨#[34]⟩ : ByteArray).size = 1 := rfl
    omega
theorem quote_none (s : ByteArray) (hn : namedB s = false) : quoteF s = ⟨#[]⟩ := by
  rw [quoteF_eq]
  have hi : ¬ isNameF s = true := fun hi => by
    unfold isNameF at hi
    simp only [Bool.and_eq_true, decide_eq_true_eq, Bool.not_eq_true'] at hi
    obtain ⟨h0, h32, _, hr, _⟩ := hi
    have hall : ∀ j, j < s.size → plainB (bAt s j) = true := fun j hj => by
      have h1 := runF_ld (s := s) j (by omega)
      have key : ∀ k : Fin 256, isLD ((k : Nat) : Int) = true → plainB ((k : Nat) : Int) = true := by decide +kernel
      have h2 := key ⟨(bAt s j).toNat, by have := bAt_byte s j; omega⟩
      rw [show (((⟨(bAt s j).toNat, by have := bAt_byte s j; omega⟩ : Fin 256) : Nat) : Int) = bAt s j from Int.toNat_of_nonneg (bAt_byte s j).1] at h2
      exact h2 h1
    have : namedB s = true := by
      unfold namedB allP
      rw [prefL_at hall (Nat.le_refl _) (Or.inl rfl)]
      simp
      omega
    rw [this] at hn
    cases hn
  rw [if_neg hi, hn]
  rfl
end Go.Proofs.Ytlmpeddacadfkaa
