/- Bits: what holds of three sets of one width: plain. -/
import Derived.Test.YtaagbdncfcdfcaaBitsPlain
namespace Go.Proofs.Ytaagbdncfcdfcaa

theorem bit_lt {n : Nat} {L : List Nat} (g : Good n L) {i : Nat} (h : bit L i = true) : i < n := by
  rcases Nat.lt_or_ge i n with k | k
  · exact k
  · rw [g.top i k] at h; cases h

theorem ones_at {n : Nat} {L : List Nat} (g : Good n L) : ones L = ((List.range (64 * ((n + 63) / 64))).map fun i => (bit L i).toNat).sum := by
  rw [ones_eq, g.len]

theorem ones_bound {n : Nat} {L : List Nat} (g : Good n L) : ones L ≤ 65600 := by
  have h : ∀ M : List Nat, ones M ≤ 64 * M.length := by
    intro M
    induction M with
    | nil => simp [ones]
    | cons x M ih =>
      have : ones (x :: M) = pc x + ones M := by simp [ones]
      have := pc_le x
      rw [List.length_cons]; omega
  have := h L
  have := g.len
  have := g.max
  omega

theorem law_or_and {n : Nat} {a b : List Nat} (ga : Good n a) (gb : Good n b) : ones (orL n a b) + ones (andL a b) = ones a + ones b := by
  rw [ones_at (good_or ga gb.wd), ones_at (good_and ga b), ones_at ga, ones_at gb, ← sum_add, ← sum_add]
  refine sum_le_of fun i _ => ?_
  rw [bit_or ga, bit_and]
  by_cases hi : i < n
  · cases bit a i <;> cases bit b i <;> simp [hi]
  · rw [ga.top i (by omega), gb.top i (by omega)]; simp

theorem law_less_and {n : Nat} {a b : List Nat} (ga : Good n a) (gb : Good n b) : ones (lessL a b) + ones (andL a b) = ones a := by
  rw [ones_at (good_less ga b gb.wd), ones_at (good_and ga b), ones_at ga, ← sum_add]
  refine sum_le_of fun i _ => ?_
  rw [bit_less _ _ gb.wd, bit_and]
  cases bit a i <;> cases bit b i <;> simp

theorem law_and_in {n : Nat} {a b : List Nat} (ga : Good n a) : withinL (andL a b) a = true := by
  rw [within_iff (good_and ga b).wd ga.wd]
  intro i; rw [bit_and]; cases bit a i <;> simp
theorem law_in_or {n : Nat} {a b : List Nat} (ga : Good n a) (gb : Good n b) : withinL a (orL n a b) = true := by
  rw [within_iff ga.wd (good_or ga gb.wd).wd]
  intro i h; rw [bit_or ga, h]; simp [bit_lt ga h]
theorem law_less_in {n : Nat} {a b : List Nat} (ga : Good n a) (gb : Good n b) : withinL (lessL a b) a = true := by
  rw [within_iff (good_less ga b gb.wd).wd ga.wd]
  intro i; rw [bit_less _ _ gb.wd]; cases bit a i <;> simp

theorem law_dist {n : Nat} {a b c : List Nat} (ga : Good n a) (gb : Good n b) : andL (orL n a b) c = orL n (andL a c) (andL b c) := by
  have g1 := good_and (good_or ga gb.wd) c
  have g2 := good_or (good_and ga c) (good_and gb c).wd
  refine good_ext g1 g2 fun i hi => ?_
  rw [bit_and, bit_or ga, bit_or (good_and ga c), bit_and, bit_and]
  simp [hi]
  cases bit a i <;> cases bit b i <;> cases bit c i <;> rfl
theorem law_whole {n : Nat} {a b : List Nat} (ga : Good n a) (gb : Good n b) : orL n (andL a b) (lessL a b) = a := by
  have g2 := good_or (good_and ga b) (good_less ga b gb.wd).wd
  refine good_ext g2 ga fun i hi => ?_
  rw [bit_or (good_and ga b), bit_and, bit_less _ _ gb.wd]
  simp [hi]
  cases bit a i <;> cases bit b i <;> rfl
theorem law_none {n : Nat} {a b : List Nat} (ga : Good n a) (gb : Good n b) : ones (andL (lessL a b) b) = 0 := by
  rw [ones_at (good_and (good_less ga b gb.wd) b)]
  have : ∀ m, ((List.range m).map fun i => (bit (andL (lessL a b) b) i).toNat).sum = 0 := by
    intro m
    induction m with
    | zero => rfl
    | succ m ih =>
      rw [sum_map_range_succ, ih, bit_and, bit_less _ _ gb.wd]
      cases bit a m <;> cases bit b m <;> rfl
  exact this _

theorem law_within_eq {n : Nat} {a b : List Nat} (ga : Good n a) (gb : Good n b) (h1 : withinL a b = true) (h2 : withinL b a = true) : a = b := by
  rw [within_iff ga.wd gb.wd] at h1
  rw [within_iff gb.wd ga.wd] at h2
  refine good_ext ga gb fun i _ => ?_
  cases e : bit a i with
  | true => exact (h1 i e).symm
  | false =>
    cases f : bit b i with
    | true => rw [h2 i f] at e; cases e
    | false => rfl
theorem law_within_self {n : Nat} {a : List Nat} (ga : Good n a) : withinL a a = true := by
  rw [within_iff ga.wd ga.wd]; exact fun _ h => h
end Go.Proofs.Ytaagbdncfcdfcaa
