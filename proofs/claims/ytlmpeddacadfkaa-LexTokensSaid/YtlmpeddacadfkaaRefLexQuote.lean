/- Lex: the document's Named, Quote. -/
import Derived.Test.YtlmpeddacadfkaaRefLexName
namespace Go.Proofs.Ytlmpeddacadfkaa
open Go.RowKit

def namedB (s : ByteArray) : Bool := decide (0 < s.size) && (decide (s.size ≤ 32) && allP s)
theorem namedB_bad {s : ByteArray} {k : Nat} (hp : ∀ j, j < k → plainB (bAt s j) = true) (hk : k < s.size) (h : plainB (bAt s k) = false) : namedB s = false := by
  unfold namedB allP
  rw [prefL_at hp (by omega) (Or.inr h)]
  rw [decide_eq_false (show ¬ k = s.size by omega), Bool.and_false, Bool.and_false]
set_option maxRecDepth 100000 in
set_option maxHeartbeats 2000000 in
theorem named_any (s : ByteArray) (w : World) (hs : s.size ≤ maxLen) : Calls Try.prog 23 #[.string s] w fun e w' => e = .returned (.bool (namedB s)) ∧ w = w' := by
  unfold maxLen at hs
  go_enter Try.func23, Try.ntmps23
  go_wp2_with fail
  go_loop [3] (fun i => ∃ k : Nat, k ≤ s.size ∧ k ≤ 33 ∧ i = .int .i64 (k : Int) ∧ Hid (∀ j, j < k → plainB (bAt s j) = true)) (fun i => s.size - (intOf i).toNat)
  case atStart => exact ⟨0, by omega, by omega, rfl, Lib.hid fun j h => absurd h (Nat.not_lt_zero _)⟩
  case round =>
    obtain ⟨k, hk, hk33, rfl, HO⟩ := hrel
    by_cases hlt : k < s.size ∧ k < 33
    · obtain ⟨hlt, h33⟩ := hlt
      have hkI : (k : Int) < (s.size : Int) := by omega
      have hkJ : (k : Int) < 33 := by omega
      have HN := Lib.hid (fun h => namedB_bad HO.out hlt h)
      have HG : Hid (plainB (bAt s k) = true → ∀ j, j < k + 1 → plainB (bAt s j) = true) := Lib.hid fun h j hj => by
        by_cases e : j < k
        · exact HO.out j e
        · obtain rfl : j = k := by omega
          exact h
      rw [← bAt_get hlt] at HN HG
      cases hok : plainB (s[k].toNat : Int)
      · have HV := Lib.hid (HN.out hok)
        have hor := plain_or hok
        clear hok HN HG
        rcases hor with h | h | h | h
        all_goals go_wp2
        all_goals go_ret
        all_goals exact ⟨by rw [HV.out]; rfl, rfl⟩
      · have HG2 := Lib.hid (HG.out hok)
        unfold plainB at hok
        simp only [Bool.not_eq_true', Bool.or_eq_false_iff, decide_eq_false_iff_not] at hok
        obtain ⟨h1, h2, h3, h4⟩ := hok
        clear HN HG
        go_wp2
        exact ⟨⟨k + 1, by omega, by omega, by go_num, HG2⟩, by simp [intOf]; omega⟩
    · by_cases h32 : s.size ≤ 32
      · obtain rfl : k = s.size := by omega
        have hkI : ¬ (s.size : Int) < (s.size : Int) := by omega
        have hsI : (s.size : Int) ≤ 32 := by omega
        have HV : Hid (namedB s = decide (0 < s.size)) := Lib.hid (by
          unfold namedB allP
          rw [prefL_at HO.out (Nat.le_refl _) (Or.inl rfl)]
          simp [h32])
        by_cases h0 : 0 < s.size
        · have h0I : (0 : Int) < (s.size : Int) := by omega
          go_wp2
          go_ret
          exact ⟨by rw [HV.out]; simp [h0], rfl⟩
        · have h0I : ¬ (0 : Int) < (s.size : Int) := by omega
          go_wp2
          go_ret
          exact ⟨by rw [HV.out]; simp [h0], rfl⟩
      · obtain rfl : k = 33 := by omega
        have HV : Hid (namedB s = false) := Lib.hid (by unfold namedB; simp [h32])
        have hsI : ¬ (s.size : Int) ≤ 32 := by omega
        have h0I : (0 : Int) < (s.size : Int) := by omega
        have hkJ : ¬ (33 : Int) < 33 := by omega
        go_wp2
        all_goals go_ret
        all_goals exact ⟨by rw [HV.out]; rfl, rfl⟩
theorem quoteF_eq (s : ByteArray) : quoteF s = if isNameF s = true then s else if namedB s = true then ⟨#[34]⟩ ++ s ++ ⟨#[34]⟩ else ⟨#[]⟩ := by
  unfold quoteF namedB
  split
  · rfl
  · by_cases h0 : s.size = 0 ∨ 32 < s.size
    · rw [if_pos h0, if_neg]
      simp
      omega
    · rw [if_neg h0]
      have h1 : 0 < s.size ∧ s.size ≤ 32 := by omega
      rw [decide_eq_true h1.1, decide_eq_true h1.2, Bool.true_and, Bool.true_and]
theorem refquote_any (s : ByteArray) (w : World) (hs : s.size ≤ maxLen) : Calls Try.prog 22 #[.string s] w fun e w' => e = .returned (.string (quoteF s)) ∧ w.grownBy w' none := by
  have HI := Lib.hid (refisname_any s w hs)
  have HM := Lib.hid (fun w => named_any s w hs)
  have hq := quoteF_eq s
  generalize quoteF s = q at hq
  generalize isNameF s = nm at HI hq
  have hn : namedB s = true → s.size ≤ 32 := fun h => by
    unfold namedB at h
    simp only [Bool.and_eq_true, decide_eq_true_eq] at h
    exact h.2.1
  generalize namedB s = nb at HM hq hn
  cases nm
  · cases nb
    · have HQ := Lib.hid hq
      clear hq
      go_enter Try.func22, Try.ntmps22
      go_wp2_with (first
        | (go_at_call 21; refine HI.out.mono ?_; rintro e w1 ⟨rfl, hg1⟩)
        | (go_at_call 23; refine (HM.out _).mono ?_; rintro e w2 ⟨rfl, rfl⟩))
      go_ret
      exact ⟨by rw [HQ.out]; rfl, hg1⟩
    · have HQ := Lib.hid hq
      have h32 := hn rfl
      have h32I : (s.size : Int) ≤ 32 := by omega
      clear hq
      go_enter Try.func22, Try.ntmps22
      go_wp2_with (first
        | (go_at_call 21; refine HI.out.mono ?_; rintro e w1 ⟨rfl, hg1⟩)
        | (go_at_call 23; refine (HM.out _).mono ?_; rintro e w2 ⟨rfl, rfl⟩))
      go_ret
      exact ⟨by rw [HQ.out]; rfl, hg1⟩
  · have HQ := Lib.hid hq
    clear hq
    go_enter Try.func22, Try.ntmps22
    go_wp2_with (go_at_call 21; refine HI.out.mono ?_; rintro e w1 ⟨rfl, hg1⟩)
    go_ret
    exact ⟨by rw [HQ.out]; rfl, hg1⟩
end Go.Proofs.Ytlmpeddacadfkaa
