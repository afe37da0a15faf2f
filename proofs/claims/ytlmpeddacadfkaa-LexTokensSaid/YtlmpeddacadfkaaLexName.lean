/- Lex: IsName, Quote. -/
import Derived.Test.YtlmpeddacadfkaaLexScan
namespace Go.Proofs.Ytlmpeddacadfkaa
open Go.RowKit

def isNameF (s : ByteArray) : Bool := decide (s.size ≠ 0) && (decide (s.size ≤ 32) && (isLet (bAt s 0) && (decide (runF s = s.size) && !hasF wordsL s)))
theorem not_empty {s : ByteArray} (h0 : ¬ s.size = 0) : s.toList.isEmpty = false := by
  rw [List.isEmpty_eq_false_iff, ByteArray.toList_eq]
  intro e
  exact h0 (by have := congrArg List.length e; simpa using this)
set_option maxRecDepth 100000 in
set_option maxHeartbeats 4000000 in
theorem isname_any (s : ByteArray) (w : World) (hs : s.size ≤ maxLen) :
    Calls Try.prog 19 #[.string s] w fun e w' => e = .returned (.bool (isNameF s)) ∧ w.grownBy w' none := by
  have HW := Lib.hid words_any
  have HC := Lib.hid (fun (w : World) (v : Value) (h : TextsAt w v wordsL) => contains_any v wordsL s w h)
  have HR := Lib.hid (fun w => run_any s w hs)
  by_cases h0 : s.size = 0
  · obtain rfl : s = ⟨#[]⟩ := (by simpa using h0 : s = ByteArray.empty)
    go_enter Try.func19, Try.ntmps19
    go_wp2_with fail
    go_ret
    exact ⟨by rfl, gb_refl _ _⟩
  · have hne := not_empty h0
    have h0I : (0 : Int) < (s.size : Int) := by omega
    have hb := bAt_byte s 0
    have HL := Lib.hid (letter_any (bAt s 0) hb.1 hb.2)
    by_cases h32 : s.size ≤ 32
    · have h32I : (s.size : Int) ≤ 32 := by omega
      cases hl : isLet (bAt s 0) <;> rw [hl] at HL <;> rw [← bAt_get (by omega : 0 < s.size)] at HL
      · have HV : Hid (isNameF s = false) := Lib.hid (by unfold isNameF; simp [hl])
        go_enter Try.func19, Try.ntmps19
        go_wp2_with (go_at_call 43; refine (HL.out _).mono ?_; rintro e w1 ⟨rfl, rfl⟩)
        go_ret
        exact ⟨by rw [HV.out]; rfl, gb_refl _ _⟩
      · have hrl := runF_le s
        by_cases hrn : runF s = s.size
        · rw [hrn] at HR
          have HV : Hid (isNameF s = !hasF wordsL s) := Lib.hid (by unfold isNameF; simp [hl, hrn, h0, h32])
          generalize hasF wordsL s = hw at HC HV
          clear hl hrl hrn
          go_enter Try.func19, Try.ntmps19
          go_wp2_with (first
            | (go_at_call 43; refine (HL.out _).mono ?_; rintro e w1 ⟨rfl, rfl⟩)
            | (go_at_call 44; refine (HR.out _).mono ?_; rintro e w1 ⟨rfl, rfl⟩)
            | (go_at_call 46; refine (HW.out _).mono ?_; rintro e w2 ⟨v2, rfl, hT, hg2⟩)
            | (go_at_call 45; refine (HC.out _ _ hT).mono ?_; rintro e w3 ⟨rfl, rfl⟩))
          go_ret
          exact ⟨by rw [HV.out]; rfl, hg2⟩
        · have HV : Hid (isNameF s = false) := Lib.hid (by unfold isNameF; simp [hrn])
          generalize runF s = n at HR hrl hrn
          have hnI : ¬ (n : Int) = (s.size : Int) := by omega
          clear hl hrl hrn
          go_enter Try.func19, Try.ntmps19
          go_wp2_with (first
            | (go_at_call 43; refine (HL.out _).mono ?_; rintro e w1 ⟨rfl, rfl⟩)
            | (go_at_call 44; refine (HR.out _).mono ?_; rintro e w1 ⟨rfl, rfl⟩))
          go_ret
          exact ⟨by rw [HV.out]; rfl, gb_refl _ _⟩
    · have h32I : ¬ (s.size : Int) ≤ 32 := by omega
      have HV : Hid (isNameF s = false) := Lib.hid (by unfold isNameF; simp [h32])
      go_enter Try.func19, Try.ntmps19
      go_wp2_with fail
      go_ret
      exact ⟨by rw [HV.out]; rfl, gb_refl _ _⟩
end Go.Proofs.Ytlmpeddacadfkaa
