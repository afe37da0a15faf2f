/- Runner: what is a name; what is a list of names. -/
import Derived.WalkKit
import Derived.Deep.RegionHeld3
import Derived.StillTailTactics
import Derived.BigQuiet
import Derived.Deep.QuietTactic
import Derived.Deep.RegionWith
import Derived.Handy
import Derived.Lib.Hide
import Derived.WalkSpells
import Derived.Test.YtpehmlkikhkmfaaProg
namespace Go.Proofs.Ytpehmlkikhkmfaa
open Go.RowKit

def okByte (c : Int) : Bool := !(decide (c < 32) || (decide (126 < c) || (c == 34 || c == 92)))
def namedF (s : ByteArray) : Bool := (s.toList.all fun c => okByte (c.toNat : Int)) && (decide (s.size ≠ 0) && decide (s.size ≤ 32))

theorem bad_or {c : Int} (h : ¬ okByte c = true) : c < 32 ∨ 126 < c ∨ c = 34 ∨ c = 92 := by
  unfold okByte at h
  simp only [Bool.not_eq_true', Bool.or_eq_false_iff, decide_eq_false_iff_not, beq_eq_false_iff_ne] at h
  omega
theorem namedF_bad {s : ByteArray} {k : Nat} (hk : k < s.size) (h : okByte (s[k].toNat : Int) = false) : namedF s = false := by
  unfold namedF
  have : (s.toList.all fun c => okByte (c.toNat : Int)) = false := by
    rw [List.all_eq_false]
    refine ⟨s[k], ?_, by simp [h]⟩
    rw [ByteArray.toList_eq]
    exact Array.mem_toList_iff.2 (Array.getElem_mem _)
  rw [this, Bool.false_and]
theorem namedF_good {s : ByteArray} (h : ∀ j, (hj : j < s.size) → okByte (s[j].toNat : Int) = true) : namedF s = (decide (s.size ≠ 0) && decide (s.size ≤ 32)) := by
  unfold namedF
  have : (s.toList.all fun c => okByte (c.toNat : Int)) = true := by
    rw [List.all_eq_true]
    intro c hc
    rw [ByteArray.toList_eq] at hc
    obtain ⟨j, hj, rfl⟩ := Array.mem_iff_getElem.1 (Array.mem_toList_iff.1 hc)
    exact h j hj
  rw [this, Bool.true_and]

set_option maxHeartbeats 1000000 in
theorem named_any (s : ByteArray) (w : World) (hs : s.size ≤ maxLen) :
    Calls Try.prog 83 #[.string s] w fun e w' => e = .returned (.bool (namedF s)) ∧ w = w' := by
  unfold maxLen at hs
  go_enter Try.func83, Try.ntmps83
  go_wp2
  go_loop [6] (fun i => ∃ k : Nat, k ≤ s.size ∧ i = .int .i64 (k : Int) ∧ Hid (∀ j, (hj : j < s.size) → j < k → okByte (s[j].toNat : Int) = true)) (fun i => s.size - (intOf i).toNat)
  case atStart => exact ⟨0, by omega, rfl, fun j _ h => absurd h (by omega)⟩
  case round =>
    obtain ⟨k, hk, rfl, HO⟩ := hrel
    by_cases hlt : k < s.size
    · have HB := Lib.hid (fun h => namedF_bad (s := s) hlt h)
      have HG : Hid (okByte (s[k].toNat : Int) = true → ∀ j, (hj : j < s.size) → j < k + 1 → okByte (s[j].toNat : Int) = true) := Lib.hid fun h j hj hjk => by
        rcases Nat.lt_or_ge j k with h1 | h1
        · exact HO.out j hj h1
        · obtain rfl : j = k := by omega
          exact h
      have hge : (0 : Int) ≤ (s[k].toNat : Int) := by omega
      have hle : (s[k].toNat : Int) ≤ 255 := by have := s[k].toNat_lt; omega
      by_cases hok : okByte (s[k].toNat : Int) = true
      · have HG2 := Lib.hid (HG.out hok)
        clear HG HB
        unfold okByte at hok
        simp only [Bool.not_eq_true', Bool.or_eq_false_iff, decide_eq_false_iff_not] at hok
        obtain ⟨h1, h2, h3, h4⟩ := hok
        go_wp2
        go_round
        case rel => exact ⟨k + 1, by omega, by go_num, HG2⟩
        case measure => simp [intOf]; omega
      · have HNo := Lib.hid (HB.out (by simpa using hok))
        clear HG HB
        have hor : (s[k].toNat : Int) < 32 ∨ 126 < (s[k].toNat : Int) ∨ (s[k].toNat : Int) = 34 ∨ (s[k].toNat : Int) = 92 := bad_or hok
        clear hok
        rcases hor with h | h | h | h
        all_goals go_wp2
        all_goals go_ret
        all_goals exact ⟨by rw [HNo.out]; rfl, rfl⟩
    · obtain rfl : k = s.size := by omega
      have hg := namedF_good (fun j hj => HO.out j hj hj)
      have HN := Lib.hid hg
      clear hg
      by_cases h0 : s.size = 0
      · obtain rfl : s = ⟨#[]⟩ := (by simpa using h0 : s = ByteArray.empty)
        go_wp2
        go_ret
        exact ⟨by rw [HN.out]; rfl, rfl⟩
      · have hne : s.toList.isEmpty = false := by
          rw [List.isEmpty_eq_false_iff, ByteArray.toList_eq]
          intro e
          exact h0 (by have := congrArg List.length e; simpa using this)
        go_wp2
        all_goals go_ret
        all_goals exact ⟨by rw [HN.out]; simp [h0]; omega, rfl⟩
end Go.Proofs.Ytpehmlkikhkmfaa
