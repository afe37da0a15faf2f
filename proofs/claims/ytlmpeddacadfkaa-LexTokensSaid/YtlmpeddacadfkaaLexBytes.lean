/- Lex: letters, digits, how many stand at the front. -/
import Derived.WalkKit
import Derived.Deep.RegionHeld3
import Derived.StillTailTactics
import Derived.BigQuiet
import Derived.Deep.QuietTactic
import Derived.Deep.RegionWith
import Derived.Handy
import Derived.Lib.Hide
import Derived.WalkSpells
import Derived.Test.YtlmpeddacadfkaaProg
namespace Go.Proofs.Ytlmpeddacadfkaa
open Go.RowKit

def isLet (c : Int) : Bool := (decide (97 ≤ c) && decide (c ≤ 122)) || ((decide (65 ≤ c) && decide (c ≤ 90)) || c == 95)
def isDig (c : Int) : Bool := decide (48 ≤ c) && decide (c ≤ 57)
def isLD (c : Int) : Bool := isLet c || isDig c
/-- The k-th byte. -/
def bAt (s : ByteArray) (k : Nat) : Int := ((s.data.toList.getD k 0).toNat : Int)
theorem bAt_get {s : ByteArray} {k : Nat} (hk : k < s.size) : (s[k].toNat : Int) = bAt s k := by
  unfold bAt
  rw [List.getD_eq_getElem?_getD, List.getElem?_eq_getElem (by simpa using hk)]
  rfl
theorem bAt_byte (s : ByteArray) (k : Nat) : 0 ≤ bAt s k ∧ bAt s k ≤ 255 := by
  unfold bAt
  have := (s.data.toList.getD k 0).toNat_lt
  omega

def runL : List UInt8 → Nat
  | [] => 0
  | c :: t => if isLD (c.toNat : Int) then runL t + 1 else 0
def runF (s : ByteArray) : Nat := runL s.data.toList
theorem runL_eq : ∀ (l : List UInt8) (k : Nat), (∀ j, j < k → isLD ((l.getD j 0).toNat : Int) = true) → k ≤ l.length → (k = l.length ∨ isLD ((l.getD k 0).toNat : Int) = false) → runL l = k
  | [], k, _, hk, _ => by simp at hk; subst hk; rfl
  | c :: t, 0, _, _, h => by
    rcases h with h | h
    · simp at h
    · have h2 : isLD (c.toNat : Int) = false := h
      unfold runL
      rw [h2]
      rfl
  | c :: t, k + 1, hj, hk, h => by
    have h0 : isLD (c.toNat : Int) = true := hj 0 (by omega)
    unfold runL
    rw [h0, if_pos rfl, runL_eq t k (fun j h1 => hj (j + 1) (by omega)) (by simpa using hk) (by
      rcases h with h | h
      · left; simpa using h
      · right; exact h)]
theorem runF_eq {s : ByteArray} {k : Nat} (hj : ∀ j, j < k → isLD (bAt s j) = true) (hk : k ≤ s.size) (h : k = s.size ∨ isLD (bAt s k) = false) : runF s = k :=
  runL_eq _ k hj (by simpa using hk) (by rcases h with h | h; · left; simpa using h
                                         · right; exact h)
theorem runL_le : ∀ l : List UInt8, runL l ≤ l.length
  | [] => Nat.le_refl _
  | c :: t => by
    unfold runL
    have := runL_le t
    split
    · simp; omega
    · simp
theorem runF_le (s : ByteArray) : runF s ≤ s.size := by
  have := runL_le s.data.toList
  unfold runF
  simpa using this

theorem letter_any (c : Int) (h0 : 0 ≤ c) (h1 : c ≤ 255) (w : World) : Calls Try.prog 43 #[.int .u8 c] w fun e w' => e = .returned (.bool (isLet c)) ∧ w = w' := by
  go_enter Try.func43, Try.ntmps43
  go_wp2
  all_goals go_ret
  all_goals refine ⟨?_, rfl⟩
  all_goals show Ending.returned (Value.bool _) = Ending.returned (Value.bool _)
  all_goals congr 2
  all_goals rw [Bool.eq_iff_iff]
  all_goals simp [isLet]
  all_goals omega
theorem digit_any (c : Int) (h0 : 0 ≤ c) (h1 : c ≤ 255) (w : World) : Calls Try.prog 60 #[.int .u8 c] w fun e w' => e = .returned (.bool (isDig c)) ∧ w = w' := by
  go_enter Try.func60, Try.ntmps60
  go_wp2
  all_goals go_ret
  all_goals refine ⟨?_, rfl⟩
  all_goals show Ending.returned (Value.bool _) = Ending.returned (Value.bool _)
  all_goals congr 2
  all_goals rw [Bool.eq_iff_iff]
  all_goals simp [isDig]
  all_goals omega
set_option maxHeartbeats 1000000 in
theorem run_any (s : ByteArray) (w : World) (hs : s.size ≤ maxLen) :
    Calls Try.prog 44 #[.string s] w fun e w' => e = .returned (.int .i64 (runF s : Int)) ∧ w = w' := by
  unfold maxLen at hs
  go_enter Try.func44, Try.ntmps44
  go_wp2_with fail
  go_loop [3] (fun i => ∃ k : Nat, k ≤ s.size ∧ i = .int .i64 (k : Int) ∧ Hid (∀ j, j < k → isLD (bAt s j) = true)) (fun i => s.size - (intOf i).toNat)
  case atStart => exact ⟨0, by omega, rfl, fun j h => absurd h (by omega)⟩
  case round =>
    obtain ⟨k, hk, rfl, HO⟩ := hrel
    by_cases hlt : k < s.size
    · have hb := bAt_byte s k
      have hkI : (k : Int) < (s.size : Int) := by omega
      have HL := Lib.hid (letter_any (bAt s k) hb.1 hb.2 w)
      have HD := Lib.hid (digit_any (bAt s k) hb.1 hb.2 w)
      have HY : Hid (isLD (bAt s k) = true → ∀ j, j < k + 1 → isLD (bAt s j) = true) := Lib.hid fun h j hj => by
        by_cases e : j < k
        · exact HO.out j e
        · obtain rfl : j = k := by omega
          exact h
      have HN : Hid (isLD (bAt s k) = false → runF s = k) := Lib.hid fun h => runF_eq HO.out hk (Or.inr h)
      unfold isLD at HY HN
      cases h1 : isLet (bAt s k) <;> cases h2 : isDig (bAt s k) <;> rw [h1] at HL <;> rw [h2] at HD <;> simp only [h1, h2, Bool.or_true, Bool.or_false] at HY HN <;> rw [← bAt_get hlt] at HL HD <;> clear h1 h2
      all_goals
        go_wp2_with (first
          | (go_at_call 43; refine HL.out.mono ?_; rintro e w1 ⟨rfl, rfl⟩)
          | (go_at_call 60; refine HD.out.mono ?_; rintro e w1 ⟨rfl, rfl⟩))
      · go_ret
        exact ⟨by rw [HN.out trivial]; rfl, rfl⟩
      all_goals
        exact ⟨⟨k + 1, by omega, by go_num, Lib.hid (HY.out trivial)⟩, by simp [intOf]; omega⟩
    · obtain rfl : k = s.size := by omega
      have HE := Lib.hid (runF_eq HO.out (Nat.le_refl _) (Or.inl rfl))
      go_wp2_with fail
      all_goals go_ret
      all_goals exact ⟨by rw [HE.out]; rfl, rfl⟩
end Go.Proofs.Ytlmpeddacadfkaa
