/- Lex: Quote. -/
import Derived.Test.YtlmpeddacadfkaaLexName
namespace Go.Proofs.Ytlmpeddacadfkaa
open Go.RowKit

def allP (s : ByteArray) : Bool := decide (prefL plainB s.data.toList = s.size)
theorem prefL_at {s : ByteArray} {k : Nat} (hp : ∀ j, j < k → plainB (bAt s j) = true) (hk : k ≤ s.size) (he : k = s.size ∨ plainB (bAt s k) = false) : prefL plainB s.data.toList = k :=
  prefL_eq s.data.toList k hp hk he
def quoteF (s : ByteArray) : ByteArray := if isNameF s = true then s else if s.size = 0 ∨ 32 < s.size then ⟨#[]⟩ else if allP s = true then ⟨#[34]⟩ ++ s ++ ⟨#[34]⟩ else ⟨#[]⟩
set_option maxRecDepth 100000 in
set_option maxHeartbeats 4000000 in
theorem quote_any (s : ByteArray) (w : World) (hs : s.size ≤ maxLen) :
    Calls Try.prog 20 #[.string s] w fun e w' => e = .returned (.string (quoteF s)) ∧ w.grownBy w' none := by
  have HI := Lib.hid (isname_any s w hs)
  have hq : quoteF s = if isNameF s = true then s else if s.size = 0 ∨ 32 < s.size then ⟨#[]⟩ else if allP s = true then ⟨#[34]⟩ ++ s ++ ⟨#[34]⟩ else ⟨#[]⟩ := rfl
  generalize quoteF s = q at hq
  generalize isNameF s = nm at HI hq
  cases nm
  · rw [if_neg (by simp)] at hq
    by_cases h0 : s.size = 0
    · rw [if_pos (Or.inl h0)] at hq
      have HQ := Lib.hid hq
      obtain rfl : s = ⟨#[]⟩ := (by simpa using h0 : s = ByteArray.empty)
      clear hq
      go_enter Try.func20, Try.ntmps20
      go_wp2_with (go_at_call 19; refine HI.out.mono ?_; rintro e w1 ⟨rfl, hg1⟩)
      go_ret
      exact ⟨by rw [HQ.out]; rfl, hg1⟩
    · have hne := not_empty h0
      by_cases h32 : 32 < s.size
      · rw [if_pos (Or.inr h32)] at hq
        have h32I : (32 : Int) < (s.size : Int) := by omega
        have HQ := Lib.hid hq
        clear hq
        go_enter Try.func20, Try.ntmps20
        go_wp2_with (go_at_call 19; refine HI.out.mono ?_; rintro e w1 ⟨rfl, hg1⟩)
        go_ret
        exact ⟨by rw [HQ.out]; rfl, hg1⟩
      · rw [if_neg (by omega)] at hq
        have h32I : ¬ (32 : Int) < (s.size : Int) := by omega
        have HQ := Lib.hid hq
        clear hq
        go_enter Try.func20, Try.ntmps20
        go_wp2_with (go_at_call 19; refine HI.out.mono ?_; rintro e w1 ⟨rfl, hg1⟩)
        go_loop [17] (fun i => ∃ k : Nat, k ≤ s.size ∧ i = .int .i64 (k : Int) ∧ Hid (∀ j, j < k → plainB (bAt s j) = true)) (fun i => s.size - (intOf i).toNat)
        case atStart => exact ⟨0, by omega, rfl, Lib.hid fun j h => absurd h (Nat.not_lt_zero _)⟩
        case round =>
          obtain ⟨k, hk, rfl, HO⟩ := hrel
          by_cases hlt : k < s.size
          · have hkI : (k : Int) < (s.size : Int) := by omega
            have HN : Hid (plainB (bAt s k) = false → q = ⟨#[]⟩) := Lib.hid fun h => by
              rw [HQ.out, if_neg]
              unfold allP
              rw [prefL_at HO.out hk (Or.inr h)]
              simp
              omega
            have HG : Hid (plainB (bAt s k) = true → ∀ j, j < k + 1 → plainB (bAt s j) = true) := Lib.hid fun h j hj => by
              by_cases e : j < k
              · exact HO.out j e
              · obtain rfl : j = k := by omega
                exact h
            rw [← bAt_get hlt] at HN HG
            cases hok : plainB (s[k].toNat : Int)
            · have HQ2 := Lib.hid (HN.out hok)
              have hor := plain_or hok
              clear hok HN HG HQ
              rcases hor with h | h | h | h
              all_goals go_wp2
              all_goals go_ret
              all_goals exact ⟨by rw [HQ2.out]; rfl, hg1⟩
            · have HG2 := Lib.hid (HG.out hok)
              unfold plainB at hok
              simp only [Bool.not_eq_true', Bool.or_eq_false_iff, decide_eq_false_iff_not] at hok
              obtain ⟨h1, h2, h3, h4⟩ := hok
              clear HN HG
              go_wp2
              exact ⟨⟨k + 1, by omega, by go_num, HG2⟩, by simp [intOf]; omega⟩
          · obtain rfl : k = s.size := by omega
            have hkI : ¬ (s.size : Int) < (s.size : Int) := by omega
            have HQ2 : Hid (q = ⟨#[34]⟩ ++ s ++ ⟨#[34]⟩) := Lib.hid (by
              rw [HQ.out, if_pos]
              unfold allP
              rw [prefL_at HO.out (Nat.le_refl _) (Or.inl rfl)]
              simp)
            go_wp2
            go_ret
            exact ⟨by rw [HQ2.out]; rfl, hg1⟩
  · rw [if_pos rfl] at hq
    have HQ := Lib.hid hq
    clear hq
    go_enter Try.func20, Try.ntmps20
    go_wp2_with (go_at_call 19; refine HI.out.mono ?_; rintro e w1 ⟨rfl, hg1⟩)
    go_ret
    exact ⟨by rw [HQ.out]; rfl, hg1⟩
end Go.Proofs.Ytlmpeddacadfkaa
