/- Lex: how a token stands in a text. -/
import Derived.Test.YtlmpeddacadfkaaLexLaws
namespace Go.Proofs.Ytlmpeddacadfkaa
open Go.RowKit

set_option maxRecDepth 100000 in
set_option maxHeartbeats 2000000 in
theorem written_any (s : ByteArray) (t : Tok) (w : World) (hs : s.size ≤ maxLen) (ht : t.text.size ≤ 100000000) :
    Calls Try.prog 24 #[.string s, tokenV t] w fun e w' => e = .returned (.string (writF s t)) ∧ w.grownBy w' none := by
  unfold maxLen at hs

  unfold tokenV
  by_cases h2 : t.kind = 2
  · have h2I : (t.kind : Int) = 2 := by omega
    by_cases hat : t.at' < s.size
    · have hatI : (t.at' : Int) < (s.size : Int) := by omega
      by_cases h34 : bAt s t.at' = 34
      · have HW : Hid (writF s t = ⟨#[34]⟩ ++ t.text ++ ⟨#[34]⟩) := Lib.hid (by unfold writF; rw [if_pos ⟨h2, hat, h34⟩])
        rw [← bAt_get hat] at h34
        have h34b : ((s[t.at'].toNat : Int) == 34) = true := by simpa using h34
        clear h34
        go_enter Try.func24, Try.ntmps24
        go_wp2_with fail
        go_ret
        exact ⟨by rw [HW.out]; rfl, World.grownBy_alloc _ _ none⟩
      · have HW : Hid (writF s t = t.text) := Lib.hid (by unfold writF; rw [if_neg (fun h => h34 h.2.2)])
        rw [← bAt_get hat] at h34
        have h34b : ((s[t.at'].toNat : Int) == 34) = false := by simpa using h34
        clear h34
        go_enter Try.func24, Try.ntmps24
        go_wp2_with fail
        go_ret
        exact ⟨by rw [HW.out]; rfl, World.grownBy_alloc _ _ none⟩
    · have HW : Hid (writF s t = t.text) := Lib.hid (by unfold writF; rw [if_neg (fun h => hat h.2.1)])
      have hatI : ¬ (t.at' : Int) < (s.size : Int) := by omega
      go_enter Try.func24, Try.ntmps24
      go_wp2_with fail
      go_ret
      exact ⟨by rw [HW.out]; rfl, World.grownBy_alloc _ _ none⟩
  · have HW : Hid (writF s t = t.text) := Lib.hid (by unfold writF; rw [if_neg (fun h => h2 h.1)])
    have h2I : ¬ (t.kind : Int) = 2 := by omega
    go_enter Try.func24, Try.ntmps24
    go_wp2_with fail
    go_ret
    exact ⟨by rw [HW.out]; rfl, World.grownBy_alloc _ _ none⟩
end Go.Proofs.Ytlmpeddacadfkaa
