/- Runner: steps and events, whatever the letter. -/
import Derived.Test.YtpehmlkikhkmfaaRunLetter
namespace Go.Proofs.Ytpehmlkikhkmfaa
open Go.RowKit

/-- Where a letter leads. -/
def stepF (R : List (List Int)) (c s l : Nat) : Nat := ((R.getD s []).getD (l % 2 ^ c) 0).toNat

section
variable {w : World} {p mb : Nat} {vn vo vf : Value} {vs : List Value} {R : List (List Int)} {O : List Int} {F : List Bool} {s : Nat}

theorem step_lt (h : RunAt w p mb vn vo vf vs R O F s) {c : Nat} (hr : ∀ k, k < R.length → (R.getD k []).length = 2 ^ c) (l : Nat) : stepF R c s l < O.length ∧ (R.getD s []).getD (l % 2 ^ c) 0 = (stepF R c s l : Int) := by
  have hs : s < R.length := by rw [h.lr]; exact h.st
  have hi : l % 2 ^ c < (R.getD s []).length := by rw [hr s hs]; exact Nat.mod_lt _ (Nat.two_pow_pos c)
  obtain ⟨t, ht, e⟩ := inF_nat (h.inr s hs _ hi)
  unfold stepF
  rw [e, Int.toNat_natCast]
  exact ⟨by rw [← h.lr]; exact ht, rfl⟩

theorem step_any (h : RunAt w p mb vn vo vf vs R O F s) {c : Nat} (hr : ∀ k, k < R.length → (R.getD k []).length = 2 ^ c) (hc : c ≤ 8) (l : Nat) (hl : l ≤ 65535) :
    Calls Try.prog 29 #[.pointer (some ⟨p, 0, none⟩), .int .u16 (l : Int)] w fun e w' => e = .returned (.int .u8 (O.getD (stepF R c s l) 0)) ∧ RunAt w' p mb vn vo vf vs R O F (stepF R c s l) ∧ w.grownBy w' (some p) := by
  have hs : s < R.length := by rw [h.lr]; exact h.st
  have hrs := hr s hs
  obtain ⟨h1, h2⟩ := step_lt h hr l
  exact step_core h l hl (l % 2 ^ c) (stepF R c s l) (by rw [hrs]; exact Nat.mod_lt _ (Nat.two_pow_pos c)) (by rw [hrs]; exact and_row l c hl hc) h2 h1 (by rw [hrs]; exact pow_le hc)

theorem event_any {v : Value} {bit : ByteArray → Nat} {l : List ByteArray} (h : RunAt w p mb vn vo vf vs R O F s) {c : Nat} (hr : ∀ k, k < R.length → (R.getD k []).length = 2 ^ c) (hc : c ≤ 8) (hN : NamesAt w mb bit) (hl : TextsAt w v l) :
    Calls Try.prog 28 #[.pointer (some ⟨p, 0, none⟩), v] w fun e w' => e = .returned (.int .u8 (O.getD (stepF R c s (letF bit l)) 0)) ∧ RunAt w' p mb vn vo vf vs R O F (stepF R c s (letF bit l)) ∧ w.grownBy w' (some p) := by
  have HL := Lib.hid (letter_any h.cell3 hN hl)
  have HS := Lib.hid (fun (x : Nat) (hx : x < 65536) => step_any h hr hc x (by omega))
  clear h hr hN hl
  generalize letF bit l = x at HL ⊢
  go_enter Try.func28, Try.ntmps28
  go_wp2_with (first | (go_at_call 30; refine HL.out.mono ?_; rintro e w' ⟨rfl, hx, rfl⟩) | (go_at_call 29; refine (HS.out x hx).mono ?_; rintro e w2 ⟨rfl, h2, h3⟩))
  go_ret
  exact ⟨rfl, h2, h3⟩
end
end Go.Proofs.Ytpehmlkikhkmfaa
