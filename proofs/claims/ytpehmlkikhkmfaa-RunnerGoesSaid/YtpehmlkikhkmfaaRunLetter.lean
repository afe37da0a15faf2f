/- Runner: the letter of names. -/
import Derived.Test.YtpehmlkikhkmfaaRunStep
import Derived.Maps.OwnSet

namespace Go.Proofs.Ytpehmlkikhkmfaa
open Go.RowKit

theorem strKeyed : Maps.Keyed Try.prog 9 := Maps.string_keyed Try.underlying9

/-- The map of the names' bits. -/
def NamesAt (w : World) (mb : Nat) (bit : ByteArray → Nat) : Prop :=
  ∃ (n : Nat) (D : DataW Unit), w.ownsMap Try.prog 9 (plainElem Try.prog 81) mb n D ∧ ∀ x : ByteArray, x.size ≤ maxLen → bit x < 65536 ∧ D.atKey (.string x.data.toList) (.lit (.int .u16 0)) = .lit (.int .u16 (bit x : Int))

theorem look_name {w : World} {mb : Nat} {bit : ByteArray → Nat} (h : NamesAt w mb bit) (x : ByteArray) (hx : x.size ≤ maxLen) :
    (Instr.lookup 104 (.map (some mb)) (.string x) false).run Try.prog w = .ok (.int .u16 (bit x : Int)) w ∧ bit x < 65536 := by
  obtain ⟨n, D, hD, hb⟩ := h
  obtain ⟨c, hrun, hat, _⟩ := hD.lookup_int strKeyed Try.underlying104 Try.underlying81 (Try.zeroValue81 w) (WideMaps.keyOf_string_mk Try.underlying9 hx)
  have h2 := hb x hx
  rw [h2.2] at hat
  simp only [DataW.lit.injEq, Lit.int.injEq, true_and] at hat
  subst hat
  exact ⟨hrun, h2.1⟩

def letF (bit : ByteArray → Nat) (l : List ByteArray) : Nat := l.foldl (fun c x => c ||| bit x) 0
theorem letF_take (bit : ByteArray → Nat) (l : List ByteArray) (k : Nat) (hk : k < l.length) : letF bit (l.take (k + 1)) = letF bit (l.take k) ||| bit (l.getD k ⟨#[]⟩) := by
  unfold letF
  rw [List.take_add_one, List.foldl_append]
  have e : l[k]?.toList = [l.getD k ⟨#[]⟩] := by rw [List.getD_eq_getElem?_getD, List.getElem?_eq_getElem hk]; rfl
  rw [e]
  rfl

set_option maxHeartbeats 1000000 in
theorem letter_any {w : World} {p mb : Nat} {v : Value} {bit : ByteArray → Nat} {l : List ByteArray} (h3 : w.cell? ⟨p, 3, none⟩ = some (.map (some mb))) (hN : NamesAt w mb bit) (hl : TextsAt w v l) :
    Calls Try.prog 30 #[.pointer (some ⟨p, 0, none⟩), v] w fun e w' => e = .returned (.int .u16 (letF bit l : Int)) ∧ letF bit l < 65536 ∧ w = w' := by
  obtain ⟨a, cap, rfl, hcap, hlen, hsz, hc⟩ := hl
  have HC := Lib.hid hc
  have HS := Lib.hid hsz
  have HN := Lib.hid hN
  clear hc hsz hN
  go_enter Try.func30, Try.ntmps30
  go_wp2
  go_loop [5, 10] (fun c i => ∃ (k : Nat) (x : Nat), k ≤ l.length ∧ i = .int .i64 (k : Int) ∧ c = .int .u16 (x : Int) ∧ x < 65536 ∧ Hid (x = letF bit (l.take k))) (fun _ i => l.length - (intOf i).toNat)
  case atStart => exact ⟨0, 0, by omega, rfl, rfl, by omega, rfl⟩
  case round =>
    obtain ⟨k, x, hk, rfl, rfl, hx, HX⟩ := hrel
    by_cases hlt : k < l.length
    · rcases HC.out with rfl | ⟨b, off, rfl, hcc⟩
      · exact absurd hlt (by simp)
      · have hcell := hcc k hlt
        obtain ⟨hrun, hbt⟩ := look_name HN.out _ (HS.out k hlt)
        have HT := Lib.hid (letF_take bit l k hlt)
        generalize l.getD k ⟨#[]⟩ = s at hcell hrun hbt HT
        generalize bit s = y at hrun hbt HT
        have hor := u16_or_nat x y hx hbt
        have hlt2 : x ||| y < 65536 := Nat.or_lt_two_pow (n := 16) hx hbt
        generalize hz : x ||| y = z at hor hlt2
        have HZ := Lib.hid hz
        clear hz hcc
        go_wp2_with fail
        go_round
        case rel => exact ⟨k + 1, z, by omega, by go_num, rfl, hlt2, Lib.hid (by rw [HT.out, ← HX.out, HZ.out])⟩
        case measure => simp [intOf]; omega
    · obtain rfl : k = l.length := by omega
      rw [List.take_length] at HX
      go_wp2
      go_ret
      exact ⟨by rw [← HX.out]; rfl, by rw [← HX.out]; exact hx, rfl⟩
end Go.Proofs.Ytpehmlkikhkmfaa
