/- Bits: Of; the width by a raw number. -/
import Derived.Test.YtaagbdncfcdfcaaDoorBitsKey
namespace Go.Proofs.YtaagbdncfcdfcaaDoor
open Go.RowKit

/-- Whole numbers that came in. -/
def IntsAt (w : World) (v : Value) (A : List Int) : Prop :=
  ∃ a cap, v = .slice a A.length cap ∧ (∀ k, k < A.length → -9223372036854775808 ≤ A.getD k 0 ∧ A.getD k 0 ≤ 9223372036854775807) ∧ (A.length ≤ 17592186043904) ∧
    (A = [] ∨ ∃ b off, a = some ⟨b, off, none⟩ ∧ ∀ k, k < A.length → w.cell? ⟨b, off + k, none⟩ = some (.int .i64 (A.getD k 0)))

theorem IntsAt.kept {w w' : World} {v : Value} {A : List Int} (h : IntsAt w v A) (hg : w.grownBy w' none) : IntsAt w' v A := by
  obtain ⟨a, cap, rfl, h1, h2, h3⟩ := h
  refine ⟨a, cap, rfl, h1, h2, ?_⟩
  rcases h3 with h3 | ⟨b, off, rfl, h3⟩
  · exact Or.inl h3
  · exact Or.inr ⟨b, off, rfl, fun k hk => hg.cell (h3 k hk) (by simp)⟩

theorem put1_yes {n : Nat} {L : List Nat} {i : Nat} (h : i < n) : put1 n L (i : Int) = putL L i := by
  unfold put1; rw [if_pos (by omega), Int.toNat_natCast]
theorem put1_no {n : Nat} {L : List Nat} {i : Int} (h : i < 0 ∨ n ≤ i) : put1 n L i = L := by
  unfold put1; rw [if_neg (by omega)]

theorem put_any (i : Int) (p g cap n : Nat) (L : List Nat) (w : World) (h : SetAt w p g cap n L) :
    Calls Tryd.prog 17 #[.pointer (some ⟨p, 0, none⟩), .int .i64 i] w fun e w' => e = .returned (.tuple #[]) ∧ SetAt w' p g cap n (put1 n L i) ∧ w.grownBy w' (some g) := by
  by_cases hi : 0 ≤ i ∧ i < n
  · obtain ⟨j, rfl⟩ := Int.eq_ofNat_of_zero_le hi.1
    rw [put1_yes (by omega)]
    exact put_yes j p g cap n L w h (by omega)
  · rw [put1_no (by omega)]
    refine (put_no i p g cap n L w h (by omega)).mono ?_
    rintro e w' ⟨rfl, rfl⟩
    exact ⟨rfl, h, gb_refl _ _⟩

set_option maxHeartbeats 1000000 in
theorem of_any (n : Nat) (v : Value) (A : List Int) (w : World) (hn : n ≤ 65536) (hA : IntsAt w v A) :
    Calls Tryd.prog 9 #[.int .i64 (n : Int), v] w (Made w n (ofL n A)) := by
  obtain ⟨a, cap, rfl, h1, h2, h3⟩ := hA
  have HH := Lib.hid h3
  have H1 := Lib.hid h1
  clear h1 h3
  go_enter Tryd.func9, Tryd.ntmps9
  go_wp2_with (go_at_call 8; refine (new_yes _ _ hn).mono ?_; rintro e w0 ⟨p, g, cap0, rfl, hp, hg, hS, hG⟩)
  go_loopw [14] (fun i wr => ∃ k : Nat, k ≤ A.length ∧ i = .int .i64 (k : Int) ∧ SetAt wr p g cap0 n (ofL n (A.take k)) ∧ w.grownBy wr none) (fun i _ => A.length - (intOf i).toNat)
  case atStart => exact ⟨0, by omega, rfl, hS, hG⟩
  case round =>
    obtain ⟨k, hk, rfl, hR, hW⟩ := hrel
    by_cases hlt : k < A.length
    · have hb := H1.out k hlt
      have HT := Lib.hid (of_take n A k hlt)
      rcases HH.out with rfl | ⟨b, off, rfl, hc⟩
      · exact absurd hlt (by simp)
      · have hc' := hW.cell (hc k hlt) (by simp)
        clear hc
        generalize A.getD k 0 = x at hb hc' HT
        go_wp2_with (go_at_call 17; refine (put_any _ _ _ _ _ _ _ hR).mono ?_; rintro e w' ⟨rfl, hR', hg'⟩)
        go_roundw
        case rel => exact ⟨k + 1, by omega, by go_num, by rw [HT.out]; exact hR', gb_trans hW hg' (Or.inr (Or.inr ⟨_, rfl, hg⟩))⟩
        case measure => simp [intOf]; omega
    · obtain rfl : k = A.length := by omega
      rw [List.take_length] at hR
      go_wp2
      go_ret
      exact ⟨p, g, cap0, rfl, hp, hg, hR, hW⟩

/-- 'pick', 'width': a number out of a raw one. -/
def pickF (c m : Int) : Int := if c < 0 then (-(c + 1)) % m else c % m
def widthF (c : Int) : Nat := (if c.tmod 16 = 15 then pickF (c.tdiv 16) 65537 else pickF c 150).toNat
theorem widthF_le (c : Int) : widthF c ≤ 65536 := by
  unfold widthF pickF; omega
set_option maxHeartbeats 400000 in
theorem pick_any (c m : Int) (w : World) (h1 : -9223372036854775808 ≤ c) (h2 : c ≤ 9223372036854775807) (h3 : 0 < m) (h4 : m ≤ 9223372036854775807) :
    Calls Tryd.prog 18 #[.int .i64 c, .int .i64 m] w fun e w' => e = .returned (.int .i64 (pickF c m)) ∧ w = w' := by
  by_cases h : c < 0
  · have hp : pickF c m = -((c + 1).tmod m) := by unfold pickF; rw [if_pos h, ← Int.neg_tmod, Int.tmod_eq_emod_of_nonneg (by omega)]
    have HP := Lib.hid hp
    clear hp
    go_enter Tryd.func18, Tryd.ntmps18
    go_wp2
    go_ret
    exact ⟨by rw [HP.out]; rfl, rfl⟩
  · have hp : pickF c m = c % m := by unfold pickF; rw [if_neg h]
    have HP := Lib.hid hp
    clear hp
    go_enter Tryd.func18, Tryd.ntmps18
    go_wp2
    go_ret
    exact ⟨by rw [HP.out]; rfl, rfl⟩
set_option maxHeartbeats 400000 in
theorem width_any (c : Int) (w : World) (h1 : -9223372036854775808 ≤ c) (h2 : c ≤ 9223372036854775807) :
    Calls Tryd.prog 12 #[.int .i64 c] w fun e w' => e = .returned (.int .i64 (widthF c : Int)) ∧ w = w' := by
  by_cases h : c.tmod 16 = 15
  · have hp : (widthF c : Int) = pickF (c.tdiv 16) 65537 := by unfold widthF; rw [if_pos h]; unfold pickF; omega
    have hb : (c.tmod 16 == 15) = true := by rw [beq_iff_eq]; exact h
    have hc : 0 ≤ c := by
      rcases Int.lt_or_le c 0 with hh | hh
      · exfalso
        have e := Int.neg_tmod (-c) 16
        rw [Int.neg_neg] at e
        have e2 := Int.tmod_eq_emod_of_nonneg (a := -c) (b := 16) (by omega)
        rw [e2] at e
        omega
      · exact hh
    have hd : c.tdiv 16 = c / 16 := Int.tdiv_eq_ediv_of_nonneg hc
    rw [hd] at hp
    rw [Int.tmod_eq_emod_of_nonneg hc] at hb
    clear h hd
    have HP := Lib.hid hp
    clear hp
    go_enter Tryd.func12, Tryd.ntmps12
    go_wp2_with (go_at_call 18; refine (pick_any _ _ _ (by omega) (by omega) (by omega) (by omega)).mono ?_; rintro e w' ⟨rfl, rfl⟩)
    go_ret
    exact ⟨by rw [HP.out]; rfl, rfl⟩
  · have hp : (widthF c : Int) = pickF c 150 := by unfold widthF; rw [if_neg h]; unfold pickF; omega
    have hb : (c.tmod 16 == 15) = false := by rw [beq_eq_false_iff_ne]; exact h
    have HP := Lib.hid hp
    clear hp h
    by_cases hc : 0 ≤ c
    · rw [Int.tmod_eq_emod_of_nonneg hc] at hb
      go_enter Tryd.func12, Tryd.ntmps12
      go_wp2_with (go_at_call 18; refine (pick_any _ _ _ (by omega) (by omega) (by omega) (by omega)).mono ?_; rintro e w' ⟨rfl, rfl⟩)
      go_ret
      exact ⟨by rw [HP.out]; rfl, rfl⟩
    · go_enter Tryd.func12, Tryd.ntmps12
      go_wp2_with (go_at_call 18; refine (pick_any _ _ _ (by omega) (by omega) (by omega) (by omega)).mono ?_; rintro e w' ⟨rfl, rfl⟩)
      go_ret
      exact ⟨by rw [HP.out]; rfl, rfl⟩
end Go.Proofs.YtaagbdncfcdfcaaDoor
