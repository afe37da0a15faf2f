/- Bits: After, Has; numbers that wait. -/
import Derived.Test.YtaagbdncfcdfcaaDoorBitsTabForms
import Derived.Lib.TrailingZeros
namespace Go.Proofs.YtaagbdncfcdfcaaDoor
open Go.RowKit

/-- The library's table. -/
def TabAt (w : World) : Prop := ∀ j, j < 64 → w.cell? ⟨0, j, none⟩ = some (.int .u8 ((Lib.deBruijn64tab.getD j 0 : Nat) : Int))
theorem TabAt.kept {w w' : World} {r : Option Nat} (h : TabAt w) (hg : w.grownBy w' r) (hr : r ≠ some 0) : TabAt w' :=
  fun j hj => hg.cell (h j hj) (fun e => hr e.symm)

theorem tz_key (x a : Nat) (hx : x < 18446744073709551616) (hx0 : x ≠ 0) (hlow : x &&& (18446744073709551616 - x) = a) :
    IntKind.u64.wrap (bits BinOp.and IntKind.u64 (x : Int) (IntKind.u64.wrap (-(x : Int))) * 285870213051353865) / 288230376151711744 = ((a * 285870213051353865 % 18446744073709551616 / 288230376151711744 : Nat) : Int) := by
  have e1 : IntKind.u64.wrap (-(x : Int)) = ((18446744073709551616 - x : Nat) : Int) := by rw [IntKind.wrap_u64]; omega
  rw [e1, u64_and_nat x _ hx (by omega), hlow, IntKind.wrap_u64]
  omega

/-- The least bit. -/
theorem ctz_spec {x : Nat} (h0 : x ≠ 0) (h : x < 18446744073709551616) : Lib.ctz 64 x < 64 ∧ x.testBit (Lib.ctz 64 x) = true ∧ ∀ j, j < Lib.ctz 64 x → x.testBit j = false := by
  obtain ⟨m, hm, hk⟩ := Lib.ctzFrom_spec 64 x (by omega) h
  have e : Lib.ctz 64 x = Lib.ctzFrom 64 x := by simp [Lib.ctz, h0]
  rw [e]
  generalize Lib.ctzFrom 64 x = c at *
  refine ⟨hk, ?_, fun j hj => ?_⟩
  · rw [hm, Nat.testBit_two_pow_mul]; simp
  · rw [hm, Nat.testBit_two_pow_mul]
    simp; omega

set_option maxHeartbeats 1000000 in
theorem tz_core (x k idx : Nat) (w : World) (hx0 : ((x : Int) == 0) = false)
    (key : IntKind.u64.wrap (bits BinOp.and IntKind.u64 (x : Int) (IntKind.u64.wrap (-(x : Int))) * 285870213051353865) / 288230376151711744 = (idx : Int))
    (hi : idx < 64) (hk : k < 64) (hcell : w.cell? ⟨0, idx, none⟩ = some (.int .u8 (k : Int))) :
    Calls Tryd.prog 62 #[.int .u64 (x : Int)] w fun e w' => e = .returned (.int .i64 (k : Int)) ∧ w = w' := by
  go_enter Tryd.func62, Tryd.ntmps62
  go_wp2_with (simp only [key])
  go_ret
  exact ⟨rfl, rfl⟩
theorem tz_any (x : Nat) (hx0 : x ≠ 0) (hx : x < 18446744073709551616) (w : World) (hT : TabAt w) :
    Calls Tryd.prog 62 #[.int .u64 (x : Int)] w fun e w' => e = .returned (.int .i64 (Lib.ctz 64 x : Int)) ∧ w = w' := by
  obtain ⟨hlow, hk⟩ := Lib.lowest_bit 64 x hx0 hx
  obtain ⟨hi, htab⟩ := Lib.deBruijn64_at _ hk
  have hcell := hT _ hi
  rw [htab] at hcell
  exact tz_core x _ _ w (by simp; omega) (tz_key x _ hx hx0 hlow) hi hk hcell

/-- What After tells: the least one above i; -1: none. -/
def AfterIs (L : List Nat) (i : Int) (r : Int) : Prop :=
  (r = -1 ∧ ∀ j : Nat, i < j → bit L j = false) ∨ ∃ m : Nat, r = (m : Int) ∧ i < m ∧ bit L m = true ∧ ∀ j : Nat, i < j → j < m → bit L j = false

theorem shifted (x s : Nat) (hx : x < 18446744073709551616) : ∃ y : Nat, IntKind.u64.wrap ((x : Int) / 2 ^ s * 2 ^ s) = (y : Int) ∧ y < 18446744073709551616 ∧ ∀ j, y.testBit j = (decide (s ≤ j) && x.testBit j) := by
  refine ⟨x / 2 ^ s * 2 ^ s, ?_, ?_, fun j => ?_⟩
  · rw [IntKind.wrap_u64]
    have e : ((x : Int) / 2 ^ s * 2 ^ s) = ((x / 2 ^ s * 2 ^ s : Nat) : Int) := by simp
    have := Nat.div_mul_le_self x (2 ^ s)
    rw [e]
    generalize x / 2 ^ s * 2 ^ s = y at this ⊢
    omega
  · exact Nat.lt_of_le_of_lt (Nat.div_mul_le_self x (2 ^ s)) hx
  · rw [Nat.testBit_mul_two_pow, Nat.testBit_div_two_pow]
    by_cases h : s ≤ j
    · simp [h, show j - s + s = j by omega]
    · simp [h]

/-- At a word that bears one: the answer. -/
theorem after_hit {L : List Nat} {i : Int} {k : Nat} {y : Nat} (hy0 : y ≠ 0) (hy : y < 18446744073709551616) (hyb : ∀ j, j < 64 → y.testBit j = (decide (i < (64 * k + j : Nat)) && bit L (64 * k + j)))
    (hb : ∀ j : Nat, i < j → j < 64 * k → bit L j = false) : AfterIs L i ((64 : Int) * k + Lib.ctz 64 y) := by
  obtain ⟨h1, h2, h3⟩ := ctz_spec hy0 hy
  right
  have h4 := hyb _ h1
  rw [h2] at h4
  simp only [Bool.true_eq, Bool.and_eq_true, decide_eq_true_eq] at h4
  refine ⟨64 * k + Lib.ctz 64 y, by omega, h4.1, h4.2, fun j hj1 hj2 => ?_⟩
  by_cases hj : j < 64 * k
  · exact hb j hj1 hj
  · have h5 := hyb (j - 64 * k) (by omega)
    rw [h3 _ (by omega), show 64 * k + (j - 64 * k) = j by omega] at h5
    simpa [hj1] using h5
theorem after_miss {L : List Nat} {i : Int} {k : Nat} {y : Nat} (hy0 : y = 0) (hyb : ∀ j, j < 64 → y.testBit j = (decide (i < (64 * k + j : Nat)) && bit L (64 * k + j)))
    (hb : ∀ j : Nat, i < j → j < 64 * k → bit L j = false) : ∀ j : Nat, i < j → j < 64 * (k + 1) → bit L j = false := by
  intro j hj1 hj2
  by_cases hj : j < 64 * k
  · exact hb j hj1 hj
  · have h5 := hyb (j - 64 * k) (by omega)
    rw [hy0, Nat.zero_testBit, show 64 * k + (j - 64 * k) = j by omega] at h5
    simpa [hj1] using h5.symm

theorem bit_word (L : List Nat) (k j : Nat) (hj : j < 64) : (L.getD k 0).testBit j = bit L (64 * k + j) := by
  unfold bit
  rw [show (64 * k + j) / 64 = k by omega, show (64 * k + j) % 64 = j by omega]

set_option maxHeartbeats 2000000 in
theorem after_core (i : Int) (p g cap n : Nat) (L : List Nat) (w : World) (h : SetAt w p g cap n L) (hT : TabAt w) (h0 : -1 ≤ i) (h1 : i < n) :
    Calls Tryd.prog 27 #[.pointer (some ⟨p, 0, none⟩), .int .i64 i] w fun e w' => (∃ r, e = .returned (.int .i64 r) ∧ AfterIs L i r) ∧ w = w' := by
  have hm := h.max
  have hN := h.cellN
  have hW := h.cellW
  have hl := h.len
  obtain ⟨t, ht⟩ : ∃ t : Nat, i + 1 = (t : Int) := ⟨(i + 1).toNat, by omega⟩
  obtain rfl : i = (t : Int) - 1 := by omega
  have hmax : ((t : Int) - 1) + 1 = (t : Int) := by omega
  have HT := Lib.hid hT
  have hGood := Lib.hid h.good
  clear hT ht
  go_enter Tryd.func27, Tryd.ntmps27
  go_wp2_with fail
  go_loop [5] (fun i => ∃ k : Nat, t / 64 ≤ k ∧ k ≤ L.length ∧ i = .int .i64 (k : Int) ∧ Hid (∀ j : Nat, (t : Int) - 1 < j → j < 64 * k → bit L j = false)) (fun i => L.length - (intOf i).toNat)
  case atStart => exact ⟨t / 64, Nat.le_refl _, by omega, by go_num, fun j h1 h2 => by omega⟩
  case round =>
    obtain ⟨k, hk0, hk, rfl, HB⟩ := hrel
    by_cases hlt : k < L.length
    · have hc := h.cell k hlt
      have hxw := h.wd k
      have HBit := Lib.hid (bit_word L k)
      obtain ⟨y, hy, hyw, hyb⟩ : ∃ y : Nat, Hid ((k = t / 64 ∧ IntKind.u64.wrap (((L.getD k 0 : Nat) : Int) / 2 ^ (t % 64) * 2 ^ (t % 64)) = (y : Int)) ∨ (k ≠ t / 64 ∧ y = L.getD k 0)) ∧ y < 18446744073709551616 ∧ Hid (∀ j, j < 64 → y.testBit j = (decide ((t : Int) - 1 < (64 * k + j : Nat)) && bit L (64 * k + j))) := by
        by_cases hkt : k = t / 64
        · obtain ⟨y, h1, h2, h3⟩ := shifted (L.getD k 0) (t % 64) hxw
          refine ⟨y, Or.inl ⟨hkt, h1⟩, h2, fun j hj => ?_⟩
          rw [h3, HBit.out j hj]
          have : decide (t % 64 ≤ j) = decide ((t : Int) - 1 < (64 * k + j : Nat)) := by
            rw [Bool.eq_iff_iff]; simp; omega
          rw [this]
        · refine ⟨L.getD k 0, Or.inr ⟨hkt, rfl⟩, hxw, fun j hj => ?_⟩
          rw [HBit.out j hj]
          have : decide ((t : Int) - 1 < (64 * k + j : Nat)) = true := by simp; omega
          rw [this]; rfl
      have HY := Lib.hid hyw
      generalize L.getD k 0 = x at hc hxw hy
      clear HBit hyw
      by_cases hy0 : y = 0
      · have hz : ((y : Int) != 0) = false := by rw [hy0]; rfl
        have HM := Lib.hid (after_miss hy0 hyb.out HB.out)
        have HY0 := Lib.hid hy0
        clear hy0
        rcases hy.out with ⟨hkt, he⟩ | ⟨hkt, he⟩
        · clear hy
          subst hkt
          have hb : (((t / 64 : Nat) : Int) == (t : Int) / 64) = true := by rw [beq_iff_eq]; omega
          go_wp2_with (simp only [he])
          go_round
          case rel => exact ⟨t / 64 + 1, by omega, by omega, by go_num, HM.out⟩
          case measure => simp [intOf]; omega
        · have hb : ((k : Int) == (t : Int) / 64) = false := by rw [beq_eq_false_iff_ne]; omega
          subst he
          clear hy hkt
          go_wp2
          go_round
          case rel => exact ⟨k + 1, by omega, by omega, by go_num, HM.out⟩
          case measure => simp [intOf]; omega
      · have hz : ((y : Int) != 0) = true := by rw [bne_iff_ne]; omega
        have HM := Lib.hid (after_hit hy0 HY.out hyb.out HB.out)
        have hct := (ctz_spec hy0 HY.out).1
        have HC := Lib.hid (tz_any y hy0 HY.out w HT.out)
        generalize Lib.ctz 64 y = c at HM hct HC
        clear hy0
        have hkb : k ≤ 1024 := by omega
        rcases hy.out with ⟨hkt, he⟩ | ⟨hkt, he⟩
        · clear hy
          subst hkt
          have hb : (((t / 64 : Nat) : Int) == (t : Int) / 64) = true := by rw [beq_iff_eq]; omega
          go_wp2_with (first | (go_at_call 62; refine HC.out.mono ?_; rintro e w' ⟨rfl, rfl⟩) | simp only [he])
          go_ret
          exact ⟨⟨_, rfl, HM.out⟩, rfl⟩
        · have hb : ((k : Int) == (t : Int) / 64) = false := by rw [beq_eq_false_iff_ne]; omega
          subst he
          clear hy hkt
          go_wp2_with (go_at_call 62; refine HC.out.mono ?_; rintro e w' ⟨rfl, rfl⟩)
          go_ret
          exact ⟨⟨_, rfl, HM.out⟩, rfl⟩
    · have hkl : k = L.length := by omega
      have hlt2 : ¬ (k : Int) < (n + 63) / 64 := by omega
      have HK := Lib.hid hkl
      clear hkl
      go_wp2
      go_ret
      refine ⟨⟨_, rfl, Or.inl ⟨rfl, fun j hj => ?_⟩⟩, rfl⟩
      by_cases hjn : j < n
      · exact HB.out j hj (by have := HK.out; omega)
      · exact hGood.out.top j (by omega)
end Go.Proofs.YtaagbdncfcdfcaaDoor
