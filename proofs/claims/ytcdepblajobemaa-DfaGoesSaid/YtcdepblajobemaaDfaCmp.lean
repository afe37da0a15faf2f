/- Dfa: how edges are compared. -/
import Derived.Test.YtcdepblajobemaaBitsOf
set_option maxRecDepth 100000
namespace Go.Proofs.Ytcdepblajobemaa
open Go.RowKit

/-- An edge. -/
structure Edg where
  fr : Int
  tt : Int
  mu : Nat
  no : Nat
def cmpI (a b : Int) : Int := if a < b then -1 else if b < a then 1 else 0
theorem nan_int (a : Int) (w : World) : Calls Try.prog 113 #[.int .i64 a] w fun e w' => e = .returned (.bool false) ∧ w = w' := by
  go_enter Try.func113, Try.ntmps113
  go_wp2_with fail
  go_ret
  exact ⟨rfl, rfl⟩
theorem nan_u16 (a : Int) (w : World) : Calls Try.prog 114 #[.int .u16 a] w fun e w' => e = .returned (.bool false) ∧ w = w' := by
  go_enter Try.func114, Try.ntmps114
  go_wp2_with fail
  go_ret
  exact ⟨rfl, rfl⟩
theorem cmp_int (a b : Int) (w : World) : Calls Try.prog 110 #[.int .i64 a, .int .i64 b] w fun e w' => e = .returned (.int .i64 (cmpI a b)) ∧ w = w' := by
  have HA := Lib.hid (nan_int a)
  have HB := Lib.hid (nan_int b)
  by_cases h1 : a < b
  · have HC : Hid (cmpI a b = -1) := Lib.hid (by unfold cmpI; rw [if_pos h1])
    go_enter Try.func110, Try.ntmps110
    go_wp2_with fail
    refine (HA.out _).mono ?_
    rintro e w1 ⟨rfl, rfl⟩
    go_wp2_with fail
    refine (HB.out _).mono ?_
    rintro e w1 ⟨rfl, rfl⟩
    go_wp2_with fail
    go_ret
    exact ⟨by rw [HC.out]; rfl, rfl⟩
  · by_cases h2 : b < a
    · have HC : Hid (cmpI a b = 1) := Lib.hid (by unfold cmpI; rw [if_neg h1, if_pos h2])
      go_enter Try.func110, Try.ntmps110
      go_wp2_with fail
      refine (HA.out _).mono ?_
      rintro e w1 ⟨rfl, rfl⟩
      go_wp2_with fail
      refine (HB.out _).mono ?_
      rintro e w1 ⟨rfl, rfl⟩
      go_wp2_with fail
      go_ret
      exact ⟨by rw [HC.out]; rfl, rfl⟩
    · have HC : Hid (cmpI a b = 0) := Lib.hid (by unfold cmpI; rw [if_neg h1, if_neg h2])
      go_enter Try.func110, Try.ntmps110
      go_wp2_with fail
      refine (HA.out _).mono ?_
      rintro e w1 ⟨rfl, rfl⟩
      go_wp2_with fail
      refine (HB.out _).mono ?_
      rintro e w1 ⟨rfl, rfl⟩
      go_wp2_with fail
      go_ret
      exact ⟨by rw [HC.out]; rfl, rfl⟩
theorem cmp_u16 (a b : Int) (w : World) : Calls Try.prog 111 #[.int .u16 a, .int .u16 b] w fun e w' => e = .returned (.int .i64 (cmpI a b)) ∧ w = w' := by
  have HA := Lib.hid (nan_u16 a)
  have HB := Lib.hid (nan_u16 b)
  by_cases h1 : a < b
  · have HC : Hid (cmpI a b = -1) := Lib.hid (by unfold cmpI; rw [if_pos h1])
    go_enter Try.func111, Try.ntmps111
    go_wp2_with fail
    refine (HA.out _).mono ?_
    rintro e w1 ⟨rfl, rfl⟩
    go_wp2_with fail
    refine (HB.out _).mono ?_
    rintro e w1 ⟨rfl, rfl⟩
    go_wp2_with fail
    go_ret
    exact ⟨by rw [HC.out]; rfl, rfl⟩
  · by_cases h2 : b < a
    · have HC : Hid (cmpI a b = 1) := Lib.hid (by unfold cmpI; rw [if_neg h1, if_pos h2])
      go_enter Try.func111, Try.ntmps111
      go_wp2_with fail
      refine (HA.out _).mono ?_
      rintro e w1 ⟨rfl, rfl⟩
      go_wp2_with fail
      refine (HB.out _).mono ?_
      rintro e w1 ⟨rfl, rfl⟩
      go_wp2_with fail
      go_ret
      exact ⟨by rw [HC.out]; rfl, rfl⟩
    · have HC : Hid (cmpI a b = 0) := Lib.hid (by unfold cmpI; rw [if_neg h1, if_neg h2])
      go_enter Try.func111, Try.ntmps111
      go_wp2_with fail
      refine (HA.out _).mono ?_
      rintro e w1 ⟨rfl, rfl⟩
      go_wp2_with fail
      refine (HB.out _).mono ?_
      rintro e w1 ⟨rfl, rfl⟩
      go_wp2_with fail
      go_ret
      exact ⟨by rw [HC.out]; rfl, rfl⟩
/-- The first that is not 0. -/
def orF : List Int → Int
  | [] => 0
  | x :: l => if x = 0 then orF l else x
theorem orF_at : ∀ (A : List Int) (k : Nat), (∀ j, j < k → A.getD j 0 = 0) → k ≤ A.length → (k < A.length → A.getD k 0 ≠ 0) → orF A = A.getD k 0
  | [], k, _, hk, _ => by rfl
  | x :: A, 0, _, _, h => by
    have : x ≠ 0 := h (by simp)
    unfold orF
    rw [if_neg this]
    rfl
  | x :: A, k + 1, h0, hk, h => by
    have hx : x = 0 := h0 0 (by omega)
    unfold orF
    rw [if_pos hx]
    exact orF_at A k (fun j hj => h0 (j + 1) (by omega)) (by simpa using hk) (fun hk => h (by simpa using hk))
set_option maxRecDepth 100000 in
theorem or_int (v : Value) (A : List Int) (w : World) (hA : IntsAt w v A) : Calls Try.prog 109 #[v] w fun e w' => e = .returned (.int .i64 (orF A)) ∧ w = w' := by
  obtain ⟨a, cap, rfl, hb, hl, hc⟩ := hA
  have HC := Lib.hid hc
  have HO := Lib.hid (orF_at A)
  clear hc hb
  go_enter Try.func109, Try.ntmps109
  go_wp2_with fail
  go_loop [8] (fun i => ∃ k : Nat, k ≤ A.length ∧ i = .int .i64 (k : Int) ∧ Hid (∀ j, j < k → A.getD j 0 = 0)) (fun i => A.length - (intOf i).toNat)
  case atStart => exact ⟨0, Nat.zero_le _, rfl, Lib.hid fun j h => absurd h (Nat.not_lt_zero _)⟩
  case round =>
    obtain ⟨k, hk, rfl, H0⟩ := hrel
    by_cases hlt : k < A.length
    · have hkI : (k : Int) < (A.length : Int) := by omega
      rcases HC.out with rfl | ⟨b, off, rfl, hcc⟩
      · exact absurd hlt (by simp)
      have hck := hcc k hlt
      clear hcc
      by_cases hz : A.getD k 0 = 0
      · have HN : Hid (∀ j, j < k + 1 → A.getD j 0 = 0) := Lib.hid fun j hj => by
          by_cases e : j < k
          · exact H0.out j e
          · obtain rfl : j = k := by omega
            exact hz
        rw [hz] at hck
        go_wp2_with fail
        exact ⟨⟨k + 1, by omega, by go_num, HN⟩, by simp [intOf]; omega⟩
      · have HE := Lib.hid (HO.out k H0.out hk (fun _ => hz))
        have hzb : (A.getD k 0 != 0) = true := by simpa using hz
        generalize A.getD k 0 = x at hck hzb HE
        clear hz
        go_wp2_with fail
        go_ret
        exact ⟨by rw [HE.out]; rfl, rfl⟩
    · obtain rfl : k = A.length := by omega
      have hkI : ¬ (A.length : Int) < (A.length : Int) := by omega
      have HE : Hid (orF A = 0) := Lib.hid (by rw [HO.out A.length H0.out (Nat.le_refl _) (fun h => absurd h (Nat.lt_irrefl _)), List.getD_eq_getElem?_getD, List.getElem?_eq_none (Nat.le_refl _)]; rfl)
      go_wp2_with fail
      go_ret
      exact ⟨by rw [HE.out]; rfl, rfl⟩
def edgeV (e : Edg) : Value := .agg #[.int .i64 e.fr, .int .i64 e.tt, .int .u16 (e.mu : Int), .int .u16 (e.no : Int)]
def edgeC (e : Edg) : List Value := [.int .i64 e.fr, .int .i64 e.tt, .int .u16 (e.mu : Int), .int .u16 (e.no : Int)]
def ordF (a b : Edg) : Int := orF [cmpI a.fr b.fr, cmpI a.tt b.tt, cmpI (a.mu : Int) (b.mu : Int), cmpI (a.no : Int) (b.no : Int)]
end Go.Proofs.Ytcdepblajobemaa
