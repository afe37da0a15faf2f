/- Dfa: the document's answer: rows that rise, the order of edges. -/
import Derived.Test.YtcdepblajobemaaDfaRefNames
import Derived.IntWalk
set_option maxRecDepth 100000
namespace Go.Proofs.Ytcdepblajobemaa
open Go.RowKit

def aheadB (a b : Edg) : Bool := if a.fr ≠ b.fr then decide (a.fr < b.fr) else if a.tt ≠ b.tt then decide (a.tt < b.tt) else if a.mu ≠ b.mu then decide (a.mu < b.mu) else decide (a.no < b.no)
theorem ahead_ord (a b : Edg) : aheadB a b = decide (ordF a b < 0) := by
  have key : ∀ x y : Int, x ≠ y → cmpI x y ≠ 0 ∧ (cmpI x y < 0 ↔ x < y) := fun x y h => by unfold cmpI; split <;> (try split) <;> omega
  have zero : ∀ x : Int, cmpI x x = 0 := fun x => by unfold cmpI; simp
  unfold aheadB ordF
  by_cases h1 : a.fr = b.fr
  · rw [if_neg (by simpa using h1), h1, zero]
    by_cases h2 : a.tt = b.tt
    · rw [if_neg (by simpa using h2), h2, zero]
      by_cases h3 : a.mu = b.mu
      · rw [if_neg (by simpa using h3), h3, zero]
        by_cases h4 : a.no = b.no
        · rw [h4, zero]
          simp [orF]
        · obtain ⟨k1, k2⟩ := key (a.no : Int) (b.no : Int) (by omega)
          simp only [orF, if_false, k1, if_true]
          rw [decide_eq_decide, k2]
          omega
      · obtain ⟨k1, k2⟩ := key (a.mu : Int) (b.mu : Int) (by omega)
        rw [if_pos h3]
        simp only [orF, if_false, k1, if_true]
        rw [decide_eq_decide, k2]
        omega
    · obtain ⟨k1, k2⟩ := key a.tt b.tt h2
      rw [if_pos h2]
      simp only [orF, if_false, k1, if_true]
      rw [decide_eq_decide, k2]
  · obtain ⟨k1, k2⟩ := key a.fr b.fr h1
    rw [if_pos h1]
    simp only [orF, k1, if_false]
    rw [decide_eq_decide, k2]
set_option maxHeartbeats 1000000 in
theorem refahead_any (a b : Edg) (w : World) : Calls Try.prog 96 #[edgeV a, edgeV b] w fun e w' => e = .returned (.bool (aheadB a b)) ∧ w.grownBy w' none := by
  have hga : w.grownBy ((w.alloc (.cells #[.int .i64 a.fr, .int .i64 a.tt, .int .u16 (a.mu : Int), .int .u16 (a.no : Int)] 61)).alloc (.cells #[.int .i64 b.fr, .int .i64 b.tt, .int .u16 (b.mu : Int), .int .u16 (b.no : Int)] 61)) none := gb_trans (World.grownBy_alloc _ _ none) (World.grownBy_alloc _ _ none) (Or.inl rfl)
  have HG := Lib.hid hga
  clear hga
  unfold edgeV aheadB
  by_cases h1 : a.fr = b.fr
  · have e1 : (a.fr != b.fr) = false := by simpa using h1
    by_cases h2 : a.tt = b.tt
    · have e2 : (a.tt != b.tt) = false := by simpa using h2
      by_cases h3 : a.mu = b.mu
      · have e3 : ((a.mu : Int) != (b.mu : Int)) = false := by rw [h3]; simp
        rw [if_neg (by simpa using h1), if_neg (by simpa using h2), if_neg (by simpa using h3)]
        clear h1 h2 h3
        go_enter Try.func96, Try.ntmps96
        go_wp2
        go_ret
        exact ⟨by simp, HG.out⟩
      · have e3 : ((a.mu : Int) != (b.mu : Int)) = true := by rw [bne_iff_ne]; omega
        rw [if_neg (by simpa using h1), if_neg (by simpa using h2), if_pos h3]
        clear h1 h2 h3
        go_enter Try.func96, Try.ntmps96
        go_wp2
        go_ret
        exact ⟨by simp, HG.out⟩
    · have e2 : (a.tt != b.tt) = true := by simpa using h2
      rw [if_neg (by simpa using h1), if_pos h2]
      clear h1 h2
      go_enter Try.func96, Try.ntmps96
      go_wp2
      go_ret
      exact ⟨by simp, HG.out⟩
  · have e1 : (a.fr != b.fr) = true := by simpa using h1
    rw [if_pos h1]
    clear h1
    go_enter Try.func96, Try.ntmps96
    go_wp2
    go_ret
    exact ⟨by simp, HG.out⟩

set_option maxHeartbeats 2000000 in
theorem refrising_any (v : Value) (A : List Int) (n : Int) (w : World) (hA : IntsAt w v A) : Calls Try.prog 95 #[v, .int .i64 n] w fun e w' => e = .returned (.bool (risingF A n)) ∧ ∃ q, w' = w.drewN q := by
  have HA := Lib.hid hA
  obtain ⟨a, cap, rfl, -, hl, -⟩ := hA
  have HN := Lib.hid (fun k hk h => rising_no (A := A) (n := n) (k := k) hk h)
  have HY := Lib.hid (rising_yes (A := A) (n := n))
  go_enter Try.func95, Try.ntmps95
  go_wp2_with fail
  go_loopw [5] (fun i wr => ∃ k q : Nat, k ≤ A.length ∧ i = .int .i64 (k : Int) ∧ Hid (∀ j, j < k → riseB A n j = true) ∧ Hid (wr = w.drewN q)) (fun i _ => A.length - (intOf i).toNat)
  case atStart => exact ⟨0, 0, Nat.zero_le _, rfl, Lib.hid fun j h => absurd h (Nat.not_lt_zero _), Lib.hid rfl⟩
  case round =>
    obtain ⟨k, q, hk, rfl, H0, HW⟩ := hrel
    have hdr : ∀ m : Nat, (w.drewN q).drewN m = w.drewN (q + m) := fun m => by simp
    have HDr := Lib.hid hdr
    clear hdr
    by_cases hlt : k < A.length
    · have hkI : (k : Int) < (A.length : Int) := by omega
      obtain ⟨_, _, e1, -, -, hc⟩ := HA.out.kept (show w.grownBy wr none by rw [HW.out]; exact gb_drewN w q none)
      cases e1
      rcases hc with rfl | ⟨b, off, rfl, hcc⟩
      · exact absurd hlt (by simp)
      have hck := hcc k hlt
      have HP : Hid (0 < k → wr.cell? ⟨b, off + (k - 1), none⟩ = some (.int .i64 (A.getD (k - 1) 0))) := Lib.hid fun h => hcc (k - 1) (by omega)
      clear hcc
      have HB : Hid (riseB A n k = (decide (0 ≤ A.getD k 0) && (decide (A.getD k 0 < n) && (decide (k = 0) || decide (A.getD (k - 1) 0 < A.getD k 0))))) := Lib.hid rfl
      have HNk := Lib.hid (HN.out k hlt)
      have HYk : Hid (riseB A n k = true → ∀ j, j < k + 1 → riseB A n j = true) := Lib.hid fun h j hj => by
        by_cases e : j < k
        · exact H0.out j e
        · obtain rfl : j = k := by omega
          exact h
      generalize A.getD k 0 = x at hck HB
      generalize A.getD (k - 1) 0 = y at HP HB
      by_cases h0 : x < 0
      · have HV := Lib.hid (HNk.out (by rw [HB.out, decide_eq_false (by omega), Bool.false_and]))
        have hd0 : decide (x < 0) = true := decide_eq_true h0
        clear HB HNk HYk h0
        go_wp2_with fail
        go_quiet (fail)
        go_wp2
        go_ret
        exact ⟨by rw [HV.out]; rfl, by rw [HW.out]; exact ⟨_, HDr.out _⟩⟩
      have hd0 : decide (x < 0) = false := decide_eq_false h0
      by_cases h1 : n ≤ x
      · have HV := Lib.hid (HNk.out (by rw [HB.out, decide_eq_false (show ¬ x < n by omega), Bool.false_and, Bool.and_false]))
        have hd1 : decide (n ≤ x) = true := decide_eq_true h1
        clear HB HNk HYk h0 h1
        go_wp2_with fail
        go_quiet (fail)
        go_wp2
        go_ret
        exact ⟨by rw [HV.out]; rfl, by rw [HW.out]; exact ⟨_, HDr.out _⟩⟩
      have hd1 : decide (n ≤ x) = false := decide_eq_false h1
      by_cases hk0 : 0 < k
      · have hcq := HP.out hk0
        have hd2 : decide ((0 : Int) < (k : Int)) = true := decide_eq_true (by omega)
        have hd3 : decide (0 < k) = true := decide_eq_true hk0
        have z5 : (0 : Int) ≤ (k : Int) - 1 := by omega
        have z6 : (1 : Int) ≤ (k : Int) := by omega
        have z7 : (k : Int) - 1 < (A.length : Int) := by omega
        have htn : ((k : Int) - 1).toNat = k - 1 := by omega
        have z4 : IntKind.i64.wrap ((k : Int) - 1) = (k : Int) - 1 := IntWalk.i64_in _ (by omega)
        by_cases h2 : x ≤ y
        · have HV := Lib.hid (HNk.out (by rw [HB.out, decide_eq_false (show ¬ k = 0 by omega), decide_eq_false (show ¬ y < x by omega), Bool.or_false, Bool.and_false, Bool.and_false]))
          have hd4 : decide (x ≤ y) = true := decide_eq_true h2
          clear HB HNk HYk h0 h1 h2
          go_wp2_with fail
          go_quiet (fail)
          go_wp2
          go_ret
          exact ⟨by rw [HV.out]; rfl, by rw [HW.out]; exact ⟨_, HDr.out _⟩⟩
        · have HV := Lib.hid (HYk.out (by rw [HB.out, decide_eq_true (show 0 ≤ x by omega), decide_eq_true (show x < n by omega), decide_eq_true (show y < x by omega), Bool.or_true]; rfl))
          have hd4 : decide (x ≤ y) = false := decide_eq_false h2
          clear HB HNk HYk h0 h1 h2
          go_wp2_with fail
          go_quiet (fail)
          go_wp2
          go_roundw
          case rel => exact ⟨k + 1, _, by omega, by go_num, HV, Lib.hid (by rw [HW.out]; exact HDr.out _)⟩
          case measure => simp [intOf]; omega
      · obtain rfl : k = 0 := by omega
        have HV := Lib.hid (HYk.out (by rw [HB.out, decide_eq_true (show 0 ≤ x by omega), decide_eq_true (show x < n by omega)]; rfl))
        have hck0 : wr.cell? ⟨b, off, none⟩ = some (.int .i64 x) := hck
        clear HB HNk HYk h0 h1 hk0 hck HP
        go_wp2_with fail
        go_quiet (fail)
        go_wp2
        go_roundw
        case rel => exact ⟨1, _, by omega, by go_num, HV, Lib.hid (by rw [HW.out]; exact HDr.out _)⟩
        case measure => simp [intOf]; omega
    · obtain rfl : k = A.length := by omega
      have HV := Lib.hid (HY.out H0.out)
      go_wp2
      go_ret
      exact ⟨by rw [HV.out]; rfl, by rw [HW.out]; exact ⟨_, rfl⟩⟩
end Go.Proofs.Ytcdepblajobemaa
