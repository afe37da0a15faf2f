/- Dfa: the least and the greatest of some numbers. -/
import Derived.Test.YtcdepblajobemaaDfaGrow
import Derived.Test.YtcdepblajobemaaBitsOf
set_option maxRecDepth 100000
namespace Go.Proofs.Ytcdepblajobemaa
open Go.RowKit

def minF (A : List Int) (k : Nat) : Int := (A.take k).foldl (fun a b => if b < a then b else a) (A.getD 0 0)
theorem minF_one {A : List Int} (h : 0 < A.length) : minF A 1 = A.getD 0 0 := by
  cases A with
  | nil => simp at h
  | cons a t => simp [minF]
theorem minF_succ {A : List Int} {k : Nat} (h : k < A.length) : minF A (k + 1) = if A.getD k 0 < minF A k then A.getD k 0 else minF A k := by
  unfold minF
  rw [List.take_succ_eq_append_getElem h, List.foldl_append, List.getD_eq_getElem?_getD (l := A) (i := k), List.getElem?_eq_getElem h]
  rfl
theorem minF_le {A : List Int} : ∀ {k : Nat}, k ≤ A.length → 0 < k → (∃ j, j < k ∧ minF A k = A.getD j 0) ∧ ∀ j, j < k → minF A k ≤ A.getD j 0
  | 0, _, h => absurd h (by omega)
  | k + 1, hk, _ => by
    by_cases h0 : k = 0
    · subst h0
      rw [minF_one (by omega)]
      exact ⟨⟨0, by omega, rfl⟩, fun j hj => by rw [show j = 0 by omega]; exact Int.le_refl _⟩
    · obtain ⟨⟨j, hj, he⟩, hl⟩ := minF_le (A := A) (k := k) (by omega) (by omega)
      rw [minF_succ (by omega)]
      split
      · rename_i hlt
        refine ⟨⟨k, by omega, rfl⟩, fun j' hj' => ?_⟩
        by_cases e : j' = k
        · rw [e]; exact Int.le_refl _
        · have := hl j' (by omega); omega
      · rename_i hlt
        refine ⟨⟨j, by omega, he⟩, fun j' hj' => ?_⟩
        by_cases e : j' = k
        · rw [e]; omega
        · exact hl j' (by omega)
set_option maxHeartbeats 1000000 in
theorem min_any (v : Value) (A : List Int) (h0 : 0 < A.length) (w : World) (h : IntsAt w v A) :
    Calls Try.prog 38 #[v] w fun e w' => e = .returned (.int .i64 (minF A A.length)) ∧ w = w' := by
  obtain ⟨a, cap, rfl, h1, h2, h3⟩ := h
  rcases h3 with h3 | ⟨b, off, rfl, h3⟩
  · rw [h3] at h0; exact absurd h0 (by simp)
  have c0 := h3 0 h0
  rw [Nat.add_zero] at c0
  have H3 := Lib.hid h3
  have H1 := Lib.hid h1
  have hne : ¬ (A.length : Int) < 1 := by omega
  clear h3 h1
  have HO := Lib.hid (minF_one h0)
  generalize A.getD 0 0 = x0 at c0 HO
  go_enter Try.func38, Try.ntmps38
  go_wp2_with fail
  go_loopw [3, 4] (fun m i wr => ∃ k : Nat, 1 ≤ k ∧ k ≤ A.length ∧ i = .int .i64 (k : Int) ∧ m = .int .i64 (minF A k) ∧ wr = w) (fun _ i _ => A.length - (intOf i).toNat)
  case atStart => exact ⟨1, by omega, by omega, rfl, by rw [HO.out], rfl⟩
  case round =>
    obtain ⟨k, hk1, hk, rfl, rfl, rfl⟩ := hrel
    by_cases hlt : k < A.length
    · have hkI : (k : Int) < (A.length : Int) := by omega
      have HT := Lib.hid (minF_succ hlt)
      have c1 := H3.out k hlt
      have c2 := H1.out k hlt
      generalize A.getD k 0 = x at HT c1 c2
      obtain ⟨M', HM'⟩ : ∃ M', Hid (minF A (k + 1) = M') := ⟨_, rfl⟩
      rw [HM'.out] at HT
      generalize minF A k = m at HT
      by_cases hxm : x < m
      · have HX : Hid (M' = x) := Lib.hid (by rw [HT.out, if_pos hxm])
        clear HT
        go_wp2_with fail
        exact ⟨⟨k + 1, by omega, by omega, by go_num, by rw [HM'.out, HX.out], trivial⟩, by simp [intOf]; omega⟩
      · have HX : Hid (M' = m) := Lib.hid (by rw [HT.out, if_neg hxm])
        clear HT
        go_wp2_with fail
        exact ⟨⟨k + 1, by omega, by omega, by go_num, by rw [HM'.out, HX.out], trivial⟩, by simp [intOf]; omega⟩
    · obtain rfl : k = A.length := by omega
      have hkI : ¬ (A.length : Int) < (A.length : Int) := by omega
      go_wp2_with fail
      go_ret
      exact ⟨rfl, rfl⟩
def maxF (A : List Int) (k : Nat) : Int := (A.take k).foldl (fun a b => if a < b then b else a) (A.getD 0 0)
theorem maxF_one {A : List Int} (h : 0 < A.length) : maxF A 1 = A.getD 0 0 := by
  cases A with
  | nil => simp at h
  | cons a t => simp [maxF]
theorem maxF_succ {A : List Int} {k : Nat} (h : k < A.length) : maxF A (k + 1) = if maxF A k < A.getD k 0 then A.getD k 0 else maxF A k := by
  unfold maxF
  rw [List.take_succ_eq_append_getElem h, List.foldl_append, List.getD_eq_getElem?_getD (l := A) (i := k), List.getElem?_eq_getElem h]
  rfl
theorem maxF_le {A : List Int} : ∀ {k : Nat}, k ≤ A.length → 0 < k → (∃ j, j < k ∧ maxF A k = A.getD j 0) ∧ ∀ j, j < k → A.getD j 0 ≤ maxF A k
  | 0, _, h => absurd h (by omega)
  | k + 1, hk, _ => by
    by_cases h0 : k = 0
    · subst h0
      rw [maxF_one (by omega)]
      exact ⟨⟨0, by omega, rfl⟩, fun j hj => by rw [show j = 0 by omega]; exact Int.le_refl _⟩
    · obtain ⟨⟨j, hj, he⟩, hl⟩ := maxF_le (A := A) (k := k) (by omega) (by omega)
      rw [maxF_succ (by omega)]
      split
      · rename_i hlt
        refine ⟨⟨k, by omega, rfl⟩, fun j' hj' => ?_⟩
        by_cases e : j' = k
        · rw [e]; exact Int.le_refl _
        · have := hl j' (by omega); omega
      · rename_i hlt
        refine ⟨⟨j, by omega, he⟩, fun j' hj' => ?_⟩
        by_cases e : j' = k
        · rw [e]; omega
        · exact hl j' (by omega)
set_option maxHeartbeats 1000000 in
theorem max_any (v : Value) (A : List Int) (h0 : 0 < A.length) (w : World) (h : IntsAt w v A) :
    Calls Try.prog 39 #[v] w fun e w' => e = .returned (.int .i64 (maxF A A.length)) ∧ w = w' := by
  obtain ⟨a, cap, rfl, h1, h2, h3⟩ := h
  rcases h3 with h3 | ⟨b, off, rfl, h3⟩
  · rw [h3] at h0; exact absurd h0 (by simp)
  have c0 := h3 0 h0
  rw [Nat.add_zero] at c0
  have H3 := Lib.hid h3
  have H1 := Lib.hid h1
  have hne : ¬ (A.length : Int) < 1 := by omega
  clear h3 h1
  have HO := Lib.hid (maxF_one h0)
  generalize A.getD 0 0 = x0 at c0 HO
  go_enter Try.func39, Try.ntmps39
  go_wp2_with fail
  go_loopw [3, 4] (fun m i wr => ∃ k : Nat, 1 ≤ k ∧ k ≤ A.length ∧ i = .int .i64 (k : Int) ∧ m = .int .i64 (maxF A k) ∧ wr = w) (fun _ i _ => A.length - (intOf i).toNat)
  case atStart => exact ⟨1, by omega, by omega, rfl, by rw [HO.out], rfl⟩
  case round =>
    obtain ⟨k, hk1, hk, rfl, rfl, rfl⟩ := hrel
    by_cases hlt : k < A.length
    · have hkI : (k : Int) < (A.length : Int) := by omega
      have HT := Lib.hid (maxF_succ hlt)
      have c1 := H3.out k hlt
      have c2 := H1.out k hlt
      generalize A.getD k 0 = x at HT c1 c2
      obtain ⟨M', HM'⟩ : ∃ M', Hid (maxF A (k + 1) = M') := ⟨_, rfl⟩
      rw [HM'.out] at HT
      generalize maxF A k = m at HT
      by_cases hxm : m < x
      · have HX : Hid (M' = x) := Lib.hid (by rw [HT.out, if_pos hxm])
        clear HT
        go_wp2_with fail
        exact ⟨⟨k + 1, by omega, by omega, by go_num, by rw [HM'.out, HX.out], trivial⟩, by simp [intOf]; omega⟩
      · have HX : Hid (M' = m) := Lib.hid (by rw [HT.out, if_neg hxm])
        clear HT
        go_wp2_with fail
        exact ⟨⟨k + 1, by omega, by omega, by go_num, by rw [HM'.out, HX.out], trivial⟩, by simp [intOf]; omega⟩
    · obtain rfl : k = A.length := by omega
      have hkI : ¬ (A.length : Int) < (A.length : Int) := by omega
      go_wp2_with fail
      go_ret
      exact ⟨rfl, rfl⟩
end Go.Proofs.Ytcdepblajobemaa
