/- Dfa: the numbers of Build's states come as they rise; Run goes step by step. In plain Lean. -/
import Derived.Test.YtcdepblajobemaaDfaBuild2
import Derived.Test.YtcdepblajobemaaDfaRun
set_option maxRecDepth 100000
namespace Go.Proofs.Ytcdepblajobemaa
open Go.RowKit

section
variable {a : Aut} {n : Nat} {V : List Nat}
theorem live_row (hn : n ≤ 64) {i : Nat} (h : i < (allB a n V).length) : i < (growB a n V i).length := by
  rcases Nat.lt_or_ge i (growB a n V i).length with h1 | h1
  · exact h1
  · have e := growB_end hn h1
    rw [e] at h1
    omega
/-- One number more. -/
theorem goes_num (hn : n ≤ 64) {i l : Nat} (h : i < (growB a n V i).length) (hl : l < 2 ^ a.P.length) :
    ∃ t : Nat, (numsB a n V i).getD l 0 = (t : Int) ∧ t ≤ (growL a n V i l).length ∧ t < (allB a n V).length ∧ (growL a n V i (l + 1)).length = max ((growL a n V i l).length) (t + 1) := by
  have h1 := nums_one (V := V) hn h hl
  have h2 := growL_succ (a := a) (n := n) (V := V) i l
  have h3 := (growL_all (V := V) hn h (show l + 1 ≤ 2 ^ a.P.length from hl)).length_le
  refine ⟨_, h1, ?_, ?_, ?_⟩
  all_goals split
  · rename_i hm
    exact Nat.le_of_lt (List.idxOf_lt_length_of_mem hm)
  · exact Nat.le_refl _
  · rename_i hm
    have := List.idxOf_lt_length_of_mem hm
    have h4 := (growL_all (V := V) hn h (show l ≤ 2 ^ a.P.length from Nat.le_of_lt hl)).length_le
    omega
  · rename_i hm
    rw [h2] at h3
    unfold addR at h3
    rw [if_neg hm] at h3
    simp only [List.length_append, List.length_singleton] at h3
    omega
  · rename_i hm
    have := List.idxOf_lt_length_of_mem hm
    rw [h2]
    unfold addR
    rw [if_pos hm]
    omega
  · rename_i hm
    rw [h2]
    unfold addR
    rw [if_neg hm]
    simp
theorem row_end (hn : n ≤ 64) (i : Nat) : ¬ ((growB a n V (i + 1)).length < i + 2 ∧ i + 1 < (allB a n V).length) := by
  rintro ⟨h1, h2⟩
  have := live_row hn h2
  omega
theorem live_end (hn : n ≤ 64) {N : Nat} (hN : (allB a n V).length = N) : (growB a n V N).length = N := by
  have h1 := (growB_all (a := a) (V := V) hn N).length_le
  rcases Nat.lt_or_ge N (growB a n V N).length with h2 | h2
  · omega
  · rw [growB_end hn h2, hN]
theorem live_zero : (growB a n V 0).length = 1 := by
  unfold growB
  simp [growN]
theorem bldR_len : (bldD a n V).R.length = (allB a n V).length := by simp [bldD]
theorem bldR_row {k : Nat} (h : k < (allB a n V).length) : (bldD a n V).R.getD k [] = numsB a n V k := by
  unfold bldD
  rw [List.getD_eq_getElem?_getD, List.getElem?_map, List.getElem?_range h]
  rfl
theorem allB_le (hn : n ≤ 14) : (allB a n V).length ≤ 16384 := by
  have h1 : (allB a n V).length ≤ 2 ^ n := growB_le (by omega) _
  have h2 : 2 ^ n ≤ 2 ^ 14 := Nat.pow_le_pow_right (by decide) hn
  omega
/-- What Build makes is right. -/
theorem bld_right (hn : n ≤ 14) (hok : chkA a = 0) : dErr (bldD a n V) = 0 := by
  have hnm : namesF a.P = true := by
    unfold chkA chkG rightF at hok
    split at hok
    · rename_i h1
      simp only [Bool.and_eq_true, decide_eq_true_eq] at h1
      exact h1.1
    · cases hok
  unfold dErr
  rw [if_pos]
  unfold dOk
  simp only [Bool.and_eq_true, decide_eq_true_eq, List.all_eq_true, List.mem_range]
  have hpos : 0 < (allB a n V).length := growB_pos _
  refine ⟨hnm, by rw [bldR_len]; omega, by rw [bldR_len]; simp [bldD], fun k hk => ?_⟩
  rw [bldR_len] at hk ⊢
  rw [bldR_row hk]
  unfold rowB
  have hlen := numsB_len a n V k
  have hp : 0 < (numsB a n V k).length := by rw [hlen]; exact Nat.pow_pos (by decide)
  have hr := live_row (V := V) (by omega) hk
  obtain ⟨⟨j1, hj1, e1⟩, -⟩ := minF_le (A := numsB a n V k) (Nat.le_refl _) hp
  obtain ⟨⟨j2, hj2, e2⟩, -⟩ := maxF_le (A := numsB a n V k) (Nat.le_refl _) hp
  rw [hlen] at hj1 hj2
  obtain ⟨t1, f1, -, g1, -⟩ := goes_num (V := V) (by omega) hr hj1
  obtain ⟨t2, f2, -, g2, -⟩ := goes_num (V := V) (by omega) hr hj2
  simp only [Bool.and_eq_true, decide_eq_true_eq]
  refine ⟨hlen, by rw [e1, f1]; omega, by rw [e2, f2]; omega⟩
end
/-- Run goes through when the letters are small. -/
theorem runD_some {d : Dfa} (h : Right d) {U : List Nat} (hU : ∀ k, k < U.length → U.getD k 0 < 2 ^ d.P.length) : ∀ k, k ≤ U.length → ∃ s, runD d (U.take k) = some s ∧ s < d.R.length
  | 0, _ => ⟨0, rfl, by have := h.pos; omega⟩
  | k + 1, hk => by
    obtain ⟨s, h1, h2⟩ := runD_some h hU k (by omega)
    obtain ⟨t, h3, h4⟩ := h.num s h2 _ (hU k (by omega))
    refine ⟨t, ?_, h3⟩
    rw [runD_take (by omega), h1]
    unfold stepD
    simp only []
    rw [if_pos (hU k (by omega)), h4]
    rfl
/-- One step of Run. -/
theorem run_goes {d : Dfa} (h : dErr d = 0) {U : List Nat} (hU : ∀ k, k < U.length → U.getD k 0 < 2 ^ d.P.length) {k : Nat} (hk : k < U.length) :
    runC d (U.take k) = 0 ∧ runC d (U.take (k + 1)) = 0 ∧ runS d (U.take k) < d.R.length ∧ (d.R.getD (runS d (U.take k)) []).getD (U.getD k 0) 0 = (runS d (U.take (k + 1)) : Int) := by
  have hr := right_of h
  obtain ⟨s, h1, h2⟩ := runD_some hr hU k (by omega)
  obtain ⟨t, h3, h4⟩ := runD_some hr hU (k + 1) hk
  obtain ⟨t', h5, h6⟩ := hr.num s h2 _ (hU k hk)
  have h7 := h3
  rw [runD_take hk, h1] at h7
  unfold stepD at h7
  simp only [] at h7
  rw [if_pos (hU k hk), h6] at h7
  unfold runC runS
  rw [if_pos h, if_pos h, if_pos h, if_pos h, h1, h3]
  refine ⟨rfl, rfl, h2, ?_⟩
  show (d.R.getD s []).getD (U.getD k 0) 0 = (t : Int)
  rw [h6]
  injection h7 with h7
  omega
end Go.Proofs.Ytcdepblajobemaa
