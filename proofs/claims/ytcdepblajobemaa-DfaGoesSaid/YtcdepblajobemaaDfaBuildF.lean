/- Dfa: what Build tells, in plain Lean. -/
import Derived.Test.YtcdepblajobemaaDfaClone
set_option maxRecDepth 100000
namespace Go.Proofs.Ytcdepblajobemaa
open Go.RowKit

theorem small_of_good {n : Nat} {L : List Nat} (_hn : n ≤ 64) (g : Good n L) : Small n L := by
  refine ⟨g.len, ?_⟩
  refine Nat.lt_pow_two_of_testBit _ fun i hi => ?_
  by_cases h : i < 64
  · have h1 := g.top i hi
    unfold bit at h1
    rwa [show i / 64 = 0 by omega, show i % 64 = i by omega] at h1
  · exact bits_of_lt _ (g.wd 0) i (by omega)
theorem good_step {n : Nat} (hn : n ≤ 65536) (E : List Edg) (L : List Nat) (l : Nat) : Good n (stepF n E L l) := by
  unfold stepF
  have : ∀ (E : List Edg) (M : List Nat), Good n M → Good n (E.foldl (stepOne n L l) M) := by
    intro E
    induction E with
    | nil => exact fun _ h => h
    | cons e E ih =>
      intro M h
      refine ih _ ?_
      unfold stepOne
      split
      · exact good_put1 h _
      · exact h
  exact this E _ (good_none hn)
/-- What lies behind a row by a letter, as far as it lives. -/
def transF (a : Aut) (n : Nat) (V : List Nat) (L : List Nat) (l : Nat) : List Nat := andL (stepF n a.E L l) V
def firstF (a : Aut) (n : Nat) (V : List Nat) : List Nat := andL (ofL n a.I) V
theorem good_trans {a : Aut} {n : Nat} (hn : n ≤ 65536) (V L : List Nat) (l : Nat) : Good n (transF a n V L l) := good_and (good_step hn _ _ _) V
theorem good_first {a : Aut} {n : Nat} (hn : n ≤ 65536) (V : List Nat) : Good n (firstF a n V) := good_and (good_of hn _) V
/-- The rows when i are done. -/
def growB (a : Aut) (n : Nat) (V : List Nat) (i : Nat) : List (List Nat) := growN (transF a n V) (2 ^ a.P.length) (firstF a n V) i
/-- .. and l letters of the next. -/
def growL (a : Aut) (n : Nat) (V : List Nat) (i l : Nat) : List (List Nat) := growR (transF a n V) (growB a n V i) ((growB a n V i).getD i []) l
/-- All rows. -/
def allB (a : Aut) (n : Nat) (V : List Nat) : List (List Nat) := growB a n V (2 ^ n)
section
variable {a : Aut} {n : Nat} {V : List Nat}
theorem growB_good (hn : n ≤ 65536) (i : Nat) : ∀ x ∈ growB a n V i, Good n x := growN_all (good_first hn V) (fun L _ k => good_trans hn V L k) i
theorem growL_good (hn : n ≤ 65536) (i l : Nat) : ∀ x ∈ growL a n V i l, Good n x := growR_all (growB_good hn i) (fun k => good_trans hn V _ k) l
theorem growB_nodup (i : Nat) : (growB a n V i).Nodup := growN_nodup i
theorem growL_nodup (i l : Nat) : (growL a n V i l).Nodup := growR_nodup (growB_nodup i) l
theorem growB_le (hn : n ≤ 64) (i : Nat) : (growB a n V i).length ≤ 2 ^ n := small_le hn (growB_nodup i) fun x hx => small_of_good hn (growB_good (by omega) i x hx)
theorem growL_le (hn : n ≤ 64) (i l : Nat) : (growL a n V i l).length ≤ 2 ^ n := small_le hn (growL_nodup i l) fun x hx => small_of_good hn (growL_good (by omega) i l x hx)
theorem growB_pos (i : Nat) : 0 < (growB a n V i).length := growN_pos i
theorem growB_all (hn : n ≤ 64) (i : Nat) : growB a n V i <+: allB a n V := by
  rcases Nat.le_total i (2 ^ n) with h | h
  · exact growN_prefix i _ h
  · have : growB a n V i = allB a n V := growN_stop (growB_le hn _) i h
    rw [this]
    exact List.prefix_rfl
theorem growB_end (hn : n ≤ 64) {i : Nat} (h : (growB a n V i).length ≤ i) : growB a n V i = allB a n V := by
  rcases Nat.le_total i (2 ^ n) with h1 | h1
  · exact (growN_stop h _ h1).symm
  · exact growN_stop (growB_le hn _) i h1
theorem growL_zero (i : Nat) : growL a n V i 0 = growB a n V i := rfl
theorem growL_succ (i l : Nat) : growL a n V i (l + 1) = addR (growL a n V i l) (transF a n V ((growB a n V i).getD i []) l) := growR_succ _ _ _ _
theorem growL_end {i : Nat} (h : i < (growB a n V i).length) : growL a n V i (2 ^ a.P.length) = growB a n V (i + 1) := (growN_go h).symm
theorem growL_all (hn : n ≤ 64) {i l : Nat} (h : i < (growB a n V i).length) (hl : l ≤ 2 ^ a.P.length) : growL a n V i l <+: allB a n V := by
  have h1 : growL a n V i l <+: growL a n V i (2 ^ a.P.length) := growR_prefix _ _ _ l _ hl
  rw [growL_end h] at h1
  exact h1.trans (growB_all hn _)
theorem growL_from (i l : Nat) : growB a n V i <+: growL a n V i l := growR_prefix _ _ _ 0 l (Nat.zero_le _)
end
theorem prefix_getD {α : Type} {A B : List α} (h : A <+: B) {k : Nat} (hk : k < A.length) (x : α) : B.getD k x = A.getD k x := by
  obtain ⟨C, rfl⟩ := h
  rw [List.getD_eq_getElem?_getD, List.getD_eq_getElem?_getD, List.getElem?_append_left hk]
theorem prefix_idx {A B : List (List Nat)} (h : A <+: B) {L : List Nat} (hL : L ∈ A) : B.idxOf L = A.idxOf L := by
  obtain ⟨C, rfl⟩ := h
  rw [List.idxOf_append, if_pos hL]
/-- The numbers of one row. -/
def numsB (a : Aut) (n : Nat) (V : List Nat) (i : Nat) : List Int := (List.range (2 ^ a.P.length)).map fun l => (((allB a n V).idxOf (transF a n V ((allB a n V).getD i []) l) : Nat) : Int)
/-- The automaton that Build makes. -/
def bldD (a : Aut) (n : Nat) (V : List Nat) : Dfa := ⟨a.P, (List.range (allB a n V).length).map (numsB a n V), (allB a n V).map fun L => decide (0 < ones L)⟩
/-- Its error. -/
def bldE (a : Aut) (n nw : Nat) (V : List Nat) (most : Int) : Int := if chkA a ≠ 0 ∨ nw ≠ n then 130 else if most < ((allB a n V).length : Int) then 131 else 0
/-- A row that is new comes last; one that is old has its place. -/
theorem addR_idx (Ls : List (List Nat)) (L : List Nat) : (addR Ls L).idxOf L = if L ∈ Ls then Ls.idxOf L else Ls.length := by
  unfold addR
  split
  · rfl
  · rename_i h
    rw [List.idxOf_append, if_neg h]
    simp
theorem nums_one {a : Aut} {n : Nat} {V : List Nat} (hn : n ≤ 64) {i l : Nat} (h : i < (growB a n V i).length) (hl : l < 2 ^ a.P.length) :
    (numsB a n V i).getD l 0 = ((if transF a n V ((growB a n V i).getD i []) l ∈ growL a n V i l then (growL a n V i l).idxOf (transF a n V ((growB a n V i).getD i []) l) else (growL a n V i l).length : Nat) : Int) := by
  unfold numsB
  rw [List.getD_eq_getElem?_getD, List.getElem?_map, List.getElem?_range hl]
  simp only [Option.map_some, Option.getD_some]
  rw [prefix_getD (growB_all hn i) h]
  congr 1
  rw [← addR_idx, ← growL_succ]
  refine prefix_idx (growL_all hn h hl) ?_
  rw [growL_succ]
  exact addR_mem _ _
end Go.Proofs.Ytcdepblajobemaa
