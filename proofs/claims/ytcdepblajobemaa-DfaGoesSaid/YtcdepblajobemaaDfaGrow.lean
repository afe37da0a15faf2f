/- Dfa: the rows as they come, in plain Lean. -/
import Derived.Test.YtcdepblajobemaaDfaStep
set_option maxRecDepth 100000
namespace Go.Proofs.Ytcdepblajobemaa
open Go.RowKit

theorem nodup_le : ∀ (N : Nat) (l : List Nat), l.Nodup → (∀ x ∈ l, x < N) → l.length ≤ N
  | 0, l, _, h => by
    cases l with
    | nil => simp
    | cons a t => exact absurd (h a (by simp)) (by omega)
  | N + 1, l, hd, h => by
    by_cases hN : N ∈ l
    · have h1 := nodup_le N (l.erase N) (hd.erase N) (fun x hx => by
        have h2 := (List.Nodup.mem_erase_iff hd).1 hx
        have h3 := h x h2.2
        have h4 := h2.1
        omega)
      rw [List.length_erase_of_mem hN] at h1
      omega
    · have h1 := nodup_le N l hd (fun x hx => by
        have h3 := h x hx
        have h4 : x ≠ N := fun e => hN (e ▸ hx)
        omega)
      omega

/-- A row more, if it is new. -/
def addR (Ls : List (List Nat)) (L : List Nat) : List (List Nat) := if L ∈ Ls then Ls else Ls ++ [L]
theorem addR_prefix (Ls : List (List Nat)) (L : List Nat) : Ls <+: addR Ls L := by
  unfold addR
  split
  · exact List.prefix_rfl
  · exact List.prefix_append _ _
theorem addR_mem (Ls : List (List Nat)) (L : List Nat) : L ∈ addR Ls L := by
  unfold addR
  split
  · assumption
  · simp
theorem addR_nodup {Ls : List (List Nat)} (L : List Nat) (h : Ls.Nodup) : (addR Ls L).Nodup := by
  unfold addR
  split
  · exact h
  · rename_i hn
    rw [List.nodup_append]
    exact ⟨h, by simp, fun a ha b hb => by simp at hb; subst hb; exact fun e => hn (e ▸ ha)⟩
theorem addR_all {S : List Nat → Prop} {Ls : List (List Nat)} {L : List Nat} (h : ∀ x ∈ Ls, S x) (hL : S L) : ∀ x ∈ addR Ls L, S x := by
  unfold addR
  split
  · exact h
  · intro x hx
    rcases List.mem_append.1 hx with hx | hx
    · exact h x hx
    · simp at hx; subst hx; exact hL

/-- The rows when l letters of one row are done. -/
def growR (T : List Nat → Nat → List Nat) (Ls : List (List Nat)) (L : List Nat) (l : Nat) : List (List Nat) := (List.range l).foldl (fun acc k => addR acc (T L k)) Ls
theorem growR_zero (T : List Nat → Nat → List Nat) (Ls : List (List Nat)) (L : List Nat) : growR T Ls L 0 = Ls := rfl
theorem growR_succ (T : List Nat → Nat → List Nat) (Ls : List (List Nat)) (L : List Nat) (l : Nat) : growR T Ls L (l + 1) = addR (growR T Ls L l) (T L l) := by
  unfold growR
  rw [List.range_succ, List.foldl_append]
  rfl
theorem growR_prefix (T : List Nat → Nat → List Nat) (Ls : List (List Nat)) (L : List Nat) (l : Nat) : ∀ m, l ≤ m → growR T Ls L l <+: growR T Ls L m := by
  intro m hm
  induction m with
  | zero => rw [show l = 0 by omega]; exact List.prefix_rfl
  | succ m ih =>
    by_cases he : l = m + 1
    · rw [he]; exact List.prefix_rfl
    · rw [growR_succ]
      exact (ih (by omega)).trans (addR_prefix _ _)
theorem growR_nodup {T : List Nat → Nat → List Nat} {Ls : List (List Nat)} {L : List Nat} (h : Ls.Nodup) (l : Nat) : (growR T Ls L l).Nodup := by
  induction l with
  | zero => exact h
  | succ l ih => rw [growR_succ]; exact addR_nodup _ ih
theorem growR_all {S : List Nat → Prop} {T : List Nat → Nat → List Nat} {Ls : List (List Nat)} {L : List Nat} (h : ∀ x ∈ Ls, S x) (hT : ∀ k, S (T L k)) (l : Nat) : ∀ x ∈ growR T Ls L l, S x := by
  induction l with
  | zero => exact h
  | succ l ih => rw [growR_succ]; exact addR_all ih (hT l)

/-- The rows when i rows are done, each by m letters. -/
def growN (T : List Nat → Nat → List Nat) (m : Nat) (first : List Nat) : Nat → List (List Nat)
  | 0 => [first]
  | i + 1 => if i < (growN T m first i).length then growR T (growN T m first i) ((growN T m first i).getD i []) m else growN T m first i
section
variable {T : List Nat → Nat → List Nat} {m : Nat} {first : List Nat}
theorem growN_go {i : Nat} (h : i < (growN T m first i).length) : growN T m first (i + 1) = growR T (growN T m first i) ((growN T m first i).getD i []) m := by
  rw [growN, if_pos h]
theorem growN_one (i : Nat) : growN T m first i <+: growN T m first (i + 1) := by
  rw [growN]
  split
  · exact growR_prefix T _ _ 0 m (Nat.zero_le _)
  · exact List.prefix_rfl
theorem growN_prefix (i : Nat) : ∀ j, i ≤ j → growN T m first i <+: growN T m first j := by
  intro j hj
  induction j with
  | zero => rw [show i = 0 by omega]; exact List.prefix_rfl
  | succ j ih =>
    by_cases he : i = j + 1
    · rw [he]; exact List.prefix_rfl
    · exact (ih (by omega)).trans (growN_one j)
theorem growN_stop {i : Nat} (h : (growN T m first i).length ≤ i) : ∀ j, i ≤ j → growN T m first j = growN T m first i := by
  intro j hj
  induction j with
  | zero => rw [show i = 0 by omega]
  | succ j ih =>
    by_cases he : i = j + 1
    · rw [he]
    · have h1 := ih (by omega)
      rw [growN, if_neg (by rw [h1]; omega), h1]
theorem growN_nodup (i : Nat) : (growN T m first i).Nodup := by
  induction i with
  | zero => simp [growN]
  | succ i ih =>
    rw [growN]
    split
    · exact growR_nodup ih m
    · exact ih
theorem growN_all {S : List Nat → Prop} (h0 : S first) (hT : ∀ L, S L → ∀ k, S (T L k)) (i : Nat) : ∀ x ∈ growN T m first i, S x := by
  induction i with
  | zero => intro x hx; simp [growN] at hx; subst hx; exact h0
  | succ i ih =>
    rw [growN]
    split
    · rename_i hl
      refine growR_all ih (hT _ ?_) m
      rw [List.getD_eq_getElem?_getD, List.getElem?_eq_getElem hl]
      exact ih _ (List.getElem_mem hl)
    · exact ih
theorem growN_pos (i : Nat) : 0 < (growN T m first i).length := Nat.lt_of_lt_of_le (by simp [growN]) (growN_prefix 0 i (Nat.zero_le _)).length_le
end

/-- Sets of few numbers. -/
def Small (n : Nat) (L : List Nat) : Prop := L.length = (n + 63) / 64 ∧ L.getD 0 0 < 2 ^ n
theorem small_le {n : Nat} (hn : n ≤ 64) {Ls : List (List Nat)} (hd : Ls.Nodup) (h : ∀ x ∈ Ls, Small n x) : Ls.length ≤ 2 ^ n := by
  have h1 : (Ls.map fun L => L.getD 0 0).Nodup := by
    rw [List.nodup_iff_pairwise_ne, List.pairwise_map]
    refine List.Pairwise.imp_of_mem ?_ (List.nodup_iff_pairwise_ne.1 hd)
    intro a b ha hb hab e
    obtain ⟨la, -⟩ := h a ha
    obtain ⟨lb, -⟩ := h b hb
    apply hab
    apply List.ext_getElem (by omega)
    intro k ka kb
    have hk : k = 0 := by omega
    subst hk
    simpa [List.getD_eq_getElem?_getD, List.getElem?_eq_getElem ka, List.getElem?_eq_getElem kb] using e
  have h2 := nodup_le (2 ^ n) _ h1 (by
    intro x hx
    obtain ⟨L, hL, rfl⟩ := List.mem_map.1 hx
    exact (h L hL).2)
  simpa using h2
end Go.Proofs.Ytcdepblajobemaa
