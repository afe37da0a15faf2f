/- Bits: a set's numbers, rising: plain facts, and the document's set as yes and no. -/
import Derived.Test.YtaagbdncfcdfcaaDoorBitsPlain
namespace Go.Proofs.YtaagbdncfcdfcaaDoor

/-- A set's numbers below n, rising. -/
def riseL (n : Nat) (L : List Nat) : List Nat := (List.range n).filter (bit L)
theorem rise_gap {L : List Nat} {a : Nat} : ∀ {b : Nat}, a ≤ b → (∀ j, a ≤ j → j < b → bit L j = false) → riseL b L = riseL a L := by
  intro b
  induction b with
  | zero => intro h _; rw [show a = 0 by omega]
  | succ b ih =>
    intro h hn
    by_cases e : a = b + 1
    · rw [e]
    · unfold riseL at ih ⊢
      rw [List.range_succ, List.filter_append, List.filter_cons_of_neg (by rw [hn b (by omega) (by omega)]; simp), List.filter_nil, List.append_nil]
      exact ih (by omega) fun j h1 h2 => hn j h1 (by omega)
theorem rise_hit {L : List Nat} {m : Nat} (hm : bit L m = true) : riseL (m + 1) L = riseL m L ++ [m] := by
  unfold riseL
  rw [List.range_succ, List.filter_append, List.filter_cons_of_pos (by rw [hm]), List.filter_nil]
theorem rise_prefix {L : List Nat} {a b : Nat} (h : a ≤ b) : riseL a L <+: riseL b L := by
  refine ⟨(((List.range (b - a)).map (a + ·)).filter (bit L)), ?_⟩
  unfold riseL
  rw [← List.filter_append, ← List.range_add, show a + (b - a) = b by omega]
theorem rise_short {L : List Nat} {m n : Nat} (h : m < n) (hm : bit L m = true) : (riseL m L).length < (riseL n L).length := by
  have := (rise_prefix (L := L) (show m + 1 ≤ n from h)).length_le
  rw [rise_hit hm, List.length_append] at this
  simp at this
  omega
theorem rise_len (n : Nat) (L : List Nat) : (riseL n L).length ≤ n := by
  have := List.length_filter_le (bit L) (List.range n)
  rw [List.length_range] at this
  exact this
theorem rise_prefix_get {pre : List Nat} {x : Nat} {T : List Nat} (h : pre ++ [x] <+: T) : pre.length < T.length ∧ T.getD pre.length 0 = x := by
  obtain ⟨t, rfl⟩ := h
  constructor
  · simp
  · simp [List.getD_eq_getElem?_getD]

/-- As yes and no. -/
def yesL (n : Nat) (L : List Nat) : List Bool := (List.range n).map (bit L)
theorem yes_len (n : Nat) (L : List Nat) : (yesL n L).length = n := by simp [yesL]
theorem yes_get (n : Nat) (L : List Nat) (i : Nat) (h : i < n) : (yesL n L).getD i false = bit L i := by simp [yesL, List.getD_eq_getElem?_getD, h]
theorem yes_none (n m : Nat) : yesL n (List.replicate m 0) = List.replicate n false := by
  apply List.ext_getElem (by simp [yesL])
  intro i h1 h2
  simp [yesL, bit_none]
theorem yes_put {n : Nat} {L : List Nat} (g : Good n L) {i : Nat} (hi : i < n) : (yesL n L).set i true = yesL n (putL L i) := by
  apply List.ext_getElem (by simp [yesL])
  intro j h1 h2
  simp [yesL] at h1
  simp only [yesL, List.getElem_set, List.getElem_map, List.getElem_range]
  rw [bit_put g hi]
  by_cases e : i = j
  · simp [e]
  · simp [e]
/-- What All has collected when the first k are looked at. -/
theorem rise_step (L : List Nat) (k : Nat) : riseL (k + 1) L = if bit L k = true then riseL k L ++ [k] else riseL k L := by
  split
  · rename_i h; exact rise_hit h
  · rename_i h
    exact rise_gap (by omega) fun j h1 h2 => by rw [show j = k by omega]; simpa using h
end Go.Proofs.YtaagbdncfcdfcaaDoor
