/- Runner: 'finals', in plain Lean: which states say the same whatever comes, as the function finds them. -/
import Derived.Test.YtpehmlkikhkmfaaRunWin
namespace Go.Proofs.Ytpehmlkikhkmfaa

/-- The first rounds: what says something else. -/
def startT (O : List Int) (v : Int) (n k : Nat) : List Bool := (List.range n).map fun s => decide (s < k) && (O.getD s 0 != v)
def startW (O : List Int) (v : Int) (k : Nat) : List Int := ((List.range k).filter fun s => O.getD s 0 != v).map fun (s : Nat) => (s : Int)

theorem startT_length (O : List Int) (v : Int) (n k : Nat) : (startT O v n k).length = n := by simp [startT]
theorem startT_get (O : List Int) (v : Int) (n k s : Nat) (hs : s < n) : (startT O v n k).getD s false = (decide (s < k) && (O.getD s 0 != v)) := by
  rw [List.getD_eq_getElem?_getD, List.getElem?_eq_getElem (by simpa [startT] using hs)]
  simp [startT]
theorem ext_getD {T U : List Bool} (hl : T.length = U.length) (h : ∀ s, s < T.length → T.getD s false = U.getD s false) : T = U := by
  apply List.ext_getElem hl
  intro i h1 h2
  have := h i h1
  rw [List.getD_eq_getElem?_getD, List.getElem?_eq_getElem h1, List.getD_eq_getElem?_getD, List.getElem?_eq_getElem h2] at this
  exact this
theorem getD_setB (T : List Bool) (k s : Nat) (x : Bool) (hk : k < T.length) : (T.set k x).getD s false = if k = s then x else T.getD s false := by
  simp only [List.getD_eq_getElem?_getD, List.getElem?_set]
  by_cases e : k = s
  · subst e; simp [hk]
  · simp [e]
theorem startT_yes (O : List Int) (v : Int) (n k : Nat) (hk : k < n) (h : (O.getD k 0 != v) = true) : startT O v n (k + 1) = (startT O v n k).set k true := by
  apply ext_getD (by simp [startT])
  intro s hs
  rw [startT_length] at hs
  rw [startT_get _ _ _ _ _ hs, getD_setB _ _ _ _ (by rw [startT_length]; exact hk), startT_get _ _ _ _ _ hs]
  by_cases e : k = s
  · subst e; rw [h]; simp
  · rw [if_neg e]
    congr 1
    rw [decide_eq_decide]
    omega
theorem startT_no (O : List Int) (v : Int) (n k : Nat) (_hk : k < n) (h : (O.getD k 0 != v) = false) : startT O v n (k + 1) = startT O v n k := by
  apply ext_getD (by simp [startT])
  intro s hs
  rw [startT_length] at hs
  rw [startT_get _ _ _ _ _ hs, startT_get _ _ _ _ _ hs]
  by_cases e : k = s
  · subst e; rw [h]; simp
  · congr 1
    rw [decide_eq_decide]
    omega
theorem startW_yes (O : List Int) (v : Int) (k : Nat) (h : (O.getD k 0 != v) = true) : startW O v (k + 1) = startW O v k ++ [(k : Int)] := by
  unfold startW
  rw [List.range_succ, List.filter_append, List.map_append]
  simp only [List.filter, h]
  rfl
theorem startW_no (O : List Int) (v : Int) (k : Nat) (h : (O.getD k 0 != v) = false) : startW O v (k + 1) = startW O v k := by
  unfold startW
  rw [List.range_succ, List.filter_append, List.map_append]
  simp only [List.filter, h]
  simp

/-- How many are not told yet. -/
def falses (T : List Bool) : Nat := T.count false
theorem falses_set {T : List Bool} {k : Nat} (hk : k < T.length) (h : T.getD k false = false) : falses (T.set k true) + 1 = falses T := by
  unfold falses
  rw [List.getD_eq_getElem?_getD, List.getElem?_eq_getElem hk] at h
  have h' : T[k] = false := h
  have := List.count_set (a := true) (b := false) (l := T) (i := k) hk
  rw [h'] at this
  have hp : 0 < List.count false T := List.count_pos_iff.2 (by rw [← h']; exact List.getElem_mem _)
  simp at this
  omega
theorem falses_start (O : List Int) (v : Int) (n : Nat) : ∀ k, k ≤ n → (startW O v k).length + falses (startT O v n k) = n
  | 0, _ => by
    have : startT O v n 0 = List.replicate n false := by
      apply ext_getD (by simp [startT])
      intro s hs
      rw [startT_length] at hs
      have e : (List.replicate n false).getD s false = false := by rw [List.getD_eq_getElem?_getD, List.getElem?_replicate, if_pos hs]; rfl
      rw [startT_get _ _ _ _ _ hs, e]
      simp
    rw [this]
    simp [startW, falses]
  | k + 1, hk => by
    have ih := falses_start O v n k (by omega)
    by_cases h : (O.getD k 0 != v) = true
    · rw [startW_yes O v k h, startT_yes O v n k (by omega) h]
      have := falses_set (T := startT O v n k) (k := k) (by rw [startT_length]; omega) (by rw [startT_get _ _ _ _ _ (by omega)]; simp)
      rw [List.length_append]
      simp only [List.length_cons, List.length_nil]
      omega
    · have h' : (O.getD k 0 != v) = false := by simpa using h
      rw [startW_no O v k h', startT_no O v n k (by omega) h']
      exact ih

/-- What a row of edges adds. -/
def spread (st : List Bool × List Int) (n : Int) : List Bool × List Int := if st.1.getD n.toNat false then st else (st.1.set n.toNat true, st.2 ++ [n])
def spreads (st : List Bool × List Int) (l : List Int) : List Bool × List Int := l.foldl spread st
theorem spreads_take (st : List Bool × List Int) (l : List Int) (j : Nat) (hj : j < l.length) : spreads st (l.take (j + 1)) = spread (spreads st (l.take j)) (l.getD j 0) := by
  unfold spreads
  rw [List.take_add_one, List.foldl_append]
  have e : l[j]?.toList = [l.getD j 0] := by rw [List.getD_eq_getElem?_getD, List.getElem?_eq_getElem hj]; rfl
  rw [e]
  rfl

/-- To its end. -/
inductive Sweep (B : List (List Int)) : List Bool → List Int → List Bool → Prop
  | done (T : List Bool) : Sweep B T [] T
  | step (T T' : List Bool) (x : Int) (W : List Int) (h : Sweep B (spreads (T, W) (B.getD x.toNat [])).1 (spreads (T, W) (B.getD x.toNat [])).2 T') : Sweep B T (x :: W) T'

def mixF (O : List Int) (v : Int) (T F : List Bool) (n k : Nat) : List Bool := (List.range n).map fun s => F.getD s false || (decide (s < k) && (O.getD s 0 == v && !T.getD s false))
theorem mixF_length (O : List Int) (v : Int) (T F : List Bool) (n k : Nat) : (mixF O v T F n k).length = n := by simp [mixF]
theorem mixF_get (O : List Int) (v : Int) (T F : List Bool) (n k s : Nat) (hs : s < n) : (mixF O v T F n k).getD s false = (F.getD s false || (decide (s < k) && (O.getD s 0 == v && !T.getD s false))) := by
  rw [List.getD_eq_getElem?_getD, List.getElem?_eq_getElem (by simpa [mixF] using hs)]
  simp [mixF]
theorem mixF_zero (O : List Int) (v : Int) (T F : List Bool) (n : Nat) (hF : F.length = n) : mixF O v T F n 0 = F := by
  apply ext_getD (by simp [mixF, hF])
  intro s hs
  rw [mixF_length] at hs
  rw [mixF_get _ _ _ _ _ _ _ hs]
  simp
theorem mixF_step (O : List Int) (v : Int) (T F : List Bool) (n k : Nat) (hk : k < n) : mixF O v T F n (k + 1) = (mixF O v T F n k).set k (F.getD k false || (O.getD k 0 == v && !T.getD k false)) := by
  apply ext_getD (by simp [mixF])
  intro s hs
  rw [mixF_length] at hs
  rw [mixF_get _ _ _ _ _ _ _ hs, getD_setB _ _ _ _ (by rw [mixF_length]; exact hk), mixF_get _ _ _ _ _ _ _ hs]
  by_cases e : k = s
  · subst e; simp
  · rw [if_neg e]
    congr 2
    rw [decide_eq_decide]
    omega

/-- The three rounds. -/
inductive Fins (O : List Int) (B : List (List Int)) : Nat → List Bool → Prop
  | zero : Fins O B 0 (List.replicate O.length false)
  | next (k : Nat) (F T : List Bool) (h : Fins O B k F) (hs : Sweep B (startT O ((k + 1 : Nat) : Int) O.length O.length) (startW O ((k + 1 : Nat) : Int) O.length) T) : Fins O B (k + 1) (mixF O ((k + 1 : Nat) : Int) T F O.length O.length)
theorem Fins.length {O : List Int} {B : List (List Int)} {k : Nat} {F : List Bool} (h : Fins O B k F) : F.length = O.length := by
  cases h with
  | zero => simp
  | next k F T h hs => exact mixF_length _ _ _ _ _ _
end Go.Proofs.Ytpehmlkikhkmfaa
