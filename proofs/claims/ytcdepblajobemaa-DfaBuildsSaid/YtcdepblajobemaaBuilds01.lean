/- Bits: rows of words of 64 bits as sets of numbers: plain facts, no program in sight. -/
import Init
import Derived.WalkKit
import Derived.Deep.RegionHeld3
import Derived.StillTailTactics
import Derived.BigQuiet
import Derived.Deep.QuietTactic
import Derived.Deep.RegionWith
import Derived.Handy
import Derived.Lib.Hide
import Derived.WalkSpells
import Derived.Test.YtcdepblajobemaaProg
import Derived.Laws.BitsAllLaws
set_option maxRecDepth 100000
namespace Go.Proofs.Ytcdepblajobemaa

def bit (L : List Nat) (i : Nat) : Bool := (L.getD (i / 64) 0).testBit (i % 64)

structure Good (n : Nat) (L : List Nat) : Prop where
  len : L.length = (n + 63) / 64
  max : n ≤ 65536
  wd : ∀ k, L.getD k 0 < 18446744073709551616
  top : ∀ i, n ≤ i → bit L i = false

def putL (L : List Nat) (i : Nat) : List Nat := L.set (i / 64) (L.getD (i / 64) 0 ||| 2 ^ (i % 64))
def cutL (L : List Nat) (i : Nat) : List Nat := L.set (i / 64) (L.getD (i / 64) 0 &&& (18446744073709551615 - 2 ^ (i % 64)))

theorem getD_set (L : List Nat) (k j x : Nat) (h : k < L.length) : (L.set k x).getD j 0 = if k = j then x else L.getD j 0 := by
  simp only [List.getD_eq_getElem?_getD, List.getElem?_set]
  by_cases e : k = j
  · subst e; simp [h]
  · simp [e]

theorem two_pow_lt (i : Nat) : 2 ^ (i % 64) < 18446744073709551616 := by
  have h : i % 64 < 64 := Nat.mod_lt _ (by decide)
  calc 2 ^ (i % 64) < 2 ^ 64 := Nat.pow_lt_pow_right (by decide) h
    _ = _ := by decide

theorem not_bit (b i : Nat) (hb : b < 18446744073709551616) : (18446744073709551615 - b).testBit i = (decide (i < 64) && !b.testBit i) := by
  have h := Nat.testBit_two_pow_sub_succ (n := 64) (x := b) (by simpa using hb) i
  rw [← h]
  congr 1
  omega

theorem lt_of_bits (x : Nat) (h : ∀ i, 64 ≤ i → x.testBit i = false) : x < 18446744073709551616 := by
  have := Nat.lt_pow_two_of_testBit (n := 64) x h
  simpa using this

theorem bits_of_lt (x : Nat) (h : x < 18446744073709551616) (i : Nat) (hi : 64 ≤ i) : x.testBit i = false :=
  Nat.testBit_lt_two_pow (Nat.lt_of_lt_of_le h (by
    calc 18446744073709551616 = 2 ^ 64 := by decide
      _ ≤ 2 ^ i := Nat.pow_le_pow_right (by decide) hi))

theorem div_mod_eq {i j : Nat} (h : i / 64 = j / 64) (k : i % 64 = j % 64) : i = j := by omega

theorem or_lt {x y : Nat} (h : x < 18446744073709551616) (k : y < 18446744073709551616) : x ||| y < 18446744073709551616 := by
  apply lt_of_bits
  intro i hi
  simp [Nat.testBit_or, bits_of_lt _ h i hi, bits_of_lt _ k i hi]

theorem and_lt {x : Nat} (y : Nat) (h : x < 18446744073709551616) : x &&& y < 18446744073709551616 := Nat.lt_of_le_of_lt Nat.and_le_left h

theorem bit_put {n : Nat} {L : List Nat} (g : Good n L) {i : Nat} (hi : i < n) (j : Nat) : bit (putL L i) j = (bit L j || decide (i = j)) := by
  have hl := g.len
  unfold bit putL
  rw [getD_set _ _ _ _ (by omega)]
  by_cases e : i / 64 = j / 64
  · rw [if_pos e, e, Nat.testBit_or, Nat.testBit_two_pow]
    congr 1
    by_cases f : i = j
    · subst f; simp
    · have : i % 64 ≠ j % 64 := fun k => f (div_mod_eq e k)
      simp [f, this]
  · rw [if_neg e]
    have : i ≠ j := fun k => e (by rw [k])
    simp [this]

theorem bit_cut {n : Nat} {L : List Nat} (g : Good n L) {i : Nat} (hi : i < n) (j : Nat) : bit (cutL L i) j = (bit L j && !decide (i = j)) := by
  have hl := g.len
  unfold bit cutL
  rw [getD_set _ _ _ _ (by omega)]
  by_cases e : i / 64 = j / 64
  · rw [if_pos e, e, Nat.testBit_and, not_bit _ _ (two_pow_lt i), Nat.testBit_two_pow]
    have : j % 64 < 64 := Nat.mod_lt _ (by decide)
    by_cases f : i = j
    · subst f; simp
    · have h2 : i % 64 ≠ j % 64 := fun k => f (div_mod_eq e k)
      simp [f, h2, this]
  · rw [if_neg e]
    have : i ≠ j := fun k => e (by rw [k])
    simp [this]

theorem good_put {n : Nat} {L : List Nat} (g : Good n L) {i : Nat} (hi : i < n) : Good n (putL L i) := by
  refine ⟨by simpa [putL] using g.len, g.max, fun k => ?_, fun j hj => ?_⟩
  · unfold putL
    rw [getD_set _ _ _ _ (by have := g.len; omega)]
    split
    · exact or_lt (g.wd _) (two_pow_lt i)
    · exact g.wd k
  · rw [bit_put g hi, g.top j hj]
    have : i ≠ j := by omega
    simp [this]

theorem good_cut {n : Nat} {L : List Nat} (g : Good n L) {i : Nat} (hi : i < n) : Good n (cutL L i) := by
  refine ⟨by simpa [cutL] using g.len, g.max, fun k => ?_, fun j hj => ?_⟩
  · unfold cutL
    rw [getD_set _ _ _ _ (by have := g.len; omega)]
    split
    · exact and_lt _ (g.wd _)
    · exact g.wd k
  · rw [bit_cut g hi, g.top j hj]; rfl

theorem good_none {n : Nat} (h : n ≤ 65536) : Good n (List.replicate ((n + 63) / 64) 0) := by
  have e : ∀ k, (List.replicate ((n + 63) / 64) 0).getD k 0 = 0 := by
    intro k
    simp only [List.getD_eq_getElem?_getD, List.getElem?_replicate]
    split <;> rfl
  refine ⟨List.length_replicate, h, fun k => by rw [e]; decide, fun i _ => by unfold bit; rw [e]; simp⟩

theorem bit_none (m i : Nat) : bit (List.replicate m 0) i = false := by
  have e : ∀ k, (List.replicate m 0).getD k 0 = 0 := by
    intro k
    simp only [List.getD_eq_getElem?_getD, List.getElem?_replicate]
    split <;> rfl
  unfold bit; rw [e]; simp

/-- What differs in no number is the same. -/
theorem good_ext {n : Nat} {L M : List Nat} (g : Good n L) (h : Good n M) (e : ∀ i, i < n → bit L i = bit M i) : L = M := by
  have e' : ∀ i, bit L i = bit M i := fun i => by
    by_cases k : i < n
    · exact e i k
    · rw [g.top i (by omega), h.top i (by omega)]
  apply List.ext_getElem (by rw [g.len, h.len])
  intro k h1 h2
  have a1 : L[k] = L.getD k 0 := by simp [h1]
  have a2 : M[k] = M.getD k 0 := by simp [h2]
  rw [a1, a2]
  apply Nat.eq_of_testBit_eq
  intro j
  by_cases hj : j < 64
  · have := e' (64 * k + j)
    unfold bit at this
    rwa [show (64 * k + j) / 64 = k by omega, show (64 * k + j) % 64 = j by omega] at this
  · rw [bits_of_lt _ (g.wd k) j (by omega), bits_of_lt _ (h.wd k) j (by omega)]

/-- And, Less: word by word; Or: cut at the width. -/
def andL (L M : List Nat) : List Nat := (List.range L.length).map fun k => L.getD k 0 &&& M.getD k 0
def lessL (L M : List Nat) : List Nat := (List.range L.length).map fun k => L.getD k 0 &&& (18446744073709551615 - M.getD k 0)
def orL0 (L M : List Nat) : List Nat := (List.range L.length).map fun k => L.getD k 0 ||| M.getD k 0
def orL (n : Nat) (L M : List Nat) : List Nat := if 0 < n % 64 then (orL0 L M).set (L.length - 1) ((orL0 L M).getD (L.length - 1) 0 &&& (2 ^ (n % 64) - 1)) else orL0 L M

theorem getD_map_range (m : Nat) (f : Nat → Nat) (k : Nat) (h0 : m ≤ k → f k = 0) : ((List.range m).map f).getD k 0 = f k := by
  simp only [List.getD_eq_getElem?_getD, List.getElem?_map]
  by_cases h : k < m
  · simp [h]
  · simp [h, h0 (by omega)]

theorem getD_out {L : List Nat} {k : Nat} (h : L.length ≤ k) : L.getD k 0 = 0 := by
  simp [List.getD_eq_getElem?_getD, List.getElem?_eq_none h]

theorem getD_andL (L M : List Nat) (k : Nat) : (andL L M).getD k 0 = L.getD k 0 &&& M.getD k 0 := getD_map_range _ _ _ (fun h => by rw [getD_out h]; simp)
theorem getD_lessL (L M : List Nat) (k : Nat) : (lessL L M).getD k 0 = L.getD k 0 &&& (18446744073709551615 - M.getD k 0) := getD_map_range _ _ _ (fun h => by rw [getD_out h]; simp)
theorem getD_orL0 (L M : List Nat) (k : Nat) (h : k < L.length) : (orL0 L M).getD k 0 = L.getD k 0 ||| M.getD k 0 := getD_map_range _ _ _ (fun h' => by omega)

theorem bit_and (L M : List Nat) (i : Nat) : bit (andL L M) i = (bit L i && bit M i) := by
  unfold bit; rw [getD_andL, Nat.testBit_and]
theorem bit_less (L M : List Nat) (hM : ∀ k, M.getD k 0 < 18446744073709551616) (i : Nat) : bit (lessL L M) i = (bit L i && !bit M i) := by
  have : i % 64 < 64 := Nat.mod_lt _ (by decide)
  unfold bit; rw [getD_lessL, Nat.testBit_and, not_bit _ _ (hM _)]; simp [this]
theorem bit_or {n : Nat} {L M : List Nat} (g : Good n L) (i : Nat) : bit (orL n L M) i = ((bit L i || bit M i) && decide (i < n)) := by
  have hl := g.len
  have hlen0 : (orL0 L M).length = L.length := by simp [orL0]
  by_cases hi : i < n
  · have hk : i / 64 < L.length := by omega
    unfold orL
    split
    · rename_i hp
      unfold bit
      rw [getD_set _ _ _ _ (by omega), getD_orL0 _ _ _ hk]
      split
      · rename_i e
        rw [← e, getD_orL0 _ _ _ (by omega), Nat.testBit_and, Nat.testBit_or, Nat.testBit_two_pow_sub_one]
        have : i % 64 < n % 64 := by omega
        simp [this, hi]
      · rw [Nat.testBit_or]; simp [hi]
    · unfold bit
      rw [getD_orL0 _ _ _ hk, Nat.testBit_or]; simp [hi]
  · simp only [hi, decide_false, Bool.and_false]
    unfold orL
    split
    · rename_i hp
      unfold bit
      rw [getD_set _ _ _ _ (by omega)]
      split
      · rename_i e
        rw [Nat.testBit_and, Nat.testBit_two_pow_sub_one]
        have : ¬ i % 64 < n % 64 := by omega
        simp [this]
      · rw [getD_out (by rw [hlen0]; omega)]; simp
    · unfold bit
      rw [getD_out (by rw [hlen0]; omega)]; simp

theorem good_and {n : Nat} {L : List Nat} (g : Good n L) (M : List Nat) : Good n (andL L M) :=
  ⟨by simpa [andL] using g.len, g.max, fun k => by rw [getD_andL]; exact and_lt _ (g.wd k), fun i hi => by rw [bit_and, g.top i hi]; rfl⟩
theorem good_less {n : Nat} {L : List Nat} (g : Good n L) (M : List Nat) (hM : ∀ k, M.getD k 0 < 18446744073709551616) : Good n (lessL L M) :=
  ⟨by simpa [lessL] using g.len, g.max, fun k => by rw [getD_lessL]; exact and_lt _ (g.wd k), fun i hi => by rw [bit_less _ _ hM, g.top i hi]; rfl⟩
theorem good_or {n : Nat} {L M : List Nat} (g : Good n L) (hM : ∀ k, M.getD k 0 < 18446744073709551616) : Good n (orL n L M) := by
  have hl := g.len
  have hlen0 : (orL0 L M).length = L.length := by simp [orL0]
  have h0 : ∀ k, (orL0 L M).getD k 0 < 18446744073709551616 := fun k => by
    by_cases hk : k < L.length
    · rw [getD_orL0 _ _ _ hk]; exact or_lt (g.wd k) (hM k)
    · rw [getD_out (by rw [hlen0]; omega)]; decide
  refine ⟨?_, g.max, fun k => ?_, fun i hi => by rw [bit_or g]; simp [show ¬ i < n by omega]⟩
  · unfold orL; split <;> simp [hlen0, hl]
  · unfold orL
    split
    · rw [getD_set _ _ _ _ (by rw [hlen0]; omega)]
      split
      · exact and_lt _ (h0 _)
      · exact h0 k
    · exact h0 k

/-- How many: the ones of each word. -/
def pc (x : Nat) : Nat := ((List.range 64).map fun j => (x.testBit j).toNat).sum
def ones (L : List Nat) : Nat := (L.map pc).sum

/-- As many as its numbers below any bound that holds them. -/
theorem sum_map_range_succ (m : Nat) (f : Nat → Nat) : ((List.range (m + 1)).map f).sum = ((List.range m).map f).sum + f m := by
  rw [List.range_succ, List.map_append, List.sum_append]; simp

theorem sum_block (a : Nat) (f : Nat → Nat) : ∀ b, ((List.range (a + b)).map f).sum = ((List.range a).map f).sum + ((List.range b).map fun j => f (a + j)).sum
  | 0 => by simp
  | b + 1 => by rw [← Nat.add_assoc, sum_map_range_succ, sum_block a f b, sum_map_range_succ, Nat.add_assoc]

theorem ones_eq : ∀ (L : List Nat), ones L = ((List.range (64 * L.length)).map fun i => (bit L i).toNat).sum := by
  intro L
  have key : ∀ m, m ≤ L.length → ((L.take m).map pc).sum = ((List.range (64 * m)).map fun i => (bit L i).toNat).sum := by
    intro m
    induction m with
    | zero => intro _; simp
    | succ m ih =>
      intro hm
      rw [List.take_succ_eq_append_getElem (by omega), List.map_append, List.sum_append, ih (by omega), Nat.mul_succ, sum_block]
      refine congrArg (_ + ·) ?_
      rw [List.map_cons, List.map_nil, List.sum_cons, List.sum_nil, Nat.add_zero]
      show ((List.range 64).map _).sum = _
      refine congrArg List.sum (List.map_congr_left ?_)
      intro j hj
      have hj' := List.mem_range.1 hj
      unfold bit
      rw [show (64 * m + j) / 64 = m by omega, show (64 * m + j) % 64 = j by omega]
      simp [show m < L.length by omega]
  have := key L.length (Nat.le_refl _)
  rw [List.take_length] at this
  exact this

theorem sum_le_of {m : Nat} {f g : Nat → Nat} (h : ∀ i, i < m → f i = g i) : ((List.range m).map f).sum = ((List.range m).map g).sum := by
  refine congrArg List.sum (List.map_congr_left ?_)
  intro i hi
  exact h i (List.mem_range.1 hi)

theorem sum_add (m : Nat) (f g : Nat → Nat) : ((List.range m).map fun i => f i + g i).sum = ((List.range m).map f).sum + ((List.range m).map g).sum := by
  induction m with
  | zero => rfl
  | succ m ih => simp only [sum_map_range_succ, ih]; omega

theorem pc_le (x : Nat) : pc x ≤ 64 := by
  have key : ∀ m, ((List.range m).map fun j => (x.testBit j).toNat).sum ≤ m := by
    intro m
    induction m with
    | zero => simp
    | succ m ih => rw [sum_map_range_succ]; have : (x.testBit m).toNat ≤ 1 := Bool.toNat_le _; omega
  exact key 64

/-- Is each of the one in the other? -/
def withinL (L M : List Nat) : Bool := (List.range L.length).all fun k => L.getD k 0 &&& (18446744073709551615 - M.getD k 0) == 0

theorem within_iff {L M : List Nat} (hL : ∀ k, L.getD k 0 < 18446744073709551616) (hM : ∀ k, M.getD k 0 < 18446744073709551616) : withinL L M = true ↔ ∀ i, bit L i = true → bit M i = true := by
  unfold withinL
  rw [List.all_eq_true]
  constructor
  · intro h i hi
    by_cases hk : i / 64 < L.length
    · have h0 := h (i / 64) (List.mem_range.2 hk)
      simp only [beq_iff_eq] at h0
      have h1 := congrArg (fun x => x.testBit (i % 64)) h0
      have : i % 64 < 64 := Nat.mod_lt _ (by decide)
      simp only [Nat.testBit_and, not_bit _ _ (hM _), Nat.zero_testBit, this, decide_true, Bool.true_and] at h1
      unfold bit at hi ⊢
      rw [hi] at h1
      simpa using h1
    · unfold bit at hi
      rw [getD_out (by omega)] at hi
      simp at hi
  · intro h k hk
    simp only [beq_iff_eq]
    apply Nat.eq_of_testBit_eq
    intro j
    rw [Nat.testBit_and, not_bit _ _ (hM _), Nat.zero_testBit]
    by_cases hj : j < 64
    · have := h (64 * k + j)
      unfold bit at this
      rw [show (64 * k + j) / 64 = k by omega, show (64 * k + j) % 64 = j by omega] at this
      cases a : (L.getD k 0).testBit j with
      | false => simp
      | true => rw [this a]; simp
    · rw [bits_of_lt _ (hL k) j (by omega)]; simp

/-- The key's bytes. -/
def keyL (n : Nat) (L : List Nat) : List Nat := (List.range ((n + 7) / 8)).map fun j => L.getD (j / 8) 0 / 2 ^ (j % 8 * 8) % 256

theorem key_bit (n : Nat) (L : List Nat) (i : Nat) (h : i < n) : ((keyL n L).getD (i / 8) 0).testBit (i % 8) = bit L i := by
  unfold keyL
  rw [getD_map_range _ _ _ (fun h' => by omega)]
  rw [show (256 : Nat) = 2 ^ 8 from rfl, Nat.testBit_mod_two_pow, Nat.testBit_div_two_pow]
  unfold bit
  rw [show i / 8 / 8 = i / 64 by omega, show i % 8 + i / 8 % 8 * 8 = i % 64 by omega]
  have : i % 8 < 8 := Nat.mod_lt _ (by decide)
  simp [this]

theorem key_inj {n : Nat} {L M : List Nat} (g : Good n L) (h : Good n M) (e : keyL n L = keyL n M) : L = M :=
  good_ext g h fun i hi => by rw [← key_bit n L i hi, ← key_bit n M i hi, e]

/-- What has been filled in when k of m are done. -/
def upto (f : Nat → Nat) (m k : Nat) : List Nat := (List.range m).map fun j => if j < k then f j else 0
theorem upto_len (f : Nat → Nat) (m k : Nat) : (upto f m k).length = m := by simp [upto]
theorem upto_get (f : Nat → Nat) (m k j : Nat) (h : j < m) : (upto f m k).getD j 0 = if j < k then f j else 0 := getD_map_range _ _ _ (fun h' => by omega)
theorem list_ext {L M : List Nat} (h : L.length = M.length) (e : ∀ j, j < L.length → L.getD j 0 = M.getD j 0) : L = M := by
  apply List.ext_getElem h
  intro k h1 h2
  have a1 : L[k] = L.getD k 0 := by simp [h1]
  have a2 : M[k] = M.getD k 0 := by simp [h2]
  rw [a1, a2, e k h1]
theorem upto_zero (f : Nat → Nat) (m : Nat) : upto f m 0 = List.replicate m 0 :=
  list_ext (by simp [upto]) fun j hj => by
    rw [upto_len] at hj
    rw [upto_get _ _ _ _ hj]
    simp [List.getD_eq_getElem?_getD, hj]
theorem upto_succ (f : Nat → Nat) (m k : Nat) (h : k < m) : upto f m (k + 1) = (upto f m k).set k (f k) :=
  list_ext (by simp [upto_len]) fun j hj => by
    rw [upto_len] at hj
    rw [upto_get _ _ _ _ hj, getD_set _ _ _ _ (by rw [upto_len]; exact h), upto_get _ _ _ _ hj]
    by_cases e : k = j
    · subst e; simp
    · rw [if_neg e]
      by_cases c : j < k
      · rw [if_pos c, if_pos (by omega)]
      · rw [if_neg c, if_neg (by omega)]
theorem upto_all (f : Nat → Nat) (m : Nat) : upto f m m = (List.range m).map f :=
  list_ext (by simp [upto]) fun j hj => by
    rw [upto_len] at hj
    rw [upto_get _ _ _ _ hj, if_pos hj, getD_map_range _ _ _ (fun h' => by omega)]

/-- Of: one by one; those outside are let by. -/
def put1 (n : Nat) (L : List Nat) (i : Int) : List Nat := if 0 ≤ i ∧ i < n then putL L i.toNat else L
def ofL (n : Nat) (A : List Int) : List Nat := A.foldl (put1 n) (List.replicate ((n + 63) / 64) 0)
theorem good_put1 {n : Nat} {L : List Nat} (g : Good n L) (i : Int) : Good n (put1 n L i) := by
  unfold put1
  split
  · exact good_put g (by omega)
  · exact g
theorem good_foldl {n : Nat} : ∀ (A : List Int) {L : List Nat} (_ : Good n L), Good n (A.foldl (put1 n) L)
  | [], _, g => g
  | i :: A, _, g => good_foldl A (good_put1 g i)
theorem good_of {n : Nat} (h : n ≤ 65536) (A : List Int) : Good n (ofL n A) := good_foldl A (good_none h)
theorem of_take (n : Nat) (A : List Int) (k : Nat) (h : k < A.length) : ofL n (A.take (k + 1)) = put1 n (ofL n (A.take k)) (A.getD k 0) := by
  unfold ofL
  rw [List.take_succ_eq_append_getElem h, List.foldl_append]
  simp [h]

end Go.Proofs.Ytcdepblajobemaa
namespace Go.Proofs.Ytcdepblajobemaa
open Go.RowKit

/-- Words as values. -/
def wv (x : Nat) : Value := .int .u64 (x : Int)

structure RawAt (w : World) (p g cap n : Nat) (L : List Nat) : Prop where
  blk : w.heap[p]? = some (.cells #[.int .i64 (n : Int), .slice (some ⟨g, 0, none⟩) L.length cap] 109 (0, 0))
  row : w.ownsRow 0 111 1 (.slice (some ⟨g, 0, none⟩) L.length cap) L.length (L.map wv)
  len : L.length = (n + 63) / 64
  max : n ≤ 65536
  wd : ∀ k, L.getD k 0 < 18446744073709551616

namespace RawAt
variable {w w' : World} {p g cap n : Nat} {L : List Nat}

theorem lt (h : RawAt w p g cap n L) : p < w.heap.size := (Array.getElem?_eq_some_iff.1 h.blk).1
theorem glt (h : RawAt w p g cap n L) : g < w.heap.size := (h.row.lt g rfl).2
theorem cellN (h : RawAt w p g cap n L) : w.cell? ⟨p, 0, none⟩ = some (.int .i64 (n : Int)) := by simp [World.cell?, h.blk]
theorem cellW (h : RawAt w p g cap n L) : w.cell? ⟨p, 1, none⟩ = some (.slice (some ⟨g, 0, none⟩) L.length cap) := by simp [World.cell?, h.blk]
theorem cell (h : RawAt w p g cap n L) (k : Nat) (hk : k < L.length) : w.cell? ⟨g, k, none⟩ = some (.int .u64 ((L.getD k 0 : Nat) : Int)) := by
  rw [h.row.cellAt k (by omega)]
  simp [hk, wv]
theorem frozen (h : RawAt w p g cap n L) (k : Nat) : w.frozen? ⟨g, k, none⟩ = false := h.row.frozenAt k
theorem kept (h : RawAt w p g cap n L) {row : Option Nat} (hg : w.grownBy w' row) (h1 : row ≠ some p) (h2 : row ≠ some g) : RawAt w' p g cap n L :=
  ⟨by rw [hg.block p h.lt (fun e => h1 e.symm)]; exact h.blk, h.row.kept hg (Or.inr (fun e => h2 e.symm)), h.len, h.max, h.wd⟩
theorem gblk (h : RawAt w p g cap n L) : ∃ cur, w.heap[g]? = some (.cells cur 111 (0, 0)) := by
  rcases h.row.2 with ⟨h', _⟩ | ⟨g', cap', cur, h', _, hg, _⟩
  · simp at h'
  · simp only [Value.slice.injEq, Option.some.injEq, Addr.mk.injEq, and_true, true_and] at h'
    obtain ⟨rfl, rfl⟩ := h'
    exact ⟨cur, hg⟩
theorem ne {p' g' cap' n' : Nat} {L' : List Nat} (h : RawAt w p g cap n L) (h' : RawAt w p' g' cap' n' L') : p ≠ g' := by
  rintro rfl
  obtain ⟨cur, hc⟩ := h'.gblk
  have hb := h.blk
  rw [hc] at hb
  simp at hb
theorem stored (h : RawAt w p g cap n L) (k x : Nat) (hx : x < 18446744073709551616) : RawAt (w.setCell ⟨g, k, none⟩ (.int .u64 (x : Int))) p g cap n (L.set k x) ∧ w.grownBy (w.setCell ⟨g, k, none⟩ (.int .u64 (x : Int))) (some g) := by
  have hs := h.row.stored k (.int .u64 (x : Int))
  refine ⟨⟨?_, ?_, by simpa using h.len, h.max, fun j => ?_⟩, hs.2⟩
  · rw [hs.2.block p h.lt ?_]
    · simpa using h.blk
    · intro e
      exact h.ne h (Option.some.inj e)
  · have := hs.1
    rw [List.length_set]
    rw [List.map_set]
    exact this
  · by_cases hk : k < L.length
    · rw [getD_set _ _ _ _ hk]; split
      · exact hx
      · exact h.wd j
    · rw [List.set_eq_of_length_le (by omega)]; exact h.wd j
theorem drew (h : RawAt w p g cap n L) : RawAt w.drew p g cap n L := ⟨h.blk, h.row.drew, h.len, h.max, h.wd⟩
end RawAt

/-- A set of width n, whose words L are, in block p (its row in block g). -/
structure SetAt (w : World) (p g cap n : Nat) (L : List Nat) : Prop where
  raw : RawAt w p g cap n L
  good : Good n L

namespace SetAt
variable {w w' : World} {p g cap n : Nat} {L : List Nat}
theorem lt (h : SetAt w p g cap n L) : p < w.heap.size := h.raw.lt
theorem glt (h : SetAt w p g cap n L) : g < w.heap.size := h.raw.glt
theorem cellN (h : SetAt w p g cap n L) : w.cell? ⟨p, 0, none⟩ = some (.int .i64 (n : Int)) := h.raw.cellN
theorem cellW (h : SetAt w p g cap n L) : w.cell? ⟨p, 1, none⟩ = some (.slice (some ⟨g, 0, none⟩) L.length cap) := h.raw.cellW
theorem cell (h : SetAt w p g cap n L) (k : Nat) (hk : k < L.length) : w.cell? ⟨g, k, none⟩ = some (.int .u64 ((L.getD k 0 : Nat) : Int)) := h.raw.cell k hk
theorem frozen (h : SetAt w p g cap n L) (k : Nat) : w.frozen? ⟨g, k, none⟩ = false := h.raw.frozen k
theorem kept (h : SetAt w p g cap n L) {row : Option Nat} (hg : w.grownBy w' row) (h1 : row ≠ some p) (h2 : row ≠ some g) : SetAt w' p g cap n L := ⟨h.raw.kept hg h1 h2, h.good⟩
theorem len (h : SetAt w p g cap n L) : L.length = (n + 63) / 64 := h.good.len
theorem max (h : SetAt w p g cap n L) : n ≤ 65536 := h.good.max
theorem wd (h : SetAt w p g cap n L) (k : Nat) : L.getD k 0 < 18446744073709551616 := h.good.wd k
theorem drew (h : SetAt w p g cap n L) : SetAt w.drew p g cap n L := ⟨h.raw.drew, h.good⟩
theorem stored (h : SetAt w p g cap n L) (k x : Nat) (hx : x < 18446744073709551616) (hG : Good n (L.set k x)) : SetAt (w.setCell ⟨g, k, none⟩ (.int .u64 (x : Int))) p g cap n (L.set k x) ∧ w.grownBy (w.setCell ⟨g, k, none⟩ (.int .u64 (x : Int))) (some g) :=
  ⟨⟨(h.raw.stored k x hx).1, hG⟩, (h.raw.stored k x hx).2⟩
end SetAt

theorem gb_trans {a b c : World} {r s : Option Nat} (h : a.grownBy b r) (k : b.grownBy c s) (hr : s = none ∨ s = r ∨ ∃ x, s = some x ∧ a.heap.size ≤ x) : a.grownBy c r :=
  ⟨k.os.trans h.os, k.tape.trans h.tape, k.output.trans h.output, Nat.le_trans h.size k.size, fun i hi hne => by
    rw [k.block i (Nat.lt_of_lt_of_le hi h.size) (by
      rcases hr with rfl | rfl | ⟨x, rfl, hx⟩
      · simp
      · exact hne
      · intro e; have : i = x := Option.some.inj e; omega)]
    exact h.block i hi hne⟩
theorem gb_refl (w : World) (r : Option Nat) : w.grownBy w r := ⟨rfl, rfl, rfl, Nat.le_refl _, fun _ _ _ => rfl⟩
theorem gb_drew (w : World) (r : Option Nat) : w.grownBy w.drew r := ⟨rfl, rfl, rfl, Nat.le_refl _, fun _ _ _ => rfl⟩
theorem gb_drewN (w : World) (k : Nat) (r : Option Nat) : w.grownBy (w.drewN k) r := ⟨rfl, rfl, rfl, Nat.le_refl _, fun _ _ _ => rfl⟩
theorem gb_any {a b : World} (h : a.grownBy b none) (r : Option Nat) : a.grownBy b r := ⟨h.os, h.tape, h.output, h.size, fun k hk _ => h.block k hk (by simp)⟩
theorem SetAt.drewN {w : World} {p g cap n : Nat} {L : List Nat} (h : SetAt w p g cap n L) (k : Nat) : SetAt (w.drewN k) p g cap n L := h.kept (gb_drewN w k none) (by simp) (by simp)

def Made (w : World) (n : Nat) (L : List Nat) (e : Ending) (w' : World) : Prop :=
  ∃ p g cap, e = .returned (.pointer (some ⟨p, 0, none⟩)) ∧ w.heap.size ≤ p ∧ w.heap.size ≤ g ∧ SetAt w' p g cap n L ∧ w.grownBy w' none

theorem u64_or_pow (x i : Nat) (h : x < 18446744073709551616) : bits .or .u64 (x : Int) (IntKind.u64.wrap (2 ^ (i % 64))) = ((x ||| 2 ^ (i % 64) : Nat) : Int) := by
  have h2 : IntKind.u64.wrap (2 ^ (i % 64)) = ((2 ^ (i % 64) : Nat) : Int) := by
    rw [IntKind.wrap_u64]
    have := two_pow_lt i
    have e : ((2 : Int) ^ (i % 64)) = ((2 ^ (i % 64) : Nat) : Int) := by simp
    rw [e]
    generalize 2 ^ (i % 64) = y at this ⊢
    omega
  rw [h2, u64_or_nat _ _ h (two_pow_lt i)]
theorem u64_andNot_pow (x i : Nat) (h : x < 18446744073709551616) : bits .andNot .u64 (x : Int) (IntKind.u64.wrap (2 ^ (i % 64))) = ((x &&& (18446744073709551615 - 2 ^ (i % 64)) : Nat) : Int) := by
  have h2 : IntKind.u64.wrap (2 ^ (i % 64)) = ((2 ^ (i % 64) : Nat) : Int) := by
    rw [IntKind.wrap_u64]
    have := two_pow_lt i
    have e : ((2 : Int) ^ (i % 64)) = ((2 ^ (i % 64) : Nat) : Int) := by simp
    rw [e]
    generalize 2 ^ (i % 64) = y at this ⊢
    omega
  rw [h2, u64_andNot_nat _ _ h (two_pow_lt i)]

theorem Try.info111 : (Try.prog.info? 111).map (fun i => (i.zero, i.size, i.bytes)) = some (some (.int .u64 0), 1, 8) := by kernel_rfl

end Go.Proofs.Ytcdepblajobemaa
namespace Go.Proofs.Ytcdepblajobemaa
open Go.RowKit

set_option maxHeartbeats 400000 in
theorem new_yes (n : Nat) (w : World) (h : n ≤ 65536) :
    Calls Try.prog 47 #[.int .i64 (n : Int)] w (Made w n (List.replicate ((n + 63) / 64) 0)) := by
  obtain ⟨i0, hi, hz0, hz1, hz2⟩ := info_parts Try.info111
  go_enter Try.func47, Try.ntmps47
  go_wp2_with (at_make; refine wpList_make_full _ rfl _ _ 107 rfl 0 111 i0 (.int .u64 0) 1 Try.underlying107 hi hz0 hz1 .i64 .i64 _ _ ((n + 63) / 64) rfl rfl (by omega) (by omega) (by rw [hz2]; omega) (by unfold maxLen; omega) (Nat.zero_le _) ?_; intro w0 hown0 hgrow0)
  go_ret
  have hz : (madeCells (Value.int IntKind.u64 0).cells ((n + 63) / 64 * 1)).toList = (List.replicate ((n + 63) / 64) 0).map wv := by
    rw [Nat.mul_one, show (Value.int IntKind.u64 0).cells = #[Value.int .u64 0] from rfl, toList_madeCells_one, List.map_replicate]; rfl
  rw [hz] at hown0
  have hlen : (List.replicate ((n + 63) / 64) 0).length = (n + 63) / 64 := List.length_replicate
  have hg := good_none h
  refine ⟨w0.heap.size, w.heap.size, (n + 63) / 64, rfl, hgrow0.size, Nat.le_refl _, ⟨⟨?_, ?_, hg.len, hg.max, hg.wd⟩, hg⟩, gb_trans hgrow0 (World.grownBy_alloc _ _ none) (Or.inl rfl)⟩
  · rw [hlen]; exact heap_alloc_new _ _
  · rw [hlen]; exact hown0.alloc _

set_option maxHeartbeats 400000 in
theorem in_yes (i p g cap n : Nat) (L : List Nat) (w : World) (h : SetAt w p g cap n L) (h1 : i < n) :
    Calls Try.prog 97 #[.pointer (some ⟨p, 0, none⟩), .int .i64 (i : Int)] w fun e w' => e = .returned (.bool true) ∧ w = w' := by
  have hN := h.cellN
  have hm := h.max
  go_enter Try.func97, Try.ntmps97
  go_wp2
  go_ret
  exact ⟨rfl, rfl⟩
set_option maxHeartbeats 400000 in
theorem in_no (i : Int) (p g cap n : Nat) (L : List Nat) (w : World) (h : SetAt w p g cap n L) (h1 : i < 0 ∨ n ≤ i) :
    Calls Try.prog 97 #[.pointer (some ⟨p, 0, none⟩), .int .i64 i] w fun e w' => e = .returned (.bool false) ∧ w = w' := by
  have hN := h.cellN
  have hm := h.max
  rcases h1 with h1 | h1
  · go_enter Try.func97, Try.ntmps97
    go_wp2
    go_ret
    exact ⟨rfl, rfl⟩
  · by_cases h0 : 0 ≤ i
    · have h2 : decide (i < (n : Int)) = false := by simp; omega
      go_enter Try.func97, Try.ntmps97
      go_wp2
      go_ret
      exact ⟨rfl, rfl⟩
    · omega
set_option maxHeartbeats 400000 in
theorem put_yes (i p g cap n : Nat) (L : List Nat) (w : World) (h : SetAt w p g cap n L) (h1 : i < n) :
    Calls Try.prog 48 #[.pointer (some ⟨p, 0, none⟩), .int .i64 (i : Int)] w fun e w' => e = .returned (.tuple #[]) ∧ SetAt w' p g cap n (putL L i) ∧ w.grownBy w' (some g) := by
  have hN := h.cellN
  have hm := h.max
  have hW := h.cellW
  have hl := h.len
  have hc := h.cell (i / 64) (by omega)
  have hf := h.frozen (i / 64)
  have hi2 : i / 64 < L.length := by omega
  have ho := h.stored (i / 64) _ (or_lt (h.wd _) (two_pow_lt i)) (good_put h.good h1)
  rw [← u64_or_pow _ _ (h.wd _)] at ho
  have HO := Lib.hid ho
  clear ho
  go_enter Try.func48, Try.ntmps48
  go_wp2_with (go_at_call 97; refine (in_yes _ _ _ _ _ _ _ h h1).mono ?_; rintro e w' ⟨rfl, rfl⟩)
  go_region
  go_end0
  exact ⟨rfl, HO.out.1.drew, gb_trans HO.out.2 (gb_drew _ none) (Or.inl rfl)⟩
set_option maxHeartbeats 400000 in
theorem put_no (i : Int) (p g cap n : Nat) (L : List Nat) (w : World) (h : SetAt w p g cap n L) (h1 : i < 0 ∨ n ≤ i) :
    Calls Try.prog 48 #[.pointer (some ⟨p, 0, none⟩), .int .i64 i] w fun e w' => e = .returned (.tuple #[]) ∧ w = w' := by
  go_enter Try.func48, Try.ntmps48
  go_wp2_with (go_at_call 97; refine (in_no _ _ _ _ _ _ _ h h1).mono ?_; rintro e w' ⟨rfl, rfl⟩)
  go_end0
  exact ⟨rfl, rfl⟩
end Go.Proofs.Ytcdepblajobemaa
namespace Go.Proofs.Ytcdepblajobemaa
open Go.RowKit
set_option maxHeartbeats 400000 in
theorem word_yes (k p g cap n : Nat) (L : List Nat) (w : World) (h : RawAt w p g cap n L) (h1 : k < L.length) :
    Calls Try.prog 99 #[.pointer (some ⟨p, 0, none⟩), .int .i64 (k : Int)] w fun e w' => e = .returned (.int .u64 ((L.getD k 0 : Nat) : Int)) ∧ w = w' := by
  have hm := h.max
  have hW := h.cellW
  have hl := h.len
  have hc := h.cell k h1
  go_enter Try.func99, Try.ntmps99
  go_wp2
  go_ret
  exact ⟨by simp, rfl⟩
set_option maxHeartbeats 400000 in
theorem word_no (k p g cap n : Nat) (L : List Nat) (w : World) (h : RawAt w p g cap n L) (h1 : ¬ k < L.length) :
    Calls Try.prog 99 #[.pointer (some ⟨p, 0, none⟩), .int .i64 (k : Int)] w fun e w' => e = .returned (.int .u64 ((L.getD k 0 : Nat) : Int)) ∧ w = w' := by
  have hm := h.max
  have hW := h.cellW
  have hl := h.len
  go_enter Try.func99, Try.ntmps99
  go_wp2
  go_ret
  exact ⟨by rw [getD_out (show L.length ≤ k by omega)]; rfl, rfl⟩
theorem word_any (k p g cap n : Nat) (L : List Nat) (w : World) (h : RawAt w p g cap n L) :
    Calls Try.prog 99 #[.pointer (some ⟨p, 0, none⟩), .int .i64 (k : Int)] w fun e w' => e = .returned (.int .u64 ((L.getD k 0 : Nat) : Int)) ∧ w = w' := by
  by_cases h1 : k < L.length
  · exact word_yes k p g cap n L w h h1
  · exact word_no k p g cap n L w h h1

/-- What has been worked in when k words are done. -/
def mix (f : Nat → Nat → Nat) (L M : List Nat) (k : Nat) : List Nat := (List.range L.length).map fun j => if j < k then f (L.getD j 0) (M.getD j 0) else L.getD j 0
theorem mix_len (f : Nat → Nat → Nat) (L M : List Nat) (k : Nat) : (mix f L M k).length = L.length := by simp [mix]
theorem mix_get (f : Nat → Nat → Nat) (L M : List Nat) (k j : Nat) (h : j < L.length) : (mix f L M k).getD j 0 = if j < k then f (L.getD j 0) (M.getD j 0) else L.getD j 0 :=
  getD_map_range _ _ _ (fun h' => by omega)
theorem mix_zero (f : Nat → Nat → Nat) (L M : List Nat) : mix f L M 0 = L :=
  list_ext (mix_len _ _ _ _) fun j hj => by rw [mix_len] at hj; rw [mix_get _ _ _ _ _ hj]; simp
theorem mix_succ (f : Nat → Nat → Nat) (L M : List Nat) (k : Nat) (h : k < L.length) : mix f L M (k + 1) = (mix f L M k).set k (f (L.getD k 0) (M.getD k 0)) :=
  list_ext (by simp [mix_len]) fun j hj => by
    rw [mix_len] at hj
    rw [mix_get _ _ _ _ _ hj, getD_set _ _ _ _ (by rw [mix_len]; exact h), mix_get _ _ _ _ _ hj]
    by_cases e : k = j
    · subst e; simp
    · rw [if_neg e]
      by_cases c : j < k
      · rw [if_pos c, if_pos (by omega)]
      · rw [if_neg c, if_neg (by omega)]
theorem mix_all (f : Nat → Nat → Nat) (L M : List Nat) : mix f L M L.length = (List.range L.length).map fun j => f (L.getD j 0) (M.getD j 0) :=
  list_ext (by simp [mix]) fun j hj => by
    rw [mix_len] at hj
    rw [mix_get _ _ _ _ _ hj, if_pos hj, getD_map_range _ _ _ (fun h' => by omega)]
theorem mix_at (f : Nat → Nat → Nat) (L M : List Nat) (k : Nat) (h : k < L.length) : (mix f L M k).getD k 0 = L.getD k 0 := by
  rw [mix_get _ _ _ _ _ h]; simp

/-- The other set can be read in each round. -/
def Reads (w : World) (p g cap n : Nat) (L : List Nat) (p2 : Nat) (M : List Nat) (f : Nat → Nat → Nat) : Prop :=
  ∀ wr k, k < L.length → RawAt wr p g cap n (mix f L M k) → w.grownBy wr (some g) → ∃ g2 cap2 n2 M', RawAt wr p2 g2 cap2 n2 M' ∧ M'.getD k 0 = M.getD k 0

theorem reads_self {w : World} {p g cap n : Nat} {L : List Nat} (f : Nat → Nat → Nat) : Reads w p g cap n L p L f :=
  fun _ k hk h _ => ⟨g, cap, n, _, h, mix_at f L L k hk⟩
theorem reads_other {w : World} {p g cap n p2 g2 cap2 n2 : Nat} {L M : List Nat} (h : RawAt w p g cap n L) (h2 : RawAt w p2 g2 cap2 n2 M) (hg : g2 ≠ g) (f : Nat → Nat → Nat) : Reads w p g cap n L p2 M f :=
  fun _ _ _ _ hw => ⟨g2, cap2, n2, M, h2.kept hw (fun e => h2.ne h (Option.some.inj e).symm) (fun e => hg (Option.some.inj e).symm), rfl⟩

set_option maxHeartbeats 1000000 in
theorem and_any (p g cap n p2 : Nat) (L M : List Nat) (w : World) (h : SetAt w p g cap n L) (hr : Reads w p g cap n L p2 M (· &&& ·)) :
    Calls Try.prog 52 #[.pointer (some ⟨p, 0, none⟩), .pointer (some ⟨p2, 0, none⟩)] w fun e w' => e = .returned (.tuple #[]) ∧ SetAt w' p g cap n (andL L M) ∧ w.grownBy w' (some g) := by
  have hm := h.max
  have hW := h.cellW
  have hl := h.len
  have HR := Lib.hid hr
  clear hr
  go_enter Try.func52, Try.ntmps52
  go_wp2
  go_loopw [10] (fun i wr => ∃ k : Nat, k ≤ L.length ∧ i = .int .i64 (k : Int) ∧ RawAt wr p g cap n (mix (· &&& ·) L M k) ∧ w.grownBy wr (some g)) (fun i _ => L.length - (intOf i).toNat)
  case atStart => exact ⟨0, by omega, rfl, by rw [mix_zero]; exact h.raw, gb_refl _ _⟩
  case round =>
    obtain ⟨k, hk, rfl, hR, hG⟩ := hrel
    by_cases hlt : k < L.length
    · obtain ⟨g2, cap2, n2, M', h2, hMk⟩ := HR.out wr k hlt hR hG
      have hW' := hR.cellW
      have hc' := hR.cell k (by rw [mix_len]; exact hlt)
      rw [mix_at _ _ _ _ hlt] at hc'
      rw [mix_len] at hW'
      have hf' := hR.frozen k
      have hs := hR.stored k (L.getD k 0 &&& M.getD k 0) (and_lt _ (h.wd k))
      rw [← mix_succ _ _ _ _ hlt, ← hMk, ← u64_and_nat _ _ (h.wd k) (h2.wd k)] at hs
      have HS := Lib.hid hs
      clear hs hMk hW
      go_wp2
      go_region_with (go_at_call 99; refine (word_any _ _ _ _ _ _ _ h2.drew).mono ?_; rintro e w' ⟨rfl, rfl⟩)
      all_goals
        go_wp2
        go_roundw
        case rel => exact ⟨k + 1, by omega, by go_num, HS.out.1.drew, gb_trans (gb_trans hG HS.out.2 (Or.inr (Or.inl rfl))) (gb_drew _ none) (Or.inl rfl)⟩
        case measure => simp [intOf]; omega
    · obtain rfl : k = L.length := by omega
      have hlt2 : ¬ (L.length : Int) < (n + 63) / 64 := by omega
      go_wp2
      go_end0
      have hg := good_and h.good M
      rw [mix_all] at hR
      exact ⟨rfl, ⟨hR, hg⟩, hG⟩
end Go.Proofs.Ytcdepblajobemaa
namespace Go.Proofs.Ytcdepblajobemaa
open Go.RowKit
theorem or_final {n : Nat} {L : List Nat} (g : Good n L) (M : List Nat) (hM : ∀ k, M.getD k 0 < 18446744073709551616) (hn : 0 < n % 64) :
    orL n L M = ((List.range L.length).map fun j => L.getD j 0 ||| M.getD j 0).set ((n + 63) / 64 - 1) (((List.range L.length).map fun j => L.getD j 0 ||| M.getD j 0).getD ((n + 63) / 64 - 1) 0 &&& (2 ^ (n % 64) - 1)) ∧
    ((List.range L.length).map fun j => L.getD j 0 ||| M.getD j 0).getD ((n + 63) / 64 - 1) 0 &&& (2 ^ (n % 64) - 1) < 18446744073709551616 ∧
    bits .and .u64 (((((List.range L.length).map fun j => L.getD j 0 ||| M.getD j 0).getD ((n + 63) / 64 - 1) 0 : Nat) : Int)) (IntKind.u64.wrap (IntKind.u64.wrap (2 ^ (n % 64)) - 1)) = ((((List.range L.length).map fun j => L.getD j 0 ||| M.getD j 0).getD ((n + 63) / 64 - 1) 0 &&& (2 ^ (n % 64) - 1) : Nat) : Int) := by
  have hl := g.len
  have h1 : ((List.range L.length).map fun j => L.getD j 0 ||| M.getD j 0).getD ((n + 63) / 64 - 1) 0 < 18446744073709551616 := by
    rw [getD_map_range _ _ _ (fun h' => by omega)]; exact or_lt (g.wd _) (hM _)
  have h2 : IntKind.u64.wrap (IntKind.u64.wrap (2 ^ (n % 64)) - 1) = ((2 ^ (n % 64) - 1 : Nat) : Int) := by
    have := two_pow_lt n
    have e : ((2 : Int) ^ (n % 64)) = ((2 ^ (n % 64) : Nat) : Int) := by simp
    have hp : 0 < 2 ^ (n % 64) := Nat.pow_pos (by decide)
    rw [e, IntKind.wrap_u64, IntKind.wrap_u64]
    generalize 2 ^ (n % 64) = y at this hp ⊢
    omega
  refine ⟨?_, and_lt _ h1, ?_⟩
  · unfold orL orL0; rw [if_pos hn, hl]
  · rw [h2, u64_and_nat _ _ h1 (Nat.lt_of_le_of_lt (Nat.sub_le _ _) (two_pow_lt n))]
end Go.Proofs.Ytcdepblajobemaa
namespace Go.Proofs.Ytcdepblajobemaa

def pcn (n x : Nat) : Nat := ((List.range n).map fun j => (x.testBit j).toNat).sum

theorem and_split (w q r m s : Nat) (hr : r < 2 ^ w) (hs : s < 2 ^ w) : (2 ^ w * q + r) &&& (2 ^ w * m + s) = 2 ^ w * (q &&& m) + (r &&& s) := by
  apply Nat.eq_of_testBit_eq
  intro j
  have hrs : r &&& s < 2 ^ w := Nat.lt_of_le_of_lt Nat.and_le_left hr
  rw [Nat.testBit_and, Nat.testBit_two_pow_mul_add _ hr, Nat.testBit_two_pow_mul_add _ hs, Nat.testBit_two_pow_mul_add _ hrs]
  split <;> rw [Nat.testBit_and]

theorem and_byte (q r m s : Nat) (hr : r < 256) (hs : s < 256) : (256 * q + r) &&& (256 * m + s) = 256 * (q &&& m) + (r &&& s) := and_split 8 q r m s hr hs

def f1 (x m : Nat) : Nat := (x / 2 &&& m) + (x &&& m)
def f2 (x m : Nat) : Nat := (x / 4 &&& m) + (x &&& m)
def f3 (x m : Nat) : Nat := (x / 16 + x) &&& m

theorem d1 : ∀ b, b < 2 → ∀ c, c < 256 → (128 * b + c / 2) &&& 85 = (c / 2) &&& 85 := by decide +kernel
theorem d2 : ∀ b, b < 4 → ∀ c, c < 256 → (64 * b + c / 4) &&& 51 = (c / 4) &&& 51 := by decide +kernel
theorem e1 : ∀ c, c < 256 → f1 c 85 < 256 := by decide +kernel
theorem e2 : ∀ c, c < 256 → f2 (f1 c 85) 51 < 69 ∧ f2 (f1 c 85) 51 % 16 ≤ 4 := by decide +kernel
theorem d3 : ∀ b, b < 5 → ∀ c, c < 256 → (16 * b + f2 (f1 c 85) 51 / 16 + f2 (f1 c 85) 51) &&& 15 = pcn 8 c := by decide +kernel
theorem p8 : ∀ c, c < 256 → pcn 8 c ≤ 8 := by decide +kernel

theorem f1_byte (q c m : Nat) (hc : c < 256) : f1 (256 * q + c) (256 * m + 85) = 256 * f1 q m + f1 c 85 := by
  unfold f1
  have h2 : (256 * q + c) / 2 = 256 * (q / 2) + (128 * (q % 2) + c / 2) := by omega
  rw [h2, and_byte _ _ _ _ (by omega) (by omega), and_byte _ _ _ _ hc (by omega), d1 _ (Nat.mod_lt _ (by decide)) _ hc]
  omega

theorem f2_byte (q c m : Nat) (hc : c < 256) : f2 (256 * q + c) (256 * m + 51) = 256 * f2 q m + f2 c 51 := by
  unfold f2
  have h2 : (256 * q + c) / 4 = 256 * (q / 4) + (64 * (q % 4) + c / 4) := by omega
  rw [h2, and_byte _ _ _ _ (by omega) (by omega), and_byte _ _ _ _ hc (by omega), d2 _ (Nat.mod_lt _ (by decide)) _ hc]
  omega

theorem low (q m m' : Nat) : f2 (f1 q (256 * m + 85)) (256 * m' + 51) % 16 ≤ 4 := by
  have hq : q = 256 * (q / 256) + q % 256 := by omega
  have hc : q % 256 < 256 := Nat.mod_lt _ (by decide)
  rw [hq, f1_byte _ _ _ hc, f2_byte _ _ _ (e1 _ hc)]
  have := (e2 _ hc).2
  omega

theorem t_byte (q c m m' m'' : Nat) (hc : c < 256) (h : f2 (f1 q m) m' % 16 ≤ 4) :
    f3 (f2 (f1 (256 * q + c) (256 * m + 85)) (256 * m' + 51)) (256 * m'' + 15) = 256 * f3 (f2 (f1 q m) m') m'' + pcn 8 c := by
  rw [f1_byte _ _ _ hc, f2_byte _ _ _ (e1 _ hc)]
  have h5 := (e2 _ hc).1
  have h6 := d3 (f2 (f1 q m) m' % 16) (by omega) c hc
  generalize f2 (f1 q m) m' = Q at *
  generalize f2 (f1 c 85) 51 = C at *
  unfold f3
  have h2 : (256 * Q + C) / 16 + (256 * Q + C) = 256 * (Q / 16 + Q) + (16 * (Q % 16) + C / 16 + C) := by omega
  rw [h2, and_byte _ _ _ _ (by omega) (by omega), h6]

theorem pcn_byte (n q c : Nat) (hc : c < 256) : pcn (8 + n) (256 * q + c) = pcn 8 c + pcn n q := by
  unfold pcn
  rw [sum_block]
  congr 1
  · refine congrArg List.sum (List.map_congr_left ?_)
    intro j hj
    have hj := List.mem_range.1 hj
    have := Nat.testBit_two_pow_mul_add (i := 8) q (b := c) (by simpa using hc) j
    rw [show (2 : Nat) ^ 8 = 256 from rfl] at this
    rw [this, if_pos hj]
  · refine congrArg List.sum (List.map_congr_left ?_)
    intro j _
    have := Nat.testBit_two_pow_mul_add (i := 8) q (b := c) (by simpa using hc) (8 + j)
    rw [show (2 : Nat) ^ 8 = 256 from rfl] at this
    rw [this, if_neg (by omega), show 8 + j - 8 = j by omega]

/-- The first three steps: of each byte its ones. -/
theorem three (x : Nat) (hx : x < 18446744073709551616) : ∃ a b c d e f g h : Nat, a ≤ 8 ∧ b ≤ 8 ∧ c ≤ 8 ∧ d ≤ 8 ∧ e ≤ 8 ∧ f ≤ 8 ∧ g ≤ 8 ∧ h ≤ 8 ∧
    f3 (f2 (f1 x 6148914691236517205) 3689348814741910323) 1085102592571150095 = 256 * (256 * (256 * (256 * (256 * (256 * (256 * h + g) + f) + e) + d) + c) + b) + a ∧ pc x = a + b + c + d + e + f + g + h := by
  have h0 : x = 256 * (x / 256) + x % 256 := by omega
  have h1 : x / 256 = 256 * (x / 65536) + x / 256 % 256 := by omega
  have h2 : x / 65536 = 256 * (x / 16777216) + x / 65536 % 256 := by omega
  have h3 : x / 16777216 = 256 * (x / 4294967296) + x / 16777216 % 256 := by omega
  have h4 : x / 4294967296 = 256 * (x / 1099511627776) + x / 4294967296 % 256 := by omega
  have h5 : x / 1099511627776 = 256 * (x / 281474976710656) + x / 1099511627776 % 256 := by omega
  have h6 : x / 281474976710656 = 256 * (x / 72057594037927936) + x / 281474976710656 % 256 := by omega
  have h7 : x / 72057594037927936 < 256 := by omega
  have l : ∀ y : Nat, y % 256 < 256 := fun y => Nat.mod_lt _ (by decide)
  refine ⟨_, _, _, _, _, _, _, _, p8 _ (l x), p8 _ (l (x / 256)), p8 _ (l (x / 65536)), p8 _ (l (x / 16777216)), p8 _ (l (x / 4294967296)), p8 _ (l (x / 1099511627776)), p8 _ (l (x / 281474976710656)), p8 _ h7, ?_, ?_⟩
  · have t7 : f3 (f2 (f1 (x / 72057594037927936) 85) 51) 15 = pcn 8 (x / 72057594037927936) := by
      have := d3 0 (by decide) _ h7
      unfold f3
      rwa [Nat.mul_zero, Nat.zero_add] at this
    have k7 : f2 (f1 (x / 72057594037927936) 85) 51 % 16 ≤ 4 := (e2 _ h7).2
    have t6 := t_byte (x / 72057594037927936) _ 85 51 15 (l (x / 281474976710656)) k7
    rw [← h6, t7] at t6
    have t5 := t_byte (x / 281474976710656) _ _ _ (256 * 15 + 15) (l (x / 1099511627776)) (low _ 85 51)
    rw [← h5, t6] at t5
    have t4 := t_byte (x / 1099511627776) _ _ _ (256 * (256 * 15 + 15) + 15) (l (x / 4294967296)) (low _ (256 * 85 + 85) (256 * 51 + 51))
    rw [← h4, t5] at t4
    have t3 := t_byte (x / 4294967296) _ _ _ (256 * (256 * (256 * 15 + 15) + 15) + 15) (l (x / 16777216)) (low _ (256 * (256 * 85 + 85) + 85) (256 * (256 * 51 + 51) + 51))
    rw [← h3, t4] at t3
    have t2 := t_byte (x / 16777216) _ _ _ (256 * (256 * (256 * (256 * 15 + 15) + 15) + 15) + 15) (l (x / 65536)) (low _ (256 * (256 * (256 * 85 + 85) + 85) + 85) (256 * (256 * (256 * 51 + 51) + 51) + 51))
    rw [← h2, t3] at t2
    have t1 := t_byte (x / 65536) _ _ _ (256 * (256 * (256 * (256 * (256 * 15 + 15) + 15) + 15) + 15) + 15) (l (x / 256)) (low _ (256 * (256 * (256 * (256 * 85 + 85) + 85) + 85) + 85) (256 * (256 * (256 * (256 * 51 + 51) + 51) + 51) + 51))
    rw [← h1, t2] at t1
    have t0 := t_byte (x / 256) _ _ _ (256 * (256 * (256 * (256 * (256 * (256 * 15 + 15) + 15) + 15) + 15) + 15) + 15) (l x) (low _ (256 * (256 * (256 * (256 * (256 * 85 + 85) + 85) + 85) + 85) + 85) (256 * (256 * (256 * (256 * (256 * 51 + 51) + 51) + 51) + 51) + 51))
    rw [← h0, t1] at t0
    exact t0
  · have p0 : pcn 64 (256 * (x / 256) + x % 256) = pcn 8 (x % 256) + pcn 56 (x / 256) := pcn_byte 56 (x / 256) _ (l x)
    have p1 : pcn 56 (256 * (x / 65536) + (x / 256) % 256) = pcn 8 ((x / 256) % 256) + pcn 48 (x / 65536) := pcn_byte 48 (x / 65536) _ (l (x / 256))
    have p2 : pcn 48 (256 * (x / 16777216) + (x / 65536) % 256) = pcn 8 ((x / 65536) % 256) + pcn 40 (x / 16777216) := pcn_byte 40 (x / 16777216) _ (l (x / 65536))
    have p3 : pcn 40 (256 * (x / 4294967296) + (x / 16777216) % 256) = pcn 8 ((x / 16777216) % 256) + pcn 32 (x / 4294967296) := pcn_byte 32 (x / 4294967296) _ (l (x / 16777216))
    have p4 : pcn 32 (256 * (x / 1099511627776) + (x / 4294967296) % 256) = pcn 8 ((x / 4294967296) % 256) + pcn 24 (x / 1099511627776) := pcn_byte 24 (x / 1099511627776) _ (l (x / 4294967296))
    have p5 : pcn 24 (256 * (x / 281474976710656) + (x / 1099511627776) % 256) = pcn 8 ((x / 1099511627776) % 256) + pcn 16 (x / 281474976710656) := pcn_byte 16 (x / 281474976710656) _ (l (x / 1099511627776))
    have p6 : pcn 16 (256 * (x / 72057594037927936) + (x / 281474976710656) % 256) = pcn 8 ((x / 281474976710656) % 256) + pcn 8 (x / 72057594037927936) := pcn_byte 8 (x / 72057594037927936) _ (l (x / 281474976710656))
    rw [← h0] at p0
    rw [← h1] at p1
    rw [← h2] at p2
    rw [← h3] at p3
    rw [← h4] at p4
    rw [← h5] at p5
    rw [← h6] at p6
    have : pc x = pcn 64 x := rfl
    omega

theorem f12_lt (x m : Nat) : (x / 2 &&& m) ≤ m ∧ (x &&& m) ≤ m ∧ (x / 4 &&& m) ≤ m := ⟨Nat.and_le_right, Nat.and_le_right, Nat.and_le_right⟩

theorem last (a b c d e f g h : Nat) (ha : a ≤ 8) (hb : b ≤ 8) (hc : c ≤ 8) (hd : d ≤ 8) (he : e ≤ 8) (hf : f ≤ 8) (hg : g ≤ 8) (hh : h ≤ 8) (X : Nat)
    (hX : X = 256 * (256 * (256 * (256 * (256 * (256 * (256 * h + g) + f) + e) + d) + c) + b) + a) :
    ∃ v : Nat, IntKind.u64.wrap (IntKind.u64.wrap (IntKind.u64.wrap ((X : Int) + X / 256) + IntKind.u64.wrap ((X : Int) + X / 256) / 65536) + IntKind.u64.wrap (IntKind.u64.wrap ((X : Int) + X / 256) + IntKind.u64.wrap ((X : Int) + X / 256) / 65536) / 4294967296) = (v : Int) ∧ v < 18446744073709551616 ∧ v % 128 = a + b + c + d + e + f + g + h := by
  simp only [IntKind.wrap_u64]
  obtain ⟨q6, h6⟩ : ∃ q, q = 256 * h + g := ⟨_, rfl⟩
  obtain ⟨q5, h5⟩ : ∃ q, q = 256 * q6 + f := ⟨_, rfl⟩
  obtain ⟨q4, h4⟩ : ∃ q, q = 256 * q5 + e := ⟨_, rfl⟩
  obtain ⟨q3, h3⟩ : ∃ q, q = 256 * q4 + d := ⟨_, rfl⟩
  obtain ⟨q2, h2⟩ : ∃ q, q = 256 * q3 + c := ⟨_, rfl⟩
  obtain ⟨q1, h1⟩ : ∃ q, q = 256 * q2 + b := ⟨_, rfl⟩
  rw [← h6, ← h5, ← h4, ← h3, ← h2, ← h1] at hX
  have b6 : q6 ≤ 2056 := by omega
  have b5 : q5 ≤ 526344 := by omega
  have b4 : q4 ≤ 134744072 := by omega
  have b3 : q3 ≤ 34494482440 := by omega
  have b2 : q2 ≤ 8830587504648 := by omega
  have b1 : q1 ≤ 2260630401189896 := by omega
  have b0 : X ≤ 578721382704613384 := by omega
  have e1 : ((X : Int) + X / 256) % 18446744073709551616 = ((X + q1 : Nat) : Int) := by omega
  rw [e1]
  have d2 : (X + q1) / 65536 = q2 + q3 := by omega
  have e2 : (((X + q1 : Nat) : Int) + ((X + q1 : Nat) : Int) / 65536) % 18446744073709551616 = ((X + q1 + q2 + q3 : Nat) : Int) := by omega
  rw [e2]
  have d3 : (X + q1 + q2 + q3) / 4294967296 = q4 + q5 + q6 + h := by omega
  have e3 : (((X + q1 + q2 + q3 : Nat) : Int) + ((X + q1 + q2 + q3 : Nat) : Int) / 4294967296) % 18446744073709551616 = ((X + q1 + q2 + q3 + (q4 + q5 + q6 + h) : Nat) : Int) := by omega
  rw [e3]
  exact ⟨_, rfl, by omega, by omega⟩

/-- All of it, as the walk spells it. -/
def swar (x : Int) : Int :=
  let a := IntKind.u64.wrap (bits .and .u64 (x / 2) 6148914691236517205 + bits .and .u64 x 6148914691236517205)
  let b := IntKind.u64.wrap (bits .and .u64 (a / 4) 3689348814741910323 + bits .and .u64 a 3689348814741910323)
  let c := bits .and .u64 (IntKind.u64.wrap (b / 16 + b)) 1085102592571150095
  let d := IntKind.u64.wrap (c + c / 256)
  let e := IntKind.u64.wrap (d + d / 65536)
  IntKind.u64.wrap (e + e / 4294967296)

theorem swar_lt (x : Nat) (h : x < 18446744073709551616) : ∃ v : Nat, swar x = (v : Int) ∧ v < 18446744073709551616 ∧ v % 128 = pc x := by
  obtain ⟨a, b, c, d, e, f, g, i, ha, hb, hc, hd, he, hf, hg, hi, h3, hp⟩ := three x h
  have i1 : IntKind.u64.wrap (bits .and .u64 ((x : Int) / 2) 6148914691236517205 + bits .and .u64 x 6148914691236517205) = ((f1 x 6148914691236517205 : Nat) : Int) := by
    rw [show ((x : Int) / 2) = ((x / 2 : Nat) : Int) by omega, show (6148914691236517205 : Int) = ((6148914691236517205 : Nat) : Int) from rfl, u64_and_nat _ _ (by omega) (by decide), u64_and_nat _ _ h (by decide), IntKind.wrap_u64]
    have := f12_lt x 6148914691236517205
    unfold f1
    generalize x / 2 &&& 6148914691236517205 = y at this ⊢
    generalize x &&& 6148914691236517205 = z at this ⊢
    omega
  have l1 : f1 x 6148914691236517205 < 18446744073709551616 := by
    have := f12_lt x 6148914691236517205
    unfold f1
    omega
  generalize f1 x 6148914691236517205 = X at *
  have i2 : IntKind.u64.wrap (bits .and .u64 ((X : Int) / 4) 3689348814741910323 + bits .and .u64 X 3689348814741910323) = ((f2 X 3689348814741910323 : Nat) : Int) := by
    rw [show ((X : Int) / 4) = ((X / 4 : Nat) : Int) by omega, show (3689348814741910323 : Int) = ((3689348814741910323 : Nat) : Int) from rfl, u64_and_nat _ _ (by omega) (by decide), u64_and_nat _ _ l1 (by decide), IntKind.wrap_u64]
    have := f12_lt X 3689348814741910323
    unfold f2
    generalize X / 4 &&& 3689348814741910323 = y at this ⊢
    generalize X &&& 3689348814741910323 = z at this ⊢
    omega
  have l2 : f2 X 3689348814741910323 ≤ 7378697629483820646 := by
    have := f12_lt X 3689348814741910323
    unfold f2
    omega
  generalize f2 X 3689348814741910323 = Y at *
  have i3 : bits .and .u64 (IntKind.u64.wrap ((Y : Int) / 16 + Y)) 1085102592571150095 = ((f3 Y 1085102592571150095 : Nat) : Int) := by
    have e3 : IntKind.u64.wrap ((Y : Int) / 16 + Y) = ((Y / 16 + Y : Nat) : Int) := by rw [IntKind.wrap_u64]; omega
    rw [e3, show (1085102592571150095 : Int) = ((1085102592571150095 : Nat) : Int) from rfl, u64_and_nat _ _ (by omega) (by decide)]
    rfl
  unfold swar
  simp only []
  rw [i1, i2, i3]
  rw [hp]
  exact last a b c d e f g i ha hb hc hd he hf hg hi _ h3

end Go.Proofs.Ytcdepblajobemaa
namespace Go.Proofs.Ytcdepblajobemaa
open Go.RowKit
theorem and127 (n : Nat) : n &&& 127 = n % 128 := Nat.and_two_pow_sub_one_eq_mod n 7
theorem byte_max (v : Nat) (h : v < 18446744073709551616) : bits .and .i64 (wrap64 (v : Int)) 127 = ((v % 128 : Nat) : Int) := by
  have h1 : (BitVec.ofInt 64 (wrap64 (v : Int))).toNat = v := by
    rw [BitVec.toNat_ofInt]
    unfold wrap64
    omega
  show IntKind.i64.wrap ((BitVec.ofInt 64 (wrap64 (v : Int)) &&& BitVec.ofInt 64 127).toNat : Int) = _
  rw [BitVec.toNat_and, h1, show (BitVec.ofInt 64 127).toNat = 127 from rfl, and127, IntKind.wrap_i64]
  omega
set_option maxHeartbeats 400000 in
theorem ones_any (x : Nat) (w : World) (h : x < 18446744073709551616) :
    Calls Try.prog 103 #[.int .u64 (x : Int)] w fun e w' => e = .returned (.int .i64 (pc x : Int)) ∧ w = w' := by
  obtain ⟨v, h1, h2, h3⟩ := swar_lt x h
  have hx : (x : Int) < 18446744073709551616 := by omega
  have HS := Lib.hid h1
  have H2 := Lib.hid h2
  have H3 := Lib.hid h3
  clear h1 h2 h3
  go_enter Try.func103, Try.ntmps103
  go_wp2
  go_ret
  have e := HS.out
  have e2 := H2.out
  have e3 := H3.out
  clear HS H2 H3
  unfold swar at e
  simp only [] at e
  generalize IntKind.u64.wrap (bits .and .u64 ((x:Int)/2) 6148914691236517205 + bits .and .u64 (x:Int) 6148914691236517205) = a at e ⊢
  generalize IntKind.u64.wrap (bits .and .u64 (a / 4) 3689348814741910323 + bits .and .u64 a 3689348814741910323) = b at e ⊢
  generalize bits .and .u64 (IntKind.u64.wrap (b / 16 + b)) 1085102592571150095 = c at e ⊢
  generalize IntKind.u64.wrap (c + c / 256) = d at e ⊢
  generalize IntKind.u64.wrap (d + d / 65536) = f at e ⊢
  rw [e, byte_max v e2, e3]
  exact ⟨rfl, rfl⟩

theorem ones_take (L : List Nat) (k : Nat) (h : k < L.length) : ones (L.take (k + 1)) = ones (L.take k) + pc (L.getD k 0) := by
  unfold ones
  rw [List.take_succ_eq_append_getElem h, List.map_append, List.sum_append]
  simp [h]
theorem ones_le (L : List Nat) : ∀ k, ones (L.take k) ≤ 64 * k := by
  intro k
  induction k with
  | zero => simp [ones]
  | succ k ih =>
    by_cases h : k < L.length
    · rw [ones_take L k h]; have := pc_le (L.getD k 0); omega
    · rw [List.take_of_length_le (by omega)]; rw [List.take_of_length_le (by omega)] at ih; omega

set_option maxHeartbeats 400000 in
theorem len_any (p g cap n : Nat) (L : List Nat) (w : World) (h : SetAt w p g cap n L) :
    Calls Try.prog 58 #[.pointer (some ⟨p, 0, none⟩)] w fun e w' => e = .returned (.int .i64 (ones L : Int)) ∧ w = w' := by
  have hm := h.max
  have hW := h.cellW
  have hl := h.len
  go_enter Try.func58, Try.ntmps58
  go_wp2
  go_loop [3, 11] (fun t i => ∃ k : Nat, k ≤ L.length ∧ i = .int .i64 (k : Int) ∧ t = .int .i64 (ones (L.take k) : Int)) (fun _ i => L.length - (intOf i).toNat)
  case atStart => exact ⟨0, by omega, rfl, by simp [ones]⟩
  case round =>
    obtain ⟨k, hk, rfl, rfl⟩ := hrel
    by_cases hlt : k < L.length
    · have hc := h.cell k hlt
      have h1 := ones_le L k
      have h2 := pc_le (L.getD k 0)
      have hT := ones_take L k hlt
      have hxw := h.wd k
      generalize L.getD k 0 = x at hc h2 hT hxw
      have HO := Lib.hid (ones_any x w hxw)
      generalize pc x = y at h2 hT HO
      have HT := Lib.hid hT
      clear hT
      go_wp2_with (go_at_call 103; refine HO.out.mono ?_; rintro e w' ⟨rfl, rfl⟩)
      go_round
      case rel => exact ⟨k + 1, by omega, by go_num, by rw [HT.out]; go_num⟩
      case measure => simp [intOf]; omega
    · obtain rfl : k = L.length := by omega
      have hlt2 : ¬ (L.length : Int) < (n + 63) / 64 := by omega
      go_wp2
      go_ret
      exact ⟨by rw [List.take_of_length_le (show L.length ≤ (n + 63) / 64 by omega)]; rfl, rfl⟩

theorem all_succ (f : Nat → Bool) (k : Nat) : (List.range (k + 1)).all f = ((List.range k).all f && f k) := by
  rw [List.range_succ, List.all_append]; simp
theorem all_not {f : Nat → Bool} {k m : Nat} (h : f k = false) (hk : k < m) : (List.range m).all f = false := by
  rw [List.all_eq_false]
  exact ⟨k, List.mem_range.2 hk, by simp [h]⟩

def inWord (L M : List Nat) (k : Nat) : Bool := L.getD k 0 &&& (18446744073709551615 - M.getD k 0) == 0

theorem eq_all {L M : List Nat} (h : L.length = M.length) : (L == M) = (List.range L.length).all fun k => L.getD k 0 == M.getD k 0 := by
  rw [Bool.eq_iff_iff, List.all_eq_true, beq_iff_eq]
  constructor
  · rintro rfl k _; simp
  · intro a
    exact list_ext h fun j hj => by simpa using a j (List.mem_range.2 hj)

set_option maxHeartbeats 400000 in
theorem equal_any (g cap g2 cap2 l m : Nat) (L M : List Nat) (w : World) (hl : L.length = l) (hm : M.length = m) (hL : ∀ k, k < l → w.cell? ⟨g, k, none⟩ = some (.int .u64 ((L.getD k 0 : Nat) : Int))) (hM : ∀ k, k < m → w.cell? ⟨g2, k, none⟩ = some (.int .u64 ((M.getD k 0 : Nat) : Int)))
    (hLl : l ≤ 1024) (hMl : m ≤ 1024) :
    Calls Try.prog 63 #[.slice (some ⟨g, 0, none⟩) l cap, .slice (some ⟨g2, 0, none⟩) m cap2] w fun e w' => e = .returned (.bool (L == M)) ∧ ∃ k, w' = w.drewN k := by
  have HL := Lib.hid hL
  have HM := Lib.hid hM
  clear hL hM
  by_cases hlm : l = m
  · have HF := Lib.hid (eq_all (hl.trans (hlm.trans hm.symm)))
    generalize (L == M) = res at HF ⊢
    subst hlm
    rw [hl] at HF
    clear hm
    have hb : ((l : Int) != (l : Int)) = false := by simp
    go_enter Try.func63, Try.ntmps63
    go_wp2
    go_loopw [13] (fun i wr => ∃ k j : Nat, k ≤ l ∧ i = .int .i64 (k : Int) ∧ wr = w.drewN j ∧ (List.range k).all (fun k => L.getD k 0 == M.getD k 0) = true) (fun i _ => l - (intOf i).toNat)
    case atStart => exact ⟨0, 0, by omega, rfl, rfl, rfl⟩
    case round =>
      obtain ⟨k, j, hk, rfl, rfl, hall⟩ := hrel
      have HA := Lib.hid hall
      clear hall
      by_cases hlt : k < l
      · have hc1 := HL.out k hlt
        have hc2 := HM.out k hlt
        by_cases hxy : L.getD k 0 = M.getD k 0
        · have HB := Lib.hid hxy
          rw [← hxy] at hc2
          clear hxy
          generalize L.getD k 0 = x at hc1 hc2
          go_wp2
          go_region
          go_wp2
          exact ⟨⟨k + 1, j + 1, by omega, by go_num, rfl, by rw [all_succ, HA.out, HB.out]; simp⟩, by simp [intOf]; omega⟩
        · have HB := Lib.hid hxy
          have hne : (((L.getD k 0 : Nat) : Int) != ((M.getD k 0 : Nat) : Int)) = true := by rw [bne_iff_ne]; omega
          clear hxy
          generalize L.getD k 0 = x at hc1 hne
          generalize M.getD k 0 = y at hc2 hne
          go_wp2
          go_region
          go_wp2
          go_ret
          exact ⟨by rw [HF.out, all_not (f := fun k => L.getD k 0 == M.getD k 0) (k := k) (beq_eq_false_iff_ne.2 HB.out) hlt]; rfl, j + 1, rfl⟩
      · obtain rfl : k = l := by omega
        go_wp2
        go_ret
        exact ⟨by rw [HF.out, HA.out]; rfl, j, rfl⟩
  · have hF : (L == M) = false := by
      rw [beq_eq_false_iff_ne]
      rintro rfl
      exact hlm (hl.symm.trans hm)
    have HF := Lib.hid hF
    have hb : ((l : Int) != (m : Int)) = true := by rw [bne_iff_ne]; omega
    generalize (L == M) = res at HF ⊢
    clear hF
    go_enter Try.func63, Try.ntmps63
    go_wp2
    go_ret
    exact ⟨by rw [HF.out]; rfl, 0, rfl⟩

set_option maxHeartbeats 400000 in
theorem same_any (p g cap n p2 g2 cap2 n2 : Nat) (L M : List Nat) (w : World) (h : SetAt w p g cap n L) (h2 : SetAt w p2 g2 cap2 n2 M) :
    Calls Try.prog 27 #[.pointer (some ⟨p, 0, none⟩), .pointer (some ⟨p2, 0, none⟩)] w fun e w' => e = .returned (.bool (n == n2 && L == M)) ∧ ∃ k, w' = w.drewN k := by
  have hm := h.max
  have hm2 := h2.max
  have hN := h.cellN
  have hN2 := h2.cellN
  have hW := h.cellW
  have hW2 := h2.cellW
  have hl := h.len
  have hl2 := h2.len
  by_cases hn : n = n2
  · subst hn
    have hb : ((n : Int) == (n : Int)) = true := by simp
    have HE := Lib.hid fun j => equal_any g cap g2 cap2 _ _ L M (w.drewN j) hl hl2 (fun k hk => (h.drewN j).cell k (by omega)) (fun k hk => (h2.drewN j).cell k (by omega)) (by omega) (by omega)
    rw [show (n == n) = true by simp, Bool.true_and]
    generalize (L == M) = res at HE ⊢
    go_enter Try.func27, Try.ntmps27
    go_wp2_with fail
    go_quiet ((go_at_call 63; exact Calls.quiet_of (HE.out _)))
    go_wp2
    go_ret
    exact ⟨rfl, _, rfl⟩
  · have hb : ((n : Int) == (n2 : Int)) = false := by rw [beq_eq_false_iff_ne]; omega
    rw [show (n == n2) = false by simp [hn], Bool.false_and]
    go_enter Try.func27, Try.ntmps27
    go_wp2_with fail
    go_quiet (fail)
    go_wp2
    go_ret
    exact ⟨rfl, _, rfl⟩
end Go.Proofs.Ytcdepblajobemaa
