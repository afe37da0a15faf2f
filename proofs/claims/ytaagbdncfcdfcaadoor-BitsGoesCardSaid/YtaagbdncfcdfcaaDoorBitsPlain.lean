/- Bits: rows of words of 64 bits as sets of numbers: plain facts, no program in sight. -/
import Init
namespace Go.Proofs.YtaagbdncfcdfcaaDoor

def bit (L : List Nat) (i : Nat) : Bool := (L.getD (i / 64) 0).testBit (i % 64)

structure Good (n : Nat) (L : List Nat) : Prop where
  len : L.length = (n + 63) / 64
  max : n ≤ 65536
  wd : ∀ k, L.getD k 0 < 18446744073709551616
  top : ∀ i, n ≤ i → bit L i = false

def putL (L : List Nat) (i : Nat) : List Nat := L.set (i / 64) (L.getD (i / 64) 0 ||| 2 ^ (i % 64))
def cutL (L : List Nat) (i : Nat) : List Nat := L.set (i / 64) (L.getD (i / 64) 0 &&& (18446744073709551615 - 2 ^ (i % 64)))

theorem getD_set (L : List Nat) (k j x : Nat) (h : k < L.length) : (L.set k x).getD j 0 = if k = j then x else L.getD j 0 := by
  simp only [List.getD_eq_getElem?_getD, List.getElem?_set]
  by_cases e : k = j
  · subst e; simp [h]
  · simp [e]

theorem two_pow_lt (i : Nat) : 2 ^ (i % 64) < 18446744073709551616 := by
  have h : i % 64 < 64 := Nat.mod_lt _ (by decide)
  calc 2 ^ (i % 64) < 2 ^ 64 := Nat.pow_lt_pow_right (by decide) h
    _ = _ := by decide

theorem not_bit (b i : Nat) (hb : b < 18446744073709551616) : (18446744073709551615 - b).testBit i = (decide (i < 64) && !b.testBit i) := by
  have h := Nat.testBit_two_pow_sub_succ (n := 64) (x := b) (by simpa using hb) i
  rw [← h]
  congr 1
  omega

theorem lt_of_bits (x : Nat) (h : ∀ i, 64 ≤ i → x.testBit i = false) : x < 18446744073709551616 := by
  have := Nat.lt_pow_two_of_testBit (n := 64) x h
  simpa using this

theorem bits_of_lt (x : Nat) (h : x < 18446744073709551616) (i : Nat) (hi : 64 ≤ i) : x.testBit i = false :=
  Nat.testBit_lt_two_pow (Nat.lt_of_lt_of_le h (by
    calc 18446744073709551616 = 2 ^ 64 := by decide
      _ ≤ 2 ^ i := Nat.pow_le_pow_right (by decide) hi))

theorem div_mod_eq {i j : Nat} (h : i / 64 = j / 64) (k : i % 64 = j % 64) : i = j := by omega

theorem or_lt {x y : Nat} (h : x < 18446744073709551616) (k : y < 18446744073709551616) : x ||| y < 18446744073709551616 := by
  apply lt_of_bits
  intro i hi
  simp [Nat.testBit_or, bits_of_lt _ h i hi, bits_of_lt _ k i hi]

theorem and_lt {x : Nat} (y : Nat) (h : x < 18446744073709551616) : x &&& y < 18446744073709551616 := Nat.lt_of_le_of_lt Nat.and_le_left h

theorem bit_put {n : Nat} {L : List Nat} (g : Good n L) {i : Nat} (hi : i < n) (j : Nat) : bit (putL L i) j = (bit L j || decide (i = j)) := by
  have hl := g.len
  unfold bit putL
  rw [getD_set _ _ _ _ (by omega)]
  by_cases e : i / 64 = j / 64
  · rw [if_pos e, e, Nat.testBit_or, Nat.testBit_two_pow]
    congr 1
    by_cases f : i = j
    · subst f; simp
    · have : i % 64 ≠ j % 64 := fun k => f (div_mod_eq e k)
      simp [f, this]
  · rw [if_neg e]
    have : i ≠ j := fun k => e (by rw [k])
    simp [this]

theorem bit_cut {n : Nat} {L : List Nat} (g : Good n L) {i : Nat} (hi : i < n) (j : Nat) : bit (cutL L i) j = (bit L j && !decide (i = j)) := by
  have hl := g.len
  unfold bit cutL
  rw [getD_set _ _ _ _ (by omega)]
  by_cases e : i / 64 = j / 64
  · rw [if_pos e, e, Nat.testBit_and, not_bit _ _ (two_pow_lt i), Nat.testBit_two_pow]
    have : j % 64 < 64 := Nat.mod_lt _ (by decide)
    by_cases f : i = j
    · subst f; simp
    · have h2 : i % 64 ≠ j % 64 := fun k => f (div_mod_eq e k)
      simp [f, h2, this]
  · rw [if_neg e]
    have : i ≠ j := fun k => e (by rw [k])
    simp [this]

theorem good_put {n : Nat} {L : List Nat} (g : Good n L) {i : Nat} (hi : i < n) : Good n (putL L i) := by
  refine ⟨by simpa [putL] using g.len, g.max, fun k => ?_, fun j hj => ?_⟩
  · unfold putL
    rw [getD_set _ _ _ _ (by have := g.len; omega)]
    split
    · exact or_lt (g.wd _) (two_pow_lt i)
    · exact g.wd k
  · rw [bit_put g hi, g.top j hj]
    have : i ≠ j := by omega
    simp [this]

theorem good_cut {n : Nat} {L : List Nat} (g : Good n L) {i : Nat} (hi : i < n) : Good n (cutL L i) := by
  refine ⟨by simpa [cutL] using g.len, g.max, fun k => ?_, fun j hj => ?_⟩
  · unfold cutL
    rw [getD_set _ _ _ _ (by have := g.len; omega)]
    split
    · exact and_lt _ (g.wd _)
    · exact g.wd k
  · rw [bit_cut g hi, g.top j hj]; rfl

theorem good_none {n : Nat} (h : n ≤ 65536) : Good n (List.replicate ((n + 63) / 64) 0) := by
  have e : ∀ k, (List.replicate ((n + 63) / 64) 0).getD k 0 = 0 := by
    intro k
    simp only [List.getD_eq_getElem?_getD, List.getElem?_replicate]
    split <;> rfl
  refine ⟨List.length_replicate, h, fun k => by rw [e]; decide, fun i _ => by unfold bit; rw [e]; simp⟩

theorem bit_none (m i : Nat) : bit (List.replicate m 0) i = false := by
  have e : ∀ k, (List.replicate m 0).getD k 0 = 0 := by
    intro k
    simp only [List.getD_eq_getElem?_getD, List.getElem?_replicate]
    split <;> rfl
  unfold bit; rw [e]; simp

/-- What differs in no number is the same. -/
theorem good_ext {n : Nat} {L M : List Nat} (g : Good n L) (h : Good n M) (e : ∀ i, i < n → bit L i = bit M i) : L = M := by
  have e' : ∀ i, bit L i = bit M i := fun i => by
    by_cases k : i < n
    · exact e i k
    · rw [g.top i (by omega), h.top i (by omega)]
  apply List.ext_getElem (by rw [g.len, h.len])
  intro k h1 h2
  have a1 : L[k] = L.getD k 0 := by simp [h1]
  have a2 : M[k] = M.getD k 0 := by simp [h2]
  rw [a1, a2]
  apply Nat.eq_of_testBit_eq
  intro j
  by_cases hj : j < 64
  · have := e' (64 * k + j)
    unfold bit at this
    rwa [show (64 * k + j) / 64 = k by omega, show (64 * k + j) % 64 = j by omega] at this
  · rw [bits_of_lt _ (g.wd k) j (by omega), bits_of_lt _ (h.wd k) j (by omega)]

/-- And, Less: word by word; Or: cut at the width. -/
def andL (L M : List Nat) : List Nat := (List.range L.length).map fun k => L.getD k 0 &&& M.getD k 0
def lessL (L M : List Nat) : List Nat := (List.range L.length).map fun k => L.getD k 0 &&& (18446744073709551615 - M.getD k 0)
def orL0 (L M : List Nat) : List Nat := (List.range L.length).map fun k => L.getD k 0 ||| M.getD k 0
def orL (n : Nat) (L M : List Nat) : List Nat := if 0 < n % 64 then (orL0 L M).set (L.length - 1) ((orL0 L M).getD (L.length - 1) 0 &&& (2 ^ (n % 64) - 1)) else orL0 L M

theorem getD_map_range (m : Nat) (f : Nat → Nat) (k : Nat) (h0 : m ≤ k → f k = 0) : ((List.range m).map f).getD k 0 = f k := by
  simp only [List.getD_eq_getElem?_getD, List.getElem?_map]
  by_cases h : k < m
  · simp [h]
  · simp [h, h0 (by omega)]

theorem getD_out {L : List Nat} {k : Nat} (h : L.length ≤ k) : L.getD k 0 = 0 := by
  simp [List.getD_eq_getElem?_getD, List.getElem?_eq_none h]

theorem getD_andL (L M : List Nat) (k : Nat) : (andL L M).getD k 0 = L.getD k 0 &&& M.getD k 0 := getD_map_range _ _ _ (fun h => by rw [getD_out h]; simp)
theorem getD_lessL (L M : List Nat) (k : Nat) : (lessL L M).getD k 0 = L.getD k 0 &&& (18446744073709551615 - M.getD k 0) := getD_map_range _ _ _ (fun h => by rw [getD_out h]; simp)
theorem getD_orL0 (L M : List Nat) (k : Nat) (h : k < L.length) : (orL0 L M).getD k 0 = L.getD k 0 ||| M.getD k 0 := getD_map_range _ _ _ (fun h' => by omega)

theorem bit_and (L M : List Nat) (i : Nat) : bit (andL L M) i = (bit L i && bit M i) := by
  unfold bit; rw [getD_andL, Nat.testBit_and]
theorem bit_less (L M : List Nat) (hM : ∀ k, M.getD k 0 < 18446744073709551616) (i : Nat) : bit (lessL L M) i = (bit L i && !bit M i) := by
  have : i % 64 < 64 := Nat.mod_lt _ (by decide)
  unfold bit; rw [getD_lessL, Nat.testBit_and, not_bit _ _ (hM _)]; simp [this]
theorem bit_or {n : Nat} {L M : List Nat} (g : Good n L) (i : Nat) : bit (orL n L M) i = ((bit L i || bit M i) && decide (i < n)) := by
  have hl := g.len
  have hlen0 : (orL0 L M).length = L.length := by simp [orL0]
  by_cases hi : i < n
  · have hk : i / 64 < L.length := by omega
    unfold orL
    split
    · rename_i hp
      unfold bit
      rw [getD_set _ _ _ _ (by omega), getD_orL0 _ _ _ hk]
      split
      · rename_i e
        rw [← e, getD_orL0 _ _ _ (by omega), Nat.testBit_and, Nat.testBit_or, Nat.testBit_two_pow_sub_one]
        have : i % 64 < n % 64 := by omega
        simp [this, hi]
      · rw [Nat.testBit_or]; simp [hi]
    · unfold bit
      rw [getD_orL0 _ _ _ hk, Nat.testBit_or]; simp [hi]
  · simp only [hi, decide_false, Bool.and_false]
    unfold orL
    split
    · rename_i hp
      unfold bit
      rw [getD_set _ _ _ _ (by omega)]
      split
      · rename_i e
        rw [Nat.testBit_and, Nat.testBit_two_pow_sub_one]
        have : ¬ i % 64 < n % 64 := by omega
        simp [this]
      · rw [getD_out (by rw [hlen0]; omega)]; simp
    · unfold bit
      rw [getD_out (by rw [hlen0]; omega)]; simp

theorem good_and {n : Nat} {L : List Nat} (g : Good n L) (M : List Nat) : Good n (andL L M) :=
  ⟨by simpa [andL] using g.len, g.max, fun k => by rw [getD_andL]; exact and_lt _ (g.wd k), fun i hi => by rw [bit_and, g.top i hi]; rfl⟩
theorem good_less {n : Nat} {L : List Nat} (g : Good n L) (M : List Nat) (hM : ∀ k, M.getD k 0 < 18446744073709551616) : Good n (lessL L M) :=
  ⟨by simpa [lessL] using g.len, g.max, fun k => by rw [getD_lessL]; exact and_lt _ (g.wd k), fun i hi => by rw [bit_less _ _ hM, g.top i hi]; rfl⟩
theorem good_or {n : Nat} {L M : List Nat} (g : Good n L) (hM : ∀ k, M.getD k 0 < 18446744073709551616) : Good n (orL n L M) := by
  have hl := g.len
  have hlen0 : (orL0 L M).length = L.length := by simp [orL0]
  have h0 : ∀ k, (orL0 L M).getD k 0 < 18446744073709551616 := fun k => by
    by_cases hk : k < L.length
    · rw [getD_orL0 _ _ _ hk]; exact or_lt (g.wd k) (hM k)
    · rw [getD_out (by rw [hlen0]; omega)]; decide
  refine ⟨?_, g.max, fun k => ?_, fun i hi => by rw [bit_or g]; simp [show ¬ i < n by omega]⟩
  · unfold orL; split <;> simp [hlen0, hl]
  · unfold orL
    split
    · rw [getD_set _ _ _ _ (by rw [hlen0]; omega)]
      split
      · exact and_lt _ (h0 _)
      · exact h0 k
    · exact h0 k

/-- How many: the ones of each word. -/
def pc (x : Nat) : Nat := ((List.range 64).map fun j => (x.testBit j).toNat).sum
def ones (L : List Nat) : Nat := (L.map pc).sum

/-- As many as its numbers below any bound that holds them. -/
theorem sum_map_range_succ (m : Nat) (f : Nat → Nat) : ((List.range (m + 1)).map f).sum = ((List.range m).map f).sum + f m := by
  rw [List.range_succ, List.map_append, List.sum_append]; simp

theorem sum_block (a : Nat) (f : Nat → Nat) : ∀ b, ((List.range (a + b)).map f).sum = ((List.range a).map f).sum + ((List.range b).map fun j => f (a + j)).sum
  | 0 => by simp
  | b + 1 => by rw [← Nat.add_assoc, sum_map_range_succ, sum_block a f b, sum_map_range_succ, Nat.add_assoc]

theorem ones_eq : ∀ (L : List Nat), ones L = ((List.range (64 * L.length)).map fun i => (bit L i).toNat).sum := by
  intro L
  have key : ∀ m, m ≤ L.length → ((L.take m).map pc).sum = ((List.range (64 * m)).map fun i => (bit L i).toNat).sum := by
    intro m
    induction m with
    | zero => intro _; simp
    | succ m ih =>
      intro hm
      rw [List.take_succ_eq_append_getElem (by omega), List.map_append, List.sum_append, ih (by omega), Nat.mul_succ, sum_block]
      refine congrArg (_ + ·) ?_
      rw [List.map_cons, List.map_nil, List.sum_cons, List.sum_nil, Nat.add_zero]
      show ((List.range 64).map _).sum = _
      refine congrArg List.sum (List.map_congr_left ?_)
      intro j hj
      have hj' := List.mem_range.1 hj
      unfold bit
      rw [show (64 * m + j) / 64 = m by omega, show (64 * m + j) % 64 = j by omega]
      simp [show m < L.length by omega]
  have := key L.length (Nat.le_refl _)
  rw [List.take_length] at this
  exact this

theorem sum_le_of {m : Nat} {f g : Nat → Nat} (h : ∀ i, i < m → f i = g i) : ((List.range m).map f).sum = ((List.range m).map g).sum := by
  refine congrArg List.sum (List.map_congr_left ?_)
  intro i hi
  exact h i (List.mem_range.1 hi)

theorem sum_add (m : Nat) (f g : Nat → Nat) : ((List.range m).map fun i => f i + g i).sum = ((List.range m).map f).sum + ((List.range m).map g).sum := by
  induction m with
  | zero => rfl
  | succ m ih => simp only [sum_map_range_succ, ih]; omega

theorem pc_le (x : Nat) : pc x ≤ 64 := by
  have key : ∀ m, ((List.range m).map fun j => (x.testBit j).toNat).sum ≤ m := by
    intro m
    induction m with
    | zero => simp
    | succ m ih => rw [sum_map_range_succ]; have : (x.testBit m).toNat ≤ 1 := Bool.toNat_le _; omega
  exact key 64

/-- Is each of the one in the other? -/
def withinL (L M : List Nat) : Bool := (List.range L.length).all fun k => L.getD k 0 &&& (18446744073709551615 - M.getD k 0) == 0

theorem within_iff {L M : List Nat} (hL : ∀ k, L.getD k 0 < 18446744073709551616) (hM : ∀ k, M.getD k 0 < 18446744073709551616) : withinL L M = true ↔ ∀ i, bit L i = true → bit M i = true := by
  unfold withinL
  rw [List.all_eq_true]
  constructor
  · intro h i hi
    by_cases hk : i / 64 < L.length
    · have h0 := h (i / 64) (List.mem_range.2 hk)
      simp only [beq_iff_eq] at h0
      have h1 := congrArg (fun x => x.testBit (i % 64)) h0
      have : i % 64 < 64 := Nat.mod_lt _ (by decide)
      simp only [Nat.testBit_and, not_bit _ _ (hM _), Nat.zero_testBit, this, decide_true, Bool.true_and] at h1
      unfold bit at hi ⊢
      rw [hi] at h1
      simpa using h1
    · unfold bit at hi
      rw [getD_out (by omega)] at hi
      simp at hi
  · intro h k hk
    simp only [beq_iff_eq]
    apply Nat.eq_of_testBit_eq
    intro j
    rw [Nat.testBit_and, not_bit _ _ (hM _), Nat.zero_testBit]
    by_cases hj : j < 64
    · have := h (64 * k + j)
      unfold bit at this
      rw [show (64 * k + j) / 64 = k by omega, show (64 * k + j) % 64 = j by omega] at this
      cases a : (L.getD k 0).testBit j with
      | false => simp
      | true => rw [this a]; simp
    · rw [bits_of_lt _ (hL k) j (by omega)]; simp

/-- The key's bytes. -/
def keyL (n : Nat) (L : List Nat) : List Nat := (List.range ((n + 7) / 8)).map fun j => L.getD (j / 8) 0 / 2 ^ (j % 8 * 8) % 256

theorem key_bit (n : Nat) (L : List Nat) (i : Nat) (h : i < n) : ((keyL n L).getD (i / 8) 0).testBit (i % 8) = bit L i := by
  unfold keyL
  rw [getD_map_range _ _ _ (fun h' => by omega)]
  rw [show (256 : Nat) = 2 ^ 8 from rfl, Nat.testBit_mod_two_pow, Nat.testBit_div_two_pow]
  unfold bit
  rw [show i / 8 / 8 = i / 64 by omega, show i % 8 + i / 8 % 8 * 8 = i % 64 by omega]
  have : i % 8 < 8 := Nat.mod_lt _ (by decide)
  simp [this]

theorem key_inj {n : Nat} {L M : List Nat} (g : Good n L) (h : Good n M) (e : keyL n L = keyL n M) : L = M :=
  good_ext g h fun i hi => by rw [← key_bit n L i hi, ← key_bit n M i hi, e]

/-- What has been filled in when k of m are done. -/
def upto (f : Nat → Nat) (m k : Nat) : List Nat := (List.range m).map fun j => if j < k then f j else 0
theorem upto_len (f : Nat → Nat) (m k : Nat) : (upto f m k).length = m := by simp [upto]
theorem upto_get (f : Nat → Nat) (m k j : Nat) (h : j < m) : (upto f m k).getD j 0 = if j < k then f j else 0 := getD_map_range _ _ _ (fun h' => by omega)
theorem list_ext {L M : List Nat} (h : L.length = M.length) (e : ∀ j, j < L.length → L.getD j 0 = M.getD j 0) : L = M := by
  apply List.ext_getElem h
  intro k h1 h2
  have a1 : L[k] = L.getD k 0 := by simp [h1]
  have a2 : M[k] = M.getD k 0 := by simp [h2]
  rw [a1, a2, e k h1]
theorem upto_zero (f : Nat → Nat) (m : Nat) : upto f m 0 = List.replicate m 0 :=
  list_ext (by simp [upto]) fun j hj => by
    rw [upto_len] at hj
    rw [upto_get _ _ _ _ hj]
    simp [List.getD_eq_getElem?_getD, hj]
theorem upto_succ (f : Nat → Nat) (m k : Nat) (h : k < m) : upto f m (k + 1) = (upto f m k).set k (f k) :=
  list_ext (by simp [upto_len]) fun j hj => by
    rw [upto_len] at hj
    rw [upto_get _ _ _ _ hj, getD_set _ _ _ _ (by rw [upto_len]; exact h), upto_get _ _ _ _ hj]
    by_cases e : k = j
    · subst e; simp
    · rw [if_neg e]
      by_cases c : j < k
      · rw [if_pos c, if_pos (by omega)]
      · rw [if_neg c, if_neg (by omega)]
theorem upto_all (f : Nat → Nat) (m : Nat) : upto f m m = (List.range m).map f :=
  list_ext (by simp [upto]) fun j hj => by
    rw [upto_len] at hj
    rw [upto_get _ _ _ _ hj, if_pos hj, getD_map_range _ _ _ (fun h' => by omega)]

/-- Of: one by one; those outside are let by. -/
def put1 (n : Nat) (L : List Nat) (i : Int) : List Nat := if 0 ≤ i ∧ i < n then putL L i.toNat else L
def ofL (n : Nat) (A : List Int) : List Nat := A.foldl (put1 n) (List.replicate ((n + 63) / 64) 0)
theorem good_put1 {n : Nat} {L : List Nat} (g : Good n L) (i : Int) : Good n (put1 n L i) := by
  unfold put1
  split
  · exact good_put g (by omega)
  · exact g
theorem good_foldl {n : Nat} : ∀ (A : List Int) {L : List Nat} (_ : Good n L), Good n (A.foldl (put1 n) L)
  | [], _, g => g
  | i :: A, _, g => good_foldl A (good_put1 g i)
theorem good_of {n : Nat} (h : n ≤ 65536) (A : List Int) : Good n (ofL n A) := good_foldl A (good_none h)
theorem of_take (n : Nat) (A : List Int) (k : Nat) (h : k < A.length) : ofL n (A.take (k + 1)) = put1 n (ofL n (A.take k)) (A.getD k 0) := by
  unfold ofL
  rw [List.take_succ_eq_append_getElem h, List.foldl_append]
  simp [h]

end Go.Proofs.YtaagbdncfcdfcaaDoor
