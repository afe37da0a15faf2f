/- Bits: the ones of a word, as the library counts them. -/
import Derived.Test.YtaagbdncfcdfcaaDoorBitsPlain
import Derived.Laws.BitsAllLaws
namespace Go.Proofs.YtaagbdncfcdfcaaDoor

def pcn (n x : Nat) : Nat := ((List.range n).map fun j => (x.testBit j).toNat).sum

theorem and_split (w q r m s : Nat) (hr : r < 2 ^ w) (hs : s < 2 ^ w) : (2 ^ w * q + r) &&& (2 ^ w * m + s) = 2 ^ w * (q &&& m) + (r &&& s) := by
  apply Nat.eq_of_testBit_eq
  intro j
  have hrs : r &&& s < 2 ^ w := Nat.lt_of_le_of_lt Nat.and_le_left hr
  rw [Nat.testBit_and, Nat.testBit_two_pow_mul_add _ hr, Nat.testBit_two_pow_mul_add _ hs, Nat.testBit_two_pow_mul_add _ hrs]
  split <;> rw [Nat.testBit_and]

theorem and_byte (q r m s : Nat) (hr : r < 256) (hs : s < 256) : (256 * q + r) &&& (256 * m + s) = 256 * (q &&& m) + (r &&& s) := and_split 8 q r m s hr hs

def f1 (x m : Nat) : Nat := (x / 2 &&& m) + (x &&& m)
def f2 (x m : Nat) : Nat := (x / 4 &&& m) + (x &&& m)
def f3 (x m : Nat) : Nat := (x / 16 + x) &&& m

theorem d1 : ∀ b, b < 2 → ∀ c, c < 256 → (128 * b + c / 2) &&& 85 = (c / 2) &&& 85 := by decide +kernel
theorem d2 : ∀ b, b < 4 → ∀ c, c < 256 → (64 * b + c / 4) &&& 51 = (c / 4) &&& 51 := by decide +kernel
theorem e1 : ∀ c, c < 256 → f1 c 85 < 256 := by decide +kernel
theorem e2 : ∀ c, c < 256 → f2 (f1 c 85) 51 < 69 ∧ f2 (f1 c 85) 51 % 16 ≤ 4 := by decide +kernel
theorem d3 : ∀ b, b < 5 → ∀ c, c < 256 → (16 * b + f2 (f1 c 85) 51 / 16 + f2 (f1 c 85) 51) &&& 15 = pcn 8 c := by decide +kernel
theorem p8 : ∀ c, c < 256 → pcn 8 c ≤ 8 := by decide +kernel

theorem f1_byte (q c m : Nat) (hc : c < 256) : f1 (256 * q + c) (256 * m + 85) = 256 * f1 q m + f1 c 85 := by
  unfold f1
  have h2 : (256 * q + c) / 2 = 256 * (q / 2) + (128 * (q % 2) + c / 2) := by omega
  rw [h2, and_byte _ _ _ _ (by omega) (by omega), and_byte _ _ _ _ hc (by omega), d1 _ (Nat.mod_lt _ (by decide)) _ hc]
  omega

theorem f2_byte (q c m : Nat) (hc : c < 256) : f2 (256 * q + c) (256 * m + 51) = 256 * f2 q m + f2 c 51 := by
  unfold f2
  have h2 : (256 * q + c) / 4 = 256 * (q / 4) + (64 * (q % 4) + c / 4) := by omega
  rw [h2, and_byte _ _ _ _ (by omega) (by omega), and_byte _ _ _ _ hc (by omega), d2 _ (Nat.mod_lt _ (by decide)) _ hc]
  omega

theorem low (q m m' : Nat) : f2 (f1 q (256 * m + 85)) (256 * m' + 51) % 16 ≤ 4 := by
  have hq : q = 256 * (q / 256) + q % 256 := by omega
  have hc : q % 256 < 256 := Nat.mod_lt _ (by decide)
  rw [hq, f1_byte _ _ _ hc, f2_byte _ _ _ (e1 _ hc)]
  have := (e2 _ hc).2
  omega

theorem t_byte (q c m m' m'' : Nat) (hc : c < 256) (h : f2 (f1 q m) m' % 16 ≤ 4) :
    f3 (f2 (f1 (256 * q + c) (256 * m + 85)) (256 * m' + 51)) (256 * m'' + 15) = 256 * f3 (f2 (f1 q m) m') m'' + pcn 8 c := by
  rw [f1_byte _ _ _ hc, f2_byte _ _ _ (e1 _ hc)]
  have h5 := (e2 _ hc).1
  have h6 := d3 (f2 (f1 q m) m' % 16) (by omega) c hc
  generalize f2 (f1 q m) m' = Q at *
  generalize f2 (f1 c 85) 51 = C at *
  unfold f3
  have h2 : (256 * Q + C) / 16 + (256 * Q + C) = 256 * (Q / 16 + Q) + (16 * (Q % 16) + C / 16 + C) := by omega
  rw [h2, and_byte _ _ _ _ (by omega) (by omega), h6]

theorem pcn_byte (n q c : Nat) (hc : c < 256) : pcn (8 + n) (256 * q + c) = pcn 8 c + pcn n q := by
  unfold pcn
  rw [sum_block]
  congr 1
  · refine congrArg List.sum (List.map_congr_left ?_)
    intro j hj
    have hj := List.mem_range.1 hj
    have := Nat.testBit_two_pow_mul_add (i := 8) q (b := c) (by simpa using hc) j
    rw [show (2 : Nat) ^ 8 = 256 from rfl] at this
    rw [this, if_pos hj]
  · refine congrArg List.sum (List.map_congr_left ?_)
    intro j _
    have := Nat.testBit_two_pow_mul_add (i := 8) q (b := c) (by simpa using hc) (8 + j)
    rw [show (2 : Nat) ^ 8 = 256 from rfl] at this
    rw [this, if_neg (by omega), show 8 + j - 8 = j by omega]

/-- The first three steps: of each byte its ones. -/
theorem three (x : Nat) (hx : x < 18446744073709551616) : ∃ a b c d e f g h : Nat, a ≤ 8 ∧ b ≤ 8 ∧ c ≤ 8 ∧ d ≤ 8 ∧ e ≤ 8 ∧ f ≤ 8 ∧ g ≤ 8 ∧ h ≤ 8 ∧
    f3 (f2 (f1 x 6148914691236517205) 3689348814741910323) 1085102592571150095 = 256 * (256 * (256 * (256 * (256 * (256 * (256 * h + g) + f) + e) + d) + c) + b) + a ∧ pc x = a + b + c + d + e + f + g + h := by
  have h0 : x = 256 * (x / 256) + x % 256 := by omega
  have h1 : x / 256 = 256 * (x / 65536) + x / 256 % 256 := by omega
  have h2 : x / 65536 = 256 * (x / 16777216) + x / 65536 % 256 := by omega
  have h3 : x / 16777216 = 256 * (x / 4294967296) + x / 16777216 % 256 := by omega
  have h4 : x / 4294967296 = 256 * (x / 1099511627776) + x / 4294967296 % 256 := by omega
  have h5 : x / 1099511627776 = 256 * (x / 281474976710656) + x / 1099511627776 % 256 := by omega
  have h6 : x / 281474976710656 = 256 * (x / 72057594037927936) + x / 281474976710656 % 256 := by omega
  have h7 : x / 72057594037927936 < 256 := by omega
  have l : ∀ y : Nat, y % 256 < 256 := fun y => Nat.mod_lt _ (by decide)
  refine ⟨_, _, _, _, _, _, _, _, p8 _ (l x), p8 _ (l (x / 256)), p8 _ (l (x / 65536)), p8 _ (l (x / 16777216)), p8 _ (l (x / 4294967296)), p8 _ (l (x / 1099511627776)), p8 _ (l (x / 281474976710656)), p8 _ h7, ?_, ?_⟩
  · have t7 : f3 (f2 (f1 (x / 72057594037927936) 85) 51) 15 = pcn 8 (x / 72057594037927936) := by
      have := d3 0 (by decide) _ h7
      unfold f3
      rwa [Nat.mul_zero, Nat.zero_add] at this
    have k7 : f2 (f1 (x / 72057594037927936) 85) 51 % 16 ≤ 4 := (e2 _ h7).2
    have t6 := t_byte (x / 72057594037927936) _ 85 51 15 (l (x / 281474976710656)) k7
    rw [← h6, t7] at t6
    have t5 := t_byte (x / 281474976710656) _ _ _ (256 * 15 + 15) (l (x / 1099511627776)) (low _ 85 51)
    rw [← h5, t6] at t5
    have t4 := t_byte (x / 1099511627776) _ _ _ (256 * (256 * 15 + 15) + 15) (l (x / 4294967296)) (low _ (256 * 85 + 85) (256 * 51 + 51))
    rw [← h4, t5] at t4
    have t3 := t_byte (x / 4294967296) _ _ _ (256 * (256 * (256 * 15 + 15) + 15) + 15) (l (x / 16777216)) (low _ (256 * (256 * 85 + 85) + 85) (256 * (256 * 51 + 51) + 51))
    rw [← h3, t4] at t3
    have t2 := t_byte (x / 16777216) _ _ _ (256 * (256 * (256 * (256 * 15 + 15) + 15) + 15) + 15) (l (x / 65536)) (low _ (256 * (256 * (256 * 85 + 85) + 85) + 85) (256 * (256 * (256 * 51 + 51) + 51) + 51))
    rw [← h2, t3] at t2
    have t1 := t_byte (x / 65536) _ _ _ (256 * (256 * (256 * (256 * (256 * 15 + 15) + 15) + 15) + 15) + 15) (l (x / 256)) (low _ (256 * (256 * (256 * (256 * 85 + 85) + 85) + 85) + 85) (256 * (256 * (256 * (256 * 51 + 51) + 51) + 51) + 51))
    rw [← h1, t2] at t1
    have t0 := t_byte (x / 256) _ _ _ (256 * (256 * (256 * (256 * (256 * (256 * 15 + 15) + 15) + 15) + 15) + 15) + 15) (l x) (low _ (256 * (256 * (256 * (256 * (256 * 85 + 85) + 85) + 85) + 85) + 85) (256 * (256 * (256 * (256 * (256 * 51 + 51) + 51) + 51) + 51) + 51))
    rw [← h0, t1] at t0
    exact t0
  · have p0 : pcn 64 (256 * (x / 256) + x % 256) = pcn 8 (x % 256) + pcn 56 (x / 256) := pcn_byte 56 (x / 256) _ (l x)
    have p1 : pcn 56 (256 * (x / 65536) + (x / 256) % 256) = pcn 8 ((x / 256) % 256) + pcn 48 (x / 65536) := pcn_byte 48 (x / 65536) _ (l (x / 256))
    have p2 : pcn 48 (256 * (x / 16777216) + (x / 65536) % 256) = pcn 8 ((x / 65536) % 256) + pcn 40 (x / 16777216) := pcn_byte 40 (x / 16777216) _ (l (x / 65536))
    have p3 : pcn 40 (256 * (x / 4294967296) + (x / 16777216) % 256) = pcn 8 ((x / 16777216) % 256) + pcn 32 (x / 4294967296) := pcn_byte 32 (x / 4294967296) _ (l (x / 16777216))
    have p4 : pcn 32 (256 * (x / 1099511627776) + (x / 4294967296) % 256) = pcn 8 ((x / 4294967296) % 256) + pcn 24 (x / 1099511627776) := pcn_byte 24 (x / 1099511627776) _ (l (x / 4294967296))
    have p5 : pcn 24 (256 * (x / 281474976710656) + (x / 1099511627776) % 256) = pcn 8 ((x / 1099511627776) % 256) + pcn 16 (x / 281474976710656) := pcn_byte 16 (x / 281474976710656) _ (l (x / 1099511627776))
    have p6 : pcn 16 (256 * (x / 72057594037927936) + (x / 281474976710656) % 256) = pcn 8 ((x / 281474976710656) % 256) + pcn 8 (x / 72057594037927936) := pcn_byte 8 (x / 72057594037927936) _ (l (x / 281474976710656))
    rw [← h0] at p0
    rw [← h1] at p1
    rw [← h2] at p2
    rw [← h3] at p3
    rw [← h4] at p4
    rw [← h5] at p5
    rw [← h6] at p6
    have : pc x = pcn 64 x := rfl
    omega

theorem f12_lt (x m : Nat) : (x / 2 &&& m) ≤ m ∧ (x &&& m) ≤ m ∧ (x / 4 &&& m) ≤ m := ⟨Nat.and_le_right, Nat.and_le_right, Nat.and_le_right⟩

theorem last (a b c d e f g h : Nat) (ha : a ≤ 8) (hb : b ≤ 8) (hc : c ≤ 8) (hd : d ≤ 8) (he : e ≤ 8) (hf : f ≤ 8) (hg : g ≤ 8) (hh : h ≤ 8) (X : Nat)
    (hX : X = 256 * (256 * (256 * (256 * (256 * (256 * (256 * h + g) + f) + e) + d) + c) + b) + a) :
    ∃ v : Nat, IntKind.u64.wrap (IntKind.u64.wrap (IntKind.u64.wrap ((X : Int) + X / 256) + IntKind.u64.wrap ((X : Int) + X / 256) / 65536) + IntKind.u64.wrap (IntKind.u64.wrap ((X : Int) + X / 256) + IntKind.u64.wrap ((X : Int) + X / 256) / 65536) / 4294967296) = (v : Int) ∧ v < 18446744073709551616 ∧ v % 128 = a + b + c + d + e + f + g + h := by
  simp only [IntKind.wrap_u64]
  obtain ⟨q6, h6⟩ : ∃ q, q = 256 * h + g := ⟨_, rfl⟩
  obtain ⟨q5, h5⟩ : ∃ q, q = 256 * q6 + f := ⟨_, rfl⟩
  obtain ⟨q4, h4⟩ : ∃ q, q = 256 * q5 + e := ⟨_, rfl⟩
  obtain ⟨q3, h3⟩ : ∃ q, q = 256 * q4 + d := ⟨_, rfl⟩
  obtain ⟨q2, h2⟩ : ∃ q, q = 256 * q3 + c := ⟨_, rfl⟩
  obtain ⟨q1, h1⟩ : ∃ q, q = 256 * q2 + b := ⟨_, rfl⟩
  rw [← h6, ← h5, ← h4, ← h3, ← h2, ← h1] at hX
  have b6 : q6 ≤ 2056 := by omega
  have b5 : q5 ≤ 526344 := by omega
  have b4 : q4 ≤ 134744072 := by omega
  have b3 : q3 ≤ 34494482440 := by omega
  have b2 : q2 ≤ 8830587504648 := by omega
  have b1 : q1 ≤ 2260630401189896 := by omega
  have b0 : X ≤ 578721382704613384 := by omega
  have e1 : ((X : Int) + X / 256) % 18446744073709551616 = ((X + q1 : Nat) : Int) := by omega
  rw [e1]
  have d2 : (X + q1) / 65536 = q2 + q3 := by omega
  have e2 : (((X + q1 : Nat) : Int) + ((X + q1 : Nat) : Int) / 65536) % 18446744073709551616 = ((X + q1 + q2 + q3 : Nat) : Int) := by omega
  rw [e2]
  have d3 : (X + q1 + q2 + q3) / 4294967296 = q4 + q5 + q6 + h := by omega
  have e3 : (((X + q1 + q2 + q3 : Nat) : Int) + ((X + q1 + q2 + q3 : Nat) : Int) / 4294967296) % 18446744073709551616 = ((X + q1 + q2 + q3 + (q4 + q5 + q6 + h) : Nat) : Int) := by omega
  rw [e3]
  exact ⟨_, rfl, by omega, by omega⟩

/-- All of it, as the walk spells it. -/
def swar (x : Int) : Int :=
  let a := IntKind.u64.wrap (bits .and .u64 (x / 2) 6148914691236517205 + bits .and .u64 x 6148914691236517205)
  let b := IntKind.u64.wrap (bits .and .u64 (a / 4) 3689348814741910323 + bits .and .u64 a 3689348814741910323)
  let c := bits .and .u64 (IntKind.u64.wrap (b / 16 + b)) 1085102592571150095
  let d := IntKind.u64.wrap (c + c / 256)
  let e := IntKind.u64.wrap (d + d / 65536)
  IntKind.u64.wrap (e + e / 4294967296)

theorem swar_lt (x : Nat) (h : x < 18446744073709551616) : ∃ v : Nat, swar x = (v : Int) ∧ v < 18446744073709551616 ∧ v % 128 = pc x := by
  obtain ⟨a, b, c, d, e, f, g, i, ha, hb, hc, hd, he, hf, hg, hi, h3, hp⟩ := three x h
  have i1 : IntKind.u64.wrap (bits .and .u64 ((x : Int) / 2) 6148914691236517205 + bits .and .u64 x 6148914691236517205) = ((f1 x 6148914691236517205 : Nat) : Int) := by
    rw [show ((x : Int) / 2) = ((x / 2 : Nat) : Int) by omega, show (6148914691236517205 : Int) = ((6148914691236517205 : Nat) : Int) from rfl, u64_and_nat _ _ (by omega) (by decide), u64_and_nat _ _ h (by decide), IntKind.wrap_u64]
    have := f12_lt x 6148914691236517205
    unfold f1
    generalize x / 2 &&& 6148914691236517205 = y at this ⊢
    generalize x &&& 6148914691236517205 = z at this ⊢
    omega
  have l1 : f1 x 6148914691236517205 < 18446744073709551616 := by
    have := f12_lt x 6148914691236517205
    unfold f1
    omega
  generalize f1 x 6148914691236517205 = X at *
  have i2 : IntKind.u64.wrap (bits .and .u64 ((X : Int) / 4) 3689348814741910323 + bits .and .u64 X 3689348814741910323) = ((f2 X 3689348814741910323 : Nat) : Int) := by
    rw [show ((X : Int) / 4) = ((X / 4 : Nat) : Int) by omega, show (3689348814741910323 : Int) = ((3689348814741910323 : Nat) : Int) from rfl, u64_and_nat _ _ (by omega) (by decide), u64_and_nat _ _ l1 (by decide), IntKind.wrap_u64]
    have := f12_lt X 3689348814741910323
    unfold f2
    generalize X / 4 &&& 3689348814741910323 = y at this ⊢
    generalize X &&& 3689348814741910323 = z at this ⊢
    omega
  have l2 : f2 X 3689348814741910323 ≤ 7378697629483820646 := by
    have := f12_lt X 3689348814741910323
    unfold f2
    omega
  generalize f2 X 3689348814741910323 = Y at *
  have i3 : bits .and .u64 (IntKind.u64.wrap ((Y : Int) / 16 + Y)) 1085102592571150095 = ((f3 Y 1085102592571150095 : Nat) : Int) := by
    have e3 : IntKind.u64.wrap ((Y : Int) / 16 + Y) = ((Y / 16 + Y : Nat) : Int) := by rw [IntKind.wrap_u64]; omega
    rw [e3, show (1085102592571150095 : Int) = ((1085102592571150095 : Nat) : Int) from rfl, u64_and_nat _ _ (by omega) (by decide)]
    rfl
  unfold swar
  simp only []
  rw [i1, i2, i3]
  rw [hp]
  exact last a b c d e f g i ha hb hc hd he hf hg hi _ h3

end Go.Proofs.YtaagbdncfcdfcaaDoor
