/- The document's runner: the letter of names. -/
import Derived.Test.YtpehmlkikhkmfaaRefStep
namespace Go.Proofs.Ytpehmlkikhkmfaa
open Go.RowKit

def one1 (p : ByteArray) (i : Nat) (l : List ByteArray) (c : Nat) : Nat := l.foldl (fun c x => if x = p then c ||| 2 ^ i else c) c
theorem one1_take (p : ByteArray) (i : Nat) (l : List ByteArray) (c : Nat) (k : Nat) (hk : k < l.length) : one1 p i (l.take (k + 1)) c = if l.getD k ⟨#[]⟩ = p then one1 p i (l.take k) c ||| 2 ^ i else one1 p i (l.take k) c := by
  unfold one1
  rw [List.take_add_one, List.foldl_append]
  have e : l[k]?.toList = [l.getD k ⟨#[]⟩] := by rw [List.getD_eq_getElem?_getD, List.getElem?_eq_getElem hk]; rfl
  rw [e]
  rfl
def refL (P : List ByteArray) (l : List ByteArray) : Nat → Nat
  | 0 => 0
  | i + 1 => one1 (P.getD i ⟨#[]⟩) i l (refL P l i)

theorem one1_bit (p : ByteArray) (i j : Nat) : ∀ (l : List ByteArray) (c : Nat), (one1 p i l c).testBit j = (c.testBit j || (decide (i = j) && l.any fun x => decide (x = p)))
  | [], c => by simp [one1]
  | x :: l, c => by
    rw [show one1 p i (x :: l) c = one1 p i l (if x = p then c ||| 2 ^ i else c) from rfl, one1_bit p i j l, List.any_cons]
    by_cases e : x = p
    · rw [if_pos e, Nat.testBit_or, Nat.testBit_two_pow, show decide (x = p) = true from decide_eq_true e]
      cases c.testBit j <;> cases decide (i = j) <;> simp
    · rw [if_neg e, show decide (x = p) = false from decide_eq_false e, Bool.false_or]
theorem refL_bit (P l : List ByteArray) (j : Nat) : ∀ i, (refL P l i).testBit j = (decide (j < i) && l.any fun x => decide (x = P.getD j ⟨#[]⟩))
  | 0 => by simp [refL]
  | i + 1 => by
    rw [refL, one1_bit, refL_bit P l j i]
    by_cases e : i = j
    · subst e
      simp
    · rw [show decide (i = j) = false from decide_eq_false e, Bool.false_and, Bool.or_false]
      congr 1
      rw [decide_eq_decide]
      omega
theorem letF_bit (bit : ByteArray → Nat) (j : Nat) (l : List ByteArray) : (letF bit l).testBit j = l.any fun x => (bit x).testBit j := by
  have key : ∀ (l : List ByteArray) (c : Nat), (l.foldl (fun c x => c ||| bit x) c).testBit j = (c.testBit j || l.any fun x => (bit x).testBit j) := by
    intro l
    induction l with
    | nil => intro c; simp
    | cons x l ih => intro c; rw [List.foldl_cons, ih, Nat.testBit_or, List.any_cons, Bool.or_assoc]
  unfold letF
  rw [key]
  simp
/-- Names differ from each other. -/
theorem listF_ne {P : List ByteArray} (h : listF P = true) {i j : Nat} (hij : i < j) (hj : j < P.length) : P.getD i ⟨#[]⟩ ≠ P.getD j ⟨#[]⟩ := by
  intro e
  unfold listF at h
  rw [Bool.and_eq_true, List.all_eq_true] at h
  have := h.1 j (List.mem_range.2 hj)
  rw [Bool.and_eq_true, Bool.not_eq_true'] at this
  have h2 := this.2
  unfold hasF at h2
  rw [List.any_eq_false] at h2
  refine h2 (P.getD i ⟨#[]⟩) ?_ (by rw [e]; simp)
  have hi : i < (P.take j).length := by rw [List.length_take]; omega
  have := getD_in (a := P.take j) (d := ⟨#[]⟩) hi
  rwa [take_at hij] at this
theorem bitK_bit {P : List ByteArray} (h : listF P = true) (x : ByteArray) (j : Nat) : ∀ k, k ≤ P.length → (bitK P k x).testBit j = (decide (j < k) && decide (x = P.getD j ⟨#[]⟩))
  | 0, _ => by simp [bitK]
  | k + 1, hk => by
    unfold bitK
    by_cases e : x = P.getD k ⟨#[]⟩
    · rw [if_pos e, Nat.testBit_two_pow]
      by_cases ej : k = j
      · subst ej; simp [e]
      · rw [show decide (k = j) = false from decide_eq_false ej]
        symm
        rw [Bool.and_eq_false_iff, decide_eq_false_iff_not, decide_eq_false_iff_not]
        by_cases hjk : j < k
        · right
          rw [e]
          exact fun e2 => listF_ne h hjk (by omega) e2.symm
        · left; omega
    · rw [if_neg e, bitK_bit h x j k (by omega)]
      by_cases ej : j = k
      · subst ej
        rw [show decide (x = P.getD j ⟨#[]⟩) = false from decide_eq_false e, Bool.and_false, Bool.and_false]
      · congr 1
        rw [decide_eq_decide]
        omega
theorem refL_letF {P : List ByteArray} (h : listF P = true) (l : List ByteArray) : refL P l P.length = letF (bitF P) l := by
  apply Nat.eq_of_testBit_eq
  intro j
  rw [refL_bit, letF_bit]
  have : (fun x => (bitF P x).testBit j) = fun x => decide (j < P.length) && decide (x = P.getD j ⟨#[]⟩) := funext fun x => bitK_bit h x j P.length (Nat.le_refl _)
  rw [this]
  cases decide (j < P.length) <;> simp
theorem refL_lt (P l : List ByteArray) : ∀ i, i ≤ 8 → refL P l i < 256 := by
  intro i hi
  apply Nat.lt_of_not_le
  intro hge
  obtain ⟨j, hj, hb⟩ := Nat.exists_ge_and_testBit_of_ge_two_pow (n := 8) (x := refL P l i) (by simpa using hge)
  rw [refL_bit] at hb
  simp only [Bool.and_eq_true, decide_eq_true_eq] at hb
  omega

set_option maxRecDepth 100000 in
set_option maxHeartbeats 2000000 in
theorem refletter_any {w : World} {q : Nat} {P : List ByteArray} {R : List (List Int)} {O : List Int} {s : Nat} {v : Value} {l : List ByteArray} (h : Ref w q P R O s) (hP : listF P = true) (hl : TextsAt w v l) :
    Calls Try.prog 53 #[.pointer (some ⟨q, 0, none⟩), v] w fun e w' => e = .returned (.int .u16 (letF (bitF P) l : Int)) ∧ w.grownBy w' none := by
  have hpl := listF_len hP
  rw [← refL_letF hP l]
  have HLt := Lib.hid (fun i hi => refL_lt P l i hi)
  obtain ⟨vp, vn, vo, vs, h⟩ := h
  have HR := Lib.hid h
  have HL := Lib.hid hl
  obtain ⟨ap, cp, rfl⟩ := own_val h.props
  obtain ⟨al, cl, rfl, hcl, hll, _⟩ := hl
  clear h
  go_enter Try.func53, Try.ntmps53
  go_wp2_with fail
  go_loopw [6, 5] (fun i c wr => ∃ (k : Nat), k ≤ P.length ∧ i = .int .i64 (k : Int) ∧ c = .int .u16 (refL P l k : Int) ∧ w.grownBy wr none) (fun i _ _ => P.length - (intOf i).toNat)
  case atStart => exact ⟨0, by omega, rfl, rfl, gb_refl _ _⟩
  case round =>
    obtain ⟨k, hk, rfl, rfl, hG⟩ := hrel
    have c0 := (HR.out.kept hG).cell0
    by_cases hlt : k < P.length
    · obtain ⟨gp, cp2, hve, _, hcp⟩ := own_cell (HR.out.kept hG).props k hlt
      cases hve
      have HCp := Lib.hid hcp
      have hpk : (P.map sv)[k]? = some (.string (P.getD k ⟨#[]⟩)) := map_at sv P ⟨#[]⟩ k hlt
      rw [hpk] at HCp
      have hlp : refL P l (k + 1) = one1 (P.getD k ⟨#[]⟩) k l (refL P l k) := rfl
      have HNx := Lib.hid hlp
      have hx0 := HLt.out k (by omega)
      have HBd : Hid (∀ j, one1 (P.getD k ⟨#[]⟩) k (l.take j) (refL P l k) < 65536) := Lib.hid fun j => by
        apply Nat.lt_of_not_le
        intro hge
        obtain ⟨b, hb, ht⟩ := Nat.exists_ge_and_testBit_of_ge_two_pow (n := 16) (x := one1 (P.getD k ⟨#[]⟩) k (l.take j) (refL P l k)) (by simpa using hge)
        rw [one1_bit, Nat.testBit_lt_two_pow (Nat.lt_of_lt_of_le hx0 (show 256 ≤ 2 ^ b from Nat.le_trans (by decide) (Nat.pow_le_pow_right (by decide) (show 8 ≤ b by omega))))] at ht
        simp only [Bool.false_or, Bool.and_eq_true, decide_eq_true_eq] at ht
        omega
      have HTk := Lib.hid (fun j hj => one1_take (P.getD k ⟨#[]⟩) k l (refL P l k) j hj)
      have h0 : one1 (P.getD k ⟨#[]⟩) k (l.take 0) (refL P l k) = refL P l k := rfl
      have H0 := Lib.hid h0
      clear hcp hpk hlp h0 hx0
      generalize P.getD k ⟨#[]⟩ = p at HCp HNx HBd HTk H0
      generalize refL P l k = x at HNx HBd HTk H0 ⊢
      have hkI : (k : Int) < (P.length : Int) := by omega
      have hk2 : ((2 ^ k : Nat) : Int) < 65536 := by
        have := Nat.pow_le_pow_right (show 0 < 2 by decide) (show k ≤ 7 by omega)
        omega
      have hsh : IntKind.u16.wrap ((2 : Int) ^ k) = ((2 ^ k : Nat) : Int) := by rw [show ((2 : Int) ^ k) = ((2 ^ k : Nat) : Int) by rw [Int.natCast_pow]; rfl, IntKind.wrap_u16, Int.emod_eq_of_lt (Int.natCast_nonneg _) (by omega)]
      go_wp2_with fail
      go_loopw [7, 5] (fun i c wr => ∃ (j : Nat) (y : Nat), j ≤ l.length ∧ i = .int .i64 (j : Int) ∧ c = .int .u16 (y : Int) ∧ Hid (y = one1 p k (l.take j) x) ∧ w.grownBy wr none) (fun i _ _ => l.length - (intOf i).toNat)
      case atStart => exact ⟨0, x, by omega, rfl, rfl, H0, hG⟩
      case round =>
        obtain ⟨j, y, hj, rfl, rfl, HY, hG2⟩ := hrel
        have c0 := (HR.out.kept hG2).cell0
        have hcp2 : wr.cell? ⟨gp, k, none⟩ = some (.string p) := by
          obtain ⟨g3, c3, hv3, _, hc3⟩ := own_cell (HR.out.kept hG2).props k hlt
          cases hv3
          obtain ⟨g4, c4, hv4, _, hc4⟩ := own_cell (HR.out.kept hG).props k hlt
          cases hv4
          rw [hc3, ← hc4]
          exact HCp.out
        by_cases hjl : j < l.length
        · obtain ⟨_, _, hve, _, _, _, hcc⟩ := HL.out.kept hG2
          cases hve
          rcases hcc with rfl | ⟨b, off, rfl, hcc⟩
          · exact absurd hjl (by simp)
          have hu := hcc j hjl
          have HT := Lib.hid (HTk.out j hjl)
          have hyb := HBd.out j
          rw [← HY.out] at hyb HT
          clear hcc
          generalize l.getD j ⟨#[]⟩ = z at hu HT
          have hjI : (j : Int) < (l.length : Int) := by omega
          have HG9 : Hid (∀ nq, w.grownBy (wr.drewN nq) none) := Lib.hid fun nq => gb_trans hG2 (gb_drewN _ _ none) (Or.inl rfl)
          by_cases e : z = p
          · subst e
            have hor := u16_or_nat y (2 ^ k) hyb (by omega)
            have hob : y ||| 2 ^ k < 65536 := Nat.or_lt_two_pow (n := 16) hyb (by omega)
            have HT2 : Hid (y ||| 2 ^ k = one1 z k (l.take (j + 1)) x) := Lib.hid (by rw [HT.out, if_pos rfl])
            generalize ((2 ^ k : Nat) : Int) = pk at hsh hor
            generalize y ||| 2 ^ k = y2 at hor hob HT2
            go_wp2_with fail
            go_quiet (fail)
            go_wp2_with fail
            exact ⟨⟨j + 1, y2, by omega, by go_num, rfl, HT2, HG9.out _⟩, by simp [intOf]; omega⟩
          · have hne : (z.toList == p.toList) = false := by
              rw [beq_eq_false_iff_ne]
              intro e2
              exact e (by rw [ByteArray.toList_eq, ByteArray.toList_eq] at e2; cases z; cases p; simp only at e2; rw [Array.toList_inj.1 e2])
            have HT2 : Hid (y = one1 p k (l.take (j + 1)) x) := Lib.hid (by rw [HT.out, if_neg e])
            clear e HT
            go_wp2_with fail
            go_quiet (fail)
            go_wp2_with fail
            exact ⟨⟨j + 1, y, by omega, by go_num, rfl, HT2, HG9.out _⟩, by simp [intOf]; omega⟩
        · obtain rfl : j = l.length := by omega
          rw [List.take_length] at HY
          go_wp2_with fail
          exact ⟨⟨k + 1, by omega, by go_num, by rw [HY.out, HNx.out], hG2⟩, by simp [intOf]; omega⟩
    · obtain rfl : k = P.length := by omega
      go_wp2_with fail
      go_ret
      exact ⟨rfl, hG⟩
end Go.Proofs.Ytpehmlkikhkmfaa
