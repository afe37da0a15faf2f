/- Runner: rows of numbers; is a graph one. -/
import Derived.Test.YtpehmlkikhkmfaaRunList
namespace Go.Proofs.Ytpehmlkikhkmfaa
open Go.RowKit

theorem gb_trans {a b c : World} {r s : Option Nat} (h : a.grownBy b r) (k : b.grownBy c s) (hr : s = none ∨ s = r ∨ ∃ x, s = some x ∧ a.heap.size ≤ x) : a.grownBy c r :=
  ⟨k.os.trans h.os, k.tape.trans h.tape, k.output.trans h.output, Nat.le_trans h.size k.size, fun i hi hne => by
    rw [k.block i (Nat.lt_of_lt_of_le hi h.size) (by
      rcases hr with rfl | rfl | ⟨x, rfl, hx⟩
      · simp
      · exact hne
      · intro e; have : i = x := Option.some.inj e; omega)]
    exact h.block i hi hne⟩
theorem gb_refl (w : World) (r : Option Nat) : w.grownBy w r := ⟨rfl, rfl, rfl, Nat.le_refl _, fun _ _ _ => rfl⟩
theorem gb_drew (w : World) (r : Option Nat) : w.grownBy w.drew r := ⟨rfl, rfl, rfl, Nat.le_refl _, fun _ _ _ => rfl⟩
theorem gb_drewN (w : World) (k : Nat) (r : Option Nat) : w.grownBy (w.drewN k) r := ⟨rfl, rfl, rfl, Nat.le_refl _, fun _ _ _ => rfl⟩
theorem gb_any {a b : World} (h : a.grownBy b none) (r : Option Nat) : a.grownBy b r := ⟨h.os, h.tape, h.output, h.size, fun k hk _ => h.block k hk (by simp)⟩

/-- Whole numbers that lie in memory. -/
def IntsAt (w : World) (v : Value) (A : List Int) : Prop :=
  ∃ a cap, v = .slice a A.length cap ∧ A.length ≤ cap ∧ (∀ k, k < A.length → -9223372036854775808 ≤ A.getD k 0 ∧ A.getD k 0 ≤ 9223372036854775807) ∧ (A.length ≤ 17592186043904) ∧
    (A = [] ∨ ∃ b off, a = some ⟨b, off, none⟩ ∧ ∀ k, k < A.length → w.cell? ⟨b, off + k, none⟩ = some (.int .i64 (A.getD k 0)))
/-- Rows of them. -/
def RowsAt (w : World) (v : Value) (R : List (List Int)) : Prop :=
  ∃ a cap, v = .slice a R.length cap ∧ R.length ≤ cap ∧ R.length ≤ 17592186043904 ∧
    (R = [] ∨ ∃ b off, a = some ⟨b, off, none⟩ ∧ ∀ k, k < R.length → ∃ u, w.cell? ⟨b, off + k, none⟩ = some u ∧ IntsAt w u (R.getD k []))
/-- Bytes that lie in memory. -/
def BytesAt (w : World) (v : Value) (O : List Int) : Prop :=
  ∃ a cap, v = .slice a O.length cap ∧ O.length ≤ cap ∧ (∀ k, k < O.length → 0 ≤ O.getD k 0 ∧ O.getD k 0 ≤ 255) ∧ (O.length ≤ 17592186043904) ∧
    (O = [] ∨ ∃ b off, a = some ⟨b, off, none⟩ ∧ ∀ k, k < O.length → w.cell? ⟨b, off + k, none⟩ = some (.int .u8 (O.getD k 0)))

theorem TextsAt.kept {w w' : World} {v : Value} {L : List ByteArray} (h : TextsAt w v L) (hg : w.grownBy w' none) : TextsAt w' v L := by
  obtain ⟨a, cap, rfl, h0, h1, h2, h3⟩ := h
  refine ⟨a, cap, rfl, h0, h1, h2, ?_⟩
  rcases h3 with h3 | ⟨b, off, rfl, h3⟩
  · exact Or.inl h3
  · exact Or.inr ⟨b, off, rfl, fun k hk => hg.cell (h3 k hk) (by simp)⟩
theorem IntsAt.kept {w w' : World} {v : Value} {A : List Int} (h : IntsAt w v A) (hg : w.grownBy w' none) : IntsAt w' v A := by
  obtain ⟨a, cap, rfl, h0, h1, h2, h3⟩ := h
  refine ⟨a, cap, rfl, h0, h1, h2, ?_⟩
  rcases h3 with h3 | ⟨b, off, rfl, h3⟩
  · exact Or.inl h3
  · exact Or.inr ⟨b, off, rfl, fun k hk => hg.cell (h3 k hk) (by simp)⟩
theorem BytesAt.kept {w w' : World} {v : Value} {A : List Int} (h : BytesAt w v A) (hg : w.grownBy w' none) : BytesAt w' v A := by
  obtain ⟨a, cap, rfl, h0, h1, h2, h3⟩ := h
  refine ⟨a, cap, rfl, h0, h1, h2, ?_⟩
  rcases h3 with h3 | ⟨b, off, rfl, h3⟩
  · exact Or.inl h3
  · exact Or.inr ⟨b, off, rfl, fun k hk => hg.cell (h3 k hk) (by simp)⟩
theorem RowsAt.kept {w w' : World} {v : Value} {R : List (List Int)} (h : RowsAt w v R) (hg : w.grownBy w' none) : RowsAt w' v R := by
  obtain ⟨a, cap, rfl, h0, h1, h3⟩ := h
  refine ⟨a, cap, rfl, h0, h1, ?_⟩
  rcases h3 with h3 | ⟨b, off, rfl, h3⟩
  · exact Or.inl h3
  · exact Or.inr ⟨b, off, rfl, fun k hk => by obtain ⟨u, hu, hi⟩ := h3 k hk; exact ⟨u, hg.cell hu (by simp), hi.kept hg⟩⟩

def inF (n : Nat) (i : Int) : Bool := decide (0 ≤ i) && decide (i < n)
def rowsF (R : List (List Int)) : Bool := R.all fun l => l.all fun i => inF R.length i

def gErr (R : List (List Int)) : Int := if rowsF R then 0 else 110
theorem gErr_bad {R : List (List Int)} (h : rowsF R = false) : gErr R = 110 := by unfold gErr; rw [h]; rfl
theorem gErr_good {R : List (List Int)} (h : rowsF R = true) : gErr R = 0 := by unfold gErr; rw [h]; rfl
theorem getD_mem {A : List Int} {j : Nat} (hj : j < A.length) : A.getD j 0 ∈ A := by
  rw [List.getD_eq_getElem?_getD, List.getElem?_eq_getElem hj]; exact List.getElem_mem _
theorem rowsF_bad {R : List (List Int)} {k j : Nat} (hk : k < R.length) (hj : j < (R.getD k []).length) (h : inF R.length ((R.getD k []).getD j 0) = false) : rowsF R = false := by
  unfold rowsF
  rw [List.all_eq_false]
  refine ⟨R.getD k [], by rw [List.getD_eq_getElem?_getD, List.getElem?_eq_getElem hk]; exact List.getElem_mem _, ?_⟩
  intro h2
  rw [List.all_eq_true] at h2
  have := h2 ((R.getD k []).getD j 0) (getD_mem hj)
  rw [h] at this
  cases this
theorem rowsF_good {R : List (List Int)} (h : ∀ k, k < R.length → ∀ j, j < (R.getD k []).length → inF R.length ((R.getD k []).getD j 0) = true) : rowsF R = true := by
  unfold rowsF
  rw [List.all_eq_true]
  intro l hl
  obtain ⟨k, hk, rfl⟩ := List.mem_iff_getElem.1 hl
  rw [List.all_eq_true]
  intro i hi
  obtain ⟨j, hj, rfl⟩ := List.mem_iff_getElem.1 hi
  have e : R.getD k [] = R[k] := by rw [List.getD_eq_getElem?_getD, List.getElem?_eq_getElem hk]; rfl
  have := h k hk j (by rw [e]; exact hj)
  rw [e, List.getD_eq_getElem?_getD, List.getElem?_eq_getElem hj] at this
  exact this

set_option maxHeartbeats 2000000 in
theorem graph_any (v : Value) (R : List (List Int)) (w : World) (hR : RowsAt w v R) :
    Calls Try.prog 73 #[v] w fun e w' => e = .returned (.int .i64 (gErr R)) ∧ w = w' := by
  obtain ⟨a, cap, rfl, hcap, hlen, hc⟩ := hR
  have HC := Lib.hid hc
  clear hc
  go_enter Try.func73, Try.ntmps73
  go_wp2
  go_loop [9] (fun i => ∃ k : Nat, k ≤ R.length ∧ i = .int .i64 (k : Int) ∧ Hid (∀ k', k' < k → ∀ j, j < (R.getD k' []).length → inF R.length ((R.getD k' []).getD j 0) = true)) (fun i => R.length - (intOf i).toNat)
  case atStart => exact ⟨0, by omega, rfl, fun j h => absurd h (by omega)⟩
  case round =>
    obtain ⟨k, hk, rfl, HO⟩ := hrel
    by_cases hlt : k < R.length
    · rcases HC.out with rfl | ⟨b, off, rfl, hcc⟩
      · exact absurd hlt (by simp)
      · obtain ⟨u, hu, a2, cap2, rfl, hcap2, hb2, hl2, hc2⟩ := hcc k hlt
        have HI := Lib.hid hc2
        have HW := Lib.hid hb2
        have HBad : Hid (∀ j, j < (R.getD k []).length → inF R.length ((R.getD k []).getD j 0) = false → rowsF R = false) := Lib.hid fun j hj => rowsF_bad hlt hj
        have HG : Hid ((∀ j, j < (R.getD k []).length → inF R.length ((R.getD k []).getD j 0) = true) → ∀ k', k' < k + 1 → ∀ j, j < (R.getD k' []).length → inF R.length ((R.getD k' []).getD j 0) = true) := Lib.hid fun h k' hk' j hj => by
          rcases Nat.lt_or_ge k' k with h1 | h1
          · exact HO.out k' h1 j hj
          · obtain rfl : k' = k := by omega
            exact h j hj
        clear hcc hc2 hb2
        generalize R.getD k [] = A at hu HI HW HBad HG hl2 hcap2
        go_wp2_with fail
        go_loop [15] (fun i => ∃ j : Nat, j ≤ A.length ∧ i = .int .i64 (j : Int) ∧ Hid (∀ j', j' < j → inF R.length (A.getD j' 0) = true)) (fun i => A.length - (intOf i).toNat)
        case atStart => exact ⟨0, by omega, rfl, fun j h => absurd h (by omega)⟩
        case round =>
          obtain ⟨j, hj, rfl, HJ⟩ := hrel
          by_cases hjl : j < A.length
          · rcases HI.out with rfl | ⟨b2, off2, rfl, hcell⟩
            · exact absurd hjl (by simp)
            · have hx := hcell j hjl
              have hr := HW.out j hjl
              clear hcell
              have HB2 := Lib.hid (HBad.out j hjl)
              have HG2 : Hid (inF R.length (A.getD j 0) = true → ∀ j', j' < j + 1 → inF R.length (A.getD j' 0) = true) := Lib.hid fun h j' hj' => by
                rcases Nat.lt_or_ge j' j with h1 | h1
                · exact HJ.out j' h1
                · obtain rfl : j' = j := by omega
                  exact h
              generalize A.getD j 0 = x at hx hr HB2 HG2
              by_cases hneg : x < 0
              · have HF := Lib.hid (gErr_bad (HB2.out (by unfold inF; simp; omega)))
                go_wp2
                go_ret
                exact ⟨by rw [HF.out]; rfl, rfl⟩
              · by_cases hbig : (R.length : Int) ≤ x
                · have HF := Lib.hid (gErr_bad (HB2.out (by unfold inF; simp; omega)))
                  go_wp2
                  go_ret
                  exact ⟨by rw [HF.out]; rfl, rfl⟩
                · have HG3 := Lib.hid (HG2.out (by unfold inF; simp; omega))
                  go_wp2
                  go_round
                  case rel => exact ⟨j + 1, by omega, by go_num, HG3⟩
                  case measure => simp [intOf]; omega
          · obtain rfl : j = A.length := by omega
            have HG2 := Lib.hid (HG.out HJ.out)
            go_wp2
            go_round
            case rel => exact ⟨k + 1, by omega, by go_num, HG2⟩
            case measure => simp [intOf]; omega
    · obtain rfl : k = R.length := by omega
      have HF := Lib.hid (gErr_good (rowsF_good HO.out))
      go_wp2
      go_ret
      exact ⟨by rw [HF.out]; rfl, rfl⟩
end Go.Proofs.Ytpehmlkikhkmfaa
