/- Dfa: the document's subsets as rows of yes and no. -/
import Derived.Test.YtcdepblajobemaaBuilds08
set_option maxRecDepth 100000
namespace Go.Proofs.Ytcdepblajobemaa
open Go.RowKit

/-- What two have both. -/
def withL (A B : List Bool) : List Bool := (List.range A.length).map fun (i : Nat) => A.getD i false && B.getD i false
theorem withL_len (A B : List Bool) : (withL A B).length = A.length := by simp [withL]
theorem bools_cell {w : World} {a : Option Addr} {n cap : Nat} {B : List Bool} (h : BoolsAt w (.slice a n cap) B) {k : Nat} (hk : k < B.length) : ∃ b off, a = some ⟨b, off, none⟩ ∧ w.cell? ⟨b, off + k, none⟩ = some (.bool (B.getD k false)) := by
  obtain ⟨_, _, e, _, _, hc⟩ := h
  cases e
  rcases hc with rfl | ⟨b, off, rfl, hc⟩
  · exact absurd hk (Nat.not_lt_zero _)
  · exact ⟨b, off, rfl, hc k hk⟩
set_option maxHeartbeats 1000000 in
theorem refsome_any (v : Value) (A : List Bool) (w : World) (h : BoolsAt w v A) (hl : A.length ≤ 1000000) :
    Calls Try.prog 67 #[v] w fun e w' => e = .returned (.bool (A.any id)) ∧ w = w' := by
  have HA := Lib.hid h
  obtain ⟨a, cap, rfl, -⟩ := h
  go_enter Try.func67, Try.ntmps67
  go_wp2_with fail
  go_loop [3] (fun i => ∃ k : Nat, k ≤ A.length ∧ i = .int .i64 (k : Int) ∧ Hid (∀ j, j < k → A.getD j false = false)) (fun i => A.length - (intOf i).toNat)
  case atStart => exact ⟨0, by omega, rfl, Lib.hid fun j h => absurd h (Nat.not_lt_zero _)⟩
  case round =>
    obtain ⟨k, hk, rfl, HO⟩ := hrel
    by_cases hlt : k < A.length
    · have hkI : (k : Int) < (A.length : Int) := by omega
      obtain ⟨b, off, rfl, hc⟩ := bools_cell HA.out hlt
      cases hb : A.getD k false
      · rw [hb] at hc
        have HO2 : Hid (∀ j, j < k + 1 → A.getD j false = false) := Lib.hid fun j hj => by
          by_cases e : j < k
          · exact HO.out j e
          · obtain rfl : j = k := by omega
            exact hb
        go_wp2_with fail
        exact ⟨⟨k + 1, by omega, by go_num, HO2⟩, by simp [intOf]; omega⟩
      · rw [hb] at hc
        have hV : A.any id = true := by
          rw [List.any_eq_true]
          rw [List.getD_eq_getElem?_getD, List.getElem?_eq_getElem hlt] at hb
          exact ⟨A[k], List.getElem_mem hlt, hb⟩
        have HV := Lib.hid hV
        clear hV
        go_wp2_with fail
        go_ret
        exact ⟨by rw [HV.out]; rfl, rfl⟩
    · obtain rfl : k = A.length := by omega
      have hkI : ¬ (A.length : Int) < (A.length : Int) := by omega
      have hV : A.any id = false := by
        rw [List.any_eq_false]
        intro x hx
        obtain ⟨j, hj, rfl⟩ := List.mem_iff_getElem.1 hx
        have := HO.out j hj
        rw [List.getD_eq_getElem?_getD, List.getElem?_eq_getElem hj] at this
        simpa using this
      have HV := Lib.hid hV
      clear hV
      go_wp2_with fail
      go_ret
      exact ⟨by rw [HV.out]; rfl, rfl⟩
set_option maxHeartbeats 1000000 in
theorem refwith_any (u v : Value) (A B : List Bool) (w : World) (hA : BoolsAt w u A) (hB : BoolsAt w v B) (hl : A.length ≤ 1000000) (hAB : A.length = B.length) :
    Calls Try.prog 64 #[u, v] w fun e w' => ∃ x, e = .returned x ∧ w'.ownsRow w.heap.size 4 1 x A.length ((withL A B).map tv01) ∧ w.grownBy w' none := by
  obtain ⟨i0, hi, hz0, hz1, hz2⟩ := info_parts Try.info4
  have HA := Lib.hid hA
  have HB := Lib.hid hB
  have hAB1 : A.length ≤ B.length := by omega
  clear hAB
  obtain ⟨a, ca, rfl, -⟩ := hA
  obtain ⟨b, cb, rfl, -⟩ := hB
  go_enter Try.func64, Try.ntmps64
  go_wp2_with (at_make; refine wpList_make_full _ rfl _ _ 25 rfl w.heap.size 4 i0 (.bool false) 1 Try.underlying25 hi hz0 hz1 .i64 .i64 _ _ A.length rfl rfl (by omega) (by omega) (by rw [hz2]; omega) (by unfold maxLen; omega) (Nat.le_refl _) ?_; intro w0 hown0 hgrow0)
  go_loopw [6] (fun i wr => ∃ (k : Nat) (xs : List Value), k ≤ A.length ∧ i = .int .i64 (k : Int) ∧ Hid (wr.ownsRow w.heap.size 4 1 (.slice (some ⟨w.heap.size, 0, none⟩) A.length A.length) A.length xs) ∧ Hid (w.grownBy wr none) ∧ Hid (∀ j, j < k → xs[j]? = some (tv01 (A.getD j false && B.getD j false)))) (fun i _ => A.length - (intOf i).toNat)
  case atStart => exact ⟨0, _, by omega, rfl, Lib.hid hown0, Lib.hid hgrow0, Lib.hid fun j h => absurd h (Nat.not_lt_zero _)⟩
  case round =>
    obtain ⟨k, xs, hk, rfl, HO, HG, HX⟩ := hrel
    by_cases hlt : k < A.length
    · have hkI : (k : Int) < (A.length : Int) := by omega
      have hkB : (k : Int) < (B.length : Int) := by omega
      have hl2 : xs.length = A.length := by have := HO.out.1; omega
      obtain ⟨ba, oa, rfl, hca⟩ := bools_cell (HA.out.kept HG.out) hlt
      obtain ⟨bb, ob, rfl, hcb⟩ := bools_cell (HB.out.kept HG.out) (show k < B.length by omega)
      obtain ⟨u0, hu0⟩ : ∃ u, wr.cell? ⟨w.heap.size, k, none⟩ = some u := ⟨_, (HO.out.cellAt k (by omega)).trans (List.getElem?_eq_getElem (by omega))⟩
      have hf0 := HO.out.frozenAt k
      have hst := HO.out.stored k (tv01 (A.getD k false && B.getD k false))
      have HN : Hid (∀ j, j < k + 1 → (xs.set k (tv01 (A.getD k false && B.getD k false)))[j]? = some (tv01 (A.getD j false && B.getD j false))) := Lib.hid fun j hj => by
        by_cases e : j = k
        · subst e; exact List.getElem?_set_self (by omega)
        · rw [List.getElem?_set_ne (fun h => e h.symm)]; exact HX.out j (by omega)
      unfold tv01 at hst
      have HSt := Lib.hid hst
      clear hst
      generalize B.getD k false = y at hcb HN HSt
      cases hx : A.getD k false <;> rw [hx] at hca HN HSt
      · rw [Bool.false_and] at HN HSt
        go_wp2_with fail
        exact ⟨⟨k + 1, _, by omega, by go_num, Lib.hid HSt.out.1, Lib.hid (gb_trans HG.out HSt.out.2 (Or.inr (Or.inr ⟨_, rfl, Nat.le_refl _⟩))), HN⟩, by simp [intOf]; omega⟩
      · rw [Bool.true_and] at HN HSt
        go_wp2_with fail
        exact ⟨⟨k + 1, _, by omega, by go_num, Lib.hid HSt.out.1, Lib.hid (gb_trans HG.out HSt.out.2 (Or.inr (Or.inr ⟨_, rfl, Nat.le_refl _⟩))), HN⟩, by simp [intOf]; omega⟩
    · obtain rfl : k = A.length := by omega
      have hkI : ¬ ((A.length : Int) < (A.length : Int)) := by omega
      go_wp2_with fail
      go_ret
      refine ⟨_, rfl, ?_, HG.out⟩
      have e : xs = (withL A B).map tv01 := by
        refine List.ext_getElem? fun j => ?_
        have hl2 : xs.length = A.length := by have := HO.out.1; omega
        by_cases hj : j < A.length
        · rw [HX.out j hj]
          simp [withL, hj]
        · rw [List.getElem?_eq_none (by omega), List.getElem?_eq_none (by simp [withL]; omega)]
      rw [← e]
      exact HO.out
end Go.Proofs.Ytcdepblajobemaa
namespace Go.Proofs.Ytcdepblajobemaa
open Go.RowKit

def bit01 (b : Bool) : Nat := if b = true then 1 else 0
/-- A byte for each. -/
def textL (A : List Bool) : List Nat := A.map bit01
def textS (A : List Bool) : ByteArray := ⟨((textL A).map UInt8.ofNat).toArray⟩
theorem textS_inj {A B : List Bool} (h : textS A = textS B) : A = B := by
  have e : (textL A).map UInt8.ofNat = (textL B).map UInt8.ofNat := by
    have := congrArg (fun s => s.data.toList) h
    simpa [textS] using this
  unfold textL at e
  rw [List.map_map, List.map_map] at e
  have inj : ∀ (x y : Bool), (UInt8.ofNat ∘ bit01) x = (UInt8.ofNat ∘ bit01) y → x = y := by decide
  clear h
  induction A generalizing B with
  | nil => cases B with
    | nil => rfl
    | cons y B => simp at e
  | cons x A ih => cases B with
    | nil => simp at e
    | cons y B =>
      rw [List.map_cons, List.map_cons] at e
      injection e with e1 e2
      rw [inj x y e1, ih e2]
set_option maxHeartbeats 1000000 in
theorem reftext_any (u : Value) (A : List Bool) (w : World) (hA : BoolsAt w u A) (hl : A.length ≤ 1000000) :
    Calls Try.prog 65 #[u] w fun e w' => e = .returned (.string (textS A)) ∧ w.grownBy w' none := by
  obtain ⟨i0, hi, hz0, hz1, hz2⟩ := info_parts Try.info5
  have HA := Lib.hid hA
  obtain ⟨a, ca, rfl, -⟩ := hA
  go_enter Try.func65, Try.ntmps65
  go_wp2_with (at_make; refine wpList_make_full _ rfl _ _ 148 rfl w.heap.size 5 i0 (.int .u8 0) 1 Try.underlying148 hi hz0 hz1 .i64 .i64 _ _ A.length rfl rfl (by omega) (by omega) (by rw [hz2]; omega) (by unfold maxLen; omega) (Nat.le_refl _) ?_; intro w0 hown0 hgrow0)
  rw [Nat.mul_one, show (Value.int IntKind.u8 0).cells = #[Value.int IntKind.u8 0] from rfl, toList_madeCells_one] at hown0
  go_loopw [4] (fun i wr => ∃ (k : Nat) (xs : List Nat), k ≤ A.length ∧ i = .int .i64 (k : Int) ∧ Hid (wr.ownsRow w.heap.size 5 1 (.slice (some ⟨w.heap.size, 0, none⟩) A.length A.length) A.length (xs.map bv)) ∧ Hid (w.grownBy wr none) ∧ Hid (∀ j, j < A.length → xs[j]? = some (if j < k then bit01 (A.getD j false) else 0))) (fun i _ => A.length - (intOf i).toNat)
  case atStart => exact ⟨0, List.replicate A.length 0, by omega, rfl, Lib.hid (by rw [List.map_replicate]; exact hown0), Lib.hid hgrow0, Lib.hid fun j h => by rw [if_neg (Nat.not_lt_zero _), List.getElem?_replicate, if_pos h]⟩
  case round =>
    obtain ⟨k, xs, hk, rfl, HO, HG, HX⟩ := hrel
    have hl2 : xs.length = A.length := by have := HO.out.1; rw [List.length_map] at this; omega
    by_cases hlt : k < A.length
    · have hkI : (k : Int) < (A.length : Int) := by omega
      obtain ⟨ba, oa, rfl, hca⟩ := bools_cell (HA.out.kept HG.out) hlt
      obtain ⟨u0, hu0⟩ : ∃ u, wr.cell? ⟨w.heap.size, k, none⟩ = some u := ⟨_, (HO.out.cellAt k (by omega)).trans (List.getElem?_eq_getElem (by rw [List.length_map]; omega))⟩
      have hf0 := HO.out.frozenAt k
      have hst := HO.out.stored k (bv 1)
      rw [← List.map_set] at hst
      have HSt := Lib.hid hst
      unfold bv at HSt
      clear hst
      cases hx : A.getD k false <;> rw [hx] at hca
      · have HN : Hid (∀ j, j < A.length → xs[j]? = some (if j < k + 1 then bit01 (A.getD j false) else 0)) := Lib.hid fun j hj => by
          rw [HX.out j hj]
          by_cases e : j = k
          · subst e; rw [if_neg (by omega), if_pos (by omega), hx]; rfl
          · by_cases e2 : j < k
            · rw [if_pos e2, if_pos (by omega)]
            · rw [if_neg e2, if_neg (by omega)]
        go_wp2_with fail
        exact ⟨⟨k + 1, xs, by omega, by go_num, HO, HG, HN⟩, by simp [intOf]; omega⟩
      · have HN : Hid (∀ j, j < A.length → (xs.set k 1)[j]? = some (if j < k + 1 then bit01 (A.getD j false) else 0)) := Lib.hid fun j hj => by
          by_cases e : j = k
          · subst e; rw [List.getElem?_set_self (by omega), if_pos (by omega), hx]; rfl
          · rw [List.getElem?_set_ne (fun h => e h.symm), HX.out j hj]
            by_cases e2 : j < k
            · rw [if_pos e2, if_pos (by omega)]
            · rw [if_neg e2, if_neg (by omega)]
        go_wp2_with fail
        exact ⟨⟨k + 1, xs.set k 1, by omega, by go_num, Lib.hid HSt.out.1, Lib.hid (gb_trans HG.out HSt.out.2 (Or.inr (Or.inr ⟨_, rfl, Nat.le_refl _⟩))), HN⟩, by simp [intOf]; omega⟩
    · obtain rfl : k = A.length := by omega
      have hkI : ¬ ((A.length : Int) < (A.length : Int)) := by omega
      have e : xs = textL A := by
        refine List.ext_getElem? fun j => ?_
        by_cases hj : j < A.length
        · rw [HX.out j hj, if_pos hj]
          simp [textL, hj, List.getD_eq_getElem?_getD]
        · rw [List.getElem?_eq_none (by omega), List.getElem?_eq_none (by simp [textL]; omega)]
      have hst : (convert 148 9 (.slice (some ⟨w.heap.size, 0, none⟩) A.length A.length)).run Try.prog wr = .ok (.string (textS A)) wr := by
        have := string_row HO.out
        rw [e] at this
        exact this
      go_wp2_with fail
      go_ret
      exact ⟨rfl, HG.out⟩
end Go.Proofs.Ytcdepblajobemaa
