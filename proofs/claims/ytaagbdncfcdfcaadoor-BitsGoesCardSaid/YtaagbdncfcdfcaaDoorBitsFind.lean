/- Bits: Find, Intern. -/
import Derived.Test.YtaagbdncfcdfcaaDoorBitsTable
import Derived.Deep.RegionLaw
import Derived.Deep.DeepCutAuto
namespace Go.Proofs.YtaagbdncfcdfcaaDoor
open Go.RowKit

def findF (Ls : List (List Nat)) (L : List Nat) : Int := if L ∈ Ls then (Ls.idxOf L : Int) else -1

/-- What the look-up of a set's key tells. -/
theorem look_set {w : World} {p mb n : Nat} {v : Value} {es : List Ent} (h : TableAt w p mb v n es) {L : List Nat} (g : Good n L) (s : ByteArray) (hs : keyS n L = s) :
    ∃ c : Int, (Instr.lookup 67 (.map (some mb)) (.string s) true).run Tryd.prog w = .ok (.tuple #[.int .i64 c, .bool (decide (L ∈ rowsOf es))]) w ∧ (L ∈ rowsOf es → c = ((rowsOf es).idxOf L : Int)) := by
  obtain ⟨D, hD, hI⟩ := h.map
  obtain ⟨u, ps, hrun, hv⟩ := hD.look_ok strKeyed Tryd.underlying67 (Tryd.zeroValue3 w) (plainElem_int Tryd.underlying3 (by decide)) (keyOf_set h.max L)
  obtain ⟨c, rfl, hc, _⟩ := plainElem_int_inv Tryd.underlying3 hv
  rw [hs] at hrun
  have hc1 := congrArg Prod.fst hc
  by_cases hm : L ∈ rowsOf es
  · have hlt := List.idxOf_lt_length_iff.2 hm
    have hit := hI.hit ((rowsOf es).idxOf L) L (by rw [List.getElem?_eq_getElem hlt, List.getElem_idxOf])
    rw [hit.2] at hrun
    rw [hit.1] at hc1
    refine ⟨c, by simpa [hm] using hrun, fun _ => ?_⟩
    simp only [DataW.lit.injEq, Lit.int.injEq, true_and] at hc1
    exact hc1.symm
  · rw [hI.miss L g hm] at hrun
    exact ⟨c, by simpa [hm] using hrun, fun h' => absurd h' hm⟩

set_option maxHeartbeats 1000000 in
theorem find_any (p mb n q g cap : Nat) (v : Value) (es : List Ent) (L : List Nat) (w : World) (h : TableAt w p mb v n es) (hs : SetAt w q g cap n L) (_hb : es.length ≤ 1000000) :
    Calls Tryd.prog 55 #[.pointer (some ⟨p, 0, none⟩), .pointer (some ⟨q, 0, none⟩)] w fun e w' => e = .returned (.int .i64 (findF (rowsOf es) L)) ∧ w.grownBy w' none := by
  have hm := h.max
  have h0 := h.cell0
  have h1 := h.cell1
  have hN := hs.cellN
  have hbn : ((n : Int) != (n : Int)) = false := by simp
  obtain ⟨s, Hs⟩ : ∃ s, Hid (keyS n L = s) := ⟨_, rfl⟩
  have HT := Lib.hid h
  have HS := Lib.hid hs
  clear h hs
  go_enter Tryd.func55, Tryd.ntmps55
  go_wp2_with fail
  go_quiet (fail)
  go_wp2_with fail
  have HK := Lib.hid fun w' (hg : w.grownBy w' none) => key_h (HS.out.kept hg (by simp) (by simp)) s Hs
  by_cases hmem : L ∈ rowsOf es
  · have hd : decide (L ∈ rowsOf es) = true := by simpa using hmem
    have hf : findF (rowsOf es) L = ((rowsOf es).idxOf L : Int) := by unfold findF; rw [if_pos hmem]
    have HF := Lib.hid hf
    have HD := Lib.hid hd
    have HM := Lib.hid hmem
    clear hf hd hmem
    go_region_with (go_at_call 28; refine (HK.out _ (by exact ⟨rfl, rfl, rfl, Nat.le_refl _, fun _ _ _ => rfl⟩)).mono ?_; rintro e w1 ⟨rfl, hg1⟩; have h1' := (gb_trans (gb_drewN w _ none) hg1 (Or.inl rfl)).cell h1 (by simp); obtain ⟨c, hrun, hc⟩ := look_set (HT.out.kept_none (gb_trans (gb_drewN w _ none) hg1 (Or.inl rfl))) HS.out.good s Hs.out; rw [HD.out] at hrun; obtain rfl := hc HM.out)
    all_goals
      go_wp2
      go_ret
      exact ⟨by rw [HF.out]; rfl, gb_trans (gb_drewN w _ none) hg1 (Or.inl rfl)⟩
  · have hd : decide (L ∈ rowsOf es) = false := by simpa using hmem
    have hf : findF (rowsOf es) L = -1 := by unfold findF; rw [if_neg hmem]
    have HF := Lib.hid hf
    have HD := Lib.hid hd
    clear hf hd hmem
    go_region_with (go_at_call 28; refine (HK.out _ (by exact ⟨rfl, rfl, rfl, Nat.le_refl _, fun _ _ _ => rfl⟩)).mono ?_; rintro e w1 ⟨rfl, hg1⟩; have h1' := (gb_trans (gb_drewN w _ none) hg1 (Or.inl rfl)).cell h1 (by simp); obtain ⟨c, hrun, hc⟩ := look_set (HT.out.kept_none (gb_trans (gb_drewN w _ none) hg1 (Or.inl rfl))) HS.out.good s Hs.out; rw [HD.out] at hrun; clear hc)
    all_goals
      go_wp2
      go_ret
      exact ⟨by rw [HF.out]; rfl, gb_trans (gb_drewN w _ none) hg1 (Or.inl rfl)⟩

set_option maxHeartbeats 1000000 in
/-- A set that came ahead. -/
theorem intern_old (p mb n q g cap : Nat) (v : Value) (es : List Ent) (L : List Nat) (w : World) (h : TableAt w p mb v n es) (hs : SetAt w q g cap n L) (hb : es.length ≤ 1000000) (hL : L ∈ rowsOf es) :
    Calls Tryd.prog 29 #[.pointer (some ⟨p, 0, none⟩), .pointer (some ⟨q, 0, none⟩)] w fun e w' => e = .returned (.tuple #[.int .i64 (findF (rowsOf es) L), .bool false]) ∧ w.grownBy w' none := by
  have hm := h.max
  have h0 := h.cell0
  have hN := hs.cellN
  have hbn : ((n : Int) != (n : Int)) = false := by simp
  have HF := Lib.hid fun w' (hg : w.grownBy w' none) => find_any p mb n q g cap v es L w' (h.kept_none hg) (hs.kept hg (by simp) (by simp)) hb
  have hf : findF (rowsOf es) L = ((rowsOf es).idxOf L : Int) := by unfold findF; rw [if_pos hL]
  have h9 : 0 ≤ findF (rowsOf es) L := by rw [hf]; omega
  generalize findF (rowsOf es) L = i at HF h9 ⊢
  clear h hs hL hf
  go_enter Tryd.func29, Tryd.ntmps29
  go_wp2_with fail
  go_quiet (fail)
  go_wp2_with (go_at_call 55; refine (HF.out _ (gb_drewN w _ none)).mono ?_; rintro e w1 ⟨rfl, hg1⟩)
  go_ret2
  exact ⟨rfl, gb_trans (gb_drewN w _ none) hg1 (Or.inl rfl)⟩

end Go.Proofs.YtaagbdncfcdfcaaDoor
