/- Dfa: the state behind letters. -/
import Derived.Test.YtcdepblajobemaaDfaRight
set_option maxRecDepth 100000
namespace Go.Proofs.Ytcdepblajobemaa
open Go.RowKit

def LettersAt (w : World) (v : Value) (U : List Nat) : Prop :=
  ∃ a cap, v = .slice a U.length cap ∧ (∀ k, k < U.length → U.getD k 0 ≤ 65535) ∧ U.length ≤ 70368744175616 ∧
    (U = [] ∨ ∃ b off, a = some ⟨b, off, none⟩ ∧ ∀ k, k < U.length → w.cell? ⟨b, off + k, none⟩ = some (.int .u16 ((U.getD k 0 : Nat) : Int)))
theorem LettersAt.kept {w w' : World} {v : Value} {U : List Nat} (h : LettersAt w v U) (hg : w.grownBy w' none) : LettersAt w' v U := by
  obtain ⟨a, cap, rfl, h0, h1, h3⟩ := h
  refine ⟨a, cap, rfl, h0, h1, ?_⟩
  rcases h3 with h3 | ⟨b, off, rfl, h3⟩
  · exact Or.inl h3
  · exact Or.inr ⟨b, off, rfl, fun k hk => hg.cell (h3 k hk) (by simp)⟩

structure Right (d : Dfa) : Prop where
  pos : d.R.length ≠ 0
  few : d.P.length ≤ 8
  len : d.B.length = d.R.length
  row : ∀ k, k < d.R.length → (d.R.getD k []).length = 2 ^ d.P.length
  num : ∀ k, k < d.R.length → ∀ j, j < 2 ^ d.P.length → ∃ t : Nat, t < d.R.length ∧ (d.R.getD k []).getD j 0 = (t : Int)
theorem right_of {d : Dfa} (h : dErr d = 0) : Right d := by
  have hd : dOk d = true := by
    unfold dErr at h
    split at h
    · assumption
    · cases h
  unfold dOk at hd
  simp only [Bool.and_eq_true, decide_eq_true_eq, List.all_eq_true, List.mem_range] at hd
  obtain ⟨h1, h2, h3, h4⟩ := hd
  have h5 : ∀ k, k < d.R.length → (d.R.getD k []).length = 2 ^ d.P.length ∧ 0 ≤ minF (d.R.getD k []) (d.R.getD k []).length ∧ maxF (d.R.getD k []) (d.R.getD k []).length < (d.R.length : Int) := by
    intro k hk
    have := h4 k hk
    unfold rowB at this
    simp only [Bool.and_eq_true, decide_eq_true_eq] at this
    exact this
  refine ⟨h2, names_len h1, h3, fun k hk => (h5 k hk).1, fun k hk j hj => ?_⟩
  obtain ⟨e1, e2, e3⟩ := h5 k hk
  have hp : 0 < (d.R.getD k []).length := by rw [e1]; exact Nat.pow_pos (by decide)
  have f1 := (minF_le (A := d.R.getD k []) (Nat.le_refl _) hp).2 j (by omega)
  have f2 := (maxF_le (A := d.R.getD k []) (Nat.le_refl _) hp).2 j (by omega)
  exact ⟨((d.R.getD k []).getD j 0).toNat, by omega, by omega⟩
theorem dErr_or (d : Dfa) : dErr d = 0 ∨ dErr d = 130 := by
  unfold dErr
  split
  · exact Or.inl rfl
  · exact Or.inr rfl
def stepD (d : Dfa) (o : Option Nat) (l : Nat) : Option Nat :=
  match o with
  | none => none
  | some s => if l < 2 ^ d.P.length then some ((d.R.getD s []).getD l 0).toNat else none
def runD (d : Dfa) (U : List Nat) : Option Nat := U.foldl (stepD d) (some 0)
theorem fold_none (d : Dfa) (U : List Nat) : U.foldl (stepD d) none = none := by
  induction U with
  | nil => rfl
  | cons a t ih => exact ih
theorem runD_take {d : Dfa} {U : List Nat} {k : Nat} (h : k < U.length) : runD d (U.take (k + 1)) = stepD d (runD d (U.take k)) (U.getD k 0) := by
  unfold runD
  rw [List.take_succ_eq_append_getElem h, List.foldl_append, List.getD_eq_getElem?_getD, List.getElem?_eq_getElem h]
  rfl
theorem runD_none {d : Dfa} {U : List Nat} {k : Nat} (h : runD d (U.take k) = none) : runD d U = none := by
  have e : U = U.take k ++ U.drop k := (List.take_append_drop k U).symm
  unfold runD at h ⊢
  rw [e, List.foldl_append, h, fold_none]
/-- What Run tells. -/
def runS (d : Dfa) (U : List Nat) : Nat := if dErr d = 0 then (runD d U).getD 0 else 0
def runC (d : Dfa) (U : List Nat) : Int := if dErr d = 0 then (if (runD d U).isSome = true then 0 else 1) else 130

set_option maxHeartbeats 4000000 in
theorem drun_any (vp vn vl vu : Value) (d : Dfa) (U : List Nat) (w : World) (h : DfaAt w vp vn vl d) (hU : LettersAt w vu U) :
    Calls Try.prog 12 #[.agg #[vp, vn, vl], vu] w fun e w' => e = .returned (.tuple #[.int .i64 (runS d U : Int), .int .i64 (runC d U)]) ∧ w.grownBy w' none := by
  have hb0 := World.grownBy_alloc w (.cells #[vp, vn, vl] 27) none
  have HB0 := Lib.hid hb0
  have HD := Lib.hid h
  have HU := Lib.hid hU
  have hC := right_any vp vn vl d _ (h.kept hb0)
  have k0 := cell3_0 w vp vn vl 27
  have k1 := cell3_1 w vp vn vl 27
  obtain ⟨ap, cp, rfl, _⟩ := h.p
  obtain ⟨an, cn, rfl, _, hn1, _⟩ := h.r
  obtain ⟨al, cl, rfl, _, hl1, _⟩ := h.b
  obtain ⟨au, cu, rfl, _, hu1, _⟩ := hU
  clear h
  by_cases h0 : dErr d = 0
  case neg =>
    have h130 : dErr d = 130 := (dErr_or d).resolve_left h0
    rw [h130] at hC
    have HC := Lib.hid hC
    have HS : Hid (runS d U = 0) := Lib.hid (by unfold runS; rw [if_neg h0])
    have HE : Hid (runC d U = 130) := Lib.hid (by unfold runC; rw [if_neg h0])
    clear h0 h130 hC hb0 k0 k1
    go_enter Try.func12, Try.ntmps12
    go_wp2_with (go_at_call 14; refine HC.out.mono ?_; rintro e w' ⟨rfl, hg⟩)
    go_ret2
    exact ⟨by rw [HE.out, HS.out]; rfl, gb_trans HB0.out hg (Or.inl rfl)⟩
  have HT := Lib.hid (right_of h0)
  rw [h0] at hC
  have HC := Lib.hid hC
  have HS : Hid (runS d U = (runD d U).getD 0) := Lib.hid (by unfold runS; rw [if_pos h0])
  have HE : Hid (runC d U = if (runD d U).isSome = true then 0 else 1) := Lib.hid (by unfold runC; rw [if_pos h0])
  have hpl := HT.out.few
  have hr0 := Nat.pos_of_ne_zero HT.out.pos
  clear h0 hC hb0
  go_enter Try.func12, Try.ntmps12
  go_wp2_with (go_at_call 14; refine HC.out.mono ?_; rintro e w1 ⟨rfl, hg1⟩; have c0 := hg1.cell k0 (by simp); have c1 := hg1.cell k1 (by simp))
  go_loopw [7, 17] (fun s i wr => ∃ k t : Nat, k ≤ U.length ∧ i = .int .i64 (k : Int) ∧ s = .int .i64 (t : Int) ∧ t < d.R.length ∧ Hid (runD d (U.take k) = some t) ∧ wr = w1) (fun _ i _ => U.length - (intOf i).toNat)
  case atStart => exact ⟨0, 0, by omega, rfl, rfl, hr0, rfl, rfl⟩
  case round =>
    obtain ⟨k, t, hk, rfl, rfl, ht, HR, rfl⟩ := hrel
    have hall := gb_trans HB0.out hg1 (Or.inl rfl)
    by_cases hlt : k < U.length
    · have hkI : (k : Int) < (U.length : Int) := by omega
      obtain ⟨_, _, e1, hu2, _, hu3⟩ := HU.out.kept hall
      cases e1
      rcases hu3 with hu3 | ⟨bu, offu, rfl, hu3⟩
      · rw [hu3] at hlt; exact absurd hlt (by simp)
      obtain ⟨_, _, e1, _, _, hn3⟩ := HD.out.r.kept hall
      cases e1
      rcases hn3 with hn3 | ⟨bn, offn, rfl, hn3⟩
      · rw [hn3] at hr0; exact absurd hr0 (by simp)
      have cu := hu3 k hlt
      have hl2 := hu2 k hlt
      obtain ⟨u, hu, hI⟩ := hn3 t ht
      have HX := Lib.hid (runD_take (d := d) hlt)
      rw [HR.out] at HX
      generalize U.getD k 0 = l at cu hl2 HX
      by_cases hl : l < 2 ^ d.P.length
      · obtain ⟨t2, ht2, hnum⟩ := HT.out.num t ht l hl
        have hrow := HT.out.row t ht
        have hge : ¬ wrap64 ((2 : Int) ^ d.P.length) ≤ (l : Int) := by rw [wrap_pow _ hpl]; omega
        have HY : Hid (runD d (U.take (k + 1)) = some t2) := Lib.hid (by rw [HX.out]; unfold stepD; simp only [hl, if_true]; rw [hnum]; rfl)
        obtain ⟨ar, cr, rfl, _, har, hI3⟩ := hI
        rcases hI3 with hI3 | ⟨br, offr, rfl, hI3⟩
        · rw [hI3] at hrow; have : 0 < 2 ^ d.P.length := Nat.pow_pos (by decide); simp at hrow; omega
        have cx := hI3 l (by omega)
        rw [hnum] at cx
        have hll : l < (d.R.getD t []).length := by omega
        have hlI : (l : Int) < ((d.R.getD t []).length : Int) := by omega
        have htI : (t : Int) < (d.R.length : Int) := by omega
        clear hI3 hn3 hu3 hnum hrow HX hu2
        generalize (d.R.getD t []).length = rl at hu hll hlI har
        clear hl
        go_wp2_with fail
        exact ⟨⟨k + 1, t2, by omega, by go_num, rfl, ht2, HY, trivial⟩, by simp [intOf]; omega⟩
      · have hge : wrap64 ((2 : Int) ^ d.P.length) ≤ (l : Int) := by rw [wrap_pow _ hpl]; omega
        have HY : Hid (runD d U = none) := Lib.hid (runD_none (k := k + 1) (by rw [HX.out]; unfold stepD; simp only [hl, if_false]))
        clear hl HX hu3 hn3 hu2 hI hu
        go_wp2_with fail
        go_ret2
        exact ⟨by rw [HE.out, HS.out, HY.out]; rfl, hall⟩
    · obtain rfl : k = U.length := by omega
      have hkI : ¬ (U.length : Int) < (U.length : Int) := by omega
      have HY : Hid (runD d U = some t) := Lib.hid (by have := HR.out; rwa [List.take_length] at this)
      go_wp2_with fail
      go_ret2
      exact ⟨by rw [HE.out, HS.out, HY.out]; rfl, hall⟩
end Go.Proofs.Ytcdepblajobemaa
