/- Dfa: is it right? -/
import Derived.Test.YtcdepblajobemaaDfaMin
import Derived.Test.YtcdepblajobemaaDfaCheck
set_option maxRecDepth 100000
namespace Go.Proofs.Ytcdepblajobemaa
open Go.RowKit

def BoolsAt (w : World) (v : Value) (B : List Bool) : Prop :=
  ∃ a cap, v = .slice a B.length cap ∧ B.length ≤ cap ∧ B.length ≤ 140737488351232 ∧
    (B = [] ∨ ∃ b off, a = some ⟨b, off, none⟩ ∧ ∀ k, k < B.length → w.cell? ⟨b, off + k, none⟩ = some (.bool (B.getD k false)))
theorem BoolsAt.kept {w w' : World} {v : Value} {B : List Bool} (h : BoolsAt w v B) (hg : w.grownBy w' none) : BoolsAt w' v B := by
  obtain ⟨a, cap, rfl, h0, h1, h3⟩ := h
  refine ⟨a, cap, rfl, h0, h1, ?_⟩
  rcases h3 with h3 | ⟨b, off, rfl, h3⟩
  · exact Or.inl h3
  · exact Or.inr ⟨b, off, rfl, fun k hk => hg.cell (h3 k hk) (by simp)⟩
/-- An automaton over finite words. -/
structure Dfa where
  P : List ByteArray
  R : List (List Int)
  B : List Bool
structure DfaAt (w : World) (vp vn vl : Value) (d : Dfa) : Prop where
  p : TextsAt w vp d.P
  r : RowsAt2 w vn d.R
  b : BoolsAt w vl d.B
theorem DfaAt.kept {w w' : World} {vp vn vl : Value} {d : Dfa} (h : DfaAt w vp vn vl d) (hg : w.grownBy w' none) : DfaAt w' vp vn vl d := ⟨h.p.kept hg, h.r.kept hg, h.b.kept hg⟩
def rowB (m N : Nat) (A : List Int) : Bool := decide (A.length = 2 ^ m) && (decide (0 ≤ minF A A.length) && decide (maxF A A.length < N))
def dOk (d : Dfa) : Bool := namesF d.P && (decide (d.R.length ≠ 0) && (decide (d.B.length = d.R.length) && (List.range d.R.length).all fun k => rowB d.P.length d.R.length (d.R.getD k [])))
def dErr (d : Dfa) : Int := if dOk d = true then 0 else 130
theorem dErr_bad {d : Dfa} (h : namesF d.P = false ∨ d.R.length = 0 ∨ d.B.length ≠ d.R.length ∨ ∃ k, k < d.R.length ∧ rowB d.P.length d.R.length (d.R.getD k []) = false) : dErr d = 130 := by
  unfold dErr
  rw [if_neg]
  intro hm
  unfold dOk at hm
  simp only [Bool.and_eq_true, decide_eq_true_eq, List.all_eq_true, List.mem_range] at hm
  obtain ⟨h1, h2, h3, h4⟩ := hm
  rcases h with h | h | h | ⟨s, hs, h⟩
  · rw [h] at h1; cases h1
  · exact h2 h
  · exact h h3
  · rw [h4 s hs] at h; cases h
theorem dErr_good {d : Dfa} (h1 : namesF d.P = true) (h2 : d.R.length ≠ 0) (h3 : d.B.length = d.R.length) (h4 : ∀ k, k < d.R.length → rowB d.P.length d.R.length (d.R.getD k []) = true) : dErr d = 0 := by
  unfold dErr
  rw [if_pos]
  unfold dOk
  simp only [Bool.and_eq_true, decide_eq_true_eq, List.all_eq_true, List.mem_range]
  exact ⟨h1, h2, h3, h4⟩
theorem names_len {P : List ByteArray} (h : namesF P = true) : P.length ≤ 8 := by
  unfold namesF at h
  simp only [Bool.and_eq_true, decide_eq_true_eq] at h
  exact h.2
theorem chk_names (P : List ByteArray) : chkG P 0 [] [] [] = if namesF P = true then 0 else 100 := by
  unfold chkG rightF
  simp [risingF]
theorem wrap_pow : ∀ n : Nat, n ≤ 8 → wrap64 ((2 : Int) ^ n) = ((2 ^ n : Nat) : Int) := by decide +kernel
theorem pow_le {n : Nat} (h : n ≤ 8) : 2 ^ n ≤ 256 := Nat.pow_le_pow_right (by decide) h
theorem cell3_0 (w : World) (a b c : Value) (t : TypeId) : (w.alloc (.cells #[a, b, c] t)).cell? ⟨w.heap.size, 0, none⟩ = some a := by unfold World.cell?; rw [show (w.alloc (.cells #[a, b, c] t)).heap[w.heap.size]? = some (.cells #[a, b, c] t (0, 0)) from heap_alloc_new _ _]; rfl
theorem cell3_1 (w : World) (a b c : Value) (t : TypeId) : (w.alloc (.cells #[a, b, c] t)).cell? ⟨w.heap.size, 1, none⟩ = some b := by unfold World.cell?; rw [show (w.alloc (.cells #[a, b, c] t)).heap[w.heap.size]? = some (.cells #[a, b, c] t (0, 0)) from heap_alloc_new _ _]; rfl
theorem cell3_2 (w : World) (a b c : Value) (t : TypeId) : (w.alloc (.cells #[a, b, c] t)).cell? ⟨w.heap.size, 2, none⟩ = some c := by unfold World.cell?; rw [show (w.alloc (.cells #[a, b, c] t)).heap[w.heap.size]? = some (.cells #[a, b, c] t (0, 0)) from heap_alloc_new _ _]; rfl

set_option maxHeartbeats 4000000 in
theorem right_any (vp vn vl : Value) (d : Dfa) (w : World) (h : DfaAt w vp vn vl d) :
    Calls Try.prog 14 #[.agg #[vp, vn, vl]] w fun e w' => e = .returned (.int .i64 (dErr d)) ∧ w.grownBy w' none := by
  obtain ⟨P, R, B⟩ := d
  obtain ⟨hP, hR, hB⟩ := h
  dsimp only at hP hR hB
  have hb0 := World.grownBy_alloc w (.cells #[vp, vn, vl] 27) none
  have HB0 := Lib.hid hb0
  have HC := Lib.hid (fun wx (hg : w.grownBy wx none) => checkg_any vp (.slice none 0 0) (.slice none 0 0) (.slice none 0 0) P 0 [] [] [] wx (hP.kept hg) ⟨none, 0, rfl, by simp, by simp, Or.inl rfl⟩ ⟨none, 0, rfl, by simp, by simp, by simp, Or.inl rfl⟩ ⟨none, 0, rfl, by simp, by simp, Or.inl rfl⟩)
  have HR := Lib.hid hR
  obtain ⟨ap, cp, rfl, _⟩ := hP
  obtain ⟨an, cn, rfl, _, hn1, _⟩ := hR
  obtain ⟨al, cl, rfl, _, hl1, _⟩ := hB
  have hC1 := HC.out _ hb0
  rw [chk_names] at hC1
  have HBAD := Lib.hid (dErr_bad (d := ⟨P, R, B⟩))
  have HGOOD := Lib.hid (dErr_good (d := ⟨P, R, B⟩))
  dsimp only at HBAD HGOOD
  generalize dErr ⟨P, R, B⟩ = er at HBAD HGOOD ⊢
  clear HC
  by_cases hn : namesF P = true
  case neg =>
    have HE := Lib.hid (HBAD.out (Or.inl (by simpa using hn)))
    rw [if_neg hn] at hC1
    have HC1 := Lib.hid hC1
    clear hn hC1 hb0
    go_enter Try.func14, Try.ntmps14
    go_wp2_with (go_at_call 37; refine HC1.out.mono ?_; rintro e w' ⟨rfl, hg⟩; have c0 := hg.cell (cell3_0 w _ _ _ _) (by simp); have c1 := hg.cell (cell3_1 w _ _ _ _) (by simp); have c2 := hg.cell (cell3_2 w _ _ _ _) (by simp))
    go_ret
    exact ⟨by rw [HE.out]; rfl, gb_trans HB0.out hg (Or.inl rfl)⟩
  rw [if_pos hn] at hC1
  have HC1 := Lib.hid hC1
  have hpl := names_len hn
  have HN := Lib.hid hn
  clear hn hC1 hb0
  by_cases h0 : R.length = 0
  · have HE := Lib.hid (HBAD.out (Or.inr (Or.inl h0)))
    obtain rfl : R = [] := List.eq_nil_of_length_eq_zero h0
    clear h0
    go_enter Try.func14, Try.ntmps14
    go_wp2_with (go_at_call 37; refine HC1.out.mono ?_; rintro e w' ⟨rfl, hg⟩; have c0 := hg.cell (cell3_0 w _ _ _ _) (by simp); have c1 := hg.cell (cell3_1 w _ _ _ _) (by simp); have c2 := hg.cell (cell3_2 w _ _ _ _) (by simp))
    go_ret
    exact ⟨by rw [HE.out]; rfl, gb_trans HB0.out hg (Or.inl rfl)⟩
  have h0b : ((R.length : Int) == 0) = false := by rw [beq_eq_false_iff_ne]; omega
  have H0 := Lib.hid h0
  clear h0
  by_cases hne : B.length = R.length
  case neg =>
    have HE := Lib.hid (HBAD.out (Or.inr (Or.inr (Or.inl hne))))
    have hneb : ((B.length : Int) != (R.length : Int)) = true := by rw [bne_iff_ne]; omega
    clear hne
    go_enter Try.func14, Try.ntmps14
    go_wp2_with (go_at_call 37; refine HC1.out.mono ?_; rintro e w' ⟨rfl, hg⟩; have c0 := hg.cell (cell3_0 w _ _ _ _) (by simp); have c1 := hg.cell (cell3_1 w _ _ _ _) (by simp); have c2 := hg.cell (cell3_2 w _ _ _ _) (by simp))
    go_ret
    exact ⟨by rw [HE.out]; rfl, gb_trans HB0.out hg (Or.inl rfl)⟩
  have hneb : ((B.length : Int) != (R.length : Int)) = false := by rw [hne]; simp
  have HNE := Lib.hid hne
  clear hne
  go_enter Try.func14, Try.ntmps14
  go_wp2_with (go_at_call 37; refine HC1.out.mono ?_; rintro e w1 ⟨rfl, hg1⟩; have c0 := hg1.cell (cell3_0 w _ _ _ _) (by simp); have c1 := hg1.cell (cell3_1 w _ _ _ _) (by simp); have c2 := hg1.cell (cell3_2 w _ _ _ _) (by simp))
  go_loopw [28] (fun i wr => ∃ k : Nat, k ≤ R.length ∧ i = .int .i64 (k : Int) ∧ Hid (∀ j, j < k → rowB P.length R.length (R.getD j []) = true) ∧ w1.grownBy wr none) (fun i _ => R.length - (intOf i).toNat)
  case atStart => exact ⟨0, by omega, rfl, fun j h => absurd h (by omega), gb_refl _ _⟩
  case round =>
    obtain ⟨k, hk, rfl, HS, hG⟩ := hrel
    have hall := gb_trans HB0.out (gb_trans hg1 hG (Or.inl rfl)) (Or.inl rfl)
    by_cases hlt : k < R.length
    · have hkI : (k : Int) < (R.length : Int) := by omega
      have c0r := hG.cell c0 (by simp)
      have c1r := hG.cell c1 (by simp)
      obtain ⟨an', cn', hve, _, _, hn3⟩ := HR.out.kept hall
      cases hve
      rcases hn3 with rfl | ⟨bn, offn, rfl, hn3⟩
      · exact absurd hlt (by simp)
      obtain ⟨u, hu, hI⟩ := hn3 k hlt
      have HI := Lib.hid hI
      have HBk := Lib.hid (fun h => HBAD.out (Or.inr (Or.inr (Or.inr ⟨k, hlt, h⟩))))
      have HG : Hid (rowB P.length R.length (R.getD k []) = true → ∀ j, j < k + 1 → rowB P.length R.length (R.getD j []) = true) := Lib.hid fun h j hj => by
        rcases Nat.lt_or_ge j k with h1 | h1
        · exact HS.out j h1
        · obtain rfl : j = k := by omega
          exact h
      have HF := Lib.hid (show rowB P.length R.length (R.getD k []) = (decide ((R.getD k []).length = 2 ^ P.length) && (decide (0 ≤ minF (R.getD k []) (R.getD k []).length) && decide (maxF (R.getD k []) (R.getD k []).length < (R.length : Int)))) from rfl)
      generalize rowB P.length R.length (R.getD k []) = st at HBk HG HF
      generalize R.getD k [] = A at HF HI hI
      have HMn : Hid (0 < A.length → ∀ j, Calls Try.prog 38 #[u] (wr.drewN j) fun e w' => e = .returned (.int .i64 (minF A A.length)) ∧ w' = wr.drewN j) := Lib.hid fun h0 j => (min_any u A h0 _ (HI.out.kept (gb_drewN wr j none))).mono fun _ _ h => ⟨h.1, h.2.symm⟩
      have HMx : Hid (0 < A.length → ∀ j, Calls Try.prog 39 #[u] (wr.drewN j) fun e w' => e = .returned (.int .i64 (maxF A A.length)) ∧ w' = wr.drewN j) := Lib.hid fun h0 j => (max_any u A h0 _ (HI.out.kept (gb_drewN wr j none))).mono fun _ _ h => ⟨h.1, h.2.symm⟩
      obtain ⟨ar, cr, rfl, _, har, _⟩ := hI
      clear hn3 HR
      generalize minF A A.length = mn at HF HMn
      generalize maxF A A.length = mx at HF HMx
      by_cases hA : A.length = 2 ^ P.length
      case neg =>
        have HE := Lib.hid (HBk.out (by rw [HF.out, decide_eq_false hA, Bool.false_and]))
        have hAb : ((A.length : Int) != wrap64 ((2 : Int) ^ P.length)) = true := by rw [wrap_pow _ hpl, bne_iff_ne]; omega
        clear hA
        go_wp2_with fail
        go_quiet (fail)
        go_wp2
        go_ret
        exact ⟨by rw [HE.out]; rfl, gb_trans hall (gb_drewN _ _ none) (Or.inl rfl)⟩
      have hA0 : 0 < A.length := by rw [hA]; exact Nat.pow_pos (by decide)
      have hAb : ((A.length : Int) != wrap64 ((2 : Int) ^ P.length)) = false := by rw [wrap_pow _ hpl, hA]; simp
      have HMn2 := Lib.hid (HMn.out hA0)
      have HMx2 := Lib.hid (HMx.out hA0)
      have HF2 : Hid (st = (decide (0 ≤ mn) && decide (mx < (R.length : Int)))) := Lib.hid (by rw [HF.out, decide_eq_true hA, Bool.true_and])
      clear hA hA0 HMn HMx HF HI
      by_cases h1 : mn < 0
      · have HE := Lib.hid (HBk.out (by rw [HF2.out, decide_eq_false (by omega : ¬ 0 ≤ mn), Bool.false_and]))
        have hd1 : decide (mn < 0) = true := decide_eq_true h1
        clear h1
        go_wp2_with fail
        go_quiet ((go_at_call 38; exact Calls.quiet_of_same (HMn2.out _)))
        go_wp2
        go_ret
        exact ⟨by rw [HE.out]; rfl, gb_trans hall (gb_drewN _ _ none) (Or.inl rfl)⟩
      have hd1 : decide (mn < 0) = false := decide_eq_false h1
      have HF3 : Hid (st = decide (mx < (R.length : Int))) := Lib.hid (by rw [HF2.out, decide_eq_true (by omega : 0 ≤ mn), Bool.true_and])
      clear h1 HF2
      by_cases h2 : (R.length : Int) ≤ mx
      · have HE := Lib.hid (HBk.out (by rw [HF3.out, decide_eq_false (by omega : ¬ mx < (R.length : Int))]))
        have hd2 : decide ((R.length : Int) ≤ mx) = true := decide_eq_true h2
        clear h2
        go_wp2_with fail
        go_quiet (first | (go_at_call 38; exact Calls.quiet_of_same (HMn2.out _)) | (go_at_call 39; exact Calls.quiet_of_same (HMx2.out _)))
        go_wp2
        go_ret
        exact ⟨by rw [HE.out]; rfl, gb_trans hall (gb_drewN _ _ none) (Or.inl rfl)⟩
      have hd2 : decide ((R.length : Int) ≤ mx) = false := decide_eq_false h2
      have HG2 := Lib.hid (HG.out (by rw [HF3.out]; exact decide_eq_true (by omega)))
      clear h2
      go_wp2_with fail
      go_quiet (first | (go_at_call 38; exact Calls.quiet_of_same (HMn2.out _)) | (go_at_call 39; exact Calls.quiet_of_same (HMx2.out _)))
      go_wp2
      go_roundw
      case rel => exact ⟨k + 1, by omega, by go_num, HG2, gb_trans hG (gb_drewN _ _ none) (Or.inl rfl)⟩
      case measure => simp [intOf]; omega
    · obtain rfl : k = R.length := by omega
      have HE := Lib.hid (HGOOD.out HN.out H0.out HNE.out HS.out)
      go_wp2
      go_ret
      exact ⟨by rw [HE.out]; rfl, hall⟩
end Go.Proofs.Ytcdepblajobemaa
