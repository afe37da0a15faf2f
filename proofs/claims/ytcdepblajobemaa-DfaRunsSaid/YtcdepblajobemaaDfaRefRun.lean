/- Dfa: the document's answer: Check, Run, Has. -/
import Derived.Test.YtcdepblajobemaaDfaRefNames
set_option maxRecDepth 100000
namespace Go.Proofs.Ytcdepblajobemaa
open Go.RowKit

theorem rowB_all (m N : Nat) (A : List Int) : rowB m N A = (decide (A.length = 2 ^ m) && (List.range A.length).all fun k => decide (0 ≤ A.getD k 0) && decide (A.getD k 0 < N)) := by
  unfold rowB
  by_cases hA : A.length = 2 ^ m
  · have hp : 0 < A.length := by rw [hA]; exact Nat.pow_pos (by decide)
    rw [decide_eq_true hA, Bool.true_and, Bool.true_and, Bool.eq_iff_iff, Bool.and_eq_true, decide_eq_true_iff, decide_eq_true_iff, List.all_eq_true]
    obtain ⟨⟨j1, hj1, e1⟩, f1⟩ := minF_le (A := A) (Nat.le_refl _) hp
    obtain ⟨⟨j2, hj2, e2⟩, f2⟩ := maxF_le (A := A) (Nat.le_refl _) hp
    constructor
    · rintro ⟨h1, h2⟩ k hk
      have hk2 := List.mem_range.1 hk
      have := f1 k hk2
      have := f2 k hk2
      rw [Bool.and_eq_true, decide_eq_true_iff, decide_eq_true_iff]
      omega
    · intro h
      have h1 := h j1 (List.mem_range.2 hj1)
      have h2 := h j2 (List.mem_range.2 hj2)
      rw [Bool.and_eq_true, decide_eq_true_iff, decide_eq_true_iff] at h1 h2
      omega
  · rw [decide_eq_false hA, Bool.false_and, Bool.false_and]
theorem rowB_no {m N : Nat} {A : List Int} {k : Nat} (hk : k < A.length) (h : A.getD k 0 < 0 ∨ (N : Int) ≤ A.getD k 0) : rowB m N A = false := by
  rw [rowB_all, Bool.and_eq_false_iff]
  right
  rw [List.all_eq_false]
  refine ⟨k, List.mem_range.2 hk, ?_⟩
  rw [Bool.and_eq_true, decide_eq_true_iff, decide_eq_true_iff]
  omega
theorem rowB_yes {m N : Nat} {A : List Int} (hA : A.length = 2 ^ m) (h : ∀ k, k < A.length → 0 ≤ A.getD k 0 ∧ A.getD k 0 < N) : rowB m N A = true := by
  rw [rowB_all, decide_eq_true hA, Bool.true_and, List.all_eq_true]
  intro k hk
  rw [Bool.and_eq_true, decide_eq_true_iff, decide_eq_true_iff]
  exact h k (List.mem_range.1 hk)

set_option maxHeartbeats 4000000 in
theorem refcheck13 (vp vn vl : Value) (d : Dfa) (w : World) (h : DfaAt w vp vn vl d) :
    Calls Try.prog 19 #[.agg #[vp, vn, vl]] w fun e w' => e = .returned (.int .i64 (dErr d)) ∧ w.grownBy w' none := by
  obtain ⟨P, R, B⟩ := d
  obtain ⟨hP, hR, hB⟩ := h
  dsimp only at hP hR hB
  have hb0 := World.grownBy_alloc w (.cells #[vp, vn, vl] 27) none
  have HB0 := Lib.hid hb0
  have HC := Lib.hid (fun wx (hg : w.grownBy wx none) => refnames10 vp P wx (hP.kept hg))
  have HR := Lib.hid hR
  obtain ⟨ap, cp, rfl, -⟩ := hP
  obtain ⟨an, cn, rfl, -, hn1, -⟩ := hR
  obtain ⟨al, cl, rfl, -, hl1, -⟩ := hB
  have HC1 := Lib.hid (HC.out _ hb0)
  have HBAD := Lib.hid (dErr_bad (d := ⟨P, R, B⟩))
  have HGOOD := Lib.hid (dErr_good (d := ⟨P, R, B⟩))
  dsimp only at HBAD HGOOD
  generalize dErr ⟨P, R, B⟩ = er at HBAD HGOOD ⊢
  clear HC
  by_cases hn : namesF P = true
  case neg =>
    have HE := Lib.hid (HBAD.out (Or.inl (by simpa using hn)))
    rw [show namesF P = false by simpa using hn] at HC1
    clear hn hb0
    go_enter Try.func19, Try.ntmps19
    go_wp2_with (go_at_call 44; refine HC1.out.mono ?_; rintro e w' ⟨rfl, hg⟩; have c0 := hg.cell (cell3_0 w _ _ _ _) (by simp); have c1 := hg.cell (cell3_1 w _ _ _ _) (by simp); have c2 := hg.cell (cell3_2 w _ _ _ _) (by simp))
    go_ret
    exact ⟨by rw [HE.out]; rfl, gb_trans HB0.out hg (Or.inl rfl)⟩
  rw [hn] at HC1
  have hpl := names_len hn
  have HN := Lib.hid hn
  clear hn hb0
  by_cases h0 : R.length = 0
  · have HE := Lib.hid (HBAD.out (Or.inr (Or.inl h0)))
    obtain rfl : R = [] := List.eq_nil_of_length_eq_zero h0
    clear h0
    go_enter Try.func19, Try.ntmps19
    go_wp2_with (go_at_call 44; refine HC1.out.mono ?_; rintro e w' ⟨rfl, hg⟩; have c0 := hg.cell (cell3_0 w _ _ _ _) (by simp); have c1 := hg.cell (cell3_1 w _ _ _ _) (by simp); have c2 := hg.cell (cell3_2 w _ _ _ _) (by simp))
    go_ret
    exact ⟨by rw [HE.out]; rfl, gb_trans HB0.out hg (Or.inl rfl)⟩
  have h0b : ¬ (R.length : Int) < 1 := by omega
  have H0 := Lib.hid h0
  clear h0
  by_cases hne : B.length = R.length
  case neg =>
    have HE := Lib.hid (HBAD.out (Or.inr (Or.inr (Or.inl hne))))
    have hneb : ((R.length : Int) != (B.length : Int)) = true := by rw [bne_iff_ne]; omega
    clear hne
    go_enter Try.func19, Try.ntmps19
    go_wp2_with (go_at_call 44; refine HC1.out.mono ?_; rintro e w' ⟨rfl, hg⟩; have c0 := hg.cell (cell3_0 w _ _ _ _) (by simp); have c1 := hg.cell (cell3_1 w _ _ _ _) (by simp); have c2 := hg.cell (cell3_2 w _ _ _ _) (by simp))
    go_ret
    exact ⟨by rw [HE.out]; rfl, gb_trans HB0.out hg (Or.inl rfl)⟩
  have hneb : ((R.length : Int) != (B.length : Int)) = false := by rw [hne]; simp
  have HNE := Lib.hid hne
  clear hne
  go_enter Try.func19, Try.ntmps19
  go_wp2_with (go_at_call 44; refine HC1.out.mono ?_; rintro e w1 ⟨rfl, hg1⟩; have c0 := hg1.cell (cell3_0 w _ _ _ _) (by simp); have c1 := hg1.cell (cell3_1 w _ _ _ _) (by simp); have c2 := hg1.cell (cell3_2 w _ _ _ _) (by simp))
  go_loopw [4] (fun i wr => ∃ k : Nat, k ≤ R.length ∧ i = .int .i64 (k : Int) ∧ Hid (∀ j, j < k → rowB P.length R.length (R.getD j []) = true) ∧ w1.grownBy wr none) (fun i _ => R.length - (intOf i).toNat)
  case atStart => exact ⟨0, by omega, rfl, fun j h => absurd h (by omega), gb_refl _ _⟩
  case round =>
    obtain ⟨k, hk, rfl, HS, hG⟩ := hrel
    have hall := gb_trans HB0.out (gb_trans hg1 hG (Or.inl rfl)) (Or.inl rfl)
    by_cases hlt : k < R.length
    · have hkI : (k : Int) < (R.length : Int) := by omega
      have c0r := hG.cell c0 (by simp)
      have c1r := hG.cell c1 (by simp)
      obtain ⟨an', cn', hve, -, -, hn3⟩ := HR.out.kept hall
      cases hve
      rcases hn3 with rfl | ⟨bn, offn, rfl, hn3⟩
      · exact absurd hlt (by simp)
      obtain ⟨u, hu, hI⟩ := hn3 k hlt
      have HBk := Lib.hid (fun h => HBAD.out (Or.inr (Or.inr (Or.inr ⟨k, hlt, h⟩))))
      have HGk : Hid (rowB P.length R.length (R.getD k []) = true → ∀ j, j < k + 1 → rowB P.length R.length (R.getD j []) = true) := Lib.hid fun h j hj => by
        rcases Nat.lt_or_ge j k with h1 | h1
        · exact HS.out j h1
        · obtain rfl : j = k := by omega
          exact h
      generalize R.getD k [] = A at HBk HGk hI
      have HI := Lib.hid hI
      obtain ⟨ar, cr, rfl, -, har, -⟩ := hI
      clear hn3
      by_cases hA : A.length = 2 ^ P.length
      case neg =>
        have HE := Lib.hid (HBk.out (by rw [rowB_all, decide_eq_false hA, Bool.false_and]))
        have hAb : ((A.length : Int) != wrap64 ((2 : Int) ^ P.length)) = true := by rw [wrap_pow _ hpl, bne_iff_ne]; omega
        clear hA
        go_wp2_with fail
        go_quiet (fail)
        go_wp2
        go_ret
        exact ⟨by rw [HE.out]; rfl, gb_trans hall (gb_drewN _ _ none) (Or.inl rfl)⟩
      have hAb : ((A.length : Int) != wrap64 ((2 : Int) ^ P.length)) = false := by rw [wrap_pow _ hpl, hA]; simp
      have HY := Lib.hid (@rowB_yes P.length R.length A hA)
      have HNo : Hid (∀ k : Nat, k < A.length → A.getD k 0 < 0 ∨ (R.length : Int) ≤ A.getD k 0 → rowB P.length R.length A = false) := Lib.hid fun k h1 h2 => rowB_no h1 h2
      clear hA
      go_wp2_with fail
      go_quiet (fail)
      go_wp2_with fail
      obtain ⟨wo, rfl⟩ : ∃ wo : World, wo = wr := ⟨_, rfl⟩
      go_loopw [5] (fun i wr => ∃ j : Nat, j ≤ A.length ∧ i = .int .i64 (j : Int) ∧ Hid (∀ t, t < j → 0 ≤ A.getD t 0 ∧ A.getD t 0 < (R.length : Int)) ∧ wo.grownBy wr none) (fun i _ => A.length - (intOf i).toNat)
      case atStart => exact ⟨0, by omega, rfl, fun t h => absurd h (by omega), gb_drewN _ _ none⟩
      case round =>
        obtain ⟨j, hj, rfl, HT, hG2⟩ := hrel
        have hall2 := gb_trans hall hG2 (Or.inl rfl)
        have d0 := hG2.cell c0r (by simp)
        have d1 := hG2.cell c1r (by simp)
        have du := hG2.cell hu (by simp)
        by_cases hjl : j < A.length
        · have hjI : (j : Int) < (A.length : Int) := by omega
          obtain ⟨_, _, hve, hbnd, -, hc3⟩ := HI.out.kept hG2
          cases hve
          rcases hc3 with rfl | ⟨br, offr, rfl, hc3⟩
          · exact absurd hjl (by simp)
          have dx := hc3 j hjl
          have hx := hbnd j hjl
          have HNj := Lib.hid (fun h => HBk.out (HNo.out j hjl h))
          have HTj : Hid (0 ≤ A.getD j 0 ∧ A.getD j 0 < (R.length : Int) → ∀ t, t < j + 1 → 0 ≤ A.getD t 0 ∧ A.getD t 0 < (R.length : Int)) := Lib.hid fun h t ht => by
            rcases Nat.lt_or_ge t j with h1 | h1
            · exact HT.out t h1
            · obtain rfl : t = j := by omega
              exact h
          generalize A.getD j 0 = x at dx hx HNj HTj
          clear hc3 hbnd
          by_cases hx0 : x < 0
          · have HE := Lib.hid (HNj.out (Or.inl hx0))
            have hd1 : decide (x < 0) = true := decide_eq_true hx0
            clear hx0
            go_wp2_with fail
            go_quiet (fail)
            go_wp2
            go_ret
            exact ⟨by rw [HE.out]; rfl, gb_trans hall2 (gb_drewN _ _ none) (Or.inl rfl)⟩
          have hd1 : decide (x < 0) = false := decide_eq_false hx0
          by_cases hx1 : (R.length : Int) ≤ x
          · have HE := Lib.hid (HNj.out (Or.inr hx1))
            have hd2 : decide ((R.length : Int) ≤ x) = true := decide_eq_true hx1
            clear hx1 hx0
            go_wp2_with fail
            go_quiet (fail)
            go_wp2
            go_ret
            exact ⟨by rw [HE.out]; rfl, gb_trans hall2 (gb_drewN _ _ none) (Or.inl rfl)⟩
          have hd2 : decide ((R.length : Int) ≤ x) = false := decide_eq_false hx1
          have HT2 := Lib.hid (HTj.out ⟨by omega, by omega⟩)
          clear hx1 hx0
          go_wp2_with fail
          go_quiet (fail)
          go_wp2
          go_roundw
          case rel => exact ⟨j + 1, by omega, by go_num, HT2, gb_trans hG2 (gb_drewN _ _ none) (Or.inl rfl)⟩
          case measure => simp [intOf]; omega
        · obtain rfl : j = A.length := by omega
          have HG2 := Lib.hid (HGk.out (HY.out HT.out))
          go_wp2
          go_roundw
          case rel => exact ⟨k + 1, by omega, by go_num, HG2, gb_trans hG hG2 (Or.inl rfl)⟩
          case measure => simp [intOf]; omega
    · obtain rfl : k = R.length := by omega
      have c1r := hG.cell c1 (by simp)
      have HE := Lib.hid (HGOOD.out HN.out H0.out HNE.out HS.out)
      go_wp2
      go_ret
      exact ⟨by rw [HE.out]; rfl, hall⟩
set_option maxHeartbeats 4000000 in
theorem refrun13 (vp vn vl vu : Value) (d : Dfa) (U : List Nat) (w : World) (h : DfaAt w vp vn vl d) (hU : LettersAt w vu U) :
    Calls Try.prog 17 #[.agg #[vp, vn, vl], vu] w fun e w' => e = .returned (.tuple #[.int .i64 (runS d U : Int), .int .i64 (runC d U)]) ∧ w.grownBy w' none := by
  have hb0 := World.grownBy_alloc w (.cells #[vp, vn, vl] 27) none
  have HB0 := Lib.hid hb0
  have HD := Lib.hid h
  have HU := Lib.hid hU
  have hC := refcheck13 vp vn vl d _ (h.kept hb0)
  have k0 := cell3_0 w vp vn vl 27
  have k1 := cell3_1 w vp vn vl 27
  obtain ⟨ap, cp, rfl, _⟩ := h.p
  obtain ⟨an, cn, rfl, _, hn1, _⟩ := h.r
  obtain ⟨al, cl, rfl, _, hl1, _⟩ := h.b
  obtain ⟨au, cu, rfl, _, hu1, _⟩ := hU
  clear h
  by_cases h0 : dErr d = 0
  case neg =>
    have h130 : dErr d = 130 := (dErr_or d).resolve_left h0
    rw [h130] at hC
    have HC := Lib.hid hC
    have HS : Hid (runS d U = 0) := Lib.hid (by unfold runS; rw [if_neg h0])
    have HE : Hid (runC d U = 130) := Lib.hid (by unfold runC; rw [if_neg h0])
    clear h0 h130 hC hb0 k0 k1
    go_enter Try.func17, Try.ntmps17
    go_wp2_with (go_at_call 19; refine HC.out.mono ?_; rintro e w' ⟨rfl, hg⟩)
    go_ret2
    exact ⟨by rw [HE.out, HS.out]; rfl, gb_trans HB0.out hg (Or.inl rfl)⟩
  have HT := Lib.hid (right_of h0)
  rw [h0] at hC
  have HC := Lib.hid hC
  have HS : Hid (runS d U = (runD d U).getD 0) := Lib.hid (by unfold runS; rw [if_pos h0])
  have HE : Hid (runC d U = if (runD d U).isSome = true then 0 else 1) := Lib.hid (by unfold runC; rw [if_pos h0])
  have hpl := HT.out.few
  have hr0 := Nat.pos_of_ne_zero HT.out.pos
  clear h0 hC hb0
  go_enter Try.func17, Try.ntmps17
  go_wp2_with (go_at_call 19; refine HC.out.mono ?_; rintro e w1 ⟨rfl, hg1⟩; have c0 := hg1.cell k0 (by simp); have c1 := hg1.cell k1 (by simp))
  go_loopw [6, 7] (fun s i wr => ∃ k t : Nat, k ≤ U.length ∧ i = .int .i64 (k : Int) ∧ s = .int .i64 (t : Int) ∧ t < d.R.length ∧ Hid (runD d (U.take k) = some t) ∧ w1.grownBy wr none) (fun _ i _ => U.length - (intOf i).toNat)
  case atStart => exact ⟨0, 0, by omega, rfl, rfl, hr0, rfl, gb_refl _ _⟩
  case round =>
    obtain ⟨k, t, hk, rfl, rfl, ht, HR, hG⟩ := hrel
    have hall := gb_trans HB0.out (gb_trans hg1 hG (Or.inl rfl)) (Or.inl rfl)
    have c0 := hG.cell c0 (by simp)
    have c1 := hG.cell c1 (by simp)
    by_cases hlt : k < U.length
    · have hkI : (k : Int) < (U.length : Int) := by omega
      obtain ⟨_, _, e1, hu2, _, hu3⟩ := HU.out.kept hall
      cases e1
      rcases hu3 with hu3 | ⟨bu, offu, rfl, hu3⟩
      · rw [hu3] at hlt; exact absurd hlt (by simp)
      obtain ⟨_, _, e1, _, _, hn3⟩ := HD.out.r.kept hall
      cases e1
      rcases hn3 with hn3 | ⟨bn, offn, rfl, hn3⟩
      · rw [hn3] at hr0; exact absurd hr0 (by simp)
      have cu := hu3 k hlt
      have hl2 := hu2 k hlt
      obtain ⟨u, hu, hI⟩ := hn3 t ht
      have HX := Lib.hid (runD_take (d := d) hlt)
      rw [HR.out] at HX
      generalize U.getD k 0 = l at cu hl2 HX
      by_cases hl : l < 2 ^ d.P.length
      · obtain ⟨t2, ht2, hnum⟩ := HT.out.num t ht l hl
        have hrow := HT.out.row t ht
        have hge : decide (wrap64 ((2 : Int) ^ d.P.length) ≤ (l : Int)) = false := decide_eq_false (by rw [wrap_pow _ hpl]; omega)
        have HY : Hid (runD d (U.take (k + 1)) = some t2) := Lib.hid (by rw [HX.out]; unfold stepD; simp only [hl, if_true]; rw [hnum]; rfl)
        obtain ⟨ar, cr, rfl, _, har, hI3⟩ := hI
        rcases hI3 with hI3 | ⟨br, offr, rfl, hI3⟩
        · rw [hI3] at hrow; have : 0 < 2 ^ d.P.length := Nat.pow_pos (by decide); simp at hrow; omega
        have cx := hI3 l (by omega)
        rw [hnum] at cx
        have hll : l < (d.R.getD t []).length := by omega
        have hlI : (l : Int) < ((d.R.getD t []).length : Int) := by omega
        have htI : (t : Int) < (d.R.length : Int) := by omega
        clear hI3 hn3 hu3 hnum hrow HX hu2
        generalize (d.R.getD t []).length = rl at hu hll hlI har
        clear hl
        go_wp2_with fail
        go_quiet (fail)
        go_wp2_with fail
        go_quiet (fail)
        go_wp2_with fail
        exact ⟨⟨k + 1, t2, by omega, by go_num, rfl, ht2, HY, gb_trans hG (gb_drewN _ _ none) (Or.inl rfl)⟩, by simp [intOf]; omega⟩
      · have hge : decide (wrap64 ((2 : Int) ^ d.P.length) ≤ (l : Int)) = true := decide_eq_true (by rw [wrap_pow _ hpl]; omega)
        have HY : Hid (runD d U = none) := Lib.hid (runD_none (k := k + 1) (by rw [HX.out]; unfold stepD; simp only [hl, if_false]))
        clear hl HX hu3 hn3 hu2 hI hu
        go_wp2_with fail
        go_quiet (fail)
        go_wp2_with fail
        go_ret2
        exact ⟨by rw [HE.out, HS.out, HY.out]; rfl, gb_trans hall (gb_drewN _ _ none) (Or.inl rfl)⟩
    · obtain rfl : k = U.length := by omega
      have hkI : ¬ (U.length : Int) < (U.length : Int) := by omega
      have HY : Hid (runD d U = some t) := Lib.hid (by have := HR.out; rwa [List.take_length] at this)
      go_wp2_with fail
      go_ret2
      exact ⟨by rw [HE.out, HS.out, HY.out]; rfl, hall⟩
set_option maxHeartbeats 1000000 in
theorem refhas13 (vp vn vl vu : Value) (d : Dfa) (U : List Nat) (w : World) (h : DfaAt w vp vn vl d) (hU : LettersAt w vu U) :
    Calls Try.prog 18 #[.agg #[vp, vn, vl], vu] w fun e w' => e = .returned (.tuple #[.bool (hasV d U), .int .i64 (runC d U)]) ∧ w.grownBy w' none := by
  have hb0 := World.grownBy_alloc w (.cells #[vp, vn, vl] 27) none
  have HB0 := Lib.hid hb0
  have HC := Lib.hid (refrun13 vp vn vl vu d U _ (h.kept hb0) (hU.kept hb0))
  have HD := Lib.hid h.b
  have k2 := cell3_2 w vp vn vl 27
  have HL := Lib.hid (@run_lt d U)
  obtain ⟨ap, cp, rfl, _⟩ := h.p
  obtain ⟨an, cn, rfl, _⟩ := h.r
  obtain ⟨al, cl, rfl, _⟩ := h.b
  obtain ⟨au, cu, rfl, _⟩ := hU
  have HV : Hid (hasV d U = if runC d U = 0 then d.B.getD (runS d U) false else false) := Lib.hid rfl
  clear h hb0
  generalize hasV d U = r at HV ⊢
  generalize runC d U = c at HV HC HL ⊢
  generalize runS d U = s at HV HC HL
  by_cases hc : c = 0
  · subst hc
    have hs := HL.out rfl
    have HV2 : Hid (r = d.B.getD s false) := Lib.hid (by rw [HV.out, if_pos rfl])
    have hsI : (s : Int) < (d.B.length : Int) := by omega
    obtain ⟨_, _, e1, _, _, hb3⟩ := HD.out
    cases e1
    rcases hb3 with hb3 | ⟨bl, offl, rfl, hb3⟩
    · rw [hb3] at hs; exact absurd hs (by simp)
    have cs := hb3 s hs
    have cs1 := (HB0.out).cell cs (by simp)
    rw [← HV2.out] at cs cs1
    clear hb3 HV HV2 HL
    go_enter Try.func18, Try.ntmps18
    go_wp2_with (go_at_call 17; refine HC.out.mono ?_; rintro e w1 ⟨rfl, hg1⟩; have c2 := hg1.cell k2 (by simp); have cs2 := hg1.cell cs1 (by simp))
    go_ret2
    exact ⟨rfl, gb_trans HB0.out hg1 (Or.inl rfl)⟩
  · have HV2 : Hid (r = false) := Lib.hid (by rw [HV.out, if_neg hc])
    have hcb : (c == 0) = false := by rw [beq_eq_false_iff_ne]; exact hc
    clear HV HL hc
    go_enter Try.func18, Try.ntmps18
    go_wp2_with (go_at_call 17; refine HC.out.mono ?_; rintro e w1 ⟨rfl, hg1⟩; have c2 := hg1.cell k2 (by simp))
    go_ret2
    exact ⟨by rw [HV2.out]; rfl, gb_trans HB0.out hg1 (Or.inl rfl)⟩
end Go.Proofs.Ytcdepblajobemaa
