/- Dfa: the law of the ways. -/
import Derived.Test.YtcdepblajobemaaDfaGoesF
import Derived.Test.YtcdepblajobemaaDfaLetters
import Derived.Test.YtcdepblajobemaaDfaFew
import Derived.Test.YtcdepblajobemaaDfaKnown
import Derived.Outline
import Derived.IntWalk
set_option maxRecDepth 100000
namespace Go.Proofs.Ytcdepblajobemaa
open Go.RowKit

theorem bld_dfa {Z : Nat} {w : World} {vp vn vl : Value} {us : List Value} {a : Aut} {n : Nat} {V : List Nat} (h : BuiltAt Z w vp vn vl us (bldD a n V).P (bldD a n V).R (bldD a n V).B) (hn : n ≤ 14) (hok : chkA a = 0) (hP : ∀ k, k < a.P.length → (a.P.getD k ⟨#[]⟩).size ≤ maxLen) : DfaAt w vp vn vl (bldD a n V) := by
  have hle := allB_le (a := a) (V := V) hn
  have hp8 := (chkA_zero hok).1
  have hm : 2 ^ a.P.length ≤ 256 := pow_le hp8
  refine dfa_of_built h (show a.P.length ≤ _ by omega) hP (show (bldD a n V).R.length ≤ _ by rw [bldR_len]; omega) (fun i hi => ?_) (by simp; omega)
  have hi : i < (bldD a n V).R.length := hi
  rw [bldR_len] at hi
  show ((bldD a n V).R.getD i []).length ≤ _ ∧ ∀ k, k < ((bldD a n V).R.getD i []).length → _ ≤ ((bldD a n V).R.getD i []).getD k 0 ∧ ((bldD a n V).R.getD i []).getD k 0 ≤ _
  rw [bldR_row hi, numsB_len]
  refine ⟨by omega, fun k hk => ?_⟩
  obtain ⟨t, h1, -, h2, -⟩ := goes_num (V := V) (by omega) (live_row (by omega) hi) hk
  rw [h1]
  omega
theorem letters_take {w : World} {a : Option Addr} {cap : Nat} {U : List Nat} (h : LettersAt w (.slice a U.length cap) U) {k : Nat} (hk : k ≤ U.length) : LettersAt w (.slice a k cap) (U.take k) := by
  obtain ⟨a', cap', e, h1, h2, h3⟩ := h
  cases e
  have hl : (U.take k).length = k := by simp [hk]
  have hg : ∀ j, j < k → (U.take k).getD j 0 = U.getD j 0 := fun j hj => by
    rw [List.getD_eq_getElem?_getD, List.getD_eq_getElem?_getD, List.getElem?_take, if_pos hj]
  refine ⟨a, cap, by rw [hl], fun j hj => ?_, by omega, ?_⟩
  · rw [hl] at hj
    rw [hg j hj]
    exact h1 j (by omega)
  · rcases h3 with h3 | ⟨b, off, rfl, h3⟩
    · left; rw [h3]; simp
    · refine Or.inr ⟨b, off, rfl, fun j hj => ?_⟩
      rw [hl] at hj
      rw [hg j hj]
      exact h3 j (by omega)
set_option maxHeartbeats 4000000 in
theorem goes_any (vp vi ve vf vl vu : Value) (a : Aut) (A : List Int) (U : List Nat) (w : World) (h : AutAt w vp vi ve vf a) (hs : Short a.P) (hA : IntsAt w vl A) (hU : LettersAt w vu U) :
    Calls Try.prog 5 #[autV vp vi ve vf a.n, vl, vu] w fun e w' => e = .returned (.bool true) ∧ w.grownBy w' none := by
  have hg0 := World.grownBy_alloc w (.cells #[vp, .int .i64 a.n, vi, ve, vf] 47) none
  have HG0 := Lib.hid hg0
  have HB := Lib.hid (heap_alloc_new w (.cells #[vp, .int .i64 a.n, vi, ve, vf] 47))
  have HH := Lib.hid h
  have HFw := Lib.hid (few_any _ _ _ _ a _ (h.kept hg0) hs)
  have HCh : Hid (∀ wx, w.grownBy wx none → Calls Try.prog 21 #[autV vp vi ve vf a.n] wx fun e w' => e = .returned (.int .i64 (chkA a)) ∧ wx.grownBy w' none) := Lib.hid fun wx hx => refcheck10 _ _ _ _ a wx (h.kept hx)
  have HAt : Hid (∀ wx, w.grownBy wx none → IntsAt wx vl A) := Lib.hid fun wx hx => hA.kept hx
  have HUt : Hid (∀ wx, w.grownBy wx none → LettersAt wx vu U) := Lib.hid fun wx hx => hU.kept hx
  obtain ⟨ap, cp, rfl, -, -, hsz, -⟩ := h.p
  obtain ⟨ai, ci, rfl, -⟩ := h.i
  obtain ⟨ae, ce, rfl, -⟩ := h.e
  obtain ⟨af, cf, rfl, -⟩ := h.f
  obtain ⟨al, cl, rfl, -, hA1, -⟩ := hA
  obtain ⟨au, cu, rfl, -, hU1, -⟩ := hU
  clear h hg0
  unfold autV at HFw HCh ⊢
  by_cases c1 : fewF a = true
  case neg =>
    have c1f : fewF a = false := by simpa using c1
    rw [c1f] at HFw
    go_enter Try.func5, Try.ntmps5
    go_wp2_with fail
    refine HFw.out.mono ?_
    rintro e w1 ⟨rfl, hg1⟩
    have hg := gb_trans HG0.out hg1 (Or.inl rfl)
    obtain ⟨b0, b1, b2, b3, b4⟩ := buchi_cells (blk_kept HB.out hg1 (by simp))
    clear HH HCh HAt HUt HB HFw b0 b1 b2 b3 b4
    go_wp2
    go_ret
    exact ⟨rfl, hg⟩
  rw [c1] at HFw
  have hn14 : 0 ≤ a.n ∧ a.n ≤ 14 := by
    unfold fewF at c1
    simp only [Bool.and_eq_true, decide_eq_true_eq] at c1
    exact ⟨c1.1, c1.2.1⟩
  clear c1
  by_cases c2 : 1000 < A.length
  · have c2I : (1000 : Int) < (A.length : Int) := by omega
    go_enter Try.func5, Try.ntmps5
    go_wp2_with fail
    refine HFw.out.mono ?_
    rintro e w1 ⟨rfl, hg1⟩
    have hg := gb_trans HG0.out hg1 (Or.inl rfl)
    clear HH HCh HAt HUt HB HFw
    go_wp2
    go_ret
    exact ⟨rfl, hg⟩
  have c2I : ¬ (1000 : Int) < (A.length : Int) := by omega
  by_cases c3 : chkA a = 0
  case neg =>
    generalize chkA a = x at HCh c3
    have c3b : (x != 0) = true := by simpa using c3
    have c3d : decide (x = 0) = false := by simpa using c3
    have c3e : (x == 0) = false := by simpa using c3
    go_enter Try.func5, Try.ntmps5
    go_wp2_with fail
    refine HFw.out.mono ?_
    rintro e w1 ⟨rfl, hg1⟩
    have hg := gb_trans HG0.out hg1 (Or.inl rfl)
    obtain ⟨b0, b1, b2, b3, b4⟩ := buchi_cells (blk_kept HB.out hg1 (by simp))
    have HC := Lib.hid (HCh.out w1 hg)
    have HG := Lib.hid hg
    clear HH HCh HAt HUt HB HFw hg hg1
    go_wp2_with fail
    refine HC.out.mono ?_
    rintro e w2 ⟨rfl, hg2⟩
    go_wp2
    go_ret
    exact ⟨rfl, gb_trans HG.out hg2 (Or.inl rfl)⟩
  rw [c3] at HCh
  obtain ⟨n, hn⟩ := Int.eq_ofNat_of_zero_le hn14.1
  have hn' : n ≤ 14 := by omega
  have hP : Hid (∀ k, k < a.P.length → (a.P.getD k ⟨#[]⟩).size ≤ maxLen) := Lib.hid hsz
  have hp8 := (chkA_zero c3).1
  obtain ⟨V, HV⟩ : ∃ V, Hid (ofL n A = V) := ⟨_, rfl⟩
  have HR := Lib.hid (bld_right (V := V) hn' c3)
  have HOf : Hid (∀ wx, w.grownBy wx none → Calls Try.prog 22 #[.int .i64 (n : Int), .slice al A.length cl] wx (MadeH wx n V)) := Lib.hid fun wx hx => by
    rw [← HV.out]
    exact of_h n _ A wx (by omega) (HAt.out wx hx)
  have HBl : Hid (∀ (wx : World) (q g cap : Nat), w.grownBy wx none → SetAt wx q g cap n V → Calls Try.prog 23 #[.agg #[.slice ap a.P.length cp, .int .i64 (n : Int), .slice ai a.I.length ci, .slice ae a.E.length ce, .slice af a.F.length cf], .pointer (some ⟨q, 0, none⟩), .int .i64 1073741824] wx
      fun e w' => ∃ xp xn xl yp yn yl, e = .returned (.tuple #[.agg #[.slice xp a.P.length yp, .slice xn (allB a n V).length yn, .slice xl (allB a n V).length yl], .int .i64 0]) ∧ DfaAt w' (.slice xp a.P.length yp) (.slice xn (allB a n V).length yn) (.slice xl (allB a n V).length yl) (bldD a n V) ∧ wx.grownBy w' none) := Lib.hid fun wx q g cap hx hq => by
    have h1 := bld_yes _ _ _ _ a n hn hn' q g cap V 1073741824 (by decide) wx (HH.out.kept hx) hq c3
    unfold autV at h1
    rw [hn] at h1
    refine h1.mono ?_
    rintro e w' ⟨hg, ⟨hlt, -⟩ | ⟨-, vp, vn, vl, us, rfl, hb⟩⟩
    · have := allB_le (a := a) (V := V) hn'
      exfalso
      omega
    · have hd := bld_dfa hb hn' c3 hP.out
      have hb2 : (bldD a n V).B.length = (allB a n V).length := by simp [bldD]
      have hd' := hd
      obtain ⟨xp, yp, e1, -⟩ := hd'.p
      obtain ⟨xn, yn, e2, -⟩ := hd'.r
      obtain ⟨xl, yl, e3, -⟩ := hd'.b
      rw [bldR_len] at e2
      rw [hb2] at e3
      have e1 : vp = .slice xp a.P.length yp := e1
      subst e1 e2 e3
      exact ⟨_, _, _, _, _, _, rfl, hd, hg⟩
  rw [hn] at HB HFw HCh HG0 ⊢
  clear HH HAt hsz
  go_enter Try.func5, Try.ntmps5
  go_wp2_with fail
  refine HFw.out.mono ?_
  rintro e w1 ⟨rfl, hg1⟩
  have HG1 := Lib.hid (gb_trans HG0.out hg1 (Or.inl rfl))
  have HB1 := Lib.hid (blk_kept HB.out hg1 (by simp))
  obtain ⟨b0, b1, b2, b3, b4⟩ := buchi_cells HB1.out
  have HC := Lib.hid (HCh.out w1 HG1.out)
  clear HFw HB hg1 HG0 HCh
  go_wp2_with fail
  refine HC.out.mono ?_
  rintro e w2 ⟨rfl, hg2⟩
  have HG2 := Lib.hid (gb_trans HG1.out hg2 (Or.inl rfl))
  have HB2 := Lib.hid (blk_kept HB1.out hg2 (by simp))
  clear HC HB1 HG1 hg2 b0 b1 b2 b3 b4
  go_wp2_with fail
  refine (known_any w2).mono ?_
  rintro e w3 ⟨rfl, hg3⟩
  have HG3 := Lib.hid (gb_trans HG2.out hg3 (Or.inl rfl))
  have HB3 := Lib.hid (blk_kept HB2.out hg3 (by simp))
  obtain ⟨b0, b1, b2, b3, b4⟩ := buchi_cells HB3.out
  have HO := Lib.hid (HOf.out w3 HG3.out)
  clear HB2 HG2 hg3 HOf
  go_wp2_with fail
  refine HO.out.mono ?_
  rintro e w4 ⟨q, g, cap, M, rfl, hq, hgg, hS, hM, hg4⟩
  have HG4 := Lib.hid (gb_trans HG3.out hg4 (Or.inl rfl))
  have HB4 := Lib.hid (blk_kept HB3.out hg4 (by simp))
  obtain ⟨b0, b1, b2, b3, b4⟩ := buchi_cells HB4.out
  have hS : SetAt w4 q g cap n V := by rw [← hM.out]; exact hS
  have HO := Lib.hid (HBl.out w4 q g cap HG4.out hS)
  clear HB3 HG3 hg4 HBl hS hM hq hgg
  go_wp2_with fail
  refine HO.out.mono ?_
  rintro e w5 ⟨xp, xn, xl, yp, yn, yl, rfl, hd, hg5⟩
  have HG5 := Lib.hid (gb_trans HG4.out hg5 (Or.inl rfl))
  have HB5 := Lib.hid (blk_kept HB4.out hg5 (by simp))
  have HD5 := Lib.hid hd
  clear HB4 HG4 hg5 HO hd b0 b1 b2 b3 b4
  have hla := allB_le (a := a) (V := V) hn'
  have hlp : 0 < (allB a n V).length := growB_pos _
  obtain ⟨N, HN⟩ : ∃ N, Hid ((allB a n V).length = N) := ⟨_, rfl⟩
  rw [HN.out] at hla hlp HD5 ⊢
  go_wp2_with fail
  have hgd := World.grownBy_alloc w5 (.cells #[.slice xp a.P.length yp, .slice xn N yn, .slice xl N yl] 27) none
  have HDd := Lib.hid (heap_alloc_new w5 (.cells #[.slice xp a.P.length yp, .slice xn N yn, .slice xl N yl] 27))
  have HBd := Lib.hid (blk_kept HB5.out hgd (by simp))
  have HGd := Lib.hid (gb_trans HG5.out hgd (Or.inl rfl))
  have HDD := Lib.hid (HD5.out.kept hgd)
  clear hgd HB5 HG5 HD5
  generalize w5.alloc (.cells #[.slice xp a.P.length yp, .slice xn N yn, .slice xl N yl] 27) = wd at HDd HBd HGd HDD ⊢
  obtain ⟨mm, HMM⟩ : ∃ mm : Nat, Hid (2 ^ a.P.length = mm) := ⟨_, rfl⟩
  have hmm : 1 ≤ mm ∧ mm ≤ 256 := by rw [← HMM.out]; exact ⟨Nat.one_le_two_pow, pow_le hp8⟩
  obtain ⟨d0, d1, d2, -⟩ := dfa_cells HDd.out
  obtain ⟨_, _, e1, -, -, hrw⟩ := HDD.out.r
  have HRW : Hid (∃ b off, xn = some ⟨b, off, none⟩ ∧ ∀ k, k < N → ∃ c o y, wd.cell? ⟨b, off + k, none⟩ = some (.slice (some ⟨c, o, none⟩) mm y) ∧ ∀ l, l < mm → wd.cell? ⟨c, o + l, none⟩ = some (.int .i64 ((numsB a n V k).getD l 0))) := Lib.hid (by
    have hl := bldR_len (a := a) (n := n) (V := V)
    rw [HN.out] at hl
    cases e1
    rcases hrw with hrw | ⟨b, off, rfl, hrw⟩
    · rw [hrw] at hlp; exact absurd hlp (by simp)
    · refine ⟨b, off, rfl, fun k hk => ?_⟩
      obtain ⟨u, hu, hi⟩ := hrw k (by rw [hl]; exact hk)
      rw [bldR_row (by rw [HN.out]; exact hk)] at hi
      obtain ⟨c, y, rfl, -, -, hc⟩ := hi
      have hnl := numsB_len a n V k
      rw [HMM.out] at hnl
      rw [hnl] at hu hc
      rcases hc with hc | ⟨c, o, rfl, hc⟩
      · rw [hc] at hnl; simp at hnl; omega
      · exact ⟨c, o, y, hu, hc⟩)
  clear e1 hrw
  obtain ⟨bn, on, rfl, hrw⟩ := HRW.out
  have HRc := Lib.hid hrw
  clear HRW hrw
  go_loopg [11, 12] (N + 1) (fun gk m c wx => ∃ (i x : Nat), i + gk = N + 1 ∧ i ≤ N ∧ x ≤ N ∧ c = .int .i64 (i : Int) ∧ m = .int .i64 (x : Int) ∧ Hid (x + 1 = (growB a n V i).length) ∧ wx = wd)
  case atStart => exact ⟨0, 0, by omega, by omega, by omega, rfl, rfl, Lib.hid (live_zero (a := a) (n := n) (V := V)).symm, rfl⟩
  case round =>
    obtain ⟨i, x, hig, hiN, hxN, rfl, rfl, HX, rfl⟩ := hrel
    by_cases ci : i < N
    case neg =>
      obtain rfl : i = N := by omega
      have hend := live_end (a := a) (n := n) (V := V) (by omega) HN.out
      have hx1 : x + 1 = i := by rw [HX.out]; exact hend
      obtain ⟨b0, b1, b2, b3, b4⟩ := buchi_cells HBd.out
      have HL := Lib.hid (letters_any a.P.length hp8 _ U wr (HUt.out wr HGd.out))
      clear hend
      go_wp2_with fail
      refine HL.out.mono ?_
      rintro e w6 ⟨ar, cr, rfl, hcr, hv, hg6⟩
      have HLt := Lib.hid hv
      have HGl := Lib.hid hg6
      have hsm := letters_small a.P.length U
      have hKl := letters_len a.P.length U
      clear HL hv
      generalize lettersF a.P.length U = row at HLt hsm hKl hcr ⊢
      have HSm := Lib.hid hsm
      have hKle : row.length ≤ 40 := by omega
      obtain ⟨wd', rfl⟩ : ∃ wd' : World, wd' = wr := ⟨_, rfl⟩
      clear hg6 b0 b1 b2 b3 b4 hsm hKl HUt HBd d0 d1 d2
      go_wp2_with fail
      go_loopg [15] (row.length + 1) (fun gk c wx => ∃ (k : Nat), k + gk = row.length + 1 ∧ k ≤ row.length ∧ c = .int .i64 (k : Int) ∧ Hid (w6.grownBy wx none))
      case atStart => exact ⟨0, by omega, by omega, rfl, Lib.hid (gb_refl _ _)⟩
      case round =>
        obtain ⟨k, hkg, hkK, rfl, HG⟩ := hrel
        have HGw := Lib.hid (gb_trans HGl.out HG.out (Or.inl rfl))
        have HDw := Lib.hid (blk_kept HDd.out HGw.out (by simp))
        by_cases ck : k < row.length
        case neg =>
          obtain rfl : k = row.length := by omega
          obtain ⟨d0, d1, d2, -⟩ := dfa_cells HDw.out
          have hxx : ((i : Nat) : Int) - 1 = (x : Int) := by omega
          go_wp2_with fail
          go_ret
          exact ⟨by simp, gb_trans HGd.out HGw.out (Or.inl rfl)⟩
        have ckI : (k : Int) < (row.length : Int) := by omega
        obtain ⟨br, offr, rfl, hlet⟩ : ∃ b off, ar = some ⟨b, off, none⟩ ∧ ∀ k, k < row.length → w6.cell? ⟨b, off + k, none⟩ = some (.int .u16 ((row.getD k 0 : Nat) : Int)) := by
          obtain ⟨_, _, e1, -, -, h3⟩ := HLt.out
          cases e1
          rcases h3 with h3 | h3
          · rw [h3] at ck; cases ck
          · exact h3
        have HLc := Lib.hid (hlet k ck)
        obtain ⟨g1, g2, g3, g4⟩ := run_goes HR.out HSm.out ck
        obtain ⟨s1, HS1⟩ : ∃ s1, Hid (runS (bldD a n V) (row.take k) = s1) := ⟨_, rfl⟩
        obtain ⟨s2, HS2⟩ : ∃ s2, Hid (runS (bldD a n V) (row.take (k + 1)) = s2) := ⟨_, rfl⟩
        rw [HS1.out] at g3 g4
        rw [HS2.out] at g4
        rw [bldR_len] at g3
        rw [bldR_row g3] at g4
        rw [HN.out] at g3
        have HR1 : Hid (∀ wx, w6.grownBy wx none → Calls Try.prog 12 #[.agg #[.slice xp a.P.length yp, .slice (some ⟨bn, on, none⟩) i yn, .slice xl i yl], .slice (some ⟨br, offr, none⟩) k cr] wx fun e w' => e = .returned (.tuple #[.int .i64 (s1 : Int), .int .i64 0]) ∧ wx.grownBy w' none) := Lib.hid fun wx hx => by
          have h1 := drun_any _ _ _ _ (bldD a n V) (row.take k) wx (HDD.out.kept (gb_trans HGl.out hx (Or.inl rfl))) (letters_take (HLt.out.kept hx) hkK)
          rw [HS1.out, g1] at h1
          exact h1
        have HR2 : Hid (∀ wx, w6.grownBy wx none → Calls Try.prog 12 #[.agg #[.slice xp a.P.length yp, .slice (some ⟨bn, on, none⟩) i yn, .slice xl i yl], .slice (some ⟨br, offr, none⟩) (k + 1) cr] wx fun e w' => e = .returned (.tuple #[.int .i64 (s2 : Int), .int .i64 0]) ∧ wx.grownBy w' none) := Lib.hid fun wx hx => by
          have h1 := drun_any _ _ _ _ (bldD a n V) (row.take (k + 1)) wx (HDD.out.kept (gb_trans HGl.out hx (Or.inl rfl))) (letters_take (HLt.out.kept hx) ck)
          rw [HS2.out, g2] at h1
          exact h1
        have HG4 := Lib.hid g4
        have hsl := HSm.out k ck
        rw [HMM.out] at hsl
        generalize row.getD k 0 = u at HLc HG4 hsl
        have hkcr : k ≤ cr := by omega
        have hkcr1 : k + 1 ≤ cr := by omega
        have HSS : Hid (∀ wx, w6.grownBy wx none → w6.grownBy wx none ∧ wx.cell? ⟨w5.heap.size, 0, none⟩ = some (.slice xp a.P.length yp) ∧ wx.cell? ⟨w5.heap.size, 1, none⟩ = some (.slice (some ⟨bn, on, none⟩) i yn) ∧ wx.cell? ⟨w5.heap.size, 2, none⟩ = some (.slice xl i yl)) := Lib.hid fun wx hx => by
          obtain ⟨d0, d1, d2, -⟩ := dfa_cells (blk_kept HDd.out (gb_trans HGl.out hx (Or.inl rfl)) (by simp))
          exact ⟨hx, d0, d1, d2⟩
        obtain ⟨wo, rfl⟩ : ∃ wo : World, wo = wr := ⟨_, rfl⟩
        obtain ⟨go, rfl⟩ : ∃ go : Nat, go = gk := ⟨_, rfl⟩
        clear g1 g2 g4 hlet HDw HGw
        go_wp2_with fail
        have hS0 := HSS.out _ (gb_trans HG.out (gb_drew wo none) (Or.inl rfl))
        refine wp_region_held_drew (S := (fun wx => w6.grownBy wx none ∧ wx.cell? ⟨w5.heap.size, 0, none⟩ = some (.slice xp a.P.length yp) ∧ wx.cell? ⟨w5.heap.size, 1, none⟩ = some (.slice (some ⟨bn, on, none⟩) i yn) ∧ wx.cell? ⟨w5.heap.size, 2, none⟩ = some (.slice xl i yl))) (by kernel_rfl) (by exact hS0) (fun hHeld => ?_)
        refine wpAnyH_take (i := 0) (oi := ({ dst := some 114, op := Go.Op.load 27 (Go.Operand.tmp 9), type := 27, pos := "law.go:196", after := #[], guard := none } : Oper)) (v := ?_) rfl (by kernel_rfl) (by kernel_rfl) (by kernel_rfl) (fun _ _ _ h => h) (Or.inl ⟨by rfl, ?_⟩) (by assumption) ?_
        rotate_left
        · (intro wS hSw; (try dsimp only at hSw); go_simp <;> with_reducible rfl)
        try simp only [Act.put, List.setIfInBounds_toArray, List.set_cons_zero, List.set_cons_succ]
        refine wpAnyH_take (i := 1) (oi := ({ dst := some 115, op := Go.Op.move (Go.Operand.tmp 14), type := 28, pos := "law.go:196", after := #[], guard := none } : Oper)) (v := ?_) rfl (by kernel_rfl) (by kernel_rfl) (by kernel_rfl) (fun _ _ _ h => h) (Or.inl ⟨by rfl, ?_⟩) (by assumption) ?_
        rotate_left
        · (intro wS hSw; (try dsimp only at hSw); go_simp <;> with_reducible rfl)
        try simp only [Act.put, List.setIfInBounds_toArray, List.set_cons_zero, List.set_cons_succ]
        refine wpAnyH_take (i := 2) (oi := ({ dst := some 116, op := Go.Op.move (Go.Operand.tmp 15), type := 3, pos := "law.go:196", after := #[], guard := none } : Oper)) (v := ?_) rfl (by kernel_rfl) (by kernel_rfl) (by kernel_rfl) (fun _ _ _ h => h) (Or.inl ⟨by rfl, ?_⟩) (by assumption) ?_
        rotate_left
        · (intro wS hSw; (try dsimp only at hSw); go_simp <;> with_reducible rfl)
        try simp only [Act.put, List.setIfInBounds_toArray, List.set_cons_zero, List.set_cons_succ]
        refine wpAnyH_take (i := 3) (oi := ({ dst := some 117, op := Go.Op.slice 28 (Go.Operand.tmp 115) none (some (Go.Operand.tmp 116)) none, type := 28, pos := "law.go:196", after := #[{ on := 1, ground := Go.Ground.data }, { on := 2, ground := Go.Ground.data }], guard := none } : Oper)) (v := ?_) rfl (by kernel_rfl) (by kernel_rfl) (by kernel_rfl) (fun _ _ _ h => h) (Or.inl ⟨by rfl, ?_⟩) (by assumption) ?_
        rotate_left
        · (intro wS hSw; (try dsimp only at hSw); go_simp <;> with_reducible rfl)
        try simp only [Act.put, List.setIfInBounds_toArray, List.set_cons_zero, List.set_cons_succ]
        refine wpAnyH_ready (rs := [4]) (by kernel_rfl) (by simp) ?_
        refine AllReadyH.cons (o := ({ dst := some 118, op := Go.Op.call { callee := Go.Callee.value (Go.Operand.func 12), args := #[Go.Operand.tmp 114, Go.Operand.tmp 117], argTypes := #[27, 28] }, type := 34, pos := "law.go:196", after := #[{ on := 0, ground := Go.Ground.data }, { on := 3, ground := Go.Ground.data }], guard := none } : Oper)) rfl (fun K hK => ?_) AllReadyH.nil
        go_simp
        ((with_reducible refine (HR1.out _ (And.left (by assumption))).mono ?_); rintro e wn26 ⟨rfl, hgn⟩; have hSn := HSS.out _ (gb_trans (And.left (by assumption)) hgn (Or.inl rfl)); clear hgn)
        refine hK.out _ _ (by exact hSn) (fun hHeld => ?_)
        clear hK K
        try simp only [Act.put, List.setIfInBounds_toArray, List.set_cons_zero, List.set_cons_succ]
        refine wpAnyH_take (i := 5) (oi := ({ dst := some 113, op := Go.Op.move (Go.Operand.tmp 118), type := 34, pos := "law.go:196", after := #[{ on := 4, ground := Go.Ground.data }], guard := none } : Oper)) (v := ?_) rfl (by kernel_rfl) (by kernel_rfl) (by kernel_rfl) (fun _ _ _ h => h) (Or.inl ⟨by rfl, ?_⟩) (by assumption) ?_
        rotate_left
        · (intro wS hSw; (try dsimp only at hSw); go_simp <;> with_reducible rfl)
        try simp only [Act.put, List.setIfInBounds_toArray, List.set_cons_zero, List.set_cons_succ]
        refine wpAnyH_take (i := 6) (oi := ({ dst := some 119, op := Go.Op.extract (Go.Operand.tmp 113) 0, type := 3, pos := "law.go:196", after := #[{ on := 5, ground := Go.Ground.data }], guard := none } : Oper)) (v := ?_) rfl (by kernel_rfl) (by kernel_rfl) (by kernel_rfl) (fun _ _ _ h => h) (Or.inl ⟨by rfl, ?_⟩) (by assumption) ?_
        rotate_left
        · (intro wS hSw; (try dsimp only at hSw); go_simp <;> with_reducible rfl)
        try simp only [Act.put, List.setIfInBounds_toArray, List.set_cons_zero, List.set_cons_succ]
        refine wpAnyH_take (i := 7) (oi := ({ dst := some 120, op := Go.Op.extract (Go.Operand.tmp 113) 1, type := 33, pos := "law.go:196", after := #[{ on := 5, ground := Go.Ground.data }, { on := 8, ground := Go.Ground.gcOnly Go.Departure.lateStores }], guard := none } : Oper)) (v := ?_) rfl (by kernel_rfl) (by kernel_rfl) (by kernel_rfl) (fun _ _ _ h => h) (Or.inl ⟨by rfl, ?_⟩) (by assumption) ?_
        rotate_left
        · (intro wS hSw; (try dsimp only at hSw); go_simp <;> with_reducible rfl)
        try simp only [Act.put, List.setIfInBounds_toArray, List.set_cons_zero, List.set_cons_succ]
        refine wpAnyH_take (i := 8) (oi := ({ dst := some 16, op := Go.Op.assign (Go.Operand.tmp 119), type := 3, pos := "law.go:196", after := #[{ on := 6, ground := Go.Ground.data }, { on := 4, ground := Go.Ground.chain }, { on := 0, ground := Go.Ground.phase }, { on := 1, ground := Go.Ground.phase }, { on := 2, ground := Go.Ground.phase }, { on := 3, ground := Go.Ground.phase }, { on := 4, ground := Go.Ground.phase }, { on := 5, ground := Go.Ground.phase }, { on := 6, ground := Go.Ground.phase }, { on := 7, ground := Go.Ground.textOnly Go.Departure.lateStores }], guard := none } : Oper)) (v := ?_) rfl (by kernel_rfl) (by kernel_rfl) (by kernel_rfl) (fun _ _ _ h => h) (Or.inl ⟨by rfl, ?_⟩) (by assumption) ?_
        rotate_left
        · (intro wS hSw; (try dsimp only at hSw); go_simp <;> with_reducible rfl)
        try simp only [Act.put, List.setIfInBounds_toArray, List.set_cons_zero, List.set_cons_succ]
        refine wpAnyH_take (i := 9) (oi := ({ dst := some 17, op := Go.Op.assign (Go.Operand.tmp 120), type := 33, pos := "law.go:196", after := #[{ on := 7, ground := Go.Ground.data }, { on := 8, ground := Go.Ground.chain }, { on := 0, ground := Go.Ground.phase }, { on := 1, ground := Go.Ground.phase }, { on := 2, ground := Go.Ground.phase }, { on := 3, ground := Go.Ground.phase }, { on := 4, ground := Go.Ground.phase }, { on := 5, ground := Go.Ground.phase }, { on := 6, ground := Go.Ground.phase }, { on := 7, ground := Go.Ground.phase }, { on := 8, ground := Go.Ground.phase }], guard := none } : Oper)) (v := ?_) rfl (by kernel_rfl) (by kernel_rfl) (by kernel_rfl) (fun _ _ _ h => h) (Or.inl ⟨by rfl, ?_⟩) (by assumption) ?_
        rotate_left
        · (intro wS hSw; (try dsimp only at hSw); go_simp <;> with_reducible rfl)
        try simp only [Act.put, List.setIfInBounds_toArray, List.set_cons_zero, List.set_cons_succ]
        refine wpAnyH_done (by kernel_rfl) ?_ _
        have HS26 := Lib.hid hSn
        clear hSn hS0 hHeld
        go_wp2_with fail
        have hS0 := HSS.out _ (gb_trans HS26.out.1 (gb_drew wn26 none) (Or.inl rfl))
        have hw1 : IntKind.i64.wrap ((k : Int) + 1) = (k : Int) + 1 := IntWalk.i64_in _ (by omega)
        have hw2 : (0 : Int) ≤ (k : Int) + 1 := by omega
        have hw3 : ((k : Int) + 1).toNat = k + 1 := by omega
        have hw4 : (k : Int) + 1 ≤ (cr : Int) := by omega
        refine wp_region_held_drew (S := (fun wx => w6.grownBy wx none ∧ wx.cell? ⟨w5.heap.size, 0, none⟩ = some (.slice xp a.P.length yp) ∧ wx.cell? ⟨w5.heap.size, 1, none⟩ = some (.slice (some ⟨bn, on, none⟩) i yn) ∧ wx.cell? ⟨w5.heap.size, 2, none⟩ = some (.slice xl i yl))) (by kernel_rfl) (by exact hS0) (fun hHeld => ?_)
        refine wpAnyH_take (i := 0) (oi := ({ dst := some 122, op := Go.Op.load 27 (Go.Operand.tmp 9), type := 27, pos := "law.go:197", after := #[], guard := none } : Oper)) (v := ?_) rfl (by kernel_rfl) (by kernel_rfl) (by kernel_rfl) (fun _ _ _ h => h) (Or.inl ⟨by rfl, ?_⟩) (by assumption) ?_
        rotate_left
        · (intro wS hSw; (try dsimp only at hSw); go_simp <;> with_reducible rfl)
        try simp only [Act.put, List.setIfInBounds_toArray, List.set_cons_zero, List.set_cons_succ]
        refine wpAnyH_take (i := 1) (oi := ({ dst := some 123, op := Go.Op.move (Go.Operand.tmp 14), type := 28, pos := "law.go:197", after := #[], guard := none } : Oper)) (v := ?_) rfl (by kernel_rfl) (by kernel_rfl) (by kernel_rfl) (fun _ _ _ h => h) (Or.inl ⟨by rfl, ?_⟩) (by assumption) ?_
        rotate_left
        · (intro wS hSw; (try dsimp only at hSw); go_simp <;> with_reducible rfl)
        try simp only [Act.put, List.setIfInBounds_toArray, List.set_cons_zero, List.set_cons_succ]
        refine wpAnyH_take (i := 2) (oi := ({ dst := some 124, op := Go.Op.move (Go.Operand.tmp 15), type := 3, pos := "law.go:197", after := #[], guard := none } : Oper)) (v := ?_) rfl (by kernel_rfl) (by kernel_rfl) (by kernel_rfl) (fun _ _ _ h => h) (Or.inl ⟨by rfl, ?_⟩) (by assumption) ?_
        rotate_left
        · (intro wS hSw; (try dsimp only at hSw); go_simp <;> with_reducible rfl)
        try simp only [Act.put, List.setIfInBounds_toArray, List.set_cons_zero, List.set_cons_succ]
        refine wpAnyH_take (i := 3) (oi := ({ dst := some 125, op := Go.Op.binOp Go.BinOp.add 3 (Go.Operand.tmp 124) (Go.Operand.const (Go.Value.int Go.IntKind.i64 1)) 3, type := 3, pos := "law.go:197", after := #[{ on := 2, ground := Go.Ground.data }], guard := none } : Oper)) (v := ?_) rfl (by kernel_rfl) (by kernel_rfl) (by kernel_rfl) (fun _ _ _ h => h) (Or.inl ⟨by rfl, ?_⟩) (by assumption) ?_
        rotate_left
        · (intro wS hSw; (try dsimp only at hSw); go_simp <;> with_reducible rfl)
        try simp only [Act.put, List.setIfInBounds_toArray, List.set_cons_zero, List.set_cons_succ]
        refine wpAnyH_take (i := 4) (oi := ({ dst := some 126, op := Go.Op.slice 28 (Go.Operand.tmp 123) none (some (Go.Operand.tmp 125)) none, type := 28, pos := "law.go:197", after := #[{ on := 1, ground := Go.Ground.data }, { on := 3, ground := Go.Ground.data }], guard := none } : Oper)) (v := ?_) rfl (by kernel_rfl) (by kernel_rfl) (by kernel_rfl) (fun _ _ _ h => h) (Or.inl ⟨by rfl, ?_⟩) (by assumption) ?_
        rotate_left
        · (intro wS hSw; (try dsimp only at hSw); go_simp <;> with_reducible rfl)
        try simp only [Act.put, List.setIfInBounds_toArray, List.set_cons_zero, List.set_cons_succ]
        refine wpAnyH_ready (rs := [5]) (by kernel_rfl) (by simp) ?_
        refine AllReadyH.cons (o := ({ dst := some 127, op := Go.Op.call { callee := Go.Callee.value (Go.Operand.func 12), args := #[Go.Operand.tmp 122, Go.Operand.tmp 126], argTypes := #[27, 28] }, type := 34, pos := "law.go:197", after := #[{ on := 0, ground := Go.Ground.data }, { on := 4, ground := Go.Ground.data }], guard := none } : Oper)) rfl (fun K hK => ?_) AllReadyH.nil
        go_simp
        ((with_reducible refine (HR2.out _ (And.left (by assumption))).mono ?_); rintro e wn27 ⟨rfl, hgn⟩; have hSn := HSS.out _ (gb_trans (And.left (by assumption)) hgn (Or.inl rfl)); clear hgn)
        refine hK.out _ _ (by exact hSn) (fun hHeld => ?_)
        clear hK K
        try simp only [Act.put, List.setIfInBounds_toArray, List.set_cons_zero, List.set_cons_succ]
        refine wpAnyH_take (i := 6) (oi := ({ dst := some 121, op := Go.Op.move (Go.Operand.tmp 127), type := 34, pos := "law.go:197", after := #[{ on := 5, ground := Go.Ground.data }], guard := none } : Oper)) (v := ?_) rfl (by kernel_rfl) (by kernel_rfl) (by kernel_rfl) (fun _ _ _ h => h) (Or.inl ⟨by rfl, ?_⟩) (by assumption) ?_
        rotate_left
        · (intro wS hSw; (try dsimp only at hSw); go_simp <;> with_reducible rfl)
        try simp only [Act.put, List.setIfInBounds_toArray, List.set_cons_zero, List.set_cons_succ]
        refine wpAnyH_take (i := 7) (oi := ({ dst := some 128, op := Go.Op.extract (Go.Operand.tmp 121) 0, type := 3, pos := "law.go:197", after := #[{ on := 6, ground := Go.Ground.data }], guard := none } : Oper)) (v := ?_) rfl (by kernel_rfl) (by kernel_rfl) (by kernel_rfl) (fun _ _ _ h => h) (Or.inl ⟨by rfl, ?_⟩) (by assumption) ?_
        rotate_left
        · (intro wS hSw; (try dsimp only at hSw); go_simp <;> with_reducible rfl)
        try simp only [Act.put, List.setIfInBounds_toArray, List.set_cons_zero, List.set_cons_succ]
        refine wpAnyH_take (i := 8) (oi := ({ dst := some 129, op := Go.Op.extract (Go.Operand.tmp 121) 1, type := 33, pos := "law.go:197", after := #[{ on := 6, ground := Go.Ground.data }, { on := 9, ground := Go.Ground.gcOnly Go.Departure.lateStores }], guard := none } : Oper)) (v := ?_) rfl (by kernel_rfl) (by kernel_rfl) (by kernel_rfl) (fun _ _ _ h => h) (Or.inl ⟨by rfl, ?_⟩) (by assumption) ?_
        rotate_left
        · (intro wS hSw; (try dsimp only at hSw); go_simp <;> with_reducible rfl)
        try simp only [Act.put, List.setIfInBounds_toArray, List.set_cons_zero, List.set_cons_succ]
        refine wpAnyH_take (i := 9) (oi := ({ dst := some 18, op := Go.Op.assign (Go.Operand.tmp 128), type := 3, pos := "law.go:197", after := #[{ on := 7, ground := Go.Ground.data }, { on := 5, ground := Go.Ground.chain }, { on := 0, ground := Go.Ground.phase }, { on := 1, ground := Go.Ground.phase }, { on := 2, ground := Go.Ground.phase }, { on := 3, ground := Go.Ground.phase }, { on := 4, ground := Go.Ground.phase }, { on := 5, ground := Go.Ground.phase }, { on := 6, ground := Go.Ground.phase }, { on := 7, ground := Go.Ground.phase }, { on := 8, ground := Go.Ground.textOnly Go.Departure.lateStores }], guard := none } : Oper)) (v := ?_) rfl (by kernel_rfl) (by kernel_rfl) (by kernel_rfl) (fun _ _ _ h => h) (Or.inl ⟨by rfl, ?_⟩) (by assumption) ?_
        rotate_left
        · (intro wS hSw; (try dsimp only at hSw); go_simp <;> with_reducible rfl)
        try simp only [Act.put, List.setIfInBounds_toArray, List.set_cons_zero, List.set_cons_succ]
        refine wpAnyH_take (i := 10) (oi := ({ dst := some 19, op := Go.Op.assign (Go.Operand.tmp 129), type := 33, pos := "law.go:197", after := #[{ on := 8, ground := Go.Ground.data }, { on := 9, ground := Go.Ground.chain }, { on := 0, ground := Go.Ground.phase }, { on := 1, ground := Go.Ground.phase }, { on := 2, ground := Go.Ground.phase }, { on := 3, ground := Go.Ground.phase }, { on := 4, ground := Go.Ground.phase }, { on := 5, ground := Go.Ground.phase }, { on := 6, ground := Go.Ground.phase }, { on := 7, ground := Go.Ground.phase }, { on := 8, ground := Go.Ground.phase }, { on := 9, ground := Go.Ground.phase }], guard := none } : Oper)) (v := ?_) rfl (by kernel_rfl) (by kernel_rfl) (by kernel_rfl) (fun _ _ _ h => h) (Or.inl ⟨by rfl, ?_⟩) (by assumption) ?_
        rotate_left
        · (intro wS hSw; (try dsimp only at hSw); go_simp <;> with_reducible rfl)
        try simp only [Act.put, List.setIfInBounds_toArray, List.set_cons_zero, List.set_cons_succ]
        refine wpAnyH_done (by kernel_rfl) ?_ _
        have HG27 := Lib.hid hSn.1
        clear hSn hS0 hHeld HS26 hw1 hw2 hw3 hw4
        go_wp2_with fail
        have hgd := gb_trans HGl.out HG27.out (Or.inl rfl)
        obtain ⟨d0, d1, d2, -⟩ := dfa_cells (blk_kept HDd.out hgd (by simp))
        obtain ⟨cb, co, cyy, hcell, hnums⟩ := HRc.out s1 g3
        have e1 := hgd.cell hcell (by simp)
        have e2 := hgd.cell (hnums u hsl) (by simp)
        rw [HG4.out] at e2
        have e3 := HG27.out.cell HLc.out (by simp)
        have g3I : (s1 : Int) < (i : Int) := by omega
        have huI : (u : Int) < (mm : Int) := by omega
        clear hcell hnums hgd
        go_quiet (fail)
        go_wp2_with fail
        go_roundg (go - 1)
        case measure => omega
        case rel => exact ⟨k + 1, by omega, by omega, by go_num, Lib.hid (gb_trans HG27.out (gb_drewN _ _ none) (Or.inl rfl))⟩
    have ciI : (i : Int) < (N : Int) := by omega
    have HLr : Hid (i < (growB a n V i).length) := Lib.hid (live_row (by omega) (by rw [HN.out]; exact ci))
    obtain ⟨cb, co, cy, hcell, hnums⟩ := HRc.out i ci
    have HNm := Lib.hid hnums
    clear hnums
    go_wp2_with fail
    obtain ⟨wo, rfl⟩ : ∃ wo : World, wo = wr := ⟨_, rfl⟩
    obtain ⟨go, rfl⟩ : ∃ go : Nat, go = gk := ⟨_, rfl⟩
    go_loopg [11, 13] (mm + 1) (fun gk m c wx => ∃ (l y : Nat), l + gk = mm + 1 ∧ l ≤ mm ∧ y ≤ N ∧ c = .int .i64 (l : Int) ∧ m = .int .i64 (y : Int) ∧ Hid (y + 1 = (growL a n V i l).length) ∧ wx = wo)
    case atStart => exact ⟨0, x, by omega, by omega, by omega, rfl, rfl, Lib.hid HX.out, rfl⟩
    case round =>
      obtain ⟨l, y, hlg, hlm, hyN, rfl, rfl, HY, rfl⟩ := hrel
      by_cases cl : l < mm
      case neg =>
        obtain rfl : l = mm := by omega
        have hy1 : y + 1 = (growB a n V (i + 1)).length := by rw [← growL_end HLr.out, HMM.out]; exact HY.out
        have hre := row_end (a := a) (n := n) (V := V) (by omega) i
        rw [HN.out, ← hy1] at hre
        have HY1 := Lib.hid hy1
        clear hy1
        by_cases cy : y < i + 1
        · have cyI : (y : Int) < (i : Int) + 1 := by omega
          have cN : ¬ (i : Int) + 1 < (N : Int) := by omega
          go_wp2_with fail
          go_roundg (go - 1)
          case measure => omega
          case rel => exact ⟨i + 1, y, by omega, by omega, by omega, by go_num, rfl, HY1, rfl⟩
        · have cyI : ¬ (y : Int) < (i : Int) + 1 := by omega
          go_wp2_with fail
          go_roundg (go - 1)
          case measure => omega
          case rel => exact ⟨i + 1, y, by omega, by omega, by omega, by go_num, rfl, HY1, rfl⟩
      have clI : (l : Int) < (mm : Int) := by omega
      obtain ⟨t, ht1, ht2, ht3, ht4⟩ := goes_num (a := a) (n := n) (V := V) (by omega) HLr.out (show l < 2 ^ a.P.length by rw [HMM.out]; exact cl)
      rw [← HY.out] at ht2 ht4
      rw [HN.out] at ht3
      have hcx := HNm.out l cl
      rw [ht1] at hcx
      have hng : ¬ (y : Int) + 1 < (t : Int) := by omega
      have HT4 := Lib.hid ht4
      obtain ⟨gi, rfl⟩ : ∃ gi : Nat, gi = gk := ⟨_, rfl⟩
      clear ht1 ht4
      by_cases ct : t ≤ y
      · have ctI : (t : Int) ≤ (y : Int) := by omega
        have ctm : max (y : Int) (t : Int) = (y : Int) := by omega
        go_wp2_with fail
        go_roundg (gi - 1)
        case measure => omega
        case rel => exact ⟨l + 1, y, by omega, by omega, by omega, by go_num, by go_num, Lib.hid (by rw [HT4.out]; omega), rfl⟩
      · obtain rfl : t = y + 1 := by omega
        have ctI : ¬ ((y : Int) + 1) ≤ (y : Int) := by omega
        have ctm : max (y : Int) ((y : Int) + 1) = (y : Int) + 1 := by omega
        go_wp2_with fail
        go_roundg (gi - 1)
        case measure => omega
        case rel => exact ⟨l + 1, y + 1, by omega, by omega, by omega, by go_num, by go_num, Lib.hid (by rw [HT4.out]; omega), rfl⟩
end Go.Proofs.Ytcdepblajobemaa
