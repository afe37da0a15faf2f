/- Dfa: the law of Run, Has, Check: its walk. -/
import Derived.Test.YtcdepblajobemaaDfaRuns
import Derived.Test.YtcdepblajobemaaDfaHeldL
set_option maxRecDepth 100000
namespace Go.Proofs.Ytcdepblajobemaa
open Go.RowKit

theorem inat_cells {w : World} {Y bi N nb : Nat} {xp xn xl vx : Value} {P : List ByteArray} {U : List Nat} (h : InAt w Y bi xp xn xl vx P N nb U) : w.cell? ⟨bi, 0, none⟩ = some xp ∧ w.cell? ⟨bi, 1, none⟩ = some xn ∧ w.cell? ⟨bi, 2, none⟩ = some xl := S3 h.box
set_option maxHeartbeats 8000000 in
theorem runs_walk (vp vn vl vu : Value) (d : Dfa) (U : List Nat) (w : World) (h : DfaAt w vp vn vl d) (hs : Short d.P) (hU : LettersAt w vu U) (q1 : capN (sizes d.P) ≤ 10000) (q2 : capN (lens d.R) ≤ 100000) (q3 : d.B.length ≤ 100000) (q4 : U.length ≤ 10000) :
    Calls Try.prog 4 #[.agg #[vp, vn, vl], vu] w fun e w' => e = .returned (.bool true) ∧ w.grownBy w' none := by
  have HF := Lib.hid (few_of q1 q2 q3)
  have HDd := Lib.hid h
  have HDu := Lib.hid hU
  have hg0 := World.grownBy_alloc w (.cells #[vp, vn, vl] 27) none
  have HG := Lib.hid hg0
  have HBx := Lib.hid (heap_alloc_new w (.cells #[vp, vn, vl] 27))
  have HT := Lib.hid (oftexts_any (h.p.kept hg0) hs)
  have HR := Lib.hid (ofrows_any (h.r.kept hg0))
  have k0 := cell3_0 w vp vn vl 27
  have k1 := cell3_1 w vp vn vl 27
  have k2 := cell3_2 w vp vn vl 27
  have HPl : Hid (d.P.length ≤ 17592186043904 ∧ ∀ k, k < d.P.length → (d.P.getD k ⟨#[]⟩).size ≤ maxLen) := by
    obtain ⟨_, _, _, _, h1, h2, _⟩ := h.p
    exact Lib.hid ⟨h1, h2⟩
  -- the document's calls of d and u, and the program's of what is lent
  have HRef : Hid (∀ wx, w.grownBy wx none → Calls Try.prog 17 #[.agg #[vp, vn, vl], vu] wx fun e w' => e = .returned (.tuple #[.int .i64 (runS d U : Int), .int .i64 (runC d U)]) ∧ wx.grownBy w' none) := Lib.hid fun wx hx => refrun13 vp vn vl vu d U wx (HDd.out.kept hx) (HDu.out.kept hx)
  have HReh : Hid (∀ wx, w.grownBy wx none → Calls Try.prog 18 #[.agg #[vp, vn, vl], vu] wx fun e w' => e = .returned (.tuple #[.bool (hasV d U), .int .i64 (runC d U)]) ∧ wx.grownBy w' none) := Lib.hid fun wx hx => refhas13 vp vn vl vu d U wx (HDd.out.kept hx) (HDu.out.kept hx)
  have HRec : Hid (∀ wx, w.grownBy wx none → Calls Try.prog 19 #[.agg #[vp, vn, vl]] wx fun e w' => e = .returned (.int .i64 (dErr d)) ∧ wx.grownBy w' none) := Lib.hid fun wx hx => refcheck13 vp vn vl d wx (HDd.out.kept hx)
  have HRun : Hid (∀ wx xp xn xl vx, DfaAt wx xp xn xl d → LettersAt wx vx U → Calls Try.prog 12 #[.agg #[xp, xn, xl], vx] wx fun e w' => e = .returned (.tuple #[.int .i64 (runS d U : Int), .int .i64 (runC d U)]) ∧ wx.grownBy w' none) := Lib.hid fun wx xp xn xl vx h1 h2 => drun_any xp xn xl vx d U wx h1 h2
  have HHas : Hid (∀ wx xp xn xl vx, DfaAt wx xp xn xl d → LettersAt wx vx U → Calls Try.prog 13 #[.agg #[xp, xn, xl], vx] wx fun e w' => e = .returned (.tuple #[.bool (hasV d U), .int .i64 (runC d U)]) ∧ wx.grownBy w' none) := Lib.hid fun wx xp xn xl vx h1 h2 => dhas_any xp xn xl vx d U wx h1 h2
  have HChk : Hid (∀ wx xp xn xl, DfaAt wx xp xn xl d → Calls Try.prog 14 #[.agg #[xp, xn, xl]] wx fun e w' => e = .returned (.int .i64 (dErr d)) ∧ wx.grownBy w' none) := Lib.hid fun wx xp xn xl h1 => right_any xp xn xl d wx h1
  have HLent : Hid (∀ wx, w.grownBy wx none → Calls Try.prog 10 #[.agg #[vp, vn, vl]] wx fun e w' => ∃ xp yp xn yn xl yl, e = .returned (.agg #[.slice xp d.P.length yp, .slice xn d.R.length yn, .slice xl d.B.length yl]) ∧ LentD w' wx.heap.size (.slice xp d.P.length yp) (.slice xn d.R.length yn) (.slice xl d.B.length yl) d ∧ wx.grownBy w' none) := Lib.hid fun wx hx => lent_dfa (HDd.out.kept hx) HF.out
  have HLenx : Hid (∀ wx, w.grownBy wx none → Calls Try.prog 11 #[vu] wx fun e w' => ∃ v', e = .returned v' ∧ LentLetters w' wx.heap.size v' U ∧ wx.grownBy w' none) := Lib.hid fun wx hx => lent_letters (HDu.out.kept hx) (by omega)
  have HWd : Hid (∀ wx Y xp xn xl, w.grownBy wx none → LentD wx Y xp xn xl d → Calls Try.prog 15 #[.agg #[xp, xn, xl], .agg #[vp, vn, vl]] wx fun e w' => e = .returned (.bool true) ∧ wx.grownBy w' none) := Lib.hid fun wx Y xp xn xl hx hl => whole_dfa hl (HDd.out.kept hx)
  have HWx : Hid (∀ wx Y vx, w.grownBy wx none → LentLetters wx Y vx U → Calls Try.prog 16 #[vx, vu] wx fun e w' => e = .returned (.bool true) ∧ wx.grownBy w' none) := Lib.hid fun wx Y vx hx hl => whole_letters hl (HDu.out.kept hx)
  obtain ⟨ap, cp, rfl, -⟩ := h.p
  obtain ⟨an, cn, rfl, -⟩ := h.r
  obtain ⟨al, cl, rfl, -⟩ := h.b
  obtain ⟨au, cu, rfl, -⟩ := hU
  clear h hg0 hs HF
  generalize capN (sizes d.P) = x at HT q1
  generalize capN (lens d.R) = y at HR q2
  generalize runS d U = rs at HRef HRun
  generalize runC d U = rc at HRef HRun HReh HHas
  generalize hasV d U = rh at HReh HHas
  generalize dErr d = re at HRec HChk
  go_enter Try.func4, Try.ntmps4
  go_wp2_with (first | (go_at_call 8; refine HT.out.mono ?_; rintro e w1 ⟨rfl, _, rfl⟩) | (go_at_call 9; refine HR.out.mono ?_; rintro e w1 ⟨rfl, _, rfl⟩))
  generalize w.alloc (.cells #[.slice ap d.P.length cp, .slice an d.R.length cn, .slice al d.B.length cl] 27) = w0 at HG HBx ⊢
  clear HT HR k0 k1 k2
  refine (known_any w0).mono ?_
  rintro e w1 ⟨rfl, hg⟩
  replace HG := Lib.hid (gb_trans HG.out hg (Or.inl rfl))
  replace HBx := Lib.hid (blk_kept HBx.out hg (by simp))
  clear hg
  obtain ⟨b0, b1, b2⟩ := S3 HBx.out
  go_wp2_with fail
  have HZ1 := Lib.hid HG.out.size
  refine (HLent.out _ HG.out).mono ?_
  rintro e w2 ⟨xp, yp, xn, yn, xl, yl, rfl, hl, hg⟩
  have HLd := Lib.hid (show LentD w2 w.heap.size (.slice xp d.P.length yp) (.slice xn d.R.length yn) (.slice xl d.B.length yl) d from ⟨hl.p.base HZ1.out, hl.n.base HZ1.out, hl.b.base HZ1.out⟩)
  clear hl b0 b1 b2 HZ1
  replace HG := Lib.hid (gb_trans HG.out hg (Or.inl rfl))
  replace HBx := Lib.hid (blk_kept HBx.out hg (by simp))
  clear hg
  have hga := World.grownBy_alloc w2 (.cells #[.slice xp d.P.length yp, .slice xn d.R.length yn, .slice xl d.B.length yl] 27) none
  have HBi := Lib.hid (heap_alloc_new w2 (.cells #[.slice xp d.P.length yp, .slice xn d.R.length yn, .slice xl d.B.length yl] 27))
  have HBl := Lib.hid HG.out.size
  replace HLd := Lib.hid (HLd.out.kept hga)
  replace HG := Lib.hid (gb_trans HG.out hga (Or.inl rfl))
  replace HBx := Lib.hid (blk_kept HBx.out hga (by simp))
  clear hga
  go_wp2_with fail
  generalize w2.alloc (.cells #[.slice xp d.P.length yp, .slice xn d.R.length yn, .slice xl d.B.length yl] 27) = w3 at HLd HBi HG HBx ⊢
  generalize w2.heap.size = bi at HBi HBl ⊢
  have HZ1 := Lib.hid HG.out.size
  refine (HLenx.out _ HG.out).mono ?_
  rintro e w4 ⟨vx, rfl, hl, hg⟩
  obtain ⟨ax, nx, cx, rfl⟩ : ∃ a n c, vx = .slice a n c := by obtain ⟨g, c, e, _⟩ := hl; exact ⟨_, _, _, e⟩
  have HLx := Lib.hid (show LentLetters w4 w.heap.size (.slice ax nx cx) U by obtain ⟨g, c, e, h1, h2, h3⟩ := hl; exact ⟨g, c, e, h1, h2, own_base h3 HZ1.out⟩)
  clear hl HZ1
  replace HG := Lib.hid (gb_trans HG.out hg (Or.inl rfl))
  replace HBx := Lib.hid (blk_kept HBx.out hg (by simp))
  replace HLd := Lib.hid (HLd.out.kept hg)
  replace HBi := Lib.hid (blk_kept HBi.out hg (by simp))
  clear hg
  obtain ⟨b0, b1, b2⟩ := S3 HBi.out
  go_wp2_with fail
  refine (HRun.out _ _ _ _ _ (HLd.out.at HDd.out) (letters_lent HLx.out HDu.out)).mono ?_
  rintro e w5 ⟨rfl, hg⟩
  replace HG := Lib.hid (gb_trans HG.out hg (Or.inl rfl))
  replace HBx := Lib.hid (blk_kept HBx.out hg (by simp))
  replace HLd := Lib.hid (HLd.out.kept hg)
  replace HBi := Lib.hid (blk_kept HBi.out hg (by simp))
  replace HLx := Lib.hid (HLx.out.kept hg (Classical.em _))
  clear hg
  obtain ⟨b0, b1, b2⟩ := S3 HBi.out
  go_wp2_with fail
  refine (HHas.out _ _ _ _ _ (HLd.out.at HDd.out) (letters_lent HLx.out HDu.out)).mono ?_
  rintro e w6 ⟨rfl, hg⟩
  replace HG := Lib.hid (gb_trans HG.out hg (Or.inl rfl))
  replace HBx := Lib.hid (blk_kept HBx.out hg (by simp))
  replace HLd := Lib.hid (HLd.out.kept hg)
  replace HBi := Lib.hid (blk_kept HBi.out hg (by simp))
  replace HLx := Lib.hid (HLx.out.kept hg (Classical.em _))
  clear hg
  obtain ⟨b0, b1, b2⟩ := S3 HBi.out
  go_wp2_with fail
  refine (HChk.out _ _ _ _ (HLd.out.at HDd.out)).mono ?_
  rintro e w7 ⟨rfl, hg⟩
  replace HG := Lib.hid (gb_trans HG.out hg (Or.inl rfl))
  replace HBx := Lib.hid (blk_kept HBx.out hg (by simp))
  replace HLd := Lib.hid (HLd.out.kept hg)
  replace HBi := Lib.hid (blk_kept HBi.out hg (by simp))
  replace HLx := Lib.hid (HLx.out.kept hg (Classical.em _))
  clear hg
  obtain ⟨b0, b1, b2⟩ := S3 HBi.out
  obtain ⟨a0, a1, a2⟩ := S3 HBx.out
  go_wp2_with fail
  refine (HWd.out _ _ _ _ _ HG.out HLd.out).mono ?_
  rintro e w8 ⟨rfl, hg⟩
  replace HG := Lib.hid (gb_trans HG.out hg (Or.inl rfl))
  replace HBx := Lib.hid (blk_kept HBx.out hg (by simp))
  replace HLd := Lib.hid (HLd.out.kept hg)
  replace HBi := Lib.hid (blk_kept HBi.out hg (by simp))
  replace HLx := Lib.hid (HLx.out.kept hg (Classical.em _))
  clear hg
  clear b0 b1 b2 a0 a1 a2
  go_wp2_with fail
  refine (HWx.out _ _ _ HG.out HLx.out).mono ?_
  rintro e w9 ⟨rfl, hg⟩
  replace HG := Lib.hid (gb_trans HG.out hg (Or.inl rfl))
  replace HBx := Lib.hid (blk_kept HBx.out hg (by simp))
  replace HLd := Lib.hid (HLd.out.kept hg)
  replace HBi := Lib.hid (blk_kept HBi.out hg (by simp))
  replace HLx := Lib.hid (HLx.out.kept hg (Classical.em _))
  clear hg
  obtain ⟨a0, a1, a2⟩ := S3 HBx.out
  go_wp2_with fail
  refine (HRef.out _ HG.out).mono ?_
  rintro e w10 ⟨rfl, hg⟩
  replace HG := Lib.hid (gb_trans HG.out hg (Or.inl rfl))
  replace HBx := Lib.hid (blk_kept HBx.out hg (by simp))
  replace HLd := Lib.hid (HLd.out.kept hg)
  replace HBi := Lib.hid (blk_kept HBi.out hg (by simp))
  replace HLx := Lib.hid (HLx.out.kept hg (Classical.em _))
  clear hg
  obtain ⟨a0, a1, a2⟩ := S3 HBx.out
  go_wp2_with fail
  refine (HReh.out _ HG.out).mono ?_
  rintro e w11 ⟨rfl, hg⟩
  replace HG := Lib.hid (gb_trans HG.out hg (Or.inl rfl))
  replace HBx := Lib.hid (blk_kept HBx.out hg (by simp))
  replace HLd := Lib.hid (HLd.out.kept hg)
  replace HBi := Lib.hid (blk_kept HBi.out hg (by simp))
  replace HLx := Lib.hid (HLx.out.kept hg (Classical.em _))
  clear hg
  clear a0 a1 a2
  have HIn := Lib.hid (HLd.out.inAt HLx.out HBi.out HDd.out)
  clear HLd HLx HBi HLent HLenx HWd HWx HRun HHas HChk
  go_wp2_with fail
  go_loopw [18] (fun i wr => ∃ k : Nat, k ≤ d.B.length ∧ i = .int .i64 (k : Int) ∧ Hid (InAt wr w.heap.size bi (.slice xp d.P.length yp) (.slice xn d.R.length yn) (.slice xl d.B.length yl) (.slice ax nx cx) d.P d.R.length d.B.length U) ∧ Hid (wr.heap[w.heap.size]? = some (.cells #[.slice ap d.P.length cp, .slice an d.R.length cn, .slice al d.B.length cl] 27 (0, 0))) ∧ Hid (w.grownBy wr none)) (fun i _ => d.B.length - (intOf i).toNat)
  case atStart => exact ⟨0, by omega, rfl, HIn, HBx, HG⟩
  case round =>
    obtain ⟨k, hk, rfl, HIn, HBx, HG⟩ := hrel
    obtain ⟨b0, b1, b2⟩ := S3 HIn.out.box
    by_cases hlt : k < d.B.length
    · have hkI : (k : Int) < (d.B.length : Int) := by omega
      obtain ⟨gl, capl, bb, hv, hYg, hc, hfz, ⟨cc, hcc⟩, hset⟩ := HIn.out.bool hlt
      cases hv
      have HIn2 := Lib.hid (hset (!bb))
      have HBx2 := Lib.hid (blk_kept HBx.out (gb_set (a := ⟨gl, k, none⟩) (v := .bool (!bb))) (blk_ne HBx.out hcc (by decide)))
      have HG2 := Lib.hid (gb_trans HG.out (gb_set (a := ⟨gl, k, none⟩) (v := .bool (!bb))) (Or.inr (Or.inr ⟨gl, rfl, hYg⟩)))
      clear hset hcc
      go_wp2_with fail
      go_still_tail 9, (by kernel_rfl)
      go_wp2_with fail
      go_roundw
      case rel => exact ⟨k + 1, by omega, by go_num, Lib.hid (HIn2.out.kept (gb_drew _ none)), Lib.hid (blk_kept HBx2.out (gb_drew _ none) (by simp)), Lib.hid (gb_trans HG2.out (gb_drew _ none) (Or.inl rfl))⟩
      case measure => simp [intOf]; omega
    · obtain rfl : k = d.B.length := by omega
      go_wp2_with fail
      clear b0 b1 b2 hlt hk
      go_loopw [19] (fun i wr => ∃ k : Nat, k ≤ d.R.length ∧ i = .int .i64 (k : Int) ∧ Hid (InAt wr w.heap.size bi (.slice xp d.P.length yp) (.slice xn d.R.length yn) (.slice xl d.B.length yl) (.slice ax nx cx) d.P d.R.length d.B.length U) ∧ Hid (wr.heap[w.heap.size]? = some (.cells #[.slice ap d.P.length cp, .slice an d.R.length cn, .slice al d.B.length cl] 27 (0, 0))) ∧ Hid (w.grownBy wr none)) (fun i _ => d.R.length - (intOf i).toNat)
      case atStart => exact ⟨0, by omega, rfl, HIn, HBx, HG⟩
      case round =>
        obtain ⟨k, hk, rfl, HIn, HBx, HG⟩ := hrel
        obtain ⟨b0, b1, b2⟩ := S3 HIn.out.box
        have hRl : d.R.length ≤ 17592186043904 := by obtain ⟨_, _, _, _, _, _, _, h, _⟩ := HIn.out.n; exact h
        by_cases hlt : k < d.R.length
        · have hkI : (k : Int) < (d.R.length : Int) := by omega
          obtain ⟨gn, capn, u, n, hv, hcu, hio⟩ := HIn.out.row hlt
          obtain ⟨hvx, -, hvy⟩ := Value.slice.inj hv
          subst hvx
          subst hvy
          clear hv
          have HIo := Lib.hid hio
          have HCu := Lib.hid hcu
          obtain ⟨gu, capu, cur, rfl, hYu, hbu, hnb, -⟩ := hio
          have HGu := Lib.hid hYu
          clear hbu hYu
          go_wp2_with fail
          obtain ⟨wo, rfl⟩ : ∃ wo : World, wo = wr := ⟨_, rfl⟩
          clear b0 b1 b2 hcu
          go_loopw [20] (fun i wr => ∃ j : Nat, j ≤ n / 2 ∧ i = .int .i64 (j : Int) ∧ Hid (InAt wr w.heap.size bi (.slice xp d.P.length yp) (.slice (some ⟨gn, 0, none⟩) d.R.length yn) (.slice xl d.B.length yl) (.slice ax nx cx) d.P d.R.length d.B.length U) ∧ Hid (wr.heap[w.heap.size]? = some (.cells #[.slice ap d.P.length cp, .slice an d.R.length cn, .slice al d.B.length cl] 27 (0, 0))) ∧ Hid (w.grownBy wr none) ∧ Hid (wr.cell? ⟨gn, k, none⟩ = some (.slice (some ⟨gu, 0, none⟩) n capu) ∧ IntsOk wr w.heap.size (.slice (some ⟨gu, 0, none⟩) n capu) n)) (fun i _ => n / 2 - (intOf i).toNat)
          case atStart => exact ⟨0, by omega, rfl, HIn, HBx, HG, Lib.hid ⟨HCu.out, HIo.out⟩⟩
          case round =>
            obtain ⟨j, hj, rfl, HIn, HBx, HG, HRw⟩ := hrel
            obtain ⟨b0, b1, b2⟩ := S3 HIn.out.box
            obtain ⟨hcu, hio⟩ := HRw.out
            by_cases hjl : j < n / 2
            · have hjI : (j : Int) < (n : Int) / 2 := by omega
              obtain ⟨g1, c1, x1, hv1, hY1, hn1, hc1, ho1, hf1, ⟨cc, hcc⟩⟩ := hio.cell (k := j) (by omega)
              cases hv1
              obtain ⟨g2, c2, x2, hv2, hY2, hn2, hc2, ho2, hf2, _⟩ := hio.cell (k := n - 1 - j) (by omega)
              cases hv2
              have f1 := hf1 j
              have f2 := hf1 (n - 1 - j)
              have hne : j ≠ n - 1 - j := by omega
              have HA1 := Lib.hid (HIn.out.int (j := j) hcc ho2)
              have HA2 := Lib.hid (HA1.out.int (j := n - 1 - j) (heap_setCell_same wr gu j cc _ (.int .i64 x2) hcc) ho1)
              have HI1 := Lib.hid ((hio.set (j := j) hcc ho2).set (j := n - 1 - j) (heap_setCell_same wr gu j cc _ (.int .i64 x2) hcc) ho1)
              have hgs := gb_trans (gb_set (w := wr) (a := ⟨gu, j, none⟩) (v := .int .i64 x2)) (gb_set (a := ⟨gu, n - 1 - j, none⟩) (v := .int .i64 x1)) (Or.inr (Or.inl rfl))
              have HB2 := Lib.hid (blk_kept HBx.out hgs (blk_ne HBx.out hcc (by decide)))
              have HG2 := Lib.hid (gb_trans HG.out hgs (Or.inr (Or.inr ⟨gu, rfl, hY1⟩)))
              obtain ⟨gn2, capn2, curn, hvn, _, _, hbn, _, _⟩ := HIn.out.n
              cases hvn
              have HCu2 := Lib.hid (hgs.cell hcu (blk_ne hbn hcc (by decide)))
              have HR0 : Hid (∀ wx, wr.grownBy wx (some gu) → wx.cell? ⟨bi, 1, none⟩ = some (.slice (some ⟨gn, 0, none⟩) d.R.length yn) ∧ wx.cell? ⟨gn, k, none⟩ = some (.slice (some ⟨gu, 0, none⟩) n capu)) := Lib.hid fun wx hx => ⟨hx.cell b1 (blk_ne HIn.out.box hcc (by decide)), hx.cell hcu (blk_ne hbn hcc (by decide))⟩
              clear hio hcc hf1 hf2 hgs ho1 ho2 hbn
              have hjn : (j : Int) < (n : Int) := by omega
              have i3 : 0 ≤ (n : Int) - 1 - (j : Int) := by omega
              have i6 : (j : Int) ≤ (n : Int) - 1 := by omega
              have i4 : (n : Int) - 1 - (j : Int) < (n : Int) := by omega
              have i5 : ((n : Int) - 1 - (j : Int)).toNat = n - 1 - j := by omega
              have i1 : IntKind.i64.wrap ((n : Int) - 1) = (n : Int) - 1 := IntWalk.i64_in _ (by omega)
              have i2 : IntKind.i64.wrap ((n : Int) - 1 - (j : Int)) = (n : Int) - 1 - (j : Int) := IntWalk.i64_in _ (by omega)
              go_wp2_with fail
              refine region_late (R := (fun wx => wx.cell? ⟨bi, 1, none⟩ = some (.slice (some ⟨gn, 0, none⟩) d.R.length yn) ∧ wx.cell? ⟨gn, k, none⟩ = some (.slice (some ⟨gu, 0, none⟩) n capu))) (S := (fun wx => wx.cell? ⟨gu, j, none⟩ = some (.int .i64 x1) ∧ wx.cell? ⟨gu, n - 1 - j, none⟩ = some (.int .i64 x2))) (Z := [45, 47]) (by kernel_rfl) ?_
              have hLateR : ((fun wx => wx.cell? ⟨bi, 1, none⟩ = some (.slice (some ⟨gn, 0, none⟩) d.R.length yn) ∧ wx.cell? ⟨gn, k, none⟩ = some (.slice (some ⟨gu, 0, none⟩) n capu))) wr.drew := ⟨b1, hcu⟩
              have hLate : ((fun wx => wx.cell? ⟨gu, j, none⟩ = some (.int .i64 x1) ∧ wx.cell? ⟨gu, n - 1 - j, none⟩ = some (.int .i64 x2))) wr.drew := ⟨hc1, hc2⟩
              refine AnyL.takeW (i := 0) (oi := ({ dst := some 124, op := Go.Op.fieldAddr 27 (Go.Operand.tmp 6) 1, type := 0, pos := "law.go:98", after := #[], guard := none } : Oper)) (v := ?_) rfl (by kernel_rfl) (by kernel_rfl) (by kernel_rfl) (by kernel_rfl) (fun _ _ _ h => h) (Or.inl ⟨by rfl, ?_⟩) hLateR (fun _ => hLate) ?_
              rotate_left
              · (intro wS hSw; (try dsimp only at hSw); go_simp <;> with_reducible rfl)
              try simp only [Act.put, List.setIfInBounds_toArray, List.set_cons_zero, List.set_cons_succ]
              refine AnyL.takeW (i := 1) (oi := ({ dst := some 125, op := Go.Op.load 24 (Go.Operand.tmp 124), type := 24, pos := "law.go:98", after := #[{ on := 0, ground := Go.Ground.data }], guard := none } : Oper)) (v := ?_) rfl (by kernel_rfl) (by kernel_rfl) (by kernel_rfl) (by kernel_rfl) (fun _ _ _ h => h) (Or.inl ⟨by rfl, ?_⟩) hLateR (fun _ => hLate) ?_
              rotate_left
              · (intro wS hSw; (try dsimp only at hSw); go_simp <;> with_reducible rfl)
              try simp only [Act.put, List.setIfInBounds_toArray, List.set_cons_zero, List.set_cons_succ]
              refine AnyL.takeW (i := 2) (oi := ({ dst := some 126, op := Go.Op.move (Go.Operand.tmp 19), type := 3, pos := "law.go:98", after := #[], guard := none } : Oper)) (v := ?_) rfl (by kernel_rfl) (by kernel_rfl) (by kernel_rfl) (by kernel_rfl) (fun _ _ _ h => h) (Or.inl ⟨by rfl, ?_⟩) hLateR (fun _ => hLate) ?_
              rotate_left
              · (intro wS hSw; (try dsimp only at hSw); go_simp <;> with_reducible rfl)
              try simp only [Act.put, List.setIfInBounds_toArray, List.set_cons_zero, List.set_cons_succ]
              refine AnyL.takeW (i := 3) (oi := ({ dst := some 127, op := Go.Op.indexAddr 24 (Go.Operand.tmp 125) (Go.Operand.tmp 126), type := 0, pos := "law.go:98", after := #[{ on := 1, ground := Go.Ground.data }, { on := 2, ground := Go.Ground.data }], guard := none } : Oper)) (v := ?_) rfl (by kernel_rfl) (by kernel_rfl) (by kernel_rfl) (by kernel_rfl) (fun _ _ _ h => h) (Or.inl ⟨by rfl, ?_⟩) hLateR (fun _ => hLate) ?_
              rotate_left
              · (intro wS hSw; (try dsimp only at hSw); go_simp <;> with_reducible rfl)
              try simp only [Act.put, List.setIfInBounds_toArray, List.set_cons_zero, List.set_cons_succ]
              refine AnyL.takeW (i := 4) (oi := ({ dst := some 128, op := Go.Op.load 43 (Go.Operand.tmp 127), type := 43, pos := "law.go:98", after := #[{ on := 3, ground := Go.Ground.data }], guard := none } : Oper)) (v := ?_) rfl (by kernel_rfl) (by kernel_rfl) (by kernel_rfl) (by kernel_rfl) (fun _ _ _ h => h) (Or.inl ⟨by rfl, ?_⟩) hLateR (fun _ => hLate) ?_
              rotate_left
              · (intro wS hSw; (try dsimp only at hSw); go_simp <;> with_reducible rfl)
              try simp only [Act.put, List.setIfInBounds_toArray, List.set_cons_zero, List.set_cons_succ]
              refine AnyL.takeW (i := 5) (oi := ({ dst := some 129, op := Go.Op.move (Go.Operand.tmp 20), type := 3, pos := "law.go:98", after := #[], guard := none } : Oper)) (v := ?_) rfl (by kernel_rfl) (by kernel_rfl) (by kernel_rfl) (by kernel_rfl) (fun _ _ _ h => h) (Or.inl ⟨by rfl, ?_⟩) hLateR (fun _ => hLate) ?_
              rotate_left
              · (intro wS hSw; (try dsimp only at hSw); go_simp <;> with_reducible rfl)
              try simp only [Act.put, List.setIfInBounds_toArray, List.set_cons_zero, List.set_cons_succ]
              refine AnyL.takeW (i := 6) (oi := ({ dst := some 130, op := Go.Op.fieldAddr 27 (Go.Operand.tmp 6) 1, type := 0, pos := "law.go:98", after := #[], guard := none } : Oper)) (v := ?_) rfl (by kernel_rfl) (by kernel_rfl) (by kernel_rfl) (by kernel_rfl) (fun _ _ _ h => h) (Or.inl ⟨by rfl, ?_⟩) hLateR (fun _ => hLate) ?_
              rotate_left
              · (intro wS hSw; (try dsimp only at hSw); go_simp <;> with_reducible rfl)
              try simp only [Act.put, List.setIfInBounds_toArray, List.set_cons_zero, List.set_cons_succ]
              refine AnyL.takeW (i := 7) (oi := ({ dst := some 131, op := Go.Op.load 24 (Go.Operand.tmp 130), type := 24, pos := "law.go:98", after := #[{ on := 6, ground := Go.Ground.data }], guard := none } : Oper)) (v := ?_) rfl (by kernel_rfl) (by kernel_rfl) (by kernel_rfl) (by kernel_rfl) (fun _ _ _ h => h) (Or.inl ⟨by rfl, ?_⟩) hLateR (fun _ => hLate) ?_
              rotate_left
              · (intro wS hSw; (try dsimp only at hSw); go_simp <;> with_reducible rfl)
              try simp only [Act.put, List.setIfInBounds_toArray, List.set_cons_zero, List.set_cons_succ]
              refine AnyL.takeW (i := 8) (oi := ({ dst := some 132, op := Go.Op.move (Go.Operand.tmp 19), type := 3, pos := "law.go:98", after := #[], guard := none } : Oper)) (v := ?_) rfl (by kernel_rfl) (by kernel_rfl) (by kernel_rfl) (by kernel_rfl) (fun _ _ _ h => h) (Or.inl ⟨by rfl, ?_⟩) hLateR (fun _ => hLate) ?_
              rotate_left
              · (intro wS hSw; (try dsimp only at hSw); go_simp <;> with_reducible rfl)
              try simp only [Act.put, List.setIfInBounds_toArray, List.set_cons_zero, List.set_cons_succ]
              refine AnyL.takeW (i := 9) (oi := ({ dst := some 133, op := Go.Op.indexAddr 24 (Go.Operand.tmp 131) (Go.Operand.tmp 132), type := 0, pos := "law.go:98", after := #[{ on := 7, ground := Go.Ground.data }, { on := 8, ground := Go.Ground.data }], guard := none } : Oper)) (v := ?_) rfl (by kernel_rfl) (by kernel_rfl) (by kernel_rfl) (by kernel_rfl) (fun _ _ _ h => h) (Or.inl ⟨by rfl, ?_⟩) hLateR (fun _ => hLate) ?_
              rotate_left
              · (intro wS hSw; (try dsimp only at hSw); go_simp <;> with_reducible rfl)
              try simp only [Act.put, List.setIfInBounds_toArray, List.set_cons_zero, List.set_cons_succ]
              refine AnyL.takeW (i := 10) (oi := ({ dst := some 134, op := Go.Op.load 43 (Go.Operand.tmp 133), type := 43, pos := "law.go:98", after := #[{ on := 9, ground := Go.Ground.data }], guard := none } : Oper)) (v := ?_) rfl (by kernel_rfl) (by kernel_rfl) (by kernel_rfl) (by kernel_rfl) (fun _ _ _ h => h) (Or.inl ⟨by rfl, ?_⟩) hLateR (fun _ => hLate) ?_
              rotate_left
              · (intro wS hSw; (try dsimp only at hSw); go_simp <;> with_reducible rfl)
              try simp only [Act.put, List.setIfInBounds_toArray, List.set_cons_zero, List.set_cons_succ]
              refine AnyL.takeW (i := 11) (oi := ({ dst := some 135, op := Go.Op.fieldAddr 27 (Go.Operand.tmp 6) 1, type := 0, pos := "law.go:98", after := #[], guard := none } : Oper)) (v := ?_) rfl (by kernel_rfl) (by kernel_rfl) (by kernel_rfl) (by kernel_rfl) (fun _ _ _ h => h) (Or.inl ⟨by rfl, ?_⟩) hLateR (fun _ => hLate) ?_
              rotate_left
              · (intro wS hSw; (try dsimp only at hSw); go_simp <;> with_reducible rfl)
              try simp only [Act.put, List.setIfInBounds_toArray, List.set_cons_zero, List.set_cons_succ]
              refine AnyL.takeW (i := 12) (oi := ({ dst := some 136, op := Go.Op.load 24 (Go.Operand.tmp 135), type := 24, pos := "law.go:98", after := #[{ on := 11, ground := Go.Ground.data }], guard := none } : Oper)) (v := ?_) rfl (by kernel_rfl) (by kernel_rfl) (by kernel_rfl) (by kernel_rfl) (fun _ _ _ h => h) (Or.inl ⟨by rfl, ?_⟩) hLateR (fun _ => hLate) ?_
              rotate_left
              · (intro wS hSw; (try dsimp only at hSw); go_simp <;> with_reducible rfl)
              try simp only [Act.put, List.setIfInBounds_toArray, List.set_cons_zero, List.set_cons_succ]
              refine AnyL.takeW (i := 13) (oi := ({ dst := some 137, op := Go.Op.move (Go.Operand.tmp 19), type := 3, pos := "law.go:98", after := #[], guard := none } : Oper)) (v := ?_) rfl (by kernel_rfl) (by kernel_rfl) (by kernel_rfl) (by kernel_rfl) (fun _ _ _ h => h) (Or.inl ⟨by rfl, ?_⟩) hLateR (fun _ => hLate) ?_
              rotate_left
              · (intro wS hSw; (try dsimp only at hSw); go_simp <;> with_reducible rfl)
              try simp only [Act.put, List.setIfInBounds_toArray, List.set_cons_zero, List.set_cons_succ]
              refine AnyL.takeW (i := 14) (oi := ({ dst := some 138, op := Go.Op.indexAddr 24 (Go.Operand.tmp 136) (Go.Operand.tmp 137), type := 0, pos := "law.go:98", after := #[{ on := 12, ground := Go.Ground.data }, { on := 13, ground := Go.Ground.data }], guard := none } : Oper)) (v := ?_) rfl (by kernel_rfl) (by kernel_rfl) (by kernel_rfl) (by kernel_rfl) (fun _ _ _ h => h) (Or.inl ⟨by rfl, ?_⟩) hLateR (fun _ => hLate) ?_
              rotate_left
              · (intro wS hSw; (try dsimp only at hSw); go_simp <;> with_reducible rfl)
              try simp only [Act.put, List.setIfInBounds_toArray, List.set_cons_zero, List.set_cons_succ]
              refine AnyL.takeW (i := 15) (oi := ({ dst := some 139, op := Go.Op.load 43 (Go.Operand.tmp 138), type := 43, pos := "law.go:98", after := #[{ on := 14, ground := Go.Ground.data }], guard := none } : Oper)) (v := ?_) rfl (by kernel_rfl) (by kernel_rfl) (by kernel_rfl) (by kernel_rfl) (fun _ _ _ h => h) (Or.inl ⟨by rfl, ?_⟩) hLateR (fun _ => hLate) ?_
              rotate_left
              · (intro wS hSw; (try dsimp only at hSw); go_simp <;> with_reducible rfl)
              try simp only [Act.put, List.setIfInBounds_toArray, List.set_cons_zero, List.set_cons_succ]
              refine AnyL.takeW (i := 16) (oi := ({ dst := some 140, op := Go.Op.call { callee := Go.Callee.builtin Go.Builtin.len, args := #[Go.Operand.tmp 139], argTypes := #[43] }, type := 3, pos := "law.go:98", after := #[{ on := 15, ground := Go.Ground.data }], guard := none } : Oper)) (v := ?_) rfl (by kernel_rfl) (by kernel_rfl) (by kernel_rfl) (by kernel_rfl) (fun _ _ _ h => h) (Or.inl ⟨by rfl, ?_⟩) hLateR (fun _ => hLate) ?_
              rotate_left
              · (intro wS hSw; (try dsimp only at hSw); go_simp <;> with_reducible rfl)
              try simp only [Act.put, List.setIfInBounds_toArray, List.set_cons_zero, List.set_cons_succ]
              refine AnyL.takeW (i := 17) (oi := ({ dst := some 141, op := Go.Op.binOp Go.BinOp.sub 3 (Go.Operand.tmp 140) (Go.Operand.const (Go.Value.int Go.IntKind.i64 1)) 3, type := 3, pos := "law.go:98", after := #[{ on := 16, ground := Go.Ground.data }, { on := 45, ground := Go.Ground.gcOnly Go.Departure.lateStores }], guard := none } : Oper)) (v := ?_) rfl (by kernel_rfl) (by kernel_rfl) (by kernel_rfl) (by kernel_rfl) (fun _ _ _ h => h) (Or.inl ⟨by rfl, ?_⟩) hLateR (fun _ => hLate) ?_
              rotate_left
              · (intro wS hSw; (try dsimp only at hSw); go_simp <;> with_reducible rfl)
              try simp only [Act.put, List.setIfInBounds_toArray, List.set_cons_zero, List.set_cons_succ]
              refine AnyL.takeW (i := 18) (oi := ({ dst := some 142, op := Go.Op.move (Go.Operand.tmp 20), type := 3, pos := "law.go:98", after := #[{ on := 45, ground := Go.Ground.gcOnly Go.Departure.lateStores }], guard := none } : Oper)) (v := ?_) rfl (by kernel_rfl) (by kernel_rfl) (by kernel_rfl) (by kernel_rfl) (fun _ _ _ h => h) (Or.inl ⟨by rfl, ?_⟩) hLateR (fun _ => hLate) ?_
              rotate_left
              · (intro wS hSw; (try dsimp only at hSw); go_simp <;> with_reducible rfl)
              try simp only [Act.put, List.setIfInBounds_toArray, List.set_cons_zero, List.set_cons_succ]
              refine AnyL.takeW (i := 19) (oi := ({ dst := some 143, op := Go.Op.binOp Go.BinOp.sub 3 (Go.Operand.tmp 141) (Go.Operand.tmp 142) 3, type := 3, pos := "law.go:98", after := #[{ on := 17, ground := Go.Ground.data }, { on := 18, ground := Go.Ground.data }, { on := 45, ground := Go.Ground.gcOnly Go.Departure.lateStores }], guard := none } : Oper)) (v := ?_) rfl (by kernel_rfl) (by kernel_rfl) (by kernel_rfl) (by kernel_rfl) (fun _ _ _ h => h) (Or.inl ⟨by rfl, ?_⟩) hLateR (fun _ => hLate) ?_
              rotate_left
              · (intro wS hSw; (try dsimp only at hSw); go_simp <;> with_reducible rfl)
              try simp only [Act.put, List.setIfInBounds_toArray, List.set_cons_zero, List.set_cons_succ]
              refine AnyL.takeW (i := 20) (oi := ({ dst := some 144, op := Go.Op.fieldAddr 27 (Go.Operand.tmp 6) 1, type := 0, pos := "law.go:98", after := #[], guard := none } : Oper)) (v := ?_) rfl (by kernel_rfl) (by kernel_rfl) (by kernel_rfl) (by kernel_rfl) (fun _ _ _ h => h) (Or.inl ⟨by rfl, ?_⟩) hLateR (fun _ => hLate) ?_
              rotate_left
              · (intro wS hSw; (try dsimp only at hSw); go_simp <;> with_reducible rfl)
              try simp only [Act.put, List.setIfInBounds_toArray, List.set_cons_zero, List.set_cons_succ]
              refine AnyL.takeW (i := 21) (oi := ({ dst := some 145, op := Go.Op.load 24 (Go.Operand.tmp 144), type := 24, pos := "law.go:98", after := #[{ on := 20, ground := Go.Ground.data }], guard := none } : Oper)) (v := ?_) rfl (by kernel_rfl) (by kernel_rfl) (by kernel_rfl) (by kernel_rfl) (fun _ _ _ h => h) (Or.inl ⟨by rfl, ?_⟩) hLateR (fun _ => hLate) ?_
              rotate_left
              · (intro wS hSw; (try dsimp only at hSw); go_simp <;> with_reducible rfl)
              try simp only [Act.put, List.setIfInBounds_toArray, List.set_cons_zero, List.set_cons_succ]
              refine AnyL.takeW (i := 22) (oi := ({ dst := some 146, op := Go.Op.move (Go.Operand.tmp 19), type := 3, pos := "law.go:98", after := #[], guard := none } : Oper)) (v := ?_) rfl (by kernel_rfl) (by kernel_rfl) (by kernel_rfl) (by kernel_rfl) (fun _ _ _ h => h) (Or.inl ⟨by rfl, ?_⟩) hLateR (fun _ => hLate) ?_
              rotate_left
              · (intro wS hSw; (try dsimp only at hSw); go_simp <;> with_reducible rfl)
              try simp only [Act.put, List.setIfInBounds_toArray, List.set_cons_zero, List.set_cons_succ]
              refine AnyL.takeW (i := 23) (oi := ({ dst := some 147, op := Go.Op.indexAddr 24 (Go.Operand.tmp 145) (Go.Operand.tmp 146), type := 0, pos := "law.go:98", after := #[{ on := 21, ground := Go.Ground.data }, { on := 22, ground := Go.Ground.data }], guard := none } : Oper)) (v := ?_) rfl (by kernel_rfl) (by kernel_rfl) (by kernel_rfl) (by kernel_rfl) (fun _ _ _ h => h) (Or.inl ⟨by rfl, ?_⟩) hLateR (fun _ => hLate) ?_
              rotate_left
              · (intro wS hSw; (try dsimp only at hSw); go_simp <;> with_reducible rfl)
              try simp only [Act.put, List.setIfInBounds_toArray, List.set_cons_zero, List.set_cons_succ]
              refine AnyL.takeW (i := 24) (oi := ({ dst := some 148, op := Go.Op.load 43 (Go.Operand.tmp 147), type := 43, pos := "law.go:98", after := #[{ on := 23, ground := Go.Ground.data }], guard := none } : Oper)) (v := ?_) rfl (by kernel_rfl) (by kernel_rfl) (by kernel_rfl) (by kernel_rfl) (fun _ _ _ h => h) (Or.inl ⟨by rfl, ?_⟩) hLateR (fun _ => hLate) ?_
              rotate_left
              · (intro wS hSw; (try dsimp only at hSw); go_simp <;> with_reducible rfl)
              try simp only [Act.put, List.setIfInBounds_toArray, List.set_cons_zero, List.set_cons_succ]
              refine AnyL.takeW (i := 25) (oi := ({ dst := some 149, op := Go.Op.fieldAddr 27 (Go.Operand.tmp 6) 1, type := 0, pos := "law.go:98", after := #[], guard := none } : Oper)) (v := ?_) rfl (by kernel_rfl) (by kernel_rfl) (by kernel_rfl) (by kernel_rfl) (fun _ _ _ h => h) (Or.inl ⟨by rfl, ?_⟩) hLateR (fun _ => hLate) ?_
              rotate_left
              · (intro wS hSw; (try dsimp only at hSw); go_simp <;> with_reducible rfl)
              try simp only [Act.put, List.setIfInBounds_toArray, List.set_cons_zero, List.set_cons_succ]
              refine AnyL.takeW (i := 26) (oi := ({ dst := some 150, op := Go.Op.load 24 (Go.Operand.tmp 149), type := 24, pos := "law.go:98", after := #[{ on := 25, ground := Go.Ground.data }], guard := none } : Oper)) (v := ?_) rfl (by kernel_rfl) (by kernel_rfl) (by kernel_rfl) (by kernel_rfl) (fun _ _ _ h => h) (Or.inl ⟨by rfl, ?_⟩) hLateR (fun _ => hLate) ?_
              rotate_left
              · (intro wS hSw; (try dsimp only at hSw); go_simp <;> with_reducible rfl)
              try simp only [Act.put, List.setIfInBounds_toArray, List.set_cons_zero, List.set_cons_succ]
              refine AnyL.takeW (i := 27) (oi := ({ dst := some 151, op := Go.Op.move (Go.Operand.tmp 19), type := 3, pos := "law.go:98", after := #[], guard := none } : Oper)) (v := ?_) rfl (by kernel_rfl) (by kernel_rfl) (by kernel_rfl) (by kernel_rfl) (fun _ _ _ h => h) (Or.inl ⟨by rfl, ?_⟩) hLateR (fun _ => hLate) ?_
              rotate_left
              · (intro wS hSw; (try dsimp only at hSw); go_simp <;> with_reducible rfl)
              try simp only [Act.put, List.setIfInBounds_toArray, List.set_cons_zero, List.set_cons_succ]
              refine AnyL.takeW (i := 28) (oi := ({ dst := some 152, op := Go.Op.indexAddr 24 (Go.Operand.tmp 150) (Go.Operand.tmp 151), type := 0, pos := "law.go:98", after := #[{ on := 26, ground := Go.Ground.data }, { on := 27, ground := Go.Ground.data }], guard := none } : Oper)) (v := ?_) rfl (by kernel_rfl) (by kernel_rfl) (by kernel_rfl) (by kernel_rfl) (fun _ _ _ h => h) (Or.inl ⟨by rfl, ?_⟩) hLateR (fun _ => hLate) ?_
              rotate_left
              · (intro wS hSw; (try dsimp only at hSw); go_simp <;> with_reducible rfl)
              try simp only [Act.put, List.setIfInBounds_toArray, List.set_cons_zero, List.set_cons_succ]
              refine AnyL.takeW (i := 29) (oi := ({ dst := some 153, op := Go.Op.load 43 (Go.Operand.tmp 152), type := 43, pos := "law.go:98", after := #[{ on := 28, ground := Go.Ground.data }], guard := none } : Oper)) (v := ?_) rfl (by kernel_rfl) (by kernel_rfl) (by kernel_rfl) (by kernel_rfl) (fun _ _ _ h => h) (Or.inl ⟨by rfl, ?_⟩) hLateR (fun _ => hLate) ?_
              rotate_left
              · (intro wS hSw; (try dsimp only at hSw); go_simp <;> with_reducible rfl)
              try simp only [Act.put, List.setIfInBounds_toArray, List.set_cons_zero, List.set_cons_succ]
              refine AnyL.takeW (i := 30) (oi := ({ dst := some 154, op := Go.Op.call { callee := Go.Callee.builtin Go.Builtin.len, args := #[Go.Operand.tmp 153], argTypes := #[43] }, type := 3, pos := "law.go:98", after := #[{ on := 29, ground := Go.Ground.data }], guard := none } : Oper)) (v := ?_) rfl (by kernel_rfl) (by kernel_rfl) (by kernel_rfl) (by kernel_rfl) (fun _ _ _ h => h) (Or.inl ⟨by rfl, ?_⟩) hLateR (fun _ => hLate) ?_
              rotate_left
              · (intro wS hSw; (try dsimp only at hSw); go_simp <;> with_reducible rfl)
              try simp only [Act.put, List.setIfInBounds_toArray, List.set_cons_zero, List.set_cons_succ]
              refine AnyL.takeW (i := 31) (oi := ({ dst := some 155, op := Go.Op.binOp Go.BinOp.sub 3 (Go.Operand.tmp 154) (Go.Operand.const (Go.Value.int Go.IntKind.i64 1)) 3, type := 3, pos := "law.go:98", after := #[{ on := 30, ground := Go.Ground.data }], guard := none } : Oper)) (v := ?_) rfl (by kernel_rfl) (by kernel_rfl) (by kernel_rfl) (by kernel_rfl) (fun _ _ _ h => h) (Or.inl ⟨by rfl, ?_⟩) hLateR (fun _ => hLate) ?_
              rotate_left
              · (intro wS hSw; (try dsimp only at hSw); go_simp <;> with_reducible rfl)
              try simp only [Act.put, List.setIfInBounds_toArray, List.set_cons_zero, List.set_cons_succ]
              refine AnyL.takeW (i := 32) (oi := ({ dst := some 156, op := Go.Op.move (Go.Operand.tmp 20), type := 3, pos := "law.go:98", after := #[], guard := none } : Oper)) (v := ?_) rfl (by kernel_rfl) (by kernel_rfl) (by kernel_rfl) (by kernel_rfl) (fun _ _ _ h => h) (Or.inl ⟨by rfl, ?_⟩) hLateR (fun _ => hLate) ?_
              rotate_left
              · (intro wS hSw; (try dsimp only at hSw); go_simp <;> with_reducible rfl)
              try simp only [Act.put, List.setIfInBounds_toArray, List.set_cons_zero, List.set_cons_succ]
              refine AnyL.takeW (i := 33) (oi := ({ dst := some 157, op := Go.Op.binOp Go.BinOp.sub 3 (Go.Operand.tmp 155) (Go.Operand.tmp 156) 3, type := 3, pos := "law.go:98", after := #[{ on := 31, ground := Go.Ground.data }, { on := 32, ground := Go.Ground.data }], guard := none } : Oper)) (v := ?_) rfl (by kernel_rfl) (by kernel_rfl) (by kernel_rfl) (by kernel_rfl) (fun _ _ _ h => h) (Or.inl ⟨by rfl, ?_⟩) hLateR (fun _ => hLate) ?_
              rotate_left
              · (intro wS hSw; (try dsimp only at hSw); go_simp <;> with_reducible rfl)
              try simp only [Act.put, List.setIfInBounds_toArray, List.set_cons_zero, List.set_cons_succ]
              refine AnyL.takeW (i := 34) (oi := ({ dst := some 158, op := Go.Op.indexAddr 43 (Go.Operand.tmp 148) (Go.Operand.tmp 157), type := 0, pos := "law.go:98", after := #[{ on := 24, ground := Go.Ground.data }, { on := 33, ground := Go.Ground.data }], guard := none } : Oper)) (v := ?_) rfl (by kernel_rfl) (by kernel_rfl) (by kernel_rfl) (by kernel_rfl) (fun _ _ _ h => h) (Or.inl ⟨by rfl, ?_⟩) hLateR (fun _ => hLate) ?_
              rotate_left
              · (intro wS hSw; (try dsimp only at hSw); go_simp <;> with_reducible rfl)
              try simp only [Act.put, List.setIfInBounds_toArray, List.set_cons_zero, List.set_cons_succ]
              refine AnyL.takeL (i := 35) (oi := ({ dst := some 159, op := Go.Op.load 3 (Go.Operand.tmp 158), type := 3, pos := "law.go:98", after := #[{ on := 34, ground := Go.Ground.data }], guard := none } : Oper)) (v := ?_) rfl (by kernel_rfl) (by kernel_rfl) (by kernel_rfl) (by kernel_rfl) (fun _ _ _ h => h) (Or.inl ⟨by rfl, ?_⟩) hLateR hLate ?_
              rotate_left
              · (intro wS hSw; (try dsimp only at hSw); go_simp <;> with_reducible rfl)
              try simp only [Act.put, List.setIfInBounds_toArray, List.set_cons_zero, List.set_cons_succ]
              refine AnyL.takeW (i := 36) (oi := ({ dst := some 160, op := Go.Op.fieldAddr 27 (Go.Operand.tmp 6) 1, type := 0, pos := "law.go:98", after := #[], guard := none } : Oper)) (v := ?_) rfl (by kernel_rfl) (by kernel_rfl) (by kernel_rfl) (by kernel_rfl) (fun _ _ _ h => h) (Or.inl ⟨by rfl, ?_⟩) hLateR (fun _ => hLate) ?_
              rotate_left
              · (intro wS hSw; (try dsimp only at hSw); go_simp <;> with_reducible rfl)
              try simp only [Act.put, List.setIfInBounds_toArray, List.set_cons_zero, List.set_cons_succ]
              refine AnyL.takeW (i := 37) (oi := ({ dst := some 161, op := Go.Op.load 24 (Go.Operand.tmp 160), type := 24, pos := "law.go:98", after := #[{ on := 36, ground := Go.Ground.data }], guard := none } : Oper)) (v := ?_) rfl (by kernel_rfl) (by kernel_rfl) (by kernel_rfl) (by kernel_rfl) (fun _ _ _ h => h) (Or.inl ⟨by rfl, ?_⟩) hLateR (fun _ => hLate) ?_
              rotate_left
              · (intro wS hSw; (try dsimp only at hSw); go_simp <;> with_reducible rfl)
              try simp only [Act.put, List.setIfInBounds_toArray, List.set_cons_zero, List.set_cons_succ]
              refine AnyL.takeW (i := 38) (oi := ({ dst := some 162, op := Go.Op.move (Go.Operand.tmp 19), type := 3, pos := "law.go:98", after := #[], guard := none } : Oper)) (v := ?_) rfl (by kernel_rfl) (by kernel_rfl) (by kernel_rfl) (by kernel_rfl) (fun _ _ _ h => h) (Or.inl ⟨by rfl, ?_⟩) hLateR (fun _ => hLate) ?_
              rotate_left
              · (intro wS hSw; (try dsimp only at hSw); go_simp <;> with_reducible rfl)
              try simp only [Act.put, List.setIfInBounds_toArray, List.set_cons_zero, List.set_cons_succ]
              refine AnyL.takeW (i := 39) (oi := ({ dst := some 163, op := Go.Op.indexAddr 24 (Go.Operand.tmp 161) (Go.Operand.tmp 162), type := 0, pos := "law.go:98", after := #[{ on := 37, ground := Go.Ground.data }, { on := 38, ground := Go.Ground.data }], guard := none } : Oper)) (v := ?_) rfl (by kernel_rfl) (by kernel_rfl) (by kernel_rfl) (by kernel_rfl) (fun _ _ _ h => h) (Or.inl ⟨by rfl, ?_⟩) hLateR (fun _ => hLate) ?_
              rotate_left
              · (intro wS hSw; (try dsimp only at hSw); go_simp <;> with_reducible rfl)
              try simp only [Act.put, List.setIfInBounds_toArray, List.set_cons_zero, List.set_cons_succ]
              refine AnyL.takeW (i := 40) (oi := ({ dst := some 164, op := Go.Op.load 43 (Go.Operand.tmp 163), type := 43, pos := "law.go:98", after := #[{ on := 39, ground := Go.Ground.data }], guard := none } : Oper)) (v := ?_) rfl (by kernel_rfl) (by kernel_rfl) (by kernel_rfl) (by kernel_rfl) (fun _ _ _ h => h) (Or.inl ⟨by rfl, ?_⟩) hLateR (fun _ => hLate) ?_
              rotate_left
              · (intro wS hSw; (try dsimp only at hSw); go_simp <;> with_reducible rfl)
              try simp only [Act.put, List.setIfInBounds_toArray, List.set_cons_zero, List.set_cons_succ]
              refine AnyL.takeW (i := 41) (oi := ({ dst := some 165, op := Go.Op.move (Go.Operand.tmp 20), type := 3, pos := "law.go:98", after := #[], guard := none } : Oper)) (v := ?_) rfl (by kernel_rfl) (by kernel_rfl) (by kernel_rfl) (by kernel_rfl) (fun _ _ _ h => h) (Or.inl ⟨by rfl, ?_⟩) hLateR (fun _ => hLate) ?_
              rotate_left
              · (intro wS hSw; (try dsimp only at hSw); go_simp <;> with_reducible rfl)
              try simp only [Act.put, List.setIfInBounds_toArray, List.set_cons_zero, List.set_cons_succ]
              refine AnyL.takeW (i := 42) (oi := ({ dst := some 166, op := Go.Op.indexAddr 43 (Go.Operand.tmp 164) (Go.Operand.tmp 165), type := 0, pos := "law.go:98", after := #[{ on := 40, ground := Go.Ground.data }, { on := 41, ground := Go.Ground.data }], guard := none } : Oper)) (v := ?_) rfl (by kernel_rfl) (by kernel_rfl) (by kernel_rfl) (by kernel_rfl) (fun _ _ _ h => h) (Or.inl ⟨by rfl, ?_⟩) hLateR (fun _ => hLate) ?_
              rotate_left
              · (intro wS hSw; (try dsimp only at hSw); go_simp <;> with_reducible rfl)
              try simp only [Act.put, List.setIfInBounds_toArray, List.set_cons_zero, List.set_cons_succ]
              refine AnyL.takeL (i := 43) (oi := ({ dst := some 167, op := Go.Op.load 3 (Go.Operand.tmp 166), type := 3, pos := "law.go:98", after := #[{ on := 42, ground := Go.Ground.data }], guard := none } : Oper)) (v := ?_) rfl (by kernel_rfl) (by kernel_rfl) (by kernel_rfl) (by kernel_rfl) (fun _ _ _ h => h) (Or.inl ⟨by rfl, ?_⟩) hLateR hLate ?_
              rotate_left
              · (intro wS hSw; (try dsimp only at hSw); go_simp <;> with_reducible rfl)
              try simp only [Act.put, List.setIfInBounds_toArray, List.set_cons_zero, List.set_cons_succ]
              refine AnyL.takeW (i := 44) (oi := ({ dst := some 168, op := Go.Op.indexAddr 43 (Go.Operand.tmp 128) (Go.Operand.tmp 129), type := 0, pos := "law.go:98", after := #[{ on := 4, ground := Go.Ground.data }, { on := 5, ground := Go.Ground.data }, { on := 0, ground := Go.Ground.phase }, { on := 1, ground := Go.Ground.phase }, { on := 2, ground := Go.Ground.phase }, { on := 3, ground := Go.Ground.phase }, { on := 4, ground := Go.Ground.phase }, { on := 5, ground := Go.Ground.phase }, { on := 6, ground := Go.Ground.textOnly Go.Departure.lateStores }, { on := 7, ground := Go.Ground.textOnly Go.Departure.lateStores }, { on := 8, ground := Go.Ground.textOnly Go.Departure.lateStores }, { on := 9, ground := Go.Ground.textOnly Go.Departure.lateStoresUnsure }, { on := 10, ground := Go.Ground.phase }, { on := 11, ground := Go.Ground.textOnly Go.Departure.lateStores }, { on := 12, ground := Go.Ground.textOnly Go.Departure.lateStores }, { on := 13, ground := Go.Ground.textOnly Go.Departure.lateStores }, { on := 14, ground := Go.Ground.textOnly Go.Departure.lateStoresUnsure }, { on := 15, ground := Go.Ground.phase }, { on := 16, ground := Go.Ground.textOnly Go.Departure.lateStoresUnsure }, { on := 17, ground := Go.Ground.textOnly Go.Departure.lateStores }, { on := 18, ground := Go.Ground.textOnly Go.Departure.lateStores }, { on := 19, ground := Go.Ground.textOnly Go.Departure.lateStores }, { on := 20, ground := Go.Ground.phase }, { on := 21, ground := Go.Ground.phase }, { on := 22, ground := Go.Ground.phase }, { on := 23, ground := Go.Ground.phase }, { on := 24, ground := Go.Ground.phase }, { on := 25, ground := Go.Ground.phase }, { on := 26, ground := Go.Ground.phase }, { on := 27, ground := Go.Ground.phase }, { on := 28, ground := Go.Ground.phase }, { on := 29, ground := Go.Ground.phase }, { on := 30, ground := Go.Ground.phase }, { on := 31, ground := Go.Ground.phase }, { on := 32, ground := Go.Ground.phase }, { on := 33, ground := Go.Ground.phase }, { on := 34, ground := Go.Ground.phase }, { on := 35, ground := Go.Ground.phase }, { on := 36, ground := Go.Ground.textOnly Go.Departure.lateStores }, { on := 37, ground := Go.Ground.textOnly Go.Departure.lateStores }, { on := 38, ground := Go.Ground.textOnly Go.Departure.lateStores }, { on := 39, ground := Go.Ground.textOnly Go.Departure.lateStoresUnsure }, { on := 40, ground := Go.Ground.phase }, { on := 41, ground := Go.Ground.textOnly Go.Departure.lateStores }, { on := 42, ground := Go.Ground.textOnly Go.Departure.lateStoresUnsure }, { on := 43, ground := Go.Ground.phase }], guard := none } : Oper)) (v := ?_) rfl (by kernel_rfl) (by kernel_rfl) (by kernel_rfl) (by kernel_rfl) (fun _ _ _ h => h) (Or.inl ⟨by rfl, ?_⟩) hLateR (fun _ => hLate) ?_
              rotate_left
              · (intro wS hSw; (try dsimp only at hSw); go_simp <;> with_reducible rfl)
              try simp only [Act.put, List.setIfInBounds_toArray, List.set_cons_zero, List.set_cons_succ]
              refine AnyL.one (i := 45) (o := ({ dst := none, op := Go.Op.store 3 (Go.Operand.tmp 168) (Go.Operand.tmp 159), type := 0, pos := "law.go:98", after := #[{ on := 44, ground := Go.Ground.data }, { on := 35, ground := Go.Ground.data }, { on := 0, ground := Go.Ground.phase }, { on := 1, ground := Go.Ground.phase }, { on := 2, ground := Go.Ground.phase }, { on := 3, ground := Go.Ground.phase }, { on := 4, ground := Go.Ground.phase }, { on := 5, ground := Go.Ground.phase }, { on := 6, ground := Go.Ground.textOnly Go.Departure.lateStores }, { on := 7, ground := Go.Ground.textOnly Go.Departure.lateStores }, { on := 8, ground := Go.Ground.textOnly Go.Departure.lateStores }, { on := 9, ground := Go.Ground.textOnly Go.Departure.lateStoresUnsure }, { on := 10, ground := Go.Ground.phase }, { on := 11, ground := Go.Ground.textOnly Go.Departure.lateStores }, { on := 12, ground := Go.Ground.textOnly Go.Departure.lateStores }, { on := 13, ground := Go.Ground.textOnly Go.Departure.lateStores }, { on := 14, ground := Go.Ground.textOnly Go.Departure.lateStoresUnsure }, { on := 15, ground := Go.Ground.phase }, { on := 16, ground := Go.Ground.textOnly Go.Departure.lateStoresUnsure }, { on := 17, ground := Go.Ground.textOnly Go.Departure.lateStores }, { on := 18, ground := Go.Ground.textOnly Go.Departure.lateStores }, { on := 19, ground := Go.Ground.textOnly Go.Departure.lateStores }, { on := 20, ground := Go.Ground.phase }, { on := 21, ground := Go.Ground.phase }, { on := 22, ground := Go.Ground.phase }, { on := 23, ground := Go.Ground.phase }, { on := 24, ground := Go.Ground.phase }, { on := 25, ground := Go.Ground.phase }, { on := 26, ground := Go.Ground.phase }, { on := 27, ground := Go.Ground.phase }, { on := 28, ground := Go.Ground.phase }, { on := 29, ground := Go.Ground.phase }, { on := 30, ground := Go.Ground.phase }, { on := 31, ground := Go.Ground.phase }, { on := 32, ground := Go.Ground.phase }, { on := 33, ground := Go.Ground.phase }, { on := 34, ground := Go.Ground.phase }, { on := 35, ground := Go.Ground.phase }, { on := 36, ground := Go.Ground.textOnly Go.Departure.lateStores }, { on := 37, ground := Go.Ground.textOnly Go.Departure.lateStores }, { on := 38, ground := Go.Ground.textOnly Go.Departure.lateStores }, { on := 39, ground := Go.Ground.textOnly Go.Departure.lateStoresUnsure }, { on := 40, ground := Go.Ground.phase }, { on := 41, ground := Go.Ground.textOnly Go.Departure.lateStores }, { on := 42, ground := Go.Ground.textOnly Go.Departure.lateStoresUnsure }, { on := 43, ground := Go.Ground.phase }], guard := none } : Oper)) (by kernel_rfl) rfl (by kernel_rfl) (fun K hK => ?_)
              clear hLate hLateR
              go_simp
              have hLateR := HR0.out _ (gb_trans (gb_set (w := wr) (a := ⟨gu, j, none⟩) (v := .int .i64 x2)) (gb_drew _ _) (Or.inr (Or.inl rfl)))
              refine hK.out _ _ hLateR ?_
              clear hK K
              try simp only [Act.put, List.setIfInBounds_toArray, List.set_cons_zero, List.set_cons_succ]
              refine AnyL.takeW (i := 46) (oi := ({ dst := some 169, op := Go.Op.indexAddr 43 (Go.Operand.tmp 134) (Go.Operand.tmp 143), type := 0, pos := "law.go:98", after := #[{ on := 10, ground := Go.Ground.data }, { on := 19, ground := Go.Ground.data }, { on := 0, ground := Go.Ground.phase }, { on := 1, ground := Go.Ground.phase }, { on := 2, ground := Go.Ground.phase }, { on := 3, ground := Go.Ground.phase }, { on := 4, ground := Go.Ground.phase }, { on := 5, ground := Go.Ground.phase }, { on := 6, ground := Go.Ground.phase }, { on := 7, ground := Go.Ground.phase }, { on := 8, ground := Go.Ground.phase }, { on := 9, ground := Go.Ground.phase }, { on := 10, ground := Go.Ground.phase }, { on := 11, ground := Go.Ground.phase }, { on := 12, ground := Go.Ground.phase }, { on := 13, ground := Go.Ground.phase }, { on := 14, ground := Go.Ground.phase }, { on := 15, ground := Go.Ground.phase }, { on := 16, ground := Go.Ground.phase }, { on := 17, ground := Go.Ground.phase }, { on := 18, ground := Go.Ground.phase }, { on := 19, ground := Go.Ground.phase }, { on := 20, ground := Go.Ground.phase }, { on := 21, ground := Go.Ground.phase }, { on := 22, ground := Go.Ground.phase }, { on := 23, ground := Go.Ground.phase }, { on := 24, ground := Go.Ground.phase }, { on := 25, ground := Go.Ground.phase }, { on := 26, ground := Go.Ground.phase }, { on := 27, ground := Go.Ground.phase }, { on := 28, ground := Go.Ground.phase }, { on := 29, ground := Go.Ground.phase }, { on := 30, ground := Go.Ground.phase }, { on := 31, ground := Go.Ground.phase }, { on := 32, ground := Go.Ground.phase }, { on := 33, ground := Go.Ground.phase }, { on := 34, ground := Go.Ground.phase }, { on := 35, ground := Go.Ground.phase }, { on := 36, ground := Go.Ground.phase }, { on := 37, ground := Go.Ground.phase }, { on := 38, ground := Go.Ground.phase }, { on := 39, ground := Go.Ground.phase }, { on := 40, ground := Go.Ground.phase }, { on := 41, ground := Go.Ground.phase }, { on := 42, ground := Go.Ground.phase }, { on := 43, ground := Go.Ground.phase }, { on := 44, ground := Go.Ground.phase }, { on := 45, ground := Go.Ground.phase }], guard := none } : Oper)) (v := ?_) rfl (by kernel_rfl) (by kernel_rfl) (by kernel_rfl) (by kernel_rfl) (fun _ _ _ h => h) (Or.inl ⟨by rfl, ?_⟩) hLateR (fun hE => nomatch (show true = false from hE 45 (by simp))) ?_
              rotate_left
              · (intro wS hSw; (try dsimp only at hSw); go_simp <;> with_reducible rfl)
              try simp only [Act.put, List.setIfInBounds_toArray, List.set_cons_zero, List.set_cons_succ]
              refine AnyL.one (i := 47) (o := ({ dst := none, op := Go.Op.store 3 (Go.Operand.tmp 169) (Go.Operand.tmp 167), type := 0, pos := "law.go:98", after := #[{ on := 46, ground := Go.Ground.data }, { on := 43, ground := Go.Ground.data }, { on := 45, ground := Go.Ground.chain }, { on := 0, ground := Go.Ground.phase }, { on := 1, ground := Go.Ground.phase }, { on := 2, ground := Go.Ground.phase }, { on := 3, ground := Go.Ground.phase }, { on := 4, ground := Go.Ground.phase }, { on := 5, ground := Go.Ground.phase }, { on := 6, ground := Go.Ground.phase }, { on := 7, ground := Go.Ground.phase }, { on := 8, ground := Go.Ground.phase }, { on := 9, ground := Go.Ground.phase }, { on := 10, ground := Go.Ground.phase }, { on := 11, ground := Go.Ground.phase }, { on := 12, ground := Go.Ground.phase }, { on := 13, ground := Go.Ground.phase }, { on := 14, ground := Go.Ground.phase }, { on := 15, ground := Go.Ground.phase }, { on := 16, ground := Go.Ground.phase }, { on := 17, ground := Go.Ground.phase }, { on := 18, ground := Go.Ground.phase }, { on := 19, ground := Go.Ground.phase }, { on := 20, ground := Go.Ground.phase }, { on := 21, ground := Go.Ground.phase }, { on := 22, ground := Go.Ground.phase }, { on := 23, ground := Go.Ground.phase }, { on := 24, ground := Go.Ground.phase }, { on := 25, ground := Go.Ground.phase }, { on := 26, ground := Go.Ground.phase }, { on := 27, ground := Go.Ground.phase }, { on := 28, ground := Go.Ground.phase }, { on := 29, ground := Go.Ground.phase }, { on := 30, ground := Go.Ground.phase }, { on := 31, ground := Go.Ground.phase }, { on := 32, ground := Go.Ground.phase }, { on := 33, ground := Go.Ground.phase }, { on := 34, ground := Go.Ground.phase }, { on := 35, ground := Go.Ground.phase }, { on := 36, ground := Go.Ground.phase }, { on := 37, ground := Go.Ground.phase }, { on := 38, ground := Go.Ground.phase }, { on := 39, ground := Go.Ground.phase }, { on := 40, ground := Go.Ground.phase }, { on := 41, ground := Go.Ground.phase }, { on := 42, ground := Go.Ground.phase }, { on := 43, ground := Go.Ground.phase }, { on := 44, ground := Go.Ground.phase }, { on := 45, ground := Go.Ground.phase }], guard := none } : Oper)) (by kernel_rfl) rfl (by kernel_rfl) (fun K hK => ?_)
              clear hLateR
              go_simp
              have hLateR := HR0.out _ (gb_trans (gb_trans (gb_set (w := wr) (a := ⟨gu, j, none⟩) (v := .int .i64 x2)) (gb_set (a := ⟨gu, n - 1 - j, none⟩) (v := .int .i64 x1)) (Or.inr (Or.inl rfl))) (gb_drew _ _) (Or.inr (Or.inl rfl)))
              refine hK.out _ _ hLateR ?_
              clear hK K
              try simp only [Act.put, List.setIfInBounds_toArray, List.set_cons_zero, List.set_cons_succ]
              refine AnyL.done (by kernel_rfl) ?_ _
              clear i1 i2 i3 i4 i5 i6
              go_wp2_with fail
              go_roundw
              case rel => exact ⟨j + 1, by omega, by go_num, Lib.hid (HA2.out.kept (gb_drew _ none)), Lib.hid (blk_kept HB2.out (gb_drew _ none) (by simp)), Lib.hid (gb_trans HG2.out (gb_drew _ none) (Or.inl rfl)), Lib.hid ⟨(gb_drew _ none).cell HCu2.out (by simp), HI1.out.kept (gb_drew _ none) (fun _ _ => by simp)⟩⟩
              case measure => simp [intOf]; omega
            · obtain rfl : j = n / 2 := by omega
              have hjI : ¬ ((n / 2 : Nat) : Int) < (n : Int) / 2 := by omega
              go_wp2_with fail
              go_roundw
              case rel => exact ⟨k + 1, by omega, by go_num, HIn, HBx, HG⟩
              case measure => simp [intOf]; omega
        · obtain rfl : k = d.R.length := by omega
          obtain ⟨d2, hP2, hR2, hB2, hd2⟩ := HIn.out.dfa HPl.out.1 HPl.out.2
          have HDi := Lib.hid hd2
          have HUi := Lib.hid (letters_lent HIn.out.x HDu.out)
          have HUu := Lib.hid (HDu.out.kept HG.out)
          have HRun : Hid (∀ wx, wr.grownBy wx none → Calls Try.prog 12 #[.agg #[.slice xp d.P.length yp, .slice xn d.R.length yn, .slice xl d.B.length yl], .slice ax nx cx] wx fun e w' => e = .returned (.tuple #[.int .i64 (runS d2 U : Int), .int .i64 (runC d2 U)]) ∧ wx.grownBy w' none) := Lib.hid fun wx hx => drun_any _ _ _ _ d2 U wx (HDi.out.kept hx) (HUi.out.kept hx)
          have HHas : Hid (∀ wx, wr.grownBy wx none → Calls Try.prog 13 #[.agg #[.slice xp d.P.length yp, .slice xn d.R.length yn, .slice xl d.B.length yl], .slice ax nx cx] wx fun e w' => e = .returned (.tuple #[.bool (hasV d2 U), .int .i64 (runC d2 U)]) ∧ wx.grownBy w' none) := Lib.hid fun wx hx => dhas_any _ _ _ _ d2 U wx (HDi.out.kept hx) (HUi.out.kept hx)
          have HRf2 : Hid (∀ wx, wr.grownBy wx none → Calls Try.prog 17 #[.agg #[.slice xp d.P.length yp, .slice xn d.R.length yn, .slice xl d.B.length yl], .slice au U.length cu] wx fun e w' => e = .returned (.tuple #[.int .i64 (runS d2 U : Int), .int .i64 (runC d2 U)]) ∧ wx.grownBy w' none) := Lib.hid fun wx hx => refrun13 _ _ _ _ d2 U wx (HDi.out.kept hx) (HUu.out.kept hx)
          have HRh2 : Hid (∀ wx, wr.grownBy wx none → Calls Try.prog 18 #[.agg #[.slice xp d.P.length yp, .slice xn d.R.length yn, .slice xl d.B.length yl], .slice au U.length cu] wx fun e w' => e = .returned (.tuple #[.bool (hasV d2 U), .int .i64 (runC d2 U)]) ∧ wx.grownBy w' none) := Lib.hid fun wx hx => refhas13 _ _ _ _ d2 U wx (HDi.out.kept hx) (HUu.out.kept hx)
          clear hP2 hR2 hB2 hd2 hlt hk HRef HReh
          generalize runS d2 U = ps at HRun HRf2
          generalize runC d2 U = pc at HRun HRf2 HHas HRh2
          generalize hasV d2 U = ph at HHas HRh2
          have HG2 := Lib.hid (gb_refl wr none)
          go_wp2_with fail
          refine (HRun.out _ HG2.out).mono ?_
          rintro e v1 ⟨rfl, hg⟩
          replace HG := Lib.hid (gb_trans HG.out hg (Or.inl rfl))
          replace HBx := Lib.hid (blk_kept HBx.out hg (by simp))
          replace HIn := Lib.hid (HIn.out.kept hg)
          replace HG2 := Lib.hid (gb_trans HG2.out hg (Or.inl rfl))
          clear hg
          obtain ⟨b0, b1, b2⟩ := S3 HIn.out.box
          go_wp2_with fail
          refine (HRf2.out _ HG2.out).mono ?_
          rintro e v2 ⟨rfl, hg⟩
          replace HG := Lib.hid (gb_trans HG.out hg (Or.inl rfl))
          replace HBx := Lib.hid (blk_kept HBx.out hg (by simp))
          replace HIn := Lib.hid (HIn.out.kept hg)
          replace HG2 := Lib.hid (gb_trans HG2.out hg (Or.inl rfl))
          clear hg
          obtain ⟨b0, b1, b2⟩ := S3 HIn.out.box
          go_wp2_with fail
          refine (HHas.out _ HG2.out).mono ?_
          rintro e v3 ⟨rfl, hg⟩
          replace HG := Lib.hid (gb_trans HG.out hg (Or.inl rfl))
          replace HBx := Lib.hid (blk_kept HBx.out hg (by simp))
          replace HIn := Lib.hid (HIn.out.kept hg)
          replace HG2 := Lib.hid (gb_trans HG2.out hg (Or.inl rfl))
          clear hg
          obtain ⟨b0, b1, b2⟩ := S3 HIn.out.box
          go_wp2_with fail
          refine (HRh2.out _ HG2.out).mono ?_
          rintro e v4 ⟨rfl, hg⟩
          replace HG := Lib.hid (gb_trans HG.out hg (Or.inl rfl))
          replace HBx := Lib.hid (blk_kept HBx.out hg (by simp))
          replace HIn := Lib.hid (HIn.out.kept hg)
          replace HG2 := Lib.hid (gb_trans HG2.out hg (Or.inl rfl))
          clear hg
          obtain ⟨a0, a1, a2⟩ := S3 HBx.out
          clear b0 b1 b2
          go_wp2_with fail
          refine (HRec.out _ HG.out).mono ?_
          rintro e v5 ⟨rfl, hg⟩
          go_wp2_with fail
          go_ret
          exact ⟨by simp, gb_trans HG.out hg (Or.inl rfl)⟩
theorem runs_any (vp vn vl vu : Value) (d : Dfa) (U : List Nat) (w : World) (h : DfaAt w vp vn vl d) (hs : Short d.P) (hU : LettersAt w vu U) :
    Calls Try.prog 4 #[.agg #[vp, vn, vl], vu] w fun e w' => e = .returned (.bool true) ∧ w.grownBy w' none := by
  by_cases hb : 10000 < capN (sizes d.P) ∨ 100000 < capN (lens d.R) ∨ 100000 < d.B.length ∨ 10000 < U.length
  · exact runs_big vp vn vl vu d U w h hs hU hb
  · exact runs_walk vp vn vl vu d U w h hs hU (by omega) (by omega) (by omega) (by omega)
end Go.Proofs.Ytcdepblajobemaa
