/- Dfa: the law of Build: its walk. -/
import Derived.Test.YtcdepblajobemaaBuilds21
set_option maxRecDepth 100000
namespace Go.Proofs.Ytcdepblajobemaa
open Go.RowKit

theorem few_parts {a : Aut} (h : fewF a = true) : 0 ≤ a.n ∧ a.n ≤ 14 ∧ a.E.length ≤ 100 ∧ a.I.length ≤ 100 ∧ a.F.length ≤ 100 := by
  unfold fewF at h
  simp only [Bool.and_eq_true, decide_eq_true_eq] at h
  exact ⟨h.1, h.2.1, h.2.2.1, h.2.2.2.1, h.2.2.2.2.1⟩
theorem few_len {a : Aut} (h : fewF a = true) : a.P.length ≤ 10000 := by
  unfold fewF at h
  simp only [Bool.and_eq_true, decide_eq_true_eq] at h
  have e1 := capN_sum (l := sizes a.P) (by omega)
  have l1 := sumN_len (sizes a.P)
  rw [show (sizes a.P).length = a.P.length by simp [sizes]] at l1
  omega
theorem below_gb {w w' : World} (h : w.grownBy w' none) : Below w.heap.size w w' := ⟨h.os, h.tape, h.output, h.size, fun k hk => h.block k hk (by simp)⟩
set_option maxHeartbeats 16000000 in
theorem builds_any (vp vi ve vf vl : Value) (a : Aut) (A : List Int) (most : Int) (w : World) (h : AutAt w vp vi ve vf a) (hsh : Short a.P) (hl : IntsAt w vl A) (hm : -9223372036854775808 ≤ most ∧ most ≤ 9223372036854775807) :
    Calls Try.prog 6 #[autV vp vi ve vf a.n, vl, .int .i64 most] w fun e w' => e = .returned (.bool true) ∧ Below w.heap.size w w' := by
  have HA := Lib.hid h
  have HLi := Lib.hid hl
  have hg0 := World.grownBy_alloc w (.cells #[vp, .int .i64 a.n, vi, ve, vf] 47) none
  have HG := Lib.hid hg0
  have HBx := Lib.hid (heap_alloc_new w (.cells #[vp, .int .i64 a.n, vi, ve, vf] 47))
  have HFw := Lib.hid (few_any vp vi ve vf a _ (h.kept hg0) hsh)
  obtain ⟨fb, HF⟩ : ∃ fb, Hid (fewF a = fb) := ⟨_, rfl⟩
  rw [HF.out] at HFw
  have HPt : Hid (∀ k, k < a.P.length → (a.P.getD k ⟨#[]⟩).size ≤ maxLen) := by
    obtain ⟨_, _, _, _, _, h2, _⟩ := h.p
    exact Lib.hid h2
  have HEo : Hid (a.E.length ≤ 17592186043904 ∧ ∀ k, k < a.E.length → edgeOk (a.E.getD k edg0)) := by
    obtain ⟨_, _, _, _, h1, h2, _⟩ := h.e
    exact Lib.hid ⟨h2, h1⟩
  have hPl : a.P.length ≤ 17592186043904 := by obtain ⟨_, _, _, _, h1, _⟩ := h.p; exact h1
  obtain ⟨ap, cp, rfl, -⟩ := h.p
  obtain ⟨ai, ci, rfl, -⟩ := h.i
  obtain ⟨ae, ce, rfl, -⟩ := h.e
  obtain ⟨af, cf, rfl, -⟩ := h.f
  obtain ⟨al, cl, rfl, -, hlA, -⟩ := hl
  clear h hsh hg0
  unfold autV at HFw ⊢
  go_enter Try.func6, Try.ntmps6
  go_wp2_with fail
  generalize w.alloc (.cells #[.slice ap a.P.length cp, .int .i64 a.n, .slice ai a.I.length ci, .slice ae a.E.length ce, .slice af a.F.length cf] 47) = w0 at HG HBx HFw ⊢
  refine HFw.out.mono ?_
  rintro e w1 ⟨rfl, hg⟩
  replace HG := Lib.hid (gb_trans HG.out hg (Or.inl rfl))
  replace HBx := Lib.hid (blk_kept HBx.out hg (by simp))
  clear hg
  clear HFw
  cases fb with
  | false =>
    go_wp2_with fail
    go_ret
    exact ⟨rfl, below_gb HG.out⟩
  | true =>
    by_cases hlen : 1000 < A.length
    · have hlI : (1000 : Int) < (A.length : Int) := by omega
      go_wp2_with fail
      go_ret
      exact ⟨rfl, below_gb HG.out⟩
    have hlI : ¬ (1000 : Int) < (A.length : Int) := by omega
    obtain ⟨f1, f2, f3, f4, f5⟩ := few_parts HF.out
    obtain ⟨n, hn⟩ : ∃ n : Nat, a.n = (n : Int) := ⟨a.n.toNat, (Int.toNat_of_nonneg f1).symm⟩
    have h14 : n ≤ 14 := by omega
    have HN := Lib.hid hn
    rw [hn] at HBx ⊢
    have HFB : Hid (FewB a) := Lib.hid ⟨by have := few_len HF.out; omega, by omega, by omega, by omega⟩
    obtain ⟨V, HVV⟩ : ∃ V, Hid (ofL n A = V) := ⟨_, rfl⟩
    obtain ⟨V1, HV1⟩ : ∃ V, Hid (ofL (n + 1) A = V) := ⟨_, rfl⟩
    have HOf : Hid (∀ wx, w.grownBy wx none → Calls Try.prog 22 #[.int .i64 (n : Int), .slice al A.length cl] wx (Made wx n V)) := Lib.hid fun wx hx => by
      have := of_any n _ A wx (Nat.le_trans h14 (by decide)) (HLi.out.kept hx)
      rw [HVV.out] at this
      exact this
    have HOg : Hid (∀ wx, w.grownBy wx none → Calls Try.prog 22 #[.int .i64 ((n : Int) + 1), .slice al A.length cl] wx (Made wx (n + 1) V1)) := Lib.hid fun wx hx => by
      have := of_any (n + 1) _ A wx (by omega) (HLi.out.kept hx)
      rw [HV1.out] at this
      exact this
    have HLn : Hid (∀ wx, w.grownBy wx none → Calls Try.prog 25 #[.agg #[.slice ap a.P.length cp, .int .i64 (n : Int), .slice ai a.I.length ci, .slice ae a.E.length ce, .slice af a.F.length cf]] wx fun e w' => ∃ xp yp xi yi xe ye xf yf, e = .returned (.agg #[.slice xp a.P.length yp, .int .i64 (n : Int), .slice xi a.I.length yi, .slice xe a.E.length ye, .slice xf a.F.length yf]) ∧ LentB w' wx.heap.size (.slice xp a.P.length yp) (.slice xi a.I.length yi) (.slice xe a.E.length ye) (.slice xf a.F.length yf) a ∧ wx.grownBy w' none) := Lib.hid fun wx hx => by
      have := lent_buchi (HA.out.kept hx) HFB.out
      unfold autV at this
      rw [hn] at this
      exact this
    obtain ⟨D, HDD⟩ : ∃ D, Hid (resD a n V most = D) := ⟨_, rfl⟩
    obtain ⟨er, HER⟩ : ∃ x, Hid (resE a n V most = x) := ⟨_, rfl⟩
    obtain ⟨mD, HOk⟩ : ∃ m, Hid (ResOk D m) := by
      obtain ⟨m, h⟩ := resD_ok (a := a) h14 V most
      exact ⟨m, Lib.hid (by rw [← HDD.out]; exact h)⟩
    have HDt : Hid (∀ k, k < D.P.length → (D.P.getD k ⟨#[]⟩).size ≤ maxLen) := Lib.hid (by rw [← HDD.out]; exact res_texts HA.out.p)
    have HLA : Hid (∀ (wx : World) (Y : Nat) (xp xi xe xf : Value), LentB wx Y xp xi xe xf a → AutAt wx xp xi xe xf a) := Lib.hid fun wx Y xp xi xe xf hL => lentb_at hL HA.out rfl rfl rfl HEo.out.1 HEo.out.2
    have HBa : Hid (∀ (wx : World) (xp xi xe xf : Value) (q g cap : Nat), AutAt wx xp xi xe xf a → SetAt wx q g cap n V → Calls Try.prog 23 #[.agg #[xp, .int .i64 (n : Int), xi, xe, xf], .pointer (some ⟨q, 0, none⟩), .int .i64 most] wx (ResAt wx D er)) := Lib.hid fun wx xp xi xe xf q g cap hX hS => by
      have := bld_any hn h14 hm hX hS
      unfold autV at this
      rw [hn, HDD.out, HER.out] at this
      exact this
    have HBo : Hid (∀ (wx : World) (xp xi xe xf : Value) (q g cap : Nat), AutAt wx xp xi xe xf a → SetAt wx q g cap (n + 1) V1 → Calls Try.prog 23 #[.agg #[xp, .int .i64 (n : Int), xi, xe, xf], .pointer (some ⟨q, 0, none⟩), .int .i64 most] wx fun e w' => e = .returned (.tuple #[.agg #[.slice none 0 0, .slice none 0 0, .slice none 0 0], .int .i64 130]) ∧ wx.grownBy w' none) := Lib.hid fun wx xp xi xe xf q g cap hX hS => by
      have := bld_no xp xi xe xf a q g cap (n + 1) V1 most wx hX hS (Or.inr (by rw [hn]; omega))
      unfold autV at this
      rw [hn] at this
      exact this
    have HRb : Hid (∀ (wx : World) (v : Value), w.grownBy wx none → BoolsAt wx v (yesL n V n) → Calls Try.prog 28 #[.agg #[.slice ap a.P.length cp, .int .i64 (n : Int), .slice ai a.I.length ci, .slice ae a.E.length ce, .slice af a.F.length cf], v, .int .i64 most] wx (ResAt wx D er)) := Lib.hid fun wx v hx hB => by
      have := rbld_any hn h14 hm (HA.out.kept hx) hB
      unfold autV at this
      rw [hn, HDD.out, HER.out] at this
      exact this
    have HWb : Hid (∀ (wx : World) (Y : Nat) (xp xi xe xf : Value), w.grownBy wx none → LentB wx Y xp xi xe xf a → Calls Try.prog 26 #[.agg #[xp, .int .i64 (n : Int), xi, xe, xf], .agg #[.slice ap a.P.length cp, .int .i64 (n : Int), .slice ai a.I.length ci, .slice ae a.E.length ce, .slice af a.F.length cf]] wx fun e w' => e = .returned (.bool true) ∧ wx.grownBy w' none) := Lib.hid fun wx Y xp xi xe xf hx hL => by
      have := whole_buchi hL (HA.out.kept hx)
      unfold autV at this
      rw [hn] at this
      exact this
    have HYs : Hid (∀ (wx : World) (q g cap : Nat), SetAt wx q g cap n V → Calls Try.prog 29 #[.int .i64 (n : Int), .pointer (some ⟨q, 0, none⟩)] wx fun e w' => ∃ v, e = .returned v ∧ w'.ownsRow wx.heap.size 4 1 v n ((yesL n V n).map tv01) ∧ wx.grownBy w' none) := Lib.hid fun wx q g cap hS => yes_any n (by omega) q g cap n V wx hS
    have HAn := Lib.hid hn
    clear hn HF f1 f2 HVV HV1 HFB HDD HER
    go_wp2_with fail
    refine (known_any _).mono ?_
    rintro e w2 ⟨rfl, hg⟩
    replace HG := Lib.hid (gb_trans HG.out hg (Or.inl rfl))
    replace HBx := Lib.hid (blk_kept HBx.out hg (by simp))
    clear hg
    obtain ⟨b0, b1, b2, b3, b4⟩ := buchi_cells HBx.out
    go_wp2_with fail
    refine (HOf.out _ HG.out).mono ?_
    rintro e w3 ⟨p1, g1, c1, rfl, hp1, hg1, hs, hg⟩
    have HS := Lib.hid hs
    clear hs hp1 hg1
    replace HG := Lib.hid (gb_trans HG.out hg (Or.inl rfl))
    replace HBx := Lib.hid (blk_kept HBx.out hg (by simp))
    clear hg
    obtain ⟨b0, b1, b2, b3, b4⟩ := buchi_cells HBx.out
    go_wp2_with fail
    refine (HOg.out _ HG.out).mono ?_
    rintro e w4 ⟨p2, g2, c2, rfl, hp2, hg2, hs, hg⟩
    have HO := Lib.hid hs
    clear hs hp2 hg2
    replace HG := Lib.hid (gb_trans HG.out hg (Or.inl rfl))
    replace HBx := Lib.hid (blk_kept HBx.out hg (by simp))
    replace HS := Lib.hid (HS.out.kept hg (by simp) (by simp))
    clear hg
    obtain ⟨b0, b1, b2, b3, b4⟩ := buchi_cells HBx.out
    go_wp2_with fail
    have HYL : Hid (w.heap.size < w4.heap.size ∧ p1 < w4.heap.size ∧ g1 < w4.heap.size) := Lib.hid ⟨(Array.getElem?_eq_some_iff.1 HBx.out).1, HS.out.raw.lt, HS.out.glt⟩
    refine (HLn.out _ HG.out).mono ?_
    rintro e w5 ⟨xp, yp, xi, yi, xe, ye, xf, yf, rfl, hl, hg⟩
    have HLb := Lib.hid hl
    clear hl
    obtain ⟨YL, HYe⟩ : ∃ Y, Hid (w4.heap.size = Y) := ⟨_, rfl⟩
    rw [HYe.out] at HLb HYL
    replace HG := Lib.hid (gb_trans HG.out hg (Or.inl rfl))
    replace HBx := Lib.hid (blk_kept HBx.out hg (by simp))
    replace HS := Lib.hid (HS.out.kept hg (by simp) (by simp))
    replace HO := Lib.hid (HO.out.kept hg (by simp) (by simp))
    clear hg
    have HLm := Lib.hid HLb.out.lim
    obtain ⟨ZL, HZe⟩ : ∃ Z, Hid (w5.heap.size = Z) := ⟨_, rfl⟩
    rw [HZe.out] at HLm
    have hga := World.grownBy_alloc w5 (.cells #[.slice xp a.P.length yp, .int .i64 (n : Int), .slice xi a.I.length yi, .slice xe a.E.length ye, .slice xf a.F.length yf] 47) none
    have HBi := Lib.hid (heap_alloc_new w5 (.cells #[.slice xp a.P.length yp, .int .i64 (n : Int), .slice xi a.I.length yi, .slice xe a.E.length ye, .slice xf a.F.length yf] 47))
    rw [HZe.out] at HBi
    have HZ6 := Lib.hid (show YL ≤ ZL ∧ ZL ≤ (w5.alloc (.cells #[.slice xp a.P.length yp, .int .i64 (n : Int), .slice xi a.I.length yi, .slice xe a.E.length ye, .slice xf a.F.length yf] 47)).heap.size from ⟨by have := HLb.out.room.p; obtain ⟨g, n', cap, cur, e, _, _, _, _, h5, h6⟩ := this; rw [← HZe.out]; omega, by rw [World.size_alloc, HZe.out]; exact Nat.le_succ _⟩)
    replace HG := Lib.hid (gb_trans HG.out hga (Or.inl rfl))
    replace HBx := Lib.hid (blk_kept HBx.out hga (by simp))
    replace HS := Lib.hid (HS.out.kept hga (by simp) (by simp))
    replace HO := Lib.hid (HO.out.kept hga (by simp) (by simp))
    replace HLb := Lib.hid (HLb.out.kept hga)
    clear hga
    go_wp2_with fail
    rw [HZe.out]
    clear HYe HZe
    generalize w5.alloc (.cells #[.slice xp a.P.length yp, .int .i64 (n : Int), .slice xi a.I.length yi, .slice xe a.E.length ye, .slice xf a.F.length yf] 47) = w6 at HG HBx HS HO HLb HBi HZ6 ⊢
    -- the first
    refine (HBa.out _ _ _ _ _ _ _ _ (HLA.out _ _ _ _ _ _ HLb.out) HS.out).mono ?_
    rintro e w7 ⟨dp, dcp, dn, dcn, dl, dcl, du, rfl, hD, hg⟩
    have HD := Lib.hid (hD.base HZ6.out.2)
    clear hD
    replace HG := Lib.hid (gb_trans HG.out hg (Or.inl rfl))
    replace HBx := Lib.hid (blk_kept HBx.out hg (by simp))
    replace HS := Lib.hid (HS.out.kept hg (by simp) (by simp))
    replace HO := Lib.hid (HO.out.kept hg (by simp) (by simp))
    replace HLb := Lib.hid (HLb.out.kept hg)
    replace HBi := Lib.hid (blk_kept HBi.out hg (by simp))
    clear hg
    have hga := World.grownBy_alloc w7 (.cells #[.slice dp D.P.length dcp, .slice dn D.R.length dcn, .slice dl D.B.length dcl] 27) none
    have HBd := Lib.hid (heap_alloc_new w7 (.cells #[.slice dp D.P.length dcp, .slice dn D.R.length dcn, .slice dl D.B.length dcl] 27))
    have HDl := Lib.hid (HD.out.lim.mono hga.size)
    have HQd := Lib.hid (Array.getElem?_eq_some_iff.1 HBi.out).1
    replace HG := Lib.hid (gb_trans HG.out hga (Or.inl rfl))
    replace HBx := Lib.hid (blk_kept HBx.out hga (by simp))
    replace HS := Lib.hid (HS.out.kept hga (by simp) (by simp))
    replace HO := Lib.hid (HO.out.kept hga (by simp) (by simp))
    replace HLb := Lib.hid (HLb.out.kept hga)
    replace HBi := Lib.hid (blk_kept HBi.out hga (by simp))
    replace HD := Lib.hid (HD.out.kept hga)
    clear hga
    obtain ⟨b0, b1, b2, b3, b4⟩ := buchi_cells HBi.out
    go_wp2_with fail
    generalize w7.alloc (.cells #[.slice dp D.P.length dcp, .slice dn D.R.length dcn, .slice dl D.B.length dcl] 27) = w8 at HG HBx HS HO HLb HBi HD HBd HDl ⊢
    generalize w7.heap.size = qd at HBd HQd ⊢
    -- the second
    refine (HBa.out _ _ _ _ _ _ _ _ (HLA.out _ _ _ _ _ _ HLb.out) HS.out).mono ?_
    rintro e w9 ⟨bp, bcp, bn, bcn, bl, bcl, bu, rfl, hB, hg⟩
    have HB := Lib.hid hB
    have HZ8 := Lib.hid (Nat.le_of_lt (Array.getElem?_eq_some_iff.1 HBi.out).1)
    clear hB b0 b1 b2 b3 b4
    replace HG := Lib.hid (gb_trans HG.out hg (Or.inl rfl))
    replace HBx := Lib.hid (blk_kept HBx.out hg (by simp))
    replace HS := Lib.hid (HS.out.kept hg (by simp) (by simp))
    replace HO := Lib.hid (HO.out.kept hg (by simp) (by simp))
    replace HLb := Lib.hid (HLb.out.kept hg)
    replace HBi := Lib.hid (blk_kept HBi.out hg (by simp))
    replace HD := Lib.hid (HD.out.kept hg)
    replace HBd := Lib.hid (blk_kept HBd.out hg (by simp))
    clear hg
    have hga := World.grownBy_alloc w9 (.cells #[.slice bp D.P.length bcp, .slice bn D.R.length bcn, .slice bl D.B.length bcl] 27) none
    have HQb := Lib.hid (Array.getElem?_eq_some_iff.1 HBi.out).1
    have HBb := Lib.hid (heap_alloc_new w9 (.cells #[.slice bp D.P.length bcp, .slice bn D.R.length bcn, .slice bl D.B.length bcl] 27))
    replace HG := Lib.hid (gb_trans HG.out hga (Or.inl rfl))
    replace HBx := Lib.hid (blk_kept HBx.out hga (by simp))
    replace HS := Lib.hid (HS.out.kept hga (by simp) (by simp))
    replace HO := Lib.hid (HO.out.kept hga (by simp) (by simp))
    replace HLb := Lib.hid (HLb.out.kept hga)
    replace HBi := Lib.hid (blk_kept HBi.out hga (by simp))
    replace HD := Lib.hid (HD.out.kept hga)
    replace HBd := Lib.hid (blk_kept HBd.out hga (by simp))
    replace HB := Lib.hid (HB.out.kept hga)
    clear hga
    obtain ⟨b0, b1, b2, b3, b4⟩ := buchi_cells HBi.out
    go_wp2_with fail
    generalize w9.alloc (.cells #[.slice bp D.P.length bcp, .slice bn D.R.length bcn, .slice bl D.B.length bcl] 27) = wA at HG HBx HS HO HLb HBi HD HBd HB HBb ⊢
    generalize w9.heap.size = qb at HBb HQb ⊢
    have HZB := Lib.hid (show ZL ≤ w8.heap.size from HZ8.out)
    generalize w8.heap.size = ZB at HB HDl HZB
    -- the one of another width
    refine (HBo.out _ _ _ _ _ _ _ _ (HLA.out _ _ _ _ _ _ HLb.out) HO.out).mono ?_
    rintro e wB ⟨rfl, hg⟩
    clear b0 b1 b2 b3 b4
    replace HG := Lib.hid (gb_trans HG.out hg (Or.inl rfl))
    replace HBx := Lib.hid (blk_kept HBx.out hg (by simp))
    replace HS := Lib.hid (HS.out.kept hg (by simp) (by simp))
    replace HO := Lib.hid (HO.out.kept hg (by simp) (by simp))
    replace HLb := Lib.hid (HLb.out.kept hg)
    replace HBi := Lib.hid (blk_kept HBi.out hg (by simp))
    replace HD := Lib.hid (HD.out.kept hg)
    replace HBd := Lib.hid (blk_kept HBd.out hg (by simp))
    replace HB := Lib.hid (HB.out.kept hg)
    replace HBb := Lib.hid (blk_kept HBb.out hg (by simp))
    clear hg
    have hga := World.grownBy_alloc wB (.cells #[.slice none 0 0, .slice none 0 0, .slice none 0 0] 27) none
    replace HG := Lib.hid (gb_trans HG.out hga (Or.inl rfl))
    replace HBx := Lib.hid (blk_kept HBx.out hga (by simp))
    replace HS := Lib.hid (HS.out.kept hga (by simp) (by simp))
    replace HO := Lib.hid (HO.out.kept hga (by simp) (by simp))
    replace HLb := Lib.hid (HLb.out.kept hga)
    replace HBi := Lib.hid (blk_kept HBi.out hga (by simp))
    replace HD := Lib.hid (HD.out.kept hga)
    replace HBd := Lib.hid (blk_kept HBd.out hga (by simp))
    replace HB := Lib.hid (HB.out.kept hga)
    replace HBb := Lib.hid (blk_kept HBb.out hga (by simp))
    clear hga
    obtain ⟨b0, b1, b2, b3, b4⟩ := buchi_cells HBi.out
    obtain ⟨a0, a1, a2, a3, a4⟩ := buchi_cells HBx.out
    go_wp2_with fail
    generalize wB.alloc (.cells #[.slice none 0 0, .slice none 0 0, .slice none 0 0] 27) = wC at HG HBx HS HO HLb HBi HD HBd HB HBb b0 b1 b2 b3 b4 a0 a1 a2 a3 a4 ⊢
    refine (HWb.out _ _ _ _ _ _ HG.out HLb.out).mono ?_
    rintro e wD ⟨rfl, hg⟩
    clear b0 b1 b2 b3 b4 a0 a1 a2 a3 a4 HO
    replace HG := Lib.hid (gb_trans HG.out hg (Or.inl rfl))
    replace HBx := Lib.hid (blk_kept HBx.out hg (by simp))
    replace HS := Lib.hid (HS.out.kept hg (by simp) (by simp))
    replace HLb := Lib.hid (HLb.out.kept hg)
    replace HBi := Lib.hid (blk_kept HBi.out hg (by simp))
    replace HD := Lib.hid (HD.out.kept hg)
    replace HBd := Lib.hid (blk_kept HBd.out hg (by simp))
    replace HB := Lib.hid (HB.out.kept hg)
    replace HBb := Lib.hid (blk_kept HBb.out hg (by simp))
    clear hg
    obtain ⟨a0, a1, a2, a3, a4⟩ := buchi_cells HBx.out
    go_wp2_with fail
    refine (HOf.out _ HG.out).mono ?_
    rintro e wE ⟨p3, g3, c3, rfl, hp3, hg3, hs, hg⟩
    have HS3 := Lib.hid hs
    clear hs hp3 hg3 a0 a1 a2 a3 a4
    replace HG := Lib.hid (gb_trans HG.out hg (Or.inl rfl))
    replace HBx := Lib.hid (blk_kept HBx.out hg (by simp))
    replace HS := Lib.hid (HS.out.kept hg (by simp) (by simp))
    replace HLb := Lib.hid (HLb.out.kept hg)
    replace HBi := Lib.hid (blk_kept HBi.out hg (by simp))
    replace HD := Lib.hid (HD.out.kept hg)
    replace HBd := Lib.hid (blk_kept HBd.out hg (by simp))
    replace HB := Lib.hid (HB.out.kept hg)
    replace HBb := Lib.hid (blk_kept HBb.out hg (by simp))
    clear hg
    go_wp2_with fail
    refine (same_h HS.out HS3.out true (Lib.hid (by simp))).mono ?_
    rintro e wF ⟨rfl, hg⟩
    clear HS3
    replace HG := Lib.hid (gb_trans HG.out hg (Or.inl rfl))
    replace HBx := Lib.hid (blk_kept HBx.out hg (by simp))
    replace HS := Lib.hid (HS.out.kept hg (by simp) (by simp))
    replace HLb := Lib.hid (HLb.out.kept hg)
    replace HBi := Lib.hid (blk_kept HBi.out hg (by simp))
    replace HD := Lib.hid (HD.out.kept hg)
    replace HBd := Lib.hid (blk_kept HBd.out hg (by simp))
    replace HB := Lib.hid (HB.out.kept hg)
    replace HBb := Lib.hid (blk_kept HBb.out hg (by simp))
    clear hg
    have HYZ := Lib.hid HZ6.out.1
    clear HZ6 HBa HBo HWb HOf HOg HLn HLA HZ8
    obtain ⟨b0, b1, b2, b3, b4⟩ := buchi_cells HBi.out
    go_wp2_with fail
    clear b0 b1 b2 b3 b4
    rename World => wF
    have HFr0 := Lib.hid (Fr.refl (fun k => YL ≤ k ∧ k < ZL) wF)
    go_loopw [18] (fun i wr => ∃ (k : Nat) (E' : List Edg), k ≤ a.E.length ∧ i = .int .i64 (k : Int) ∧ Hid (E'.length = a.E.length ∧ ∀ j, j < E'.length → edgeOk (E'.getD j edg0)) ∧ Hid (LentB wr YL (.slice xp a.P.length yp) (.slice xi a.I.length yi) (.slice xe a.E.length ye) (.slice xf a.F.length yf) (setE a E')) ∧ Hid (Fr (fun k => YL ≤ k ∧ k < ZL) wF wr)) (fun i _ => a.E.length - (intOf i).toNat)
    case atStart => exact ⟨0, a.E, Nat.zero_le _, rfl, Lib.hid ⟨rfl, HEo.out.2⟩, Lib.hid HLb.out, HFr0⟩
    case round =>
      obtain ⟨k, E', hk, rfl, HE, HL2, HFr⟩ := hrel
      have HBi2 := Lib.hid (fr_blk HBi.out HFr.out (fun h => Nat.lt_irrefl _ h.2))
      obtain ⟨b0, b1, b2, b3, b4⟩ := buchi_cells HBi2.out
      by_cases hlt : k < a.E.length
      · have hkI : (k : Int) < (a.E.length : Int) := by omega
        have hkE : k < E'.length := by rw [HE.out.1]; exact hlt
        obtain ⟨g, cap, hv, c2, c3, hfz, hYg, hgl, ⟨cc, hcc⟩, hset⟩ := lent_swap HL2.out.e hkE
        obtain ⟨hvx, -, hvy⟩ := Value.slice.inj hv
        subst hvx
        subst hvy
        have hgZ : g < ZL := HLm.out.e g rfl
        have c2 : wr.cell? ⟨g, k * 4 + 2, none⟩ = some (.int .u16 ((E'.getD k edg0).mu : Int)) := c2
        have c3 : wr.cell? ⟨g, k * 4 + 3, none⟩ = some (.int .u16 ((E'.getD k edg0).no : Int)) := c3
        have hset : LentEdges ((wr.setCell ⟨g, k * 4 + 2, none⟩ (.int .u16 ((E'.getD k edg0).no : Int))).setCell ⟨g, k * 4 + 3, none⟩ (.int .u16 ((E'.getD k edg0).mu : Int))) YL (.slice (some ⟨g, 0, none⟩) a.E.length ye) (E'.set k (swE (E'.getD k edg0))) := hset
        have HE3 : Hid ((E'.set k (swE (E'.getD k edg0))).length = a.E.length ∧ ∀ j, j < (E'.set k (swE (E'.getD k edg0))).length → edgeOk ((E'.set k (swE (E'.getD k edg0))).getD j edg0)) := Lib.hid ⟨by rw [List.length_set]; exact HE.out.1, swE_all HE.out.2 hkE⟩
        have HL3' : ∀ w', wr.grownBy w' (some g) → LentEdges w' YL (.slice (some ⟨g, 0, none⟩) a.E.length ye) (E'.set k (swE (E'.getD k edg0))) → LentB w' YL (.slice xp a.P.length yp) (.slice xi a.I.length yi) (.slice (some ⟨g, 0, none⟩) a.E.length ye) (.slice xf a.F.length yf) (setE a (E'.set k (swE (E'.getD k edg0)))) := fun w' h1 h2 => lentb_swap HL2.out h1 hcc h2
        have f2 := hfz (k * 4 + 2)
        have f3 := hfz (k * 4 + 3)
        obtain ⟨E2, HE2⟩ : ∃ E2, Hid (E'.set k (swE (E'.getD k edg0)) = E2) := ⟨_, rfl⟩
        rw [HE2.out] at hset HE3 HL3'
        clear HE2
        generalize E'.getD k edg0 = x at c2 c3 hset
        have hgs := gb_trans (gb_set (w := wr) (a := ⟨g, k * 4 + 2, none⟩) (v := .int .u16 (x.no : Int))) (gb_set (a := ⟨g, k * 4 + 3, none⟩) (v := .int .u16 (x.mu : Int))) (Or.inr (Or.inl rfl))
        have HL3 := Lib.hid (HL3' _ hgs hset)
        have HFr3 : Hid (Fr (fun k => YL ≤ k ∧ k < ZL) wF _) := Lib.hid (HFr.out.trans (Fr.of_gb (S := fun k => YL ≤ k ∧ k < ZL) hgs (fun k e => by cases e; exact ⟨hYg, hgZ⟩)) (fun _ h => Or.inl h))
        have HR0 : Hid (∀ wx, wr.grownBy wx (some g) → wx.cell? ⟨ZL, 3, none⟩ = some (.slice (some ⟨g, 0, none⟩) a.E.length ye)) := Lib.hid fun wx hx => hx.cell b3 (fun e => by cases e; exact Nat.lt_irrefl _ hgZ)
        clear hset HL3' hgs hfz hcc hv
        go_wp2_with fail
        refine region_late (R := (fun wx => wx.cell? ⟨ZL, 3, none⟩ = some (.slice (some ⟨g, 0, none⟩) a.E.length ye))) (S := (fun wx => wx.cell? ⟨g, k * 4 + 2, none⟩ = some (.int .u16 (x.mu : Int)) ∧ wx.cell? ⟨g, k * 4 + 3, none⟩ = some (.int .u16 (x.no : Int)))) (Z := [20, 23]) (by kernel_rfl) ?_
        have hLateR : ((fun wx => wx.cell? ⟨ZL, 3, none⟩ = some (.slice (some ⟨g, 0, none⟩) a.E.length ye))) wr.drew := b3
        have hLate : ((fun wx => wx.cell? ⟨g, k * 4 + 2, none⟩ = some (.int .u16 (x.mu : Int)) ∧ wx.cell? ⟨g, k * 4 + 3, none⟩ = some (.int .u16 (x.no : Int)))) wr.drew := ⟨c2, c3⟩
        refine AnyL.takeW (i := 0) (oi := ({ dst := some 98, op := Go.Op.fieldAddr 47 (Go.Operand.tmp 10) 3, type := 0, pos := "law.go:64", after := #[], guard := none } : Oper)) (v := ?_) rfl (by kernel_rfl) (by kernel_rfl) (by kernel_rfl) (by kernel_rfl) (fun _ _ _ h => h) (Or.inl ⟨by rfl, ?_⟩) hLateR (fun _ => hLate) ?_
        rotate_left
        · (intro wS hSw; (try dsimp only at hSw); go_simp <;> with_reducible rfl)
        try simp only [Act.put, List.setIfInBounds_toArray, List.set_cons_zero, List.set_cons_succ]
        refine AnyL.takeW (i := 1) (oi := ({ dst := some 99, op := Go.Op.load 45 (Go.Operand.tmp 98), type := 45, pos := "law.go:64", after := #[{ on := 0, ground := Go.Ground.data }], guard := none } : Oper)) (v := ?_) rfl (by kernel_rfl) (by kernel_rfl) (by kernel_rfl) (by kernel_rfl) (fun _ _ _ h => h) (Or.inl ⟨by rfl, ?_⟩) hLateR (fun _ => hLate) ?_
        rotate_left
        · (intro wS hSw; (try dsimp only at hSw); go_simp <;> with_reducible rfl)
        try simp only [Act.put, List.setIfInBounds_toArray, List.set_cons_zero, List.set_cons_succ]
        refine AnyL.takeW (i := 2) (oi := ({ dst := some 100, op := Go.Op.move (Go.Operand.tmp 18), type := 3, pos := "law.go:64", after := #[], guard := none } : Oper)) (v := ?_) rfl (by kernel_rfl) (by kernel_rfl) (by kernel_rfl) (by kernel_rfl) (fun _ _ _ h => h) (Or.inl ⟨by rfl, ?_⟩) hLateR (fun _ => hLate) ?_
        rotate_left
        · (intro wS hSw; (try dsimp only at hSw); go_simp <;> with_reducible rfl)
        try simp only [Act.put, List.setIfInBounds_toArray, List.set_cons_zero, List.set_cons_succ]
        refine AnyL.takeW (i := 3) (oi := ({ dst := some 101, op := Go.Op.fieldAddr 47 (Go.Operand.tmp 10) 3, type := 0, pos := "law.go:64", after := #[{ on := 20, ground := Go.Ground.gcOnly Go.Departure.lateStores }], guard := none } : Oper)) (v := ?_) rfl (by kernel_rfl) (by kernel_rfl) (by kernel_rfl) (by kernel_rfl) (fun _ _ _ h => h) (Or.inl ⟨by rfl, ?_⟩) hLateR (fun _ => hLate) ?_
        rotate_left
        · (intro wS hSw; (try dsimp only at hSw); go_simp <;> with_reducible rfl)
        try simp only [Act.put, List.setIfInBounds_toArray, List.set_cons_zero, List.set_cons_succ]
        refine AnyL.takeW (i := 4) (oi := ({ dst := some 102, op := Go.Op.load 45 (Go.Operand.tmp 101), type := 45, pos := "law.go:64", after := #[{ on := 3, ground := Go.Ground.data }, { on := 20, ground := Go.Ground.gcOnly Go.Departure.lateStores }], guard := none } : Oper)) (v := ?_) rfl (by kernel_rfl) (by kernel_rfl) (by kernel_rfl) (by kernel_rfl) (fun _ _ _ h => h) (Or.inl ⟨by rfl, ?_⟩) hLateR (fun _ => hLate) ?_
        rotate_left
        · (intro wS hSw; (try dsimp only at hSw); go_simp <;> with_reducible rfl)
        try simp only [Act.put, List.setIfInBounds_toArray, List.set_cons_zero, List.set_cons_succ]
        refine AnyL.takeW (i := 5) (oi := ({ dst := some 103, op := Go.Op.move (Go.Operand.tmp 18), type := 3, pos := "law.go:64", after := #[{ on := 20, ground := Go.Ground.gcOnly Go.Departure.lateStores }], guard := none } : Oper)) (v := ?_) rfl (by kernel_rfl) (by kernel_rfl) (by kernel_rfl) (by kernel_rfl) (fun _ _ _ h => h) (Or.inl ⟨by rfl, ?_⟩) hLateR (fun _ => hLate) ?_
        rotate_left
        · (intro wS hSw; (try dsimp only at hSw); go_simp <;> with_reducible rfl)
        try simp only [Act.put, List.setIfInBounds_toArray, List.set_cons_zero, List.set_cons_succ]
        refine AnyL.takeW (i := 6) (oi := ({ dst := some 104, op := Go.Op.fieldAddr 47 (Go.Operand.tmp 10) 3, type := 0, pos := "law.go:64", after := #[], guard := none } : Oper)) (v := ?_) rfl (by kernel_rfl) (by kernel_rfl) (by kernel_rfl) (by kernel_rfl) (fun _ _ _ h => h) (Or.inl ⟨by rfl, ?_⟩) hLateR (fun _ => hLate) ?_
        rotate_left
        · (intro wS hSw; (try dsimp only at hSw); go_simp <;> with_reducible rfl)
        try simp only [Act.put, List.setIfInBounds_toArray, List.set_cons_zero, List.set_cons_succ]
        refine AnyL.takeW (i := 7) (oi := ({ dst := some 105, op := Go.Op.load 45 (Go.Operand.tmp 104), type := 45, pos := "law.go:64", after := #[{ on := 6, ground := Go.Ground.data }], guard := none } : Oper)) (v := ?_) rfl (by kernel_rfl) (by kernel_rfl) (by kernel_rfl) (by kernel_rfl) (fun _ _ _ h => h) (Or.inl ⟨by rfl, ?_⟩) hLateR (fun _ => hLate) ?_
        rotate_left
        · (intro wS hSw; (try dsimp only at hSw); go_simp <;> with_reducible rfl)
        try simp only [Act.put, List.setIfInBounds_toArray, List.set_cons_zero, List.set_cons_succ]
        refine AnyL.takeW (i := 8) (oi := ({ dst := some 106, op := Go.Op.move (Go.Operand.tmp 18), type := 3, pos := "law.go:64", after := #[], guard := none } : Oper)) (v := ?_) rfl (by kernel_rfl) (by kernel_rfl) (by kernel_rfl) (by kernel_rfl) (fun _ _ _ h => h) (Or.inl ⟨by rfl, ?_⟩) hLateR (fun _ => hLate) ?_
        rotate_left
        · (intro wS hSw; (try dsimp only at hSw); go_simp <;> with_reducible rfl)
        try simp only [Act.put, List.setIfInBounds_toArray, List.set_cons_zero, List.set_cons_succ]
        refine AnyL.takeW (i := 9) (oi := ({ dst := some 107, op := Go.Op.indexAddr 45 (Go.Operand.tmp 105) (Go.Operand.tmp 106), type := 0, pos := "law.go:64", after := #[{ on := 7, ground := Go.Ground.data }, { on := 8, ground := Go.Ground.data }], guard := none } : Oper)) (v := ?_) rfl (by kernel_rfl) (by kernel_rfl) (by kernel_rfl) (by kernel_rfl) (fun _ _ _ h => h) (Or.inl ⟨by rfl, ?_⟩) hLateR (fun _ => hLate) ?_
        rotate_left
        · (intro wS hSw; (try dsimp only at hSw); go_simp <;> with_reducible rfl)
        try simp only [Act.put, List.setIfInBounds_toArray, List.set_cons_zero, List.set_cons_succ]
        refine AnyL.takeW (i := 10) (oi := ({ dst := some 108, op := Go.Op.fieldAddr 61 (Go.Operand.tmp 107) 3, type := 0, pos := "law.go:64", after := #[{ on := 9, ground := Go.Ground.data }], guard := none } : Oper)) (v := ?_) rfl (by kernel_rfl) (by kernel_rfl) (by kernel_rfl) (by kernel_rfl) (fun _ _ _ h => h) (Or.inl ⟨by rfl, ?_⟩) hLateR (fun _ => hLate) ?_
        rotate_left
        · (intro wS hSw; (try dsimp only at hSw); go_simp <;> with_reducible rfl)
        try simp only [Act.put, List.setIfInBounds_toArray, List.set_cons_zero, List.set_cons_succ]
        refine AnyL.takeL (i := 11) (oi := ({ dst := some 109, op := Go.Op.load 55 (Go.Operand.tmp 108), type := 55, pos := "law.go:64", after := #[{ on := 10, ground := Go.Ground.data }], guard := none } : Oper)) (v := ?_) rfl (by kernel_rfl) (by kernel_rfl) (by kernel_rfl) (by kernel_rfl) (fun _ _ _ h => h) (Or.inl ⟨by rfl, ?_⟩) hLateR hLate ?_
        rotate_left
        · (intro wS hSw; (try dsimp only at hSw); go_simp <;> with_reducible rfl)
        try simp only [Act.put, List.setIfInBounds_toArray, List.set_cons_zero, List.set_cons_succ]
        refine AnyL.takeW (i := 12) (oi := ({ dst := some 110, op := Go.Op.fieldAddr 47 (Go.Operand.tmp 10) 3, type := 0, pos := "law.go:64", after := #[], guard := none } : Oper)) (v := ?_) rfl (by kernel_rfl) (by kernel_rfl) (by kernel_rfl) (by kernel_rfl) (fun _ _ _ h => h) (Or.inl ⟨by rfl, ?_⟩) hLateR (fun _ => hLate) ?_
        rotate_left
        · (intro wS hSw; (try dsimp only at hSw); go_simp <;> with_reducible rfl)
        try simp only [Act.put, List.setIfInBounds_toArray, List.set_cons_zero, List.set_cons_succ]
        refine AnyL.takeW (i := 13) (oi := ({ dst := some 111, op := Go.Op.load 45 (Go.Operand.tmp 110), type := 45, pos := "law.go:64", after := #[{ on := 12, ground := Go.Ground.data }], guard := none } : Oper)) (v := ?_) rfl (by kernel_rfl) (by kernel_rfl) (by kernel_rfl) (by kernel_rfl) (fun _ _ _ h => h) (Or.inl ⟨by rfl, ?_⟩) hLateR (fun _ => hLate) ?_
        rotate_left
        · (intro wS hSw; (try dsimp only at hSw); go_simp <;> with_reducible rfl)
        try simp only [Act.put, List.setIfInBounds_toArray, List.set_cons_zero, List.set_cons_succ]
        refine AnyL.takeW (i := 14) (oi := ({ dst := some 112, op := Go.Op.move (Go.Operand.tmp 18), type := 3, pos := "law.go:64", after := #[], guard := none } : Oper)) (v := ?_) rfl (by kernel_rfl) (by kernel_rfl) (by kernel_rfl) (by kernel_rfl) (fun _ _ _ h => h) (Or.inl ⟨by rfl, ?_⟩) hLateR (fun _ => hLate) ?_
        rotate_left
        · (intro wS hSw; (try dsimp only at hSw); go_simp <;> with_reducible rfl)
        try simp only [Act.put, List.setIfInBounds_toArray, List.set_cons_zero, List.set_cons_succ]
        refine AnyL.takeW (i := 15) (oi := ({ dst := some 113, op := Go.Op.indexAddr 45 (Go.Operand.tmp 111) (Go.Operand.tmp 112), type := 0, pos := "law.go:64", after := #[{ on := 13, ground := Go.Ground.data }, { on := 14, ground := Go.Ground.data }], guard := none } : Oper)) (v := ?_) rfl (by kernel_rfl) (by kernel_rfl) (by kernel_rfl) (by kernel_rfl) (fun _ _ _ h => h) (Or.inl ⟨by rfl, ?_⟩) hLateR (fun _ => hLate) ?_
        rotate_left
        · (intro wS hSw; (try dsimp only at hSw); go_simp <;> with_reducible rfl)
        try simp only [Act.put, List.setIfInBounds_toArray, List.set_cons_zero, List.set_cons_succ]
        refine AnyL.takeW (i := 16) (oi := ({ dst := some 114, op := Go.Op.fieldAddr 61 (Go.Operand.tmp 113) 2, type := 0, pos := "law.go:64", after := #[{ on := 15, ground := Go.Ground.data }], guard := none } : Oper)) (v := ?_) rfl (by kernel_rfl) (by kernel_rfl) (by kernel_rfl) (by kernel_rfl) (fun _ _ _ h => h) (Or.inl ⟨by rfl, ?_⟩) hLateR (fun _ => hLate) ?_
        rotate_left
        · (intro wS hSw; (try dsimp only at hSw); go_simp <;> with_reducible rfl)
        try simp only [Act.put, List.setIfInBounds_toArray, List.set_cons_zero, List.set_cons_succ]
        refine AnyL.takeL (i := 17) (oi := ({ dst := some 115, op := Go.Op.load 55 (Go.Operand.tmp 114), type := 55, pos := "law.go:64", after := #[{ on := 16, ground := Go.Ground.data }], guard := none } : Oper)) (v := ?_) rfl (by kernel_rfl) (by kernel_rfl) (by kernel_rfl) (by kernel_rfl) (fun _ _ _ h => h) (Or.inl ⟨by rfl, ?_⟩) hLateR hLate ?_
        rotate_left
        · (intro wS hSw; (try dsimp only at hSw); go_simp <;> with_reducible rfl)
        try simp only [Act.put, List.setIfInBounds_toArray, List.set_cons_zero, List.set_cons_succ]
        refine AnyL.takeW (i := 18) (oi := ({ dst := some 116, op := Go.Op.indexAddr 45 (Go.Operand.tmp 99) (Go.Operand.tmp 100), type := 0, pos := "law.go:64", after := #[{ on := 1, ground := Go.Ground.data }, { on := 2, ground := Go.Ground.data }, { on := 0, ground := Go.Ground.phase }, { on := 1, ground := Go.Ground.phase }, { on := 2, ground := Go.Ground.phase }, { on := 3, ground := Go.Ground.textOnly Go.Departure.lateStores }, { on := 4, ground := Go.Ground.textOnly Go.Departure.lateStores }, { on := 5, ground := Go.Ground.textOnly Go.Departure.lateStores }, { on := 6, ground := Go.Ground.phase }, { on := 7, ground := Go.Ground.phase }, { on := 8, ground := Go.Ground.phase }, { on := 9, ground := Go.Ground.phase }, { on := 10, ground := Go.Ground.phase }, { on := 11, ground := Go.Ground.phase }, { on := 12, ground := Go.Ground.textOnly Go.Departure.lateStores }, { on := 13, ground := Go.Ground.textOnly Go.Departure.lateStores }, { on := 14, ground := Go.Ground.textOnly Go.Departure.lateStores }, { on := 15, ground := Go.Ground.textOnly Go.Departure.lateStoresUnsure }, { on := 16, ground := Go.Ground.textOnly Go.Departure.lateStoresUnsure }, { on := 17, ground := Go.Ground.phase }], guard := none } : Oper)) (v := ?_) rfl (by kernel_rfl) (by kernel_rfl) (by kernel_rfl) (by kernel_rfl) (fun _ _ _ h => h) (Or.inl ⟨by rfl, ?_⟩) hLateR (fun _ => hLate) ?_
        rotate_left
        · (intro wS hSw; (try dsimp only at hSw); go_simp <;> with_reducible rfl)
        try simp only [Act.put, List.setIfInBounds_toArray, List.set_cons_zero, List.set_cons_succ]
        refine AnyL.takeW (i := 19) (oi := ({ dst := some 117, op := Go.Op.fieldAddr 61 (Go.Operand.tmp 116) 2, type := 0, pos := "law.go:64", after := #[{ on := 18, ground := Go.Ground.data }, { on := 0, ground := Go.Ground.phase }, { on := 1, ground := Go.Ground.phase }, { on := 2, ground := Go.Ground.phase }, { on := 3, ground := Go.Ground.textOnly Go.Departure.lateStores }, { on := 4, ground := Go.Ground.textOnly Go.Departure.lateStores }, { on := 5, ground := Go.Ground.textOnly Go.Departure.lateStores }, { on := 6, ground := Go.Ground.phase }, { on := 7, ground := Go.Ground.phase }, { on := 8, ground := Go.Ground.phase }, { on := 9, ground := Go.Ground.phase }, { on := 10, ground := Go.Ground.phase }, { on := 11, ground := Go.Ground.phase }, { on := 12, ground := Go.Ground.textOnly Go.Departure.lateStores }, { on := 13, ground := Go.Ground.textOnly Go.Departure.lateStores }, { on := 14, ground := Go.Ground.textOnly Go.Departure.lateStores }, { on := 15, ground := Go.Ground.textOnly Go.Departure.lateStoresUnsure }, { on := 16, ground := Go.Ground.textOnly Go.Departure.lateStoresUnsure }, { on := 17, ground := Go.Ground.phase }], guard := none } : Oper)) (v := ?_) rfl (by kernel_rfl) (by kernel_rfl) (by kernel_rfl) (by kernel_rfl) (fun _ _ _ h => h) (Or.inl ⟨by rfl, ?_⟩) hLateR (fun _ => hLate) ?_
        rotate_left
        · (intro wS hSw; (try dsimp only at hSw); go_simp <;> with_reducible rfl)
        try simp only [Act.put, List.setIfInBounds_toArray, List.set_cons_zero, List.set_cons_succ]
        refine AnyL.one (i := 20) (o := ({ dst := none, op := Go.Op.store 55 (Go.Operand.tmp 117) (Go.Operand.tmp 109), type := 0, pos := "law.go:64", after := #[{ on := 19, ground := Go.Ground.data }, { on := 11, ground := Go.Ground.data }, { on := 0, ground := Go.Ground.phase }, { on := 1, ground := Go.Ground.phase }, { on := 2, ground := Go.Ground.phase }, { on := 3, ground := Go.Ground.textOnly Go.Departure.lateStores }, { on := 4, ground := Go.Ground.textOnly Go.Departure.lateStores }, { on := 5, ground := Go.Ground.textOnly Go.Departure.lateStores }, { on := 6, ground := Go.Ground.phase }, { on := 7, ground := Go.Ground.phase }, { on := 8, ground := Go.Ground.phase }, { on := 9, ground := Go.Ground.phase }, { on := 10, ground := Go.Ground.phase }, { on := 11, ground := Go.Ground.phase }, { on := 12, ground := Go.Ground.textOnly Go.Departure.lateStores }, { on := 13, ground := Go.Ground.textOnly Go.Departure.lateStores }, { on := 14, ground := Go.Ground.textOnly Go.Departure.lateStores }, { on := 15, ground := Go.Ground.textOnly Go.Departure.lateStoresUnsure }, { on := 16, ground := Go.Ground.textOnly Go.Departure.lateStoresUnsure }, { on := 17, ground := Go.Ground.phase }], guard := none } : Oper)) (by kernel_rfl) rfl (by kernel_rfl) (fun K hK => ?_)
        clear hLate hLateR
        go_simp
        have hLateR := HR0.out _ (gb_trans (gb_set (w := wr) (a := ⟨g, k * 4 + 2, none⟩) (v := .int .u16 (x.no : Int))) (gb_drew _ _) (Or.inr (Or.inl rfl)))
        refine hK.out _ _ hLateR ?_
        clear hK K
        try simp only [Act.put, List.setIfInBounds_toArray, List.set_cons_zero, List.set_cons_succ]
        refine AnyL.takeW (i := 21) (oi := ({ dst := some 118, op := Go.Op.indexAddr 45 (Go.Operand.tmp 102) (Go.Operand.tmp 103), type := 0, pos := "law.go:64", after := #[{ on := 4, ground := Go.Ground.data }, { on := 5, ground := Go.Ground.data }, { on := 0, ground := Go.Ground.phase }, { on := 1, ground := Go.Ground.phase }, { on := 2, ground := Go.Ground.phase }, { on := 3, ground := Go.Ground.phase }, { on := 4, ground := Go.Ground.phase }, { on := 5, ground := Go.Ground.phase }, { on := 6, ground := Go.Ground.phase }, { on := 7, ground := Go.Ground.phase }, { on := 8, ground := Go.Ground.phase }, { on := 9, ground := Go.Ground.phase }, { on := 10, ground := Go.Ground.phase }, { on := 11, ground := Go.Ground.phase }, { on := 12, ground := Go.Ground.phase }, { on := 13, ground := Go.Ground.phase }, { on := 14, ground := Go.Ground.phase }, { on := 15, ground := Go.Ground.phase }, { on := 16, ground := Go.Ground.phase }, { on := 17, ground := Go.Ground.phase }, { on := 18, ground := Go.Ground.phase }, { on := 19, ground := Go.Ground.phase }, { on := 20, ground := Go.Ground.phase }], guard := none } : Oper)) (v := ?_) rfl (by kernel_rfl) (by kernel_rfl) (by kernel_rfl) (by kernel_rfl) (fun _ _ _ h => h) (Or.inl ⟨by rfl, ?_⟩) hLateR (fun hE => nomatch (show true = false from hE 20 (by simp))) ?_
        rotate_left
        · (intro wS hSw; (try dsimp only at hSw); go_simp <;> with_reducible rfl)
        try simp only [Act.put, List.setIfInBounds_toArray, List.set_cons_zero, List.set_cons_succ]
        refine AnyL.takeW (i := 22) (oi := ({ dst := some 119, op := Go.Op.fieldAddr 61 (Go.Operand.tmp 118) 3, type := 0, pos := "law.go:64", after := #[{ on := 21, ground := Go.Ground.data }, { on := 0, ground := Go.Ground.phase }, { on := 1, ground := Go.Ground.phase }, { on := 2, ground := Go.Ground.phase }, { on := 3, ground := Go.Ground.phase }, { on := 4, ground := Go.Ground.phase }, { on := 5, ground := Go.Ground.phase }, { on := 6, ground := Go.Ground.phase }, { on := 7, ground := Go.Ground.phase }, { on := 8, ground := Go.Ground.phase }, { on := 9, ground := Go.Ground.phase }, { on := 10, ground := Go.Ground.phase }, { on := 11, ground := Go.Ground.phase }, { on := 12, ground := Go.Ground.phase }, { on := 13, ground := Go.Ground.phase }, { on := 14, ground := Go.Ground.phase }, { on := 15, ground := Go.Ground.phase }, { on := 16, ground := Go.Ground.phase }, { on := 17, ground := Go.Ground.phase }, { on := 18, ground := Go.Ground.phase }, { on := 19, ground := Go.Ground.phase }, { on := 20, ground := Go.Ground.phase }], guard := none } : Oper)) (v := ?_) rfl (by kernel_rfl) (by kernel_rfl) (by kernel_rfl) (by kernel_rfl) (fun _ _ _ h => h) (Or.inl ⟨by rfl, ?_⟩) hLateR (fun hE => nomatch (show true = false from hE 20 (by simp))) ?_
        rotate_left
        · (intro wS hSw; (try dsimp only at hSw); go_simp <;> with_reducible rfl)
        try simp only [Act.put, List.setIfInBounds_toArray, List.set_cons_zero, List.set_cons_succ]
        refine AnyL.one (i := 23) (o := ({ dst := none, op := Go.Op.store 55 (Go.Operand.tmp 119) (Go.Operand.tmp 115), type := 0, pos := "law.go:64", after := #[{ on := 22, ground := Go.Ground.data }, { on := 17, ground := Go.Ground.data }, { on := 20, ground := Go.Ground.chain }, { on := 0, ground := Go.Ground.phase }, { on := 1, ground := Go.Ground.phase }, { on := 2, ground := Go.Ground.phase }, { on := 3, ground := Go.Ground.phase }, { on := 4, ground := Go.Ground.phase }, { on := 5, ground := Go.Ground.phase }, { on := 6, ground := Go.Ground.phase }, { on := 7, ground := Go.Ground.phase }, { on := 8, ground := Go.Ground.phase }, { on := 9, ground := Go.Ground.phase }, { on := 10, ground := Go.Ground.phase }, { on := 11, ground := Go.Ground.phase }, { on := 12, ground := Go.Ground.phase }, { on := 13, ground := Go.Ground.phase }, { on := 14, ground := Go.Ground.phase }, { on := 15, ground := Go.Ground.phase }, { on := 16, ground := Go.Ground.phase }, { on := 17, ground := Go.Ground.phase }, { on := 18, ground := Go.Ground.phase }, { on := 19, ground := Go.Ground.phase }, { on := 20, ground := Go.Ground.phase }], guard := none } : Oper)) (by kernel_rfl) rfl (by kernel_rfl) (fun K hK => ?_)
        clear hLateR
        go_simp
        have hLateR := HR0.out _ (gb_trans (gb_trans (gb_set (w := wr) (a := ⟨g, k * 4 + 2, none⟩) (v := .int .u16 (x.no : Int))) (gb_set (a := ⟨g, k * 4 + 3, none⟩) (v := .int .u16 (x.mu : Int))) (Or.inr (Or.inl rfl))) (gb_drew _ _) (Or.inr (Or.inl rfl)))
        refine hK.out _ _ hLateR ?_
        clear hK K
        try simp only [Act.put, List.setIfInBounds_toArray, List.set_cons_zero, List.set_cons_succ]
        refine AnyL.done (by kernel_rfl) ?_ _
        go_wp2_with fail
        go_roundw
        case rel => exact ⟨k + 1, E2, by omega, by go_num, HE3, Lib.hid (HL3.out.kept (gb_drew _ none)), Lib.hid (HFr3.out.trans (Fr.of_none (S := fun k => YL ≤ k ∧ k < ZL) (gb_drew _ none)) (fun _ h => Or.inl h))⟩
        case measure => simp [intOf]; omega
      · obtain rfl : k = a.E.length := by omega
        have hkI : ¬ (a.E.length : Int) < (a.E.length : Int) := by omega
        go_wp2_with fail
        replace HG := Lib.hid (gb_fr HG.out HFr.out (fun k h => Nat.le_trans (Nat.le_of_lt HYL.out.1) h.1))
        replace HBx := Lib.hid (fr_blk HBx.out HFr.out (fun h => absurd h.1 (Nat.not_le.2 HYL.out.1)))
        replace HS := Lib.hid (HFr.out.set HS.out (fun h => absurd h.1 (Nat.not_le.2 HYL.out.2.1)) (fun h => absurd h.1 (Nat.not_le.2 HYL.out.2.2)))
        replace HBi := HBi2
        replace HD := Lib.hid (HD.out.fr HFr.out (fun k h => h.2))
        replace HBd := Lib.hid (fr_blk HBd.out HFr.out (fun h => absurd h.2 (Nat.not_lt.2 (Nat.le_of_lt HQd.out))))
        replace HB := Lib.hid (HB.out.fr HFr.out (fun k h => Nat.lt_of_lt_of_le h.2 HZB.out))
        replace HBb := Lib.hid (fr_blk HBb.out HFr.out (fun h => absurd h.2 (Nat.not_lt.2 (Nat.le_of_lt HQb.out))))
        replace HLb := HL2
        clear HL2 HBi2 HFr HFr0 hlt hk
        obtain ⟨D2, HDD⟩ : ∃ D2, Hid (resD (setE a E') n V most = D2) := ⟨_, rfl⟩
        obtain ⟨er2, HER⟩ : ∃ x, Hid (resE (setE a E') n V most = x) := ⟨_, rfl⟩
        obtain ⟨m2, HOk2⟩ : ∃ m, Hid (ResOk D2 m) := by
          obtain ⟨m, h⟩ := resD_ok (a := setE a E') h14 V most
          exact ⟨m, Lib.hid (by rw [← HDD.out]; exact h)⟩
        have HDt2 : Hid (∀ k, k < D2.P.length → (D2.P.getD k ⟨#[]⟩).size ≤ maxLen) := Lib.hid (by rw [← HDD.out]; exact res_texts (a := setE a E') HA.out.p)
        have HLx : Hid (∀ wx : World, LentB wx YL (.slice xp a.P.length yp) (.slice xi a.I.length yi) (.slice xe a.E.length ye) (.slice xf a.F.length yf) (setE a E') → AutAt wx (.slice xp a.P.length yp) (.slice xi a.I.length yi) (.slice xe a.E.length ye) (.slice xf a.F.length yf) (setE a E')) := Lib.hid fun wx hL => lentb_at hL HA.out rfl rfl rfl (by show E'.length ≤ _; rw [HE.out.1]; exact HEo.out.1) HE.out.2
        have hn2 : (setE a E').n = (n : Int) := HAn.out
        have HBx2 : Hid (∀ wx : World, LentB wx YL (.slice xp a.P.length yp) (.slice xi a.I.length yi) (.slice xe a.E.length ye) (.slice xf a.F.length yf) (setE a E') → SetAt wx p1 g1 c1 n V → Calls Try.prog 23 #[.agg #[.slice xp a.P.length yp, .int .i64 (n : Int), .slice xi a.I.length yi, .slice xe a.E.length ye, .slice xf a.F.length yf], .pointer (some ⟨p1, 0, none⟩), .int .i64 most] wx (ResAt wx D2 er2)) := Lib.hid fun wx hX hS => by
          have := bld_any hn2 h14 hm (HLx.out wx hX) hS
          unfold autV at this
          rw [hn2, HDD.out, HER.out] at this
          exact this
        have HRx2 : Hid (∀ (wx : World) (v : Value), LentB wx YL (.slice xp a.P.length yp) (.slice xi a.I.length yi) (.slice xe a.E.length ye) (.slice xf a.F.length yf) (setE a E') → BoolsAt wx v (yesL n V n) → Calls Try.prog 28 #[.agg #[.slice xp a.P.length yp, .int .i64 (n : Int), .slice xi a.I.length yi, .slice xe a.E.length ye, .slice xf a.F.length yf], v, .int .i64 most] wx (ResAt wx D2 er2)) := Lib.hid fun wx v hX hB => by
          have := rbld_any hn2 h14 hm (HLx.out wx hX) hB
          unfold autV at this
          rw [hn2, HDD.out, HER.out] at this
          exact this
        clear hn2 HDD HER HE b0 b1 b2 b3 b4
        refine (HBx2.out _ HLb.out HS.out).mono ?_
        rintro e wG ⟨qp, qcp, qn, qcn, ql, qcl, qu, rfl, hX, hg⟩
        have HX := Lib.hid hX
        clear hX
        replace HG := Lib.hid (gb_trans HG.out hg (Or.inl rfl))
        replace HBx := Lib.hid (blk_kept HBx.out hg (by simp))
        replace HS := Lib.hid (HS.out.kept hg (by simp) (by simp))
        replace HLb := Lib.hid (HLb.out.kept hg)
        replace HBi := Lib.hid (blk_kept HBi.out hg (by simp))
        replace HD := Lib.hid (HD.out.kept hg)
        replace HBd := Lib.hid (blk_kept HBd.out hg (by simp))
        replace HB := Lib.hid (HB.out.kept hg)
        replace HBb := Lib.hid (blk_kept HBb.out hg (by simp))
        clear hg
        have hga := World.grownBy_alloc wG (.cells #[.slice qp D2.P.length qcp, .slice qn D2.R.length qcn, .slice ql D2.B.length qcl] 27) none
        have HBX := Lib.hid (heap_alloc_new wG (.cells #[.slice qp D2.P.length qcp, .slice qn D2.R.length qcn, .slice ql D2.B.length qcl] 27))
        replace HG := Lib.hid (gb_trans HG.out hga (Or.inl rfl))
        replace HBx := Lib.hid (blk_kept HBx.out hga (by simp))
        replace HS := Lib.hid (HS.out.kept hga (by simp) (by simp))
        replace HLb := Lib.hid (HLb.out.kept hga)
        replace HBi := Lib.hid (blk_kept HBi.out hga (by simp))
        replace HD := Lib.hid (HD.out.kept hga)
        replace HBd := Lib.hid (blk_kept HBd.out hga (by simp))
        replace HB := Lib.hid (HB.out.kept hga)
        replace HBb := Lib.hid (blk_kept HBb.out hga (by simp))
        replace HX := Lib.hid (HX.out.kept hga)
        clear hga
        go_wp2_with fail
        generalize wG.alloc (.cells #[.slice qp D2.P.length qcp, .slice qn D2.R.length qcn, .slice ql D2.B.length qcl] 27) = wH at HG HBx HS HLb HBi HD HBd HB HBb HX HBX ⊢
        generalize wG.heap.size = qx at HBX ⊢
        have HYe : Hid (∀ wx, wH.grownBy wx none → Calls Try.prog 29 #[.int .i64 (n : Int), .pointer (some ⟨p1, 0, none⟩)] wx fun e w' => ∃ v, e = .returned v ∧ w'.ownsRow wx.heap.size 4 1 v n ((yesL n V n).map tv01) ∧ wx.grownBy w' none) := Lib.hid fun wx hx => HYs.out wx p1 g1 c1 (HS.out.kept hx (by simp) (by simp))
        have HRe : Hid (∀ (wx : World) (av : Option Addr) (cv Z : Nat), wH.grownBy wx none → wx.ownsRow Z 4 1 (.slice av n cv) n ((yesL n V n).map tv01) → Calls Try.prog 28 #[.agg #[.slice xp a.P.length yp, .int .i64 (n : Int), .slice xi a.I.length yi, .slice xe a.E.length ye, .slice xf a.F.length yf], .slice av n cv, .int .i64 most] wx (ResAt wx D2 er2)) := Lib.hid fun wx av cv Z hx hv => HRx2.out wx _ (HLb.out.kept hx) (y_bools hv (Nat.le_trans h14 (by decide)))
        have HSS : Hid (∀ wx, wH.grownBy wx none → wH.grownBy wx none ∧ wx.cell? ⟨ZL, 0, none⟩ = some (.slice xp a.P.length yp) ∧ wx.cell? ⟨ZL, 1, none⟩ = some (.int .i64 (n : Int)) ∧ wx.cell? ⟨ZL, 2, none⟩ = some (.slice xi a.I.length yi) ∧ wx.cell? ⟨ZL, 3, none⟩ = some (.slice xe a.E.length ye) ∧ wx.cell? ⟨ZL, 4, none⟩ = some (.slice xf a.F.length yf) ∧ wx.cell? ⟨w.heap.size, 1, none⟩ = some (.int .i64 (n : Int))) := Lib.hid fun wx hx => by
          obtain ⟨b0, b1, b2, b3, b4⟩ := buchi_cells HBi.out
          obtain ⟨a0, a1, a2, a3, a4⟩ := buchi_cells HBx.out
          exact ⟨hx, hx.cell b0 (by simp), hx.cell b1 (by simp), hx.cell b2 (by simp), hx.cell b3 (by simp), hx.cell b4 (by simp), hx.cell a1 (by simp)⟩
        go_cut [21, 22] (fun s1 s2 wx => ∃ (qy : Nat) (rp : Option Addr) (rcp : Nat) (rn : Option Addr) (rcn : Nat) (rl : Option Addr) (rcl : Nat), s1 = .pointer (some ⟨qy, 0, none⟩) ∧ s2 = .int .i64 er2 ∧ Hid (wx.heap[qy]? = some (.cells #[.slice rp D2.P.length rcp, .slice rn D2.R.length rcn, .slice rl D2.B.length rcl] 27 (0, 0))) ∧ Hid (∃ ru Z, BuiltAt Z wx (.slice rp D2.P.length rcp) (.slice rn D2.R.length rcn) (.slice rl D2.B.length rcl) ru D2.P D2.R D2.B) ∧ Hid (wH.grownBy wx none))
        case first =>
          clear HG HX HD HB HLb
          refine wp_region_held_drew (S := (fun wx => wH.grownBy wx none ∧ wx.cell? ⟨ZL, 0, none⟩ = some (.slice xp a.P.length yp) ∧ wx.cell? ⟨ZL, 1, none⟩ = some (.int .i64 (n : Int)) ∧ wx.cell? ⟨ZL, 2, none⟩ = some (.slice xi a.I.length yi) ∧ wx.cell? ⟨ZL, 3, none⟩ = some (.slice xe a.E.length ye) ∧ wx.cell? ⟨ZL, 4, none⟩ = some (.slice xf a.F.length yf) ∧ wx.cell? ⟨w.heap.size, 1, none⟩ = some (.int .i64 (n : Int)))) (by kernel_rfl) (HSS.out _ (gb_drew _ none)) (fun hHeld => ?_)
          have HG := Lib.hid (gb_drew wH none)
          generalize wH.drew = wx0 at hHeld HG ⊢
          refine wpAnyH_take (i := 0) (oi := ({ dst := some 128, op := Go.Op.load 47 (Go.Operand.tmp 10), type := 47, pos := "law.go:67", after := #[], guard := none } : Oper)) (v := ?_) rfl (by kernel_rfl) (by kernel_rfl) (by kernel_rfl) (fun _ _ _ h => h) (Or.inl ⟨by rfl, ?_⟩) (by assumption) ?_
          rotate_left
          · (intro wS hSw; (try dsimp only at hSw); go_simp <;> with_reducible rfl)
          try simp only [Act.put, List.setIfInBounds_toArray, List.set_cons_zero, List.set_cons_succ]
          refine wpAnyH_take (i := 1) (oi := ({ dst := some 129, op := Go.Op.fieldAddr 47 (Go.Operand.tmp 3) 1, type := 0, pos := "law.go:67", after := #[], guard := none } : Oper)) (v := ?_) rfl (by kernel_rfl) (by kernel_rfl) (by kernel_rfl) (fun _ _ _ h => h) (Or.inl ⟨by rfl, ?_⟩) (by assumption) ?_
          rotate_left
          · (intro wS hSw; (try dsimp only at hSw); go_simp <;> with_reducible rfl)
          try simp only [Act.put, List.setIfInBounds_toArray, List.set_cons_zero, List.set_cons_succ]
          refine wpAnyH_take (i := 2) (oi := ({ dst := some 130, op := Go.Op.load 3 (Go.Operand.tmp 129), type := 3, pos := "law.go:67", after := #[{ on := 1, ground := Go.Ground.data }], guard := none } : Oper)) (v := ?_) rfl (by kernel_rfl) (by kernel_rfl) (by kernel_rfl) (fun _ _ _ h => h) (Or.inl ⟨by rfl, ?_⟩) (by assumption) ?_
          rotate_left
          · (intro wS hSw; (try dsimp only at hSw); go_simp <;> with_reducible rfl)
          try simp only [Act.put, List.setIfInBounds_toArray, List.set_cons_zero, List.set_cons_succ]
          refine wpAnyH_take (i := 3) (oi := ({ dst := some 131, op := Go.Op.move (Go.Operand.tmp 8), type := 50, pos := "law.go:67", after := #[], guard := none } : Oper)) (v := ?_) rfl (by kernel_rfl) (by kernel_rfl) (by kernel_rfl) (fun _ _ _ h => h) (Or.inl ⟨by rfl, ?_⟩) (by assumption) ?_
          rotate_left
          · (intro wS hSw; (try dsimp only at hSw); go_simp <;> with_reducible rfl)
          try simp only [Act.put, List.setIfInBounds_toArray, List.set_cons_zero, List.set_cons_succ]
          refine wpAnyH_take (i := 5) (oi := ({ dst := some 133, op := Go.Op.move (Go.Operand.tmp 2), type := 3, pos := "law.go:67", after := #[], guard := none } : Oper)) (v := ?_) rfl (by kernel_rfl) (by kernel_rfl) (by kernel_rfl) (fun _ _ _ h => h) (Or.inl ⟨by rfl, ?_⟩) (by assumption) ?_
          rotate_left
          · (intro wS hSw; (try dsimp only at hSw); go_simp <;> with_reducible rfl)
          try simp only [Act.put, List.setIfInBounds_toArray, List.set_cons_zero, List.set_cons_succ]
          refine wpAnyH_ready (rs := [4, 10]) (by kernel_rfl) (by simp) ?_
          refine AllReadyH.cons (o := ({ dst := some 132, op := Go.Op.call { callee := Go.Callee.value (Go.Operand.func 29), args := #[Go.Operand.tmp 130, Go.Operand.tmp 131], argTypes := #[3, 50] }, type := 25, pos := "law.go:67", after := #[{ on := 2, ground := Go.Ground.data }, { on := 3, ground := Go.Ground.data }], guard := none } : Oper)) rfl (fun K hK => ?_) ?_
          · go_simp
            ((with_reducible refine (HYe.out _ HG.out).mono ?_); rintro e wx1 ⟨vy, rfl, hy, hgN⟩)
            obtain ⟨ay, cy, rfl⟩ := own_val hy
            have HYo := Lib.hid hy
            clear hy
            replace HG := Lib.hid (gb_trans HG.out hgN (Or.inl rfl))
            clear hgN
            refine hK.out _ _ (HSS.out _ HG.out) (fun hHeld => ?_)
            clear hK K
            try simp only [Act.put, List.setIfInBounds_toArray, List.set_cons_zero, List.set_cons_succ]
            refine wpAnyH_ready (rs := [6, 10]) (by kernel_rfl) (by simp) ?_
            refine AllReadyH.cons (o := ({ dst := some 134, op := Go.Op.call { callee := Go.Callee.value (Go.Operand.func 28), args := #[Go.Operand.tmp 128, Go.Operand.tmp 132, Go.Operand.tmp 133], argTypes := #[47, 25, 3] }, type := 52, pos := "law.go:67", after := #[{ on := 0, ground := Go.Ground.data }, { on := 4, ground := Go.Ground.data }, { on := 5, ground := Go.Ground.data }, { on := 4, ground := Go.Ground.chain }], guard := none } : Oper)) rfl (fun K hK => ?_) ?_
            · go_simp
              ((with_reducible refine (HRe.out _ _ _ _ HG.out HYo.out).mono ?_); rintro e wx2 ⟨rp, rcp, rn, rcn, rl, rcl, ru, rfl, hbt, hgN⟩)
              have HBT := Lib.hid hbt
              clear hbt
              replace HYo := Lib.hid (HYo.out.kept hgN (Classical.em _))
              replace HG := Lib.hid (gb_trans HG.out hgN (Or.inl rfl))
              clear hgN
              refine hK.out _ _ (HSS.out _ HG.out) (fun hHeld => ?_)
              clear hK K
              try simp only [Act.put, List.setIfInBounds_toArray, List.set_cons_zero, List.set_cons_succ]
              refine wpAnyH_take (i := 7) (oi := ({ dst := some 127, op := Go.Op.move (Go.Operand.tmp 134), type := 52, pos := "law.go:67", after := #[{ on := 6, ground := Go.Ground.data }], guard := none } : Oper)) (v := ?_) rfl (by kernel_rfl) (by kernel_rfl) (by kernel_rfl) (fun _ _ _ h => h) (Or.inl ⟨by rfl, ?_⟩) (by assumption) ?_
              rotate_left
              · (intro wS hSw; (try dsimp only at hSw); go_simp <;> with_reducible rfl)
              try simp only [Act.put, List.setIfInBounds_toArray, List.set_cons_zero, List.set_cons_succ]
              refine wpAnyH_take (i := 8) (oi := ({ dst := some 135, op := Go.Op.extract (Go.Operand.tmp 127) 0, type := 27, pos := "law.go:67", after := #[{ on := 7, ground := Go.Ground.data }], guard := none } : Oper)) (v := ?_) rfl (by kernel_rfl) (by kernel_rfl) (by kernel_rfl) (fun _ _ _ h => h) (Or.inl ⟨by rfl, ?_⟩) (by assumption) ?_
              rotate_left
              · (intro wS hSw; (try dsimp only at hSw); go_simp <;> with_reducible rfl)
              try simp only [Act.put, List.setIfInBounds_toArray, List.set_cons_zero, List.set_cons_succ]
              refine wpAnyH_take (i := 9) (oi := ({ dst := some 136, op := Go.Op.extract (Go.Operand.tmp 127) 1, type := 33, pos := "law.go:67", after := #[{ on := 7, ground := Go.Ground.data }, { on := 11, ground := Go.Ground.gcOnly Go.Departure.lateStores }], guard := none } : Oper)) (v := ?_) rfl (by kernel_rfl) (by kernel_rfl) (by kernel_rfl) (fun _ _ _ h => h) (Or.inl ⟨by rfl, ?_⟩) (by assumption) ?_
              rotate_left
              · (intro wS hSw; (try dsimp only at hSw); go_simp <;> with_reducible rfl)
              try simp only [Act.put, List.setIfInBounds_toArray, List.set_cons_zero, List.set_cons_succ]
              refine wpAnyH_ready (rs := [10]) (by kernel_rfl) (by simp) ?_
              refine AllReadyH.cons (o := ({ dst := some 21, op := Go.Op.alloc 27, type := 0, pos := "law.go:67", after := #[], guard := none } : Oper)) rfl (fun K hK => ?_) ?_
              · go_simp
                have hgN := World.grownBy_alloc wx2 (.cells #[.slice none 0 0, .slice none 0 0, .slice none 0 0] 27) none
                have hbN := Lib.hid (heap_alloc_new wx2 (.cells #[.slice none 0 0, .slice none 0 0, .slice none 0 0] 27))
                have hlN := Lib.hid (Nat.le_refl wx2.heap.size)
                generalize wx2.alloc (.cells #[.slice none 0 0, .slice none 0 0, .slice none 0 0] 27) = wx3 at hgN hbN ⊢
                obtain ⟨qy, hb_qy⟩ : ∃ b : Nat, b = wx2.heap.size := ⟨_, rfl⟩
                rw [← hb_qy] at hbN ⊢
                have HB_qy := hbN
                have HL_qy := Lib.hid (Nat.le_trans HG.out.size (Nat.le_of_eq hb_qy.symm))
                clear hbN hlN hb_qy
                replace HYo := Lib.hid (HYo.out.kept hgN (Classical.em _))
                replace HBT := Lib.hid (HBT.out.kept hgN)
                replace HG := Lib.hid (gb_trans HG.out hgN (Or.inl rfl))
                clear hgN
                refine hK.out _ _ (HSS.out _ HG.out) (fun hHeld => ?_)
                clear hK K
                try simp only [Act.put, List.setIfInBounds_toArray, List.set_cons_zero, List.set_cons_succ]
                refine wpAnyH_ready (rs := [11]) (by kernel_rfl) (by simp) ?_
                refine AllReadyH.cons (o := ({ dst := none, op := Go.Op.store 27 (Go.Operand.tmp 21) (Go.Operand.tmp 135), type := 0, pos := "law.go:67", after := #[{ on := 10, ground := Go.Ground.data }, { on := 8, ground := Go.Ground.data }, { on := 6, ground := Go.Ground.chain }, { on := 0, ground := Go.Ground.phase }, { on := 1, ground := Go.Ground.phase }, { on := 2, ground := Go.Ground.phase }, { on := 3, ground := Go.Ground.phase }, { on := 4, ground := Go.Ground.phase }, { on := 5, ground := Go.Ground.phase }, { on := 6, ground := Go.Ground.phase }, { on := 7, ground := Go.Ground.phase }, { on := 8, ground := Go.Ground.phase }, { on := 9, ground := Go.Ground.textOnly Go.Departure.lateStores }, { on := 10, ground := Go.Ground.phase }], guard := none } : Oper)) rfl (fun K hK => ?_) ?_
                · obtain ⟨c0, c1, c2, cf⟩ := dfa_cells HB_qy.out
                  have f0 := cf 0
                  have f1 := cf 1
                  have f2 := cf 2
                  clear cf
                  go_simp
                  obtain ⟨hs3, hg3⟩ := set3 HB_qy.out (.slice rp D2.P.length rcp) (.slice rn D2.R.length rcn) (.slice rl D2.B.length rcl)
                  replace HG := Lib.hid (gb_trans HG.out hg3 (Or.inr (Or.inr ⟨_, rfl, HL_qy.out⟩)))
                  replace HBT := Lib.hid (HBT.out.zero hg3 HB_qy.out)
                  clear c0 c1 c2 f0 f1 f2 hg3
                  generalize (((wx3.setCell ⟨qy, 0, none⟩ (.slice rp D2.P.length rcp)).setCell ⟨qy, 1, none⟩ (.slice rn D2.R.length rcn)).setCell ⟨qy, 2, none⟩ (.slice rl D2.B.length rcl)) = wx4 at *
                  replace HB_qy := Lib.hid hs3
                  clear hs3
                  refine hK.out _ _ (HSS.out _ HG.out) (fun hHeld => ?_)
                  clear hK K
                  try simp only [Act.put, List.setIfInBounds_toArray, List.set_cons_zero, List.set_cons_succ]
                  refine wpAnyH_take (i := 12) (oi := ({ dst := some 22, op := Go.Op.assign (Go.Operand.tmp 136), type := 33, pos := "law.go:67", after := #[{ on := 9, ground := Go.Ground.data }, { on := 11, ground := Go.Ground.chain }, { on := 0, ground := Go.Ground.phase }, { on := 1, ground := Go.Ground.phase }, { on := 2, ground := Go.Ground.phase }, { on := 3, ground := Go.Ground.phase }, { on := 4, ground := Go.Ground.phase }, { on := 5, ground := Go.Ground.phase }, { on := 6, ground := Go.Ground.phase }, { on := 7, ground := Go.Ground.phase }, { on := 8, ground := Go.Ground.phase }, { on := 9, ground := Go.Ground.phase }, { on := 10, ground := Go.Ground.phase }, { on := 11, ground := Go.Ground.phase }], guard := none } : Oper)) (v := ?_) rfl (by kernel_rfl) (by kernel_rfl) (by kernel_rfl) (fun _ _ _ h => h) (Or.inl ⟨by rfl, ?_⟩) (by assumption) ?_
                  rotate_left
                  · (intro wS hSw; (try dsimp only at hSw); go_simp <;> with_reducible rfl)
                  try simp only [Act.put, List.setIfInBounds_toArray, List.set_cons_zero, List.set_cons_succ]
                  refine wpAnyH_done (by kernel_rfl) ?_ _
                  go_wp2_with fail
                  go_meet
                  exact ⟨_, _, _, _, _, _, _, rfl, rfl, HB_qy, Lib.hid ⟨_, _, HBT.out⟩, HG⟩
                exact AllReadyH.nil
              exact AllReadyH.nil
            refine AllReadyH.cons (o := ({ dst := some 21, op := Go.Op.alloc 27, type := 0, pos := "law.go:67", after := #[], guard := none } : Oper)) rfl (fun K hK => ?_) ?_
            · go_simp
              have hgN := World.grownBy_alloc wx1 (.cells #[.slice none 0 0, .slice none 0 0, .slice none 0 0] 27) none
              have hbN := Lib.hid (heap_alloc_new wx1 (.cells #[.slice none 0 0, .slice none 0 0, .slice none 0 0] 27))
              have hlN := Lib.hid (Nat.le_refl wx1.heap.size)
              generalize wx1.alloc (.cells #[.slice none 0 0, .slice none 0 0, .slice none 0 0] 27) = wx5 at hgN hbN ⊢
              obtain ⟨qy, hb_qy⟩ : ∃ b : Nat, b = wx1.heap.size := ⟨_, rfl⟩
              rw [← hb_qy] at hbN ⊢
              have HB_qy := hbN
              have HL_qy := Lib.hid (Nat.le_trans HG.out.size (Nat.le_of_eq hb_qy.symm))
              clear hbN hlN hb_qy
              replace HYo := Lib.hid (HYo.out.kept hgN (Classical.em _))
              replace HG := Lib.hid (gb_trans HG.out hgN (Or.inl rfl))
              clear hgN
              refine hK.out _ _ (HSS.out _ HG.out) (fun hHeld => ?_)
              clear hK K
              try simp only [Act.put, List.setIfInBounds_toArray, List.set_cons_zero, List.set_cons_succ]
              refine wpAnyH_ready (rs := [6]) (by kernel_rfl) (by simp) ?_
              refine AllReadyH.cons (o := ({ dst := some 134, op := Go.Op.call { callee := Go.Callee.value (Go.Operand.func 28), args := #[Go.Operand.tmp 128, Go.Operand.tmp 132, Go.Operand.tmp 133], argTypes := #[47, 25, 3] }, type := 52, pos := "law.go:67", after := #[{ on := 0, ground := Go.Ground.data }, { on := 4, ground := Go.Ground.data }, { on := 5, ground := Go.Ground.data }, { on := 4, ground := Go.Ground.chain }], guard := none } : Oper)) rfl (fun K hK => ?_) ?_
              · go_simp
                ((with_reducible refine (HRe.out _ _ _ _ HG.out HYo.out).mono ?_); rintro e wx6 ⟨rp, rcp, rn, rcn, rl, rcl, ru, rfl, hbt, hgN⟩)
                have HBT := Lib.hid hbt
                clear hbt
                replace HYo := Lib.hid (HYo.out.kept hgN (Classical.em _))
                replace HB_qy := Lib.hid (blk_kept HB_qy.out hgN (by simp))
                replace HG := Lib.hid (gb_trans HG.out hgN (Or.inl rfl))
                clear hgN
                refine hK.out _ _ (HSS.out _ HG.out) (fun hHeld => ?_)
                clear hK K
                try simp only [Act.put, List.setIfInBounds_toArray, List.set_cons_zero, List.set_cons_succ]
                refine wpAnyH_take (i := 7) (oi := ({ dst := some 127, op := Go.Op.move (Go.Operand.tmp 134), type := 52, pos := "law.go:67", after := #[{ on := 6, ground := Go.Ground.data }], guard := none } : Oper)) (v := ?_) rfl (by kernel_rfl) (by kernel_rfl) (by kernel_rfl) (fun _ _ _ h => h) (Or.inl ⟨by rfl, ?_⟩) (by assumption) ?_
                rotate_left
                · (intro wS hSw; (try dsimp only at hSw); go_simp <;> with_reducible rfl)
                try simp only [Act.put, List.setIfInBounds_toArray, List.set_cons_zero, List.set_cons_succ]
                refine wpAnyH_take (i := 8) (oi := ({ dst := some 135, op := Go.Op.extract (Go.Operand.tmp 127) 0, type := 27, pos := "law.go:67", after := #[{ on := 7, ground := Go.Ground.data }], guard := none } : Oper)) (v := ?_) rfl (by kernel_rfl) (by kernel_rfl) (by kernel_rfl) (fun _ _ _ h => h) (Or.inl ⟨by rfl, ?_⟩) (by assumption) ?_
                rotate_left
                · (intro wS hSw; (try dsimp only at hSw); go_simp <;> with_reducible rfl)
                try simp only [Act.put, List.setIfInBounds_toArray, List.set_cons_zero, List.set_cons_succ]
                refine wpAnyH_take (i := 9) (oi := ({ dst := some 136, op := Go.Op.extract (Go.Operand.tmp 127) 1, type := 33, pos := "law.go:67", after := #[{ on := 7, ground := Go.Ground.data }, { on := 11, ground := Go.Ground.gcOnly Go.Departure.lateStores }], guard := none } : Oper)) (v := ?_) rfl (by kernel_rfl) (by kernel_rfl) (by kernel_rfl) (fun _ _ _ h => h) (Or.inl ⟨by rfl, ?_⟩) (by assumption) ?_
                rotate_left
                · (intro wS hSw; (try dsimp only at hSw); go_simp <;> with_reducible rfl)
                try simp only [Act.put, List.setIfInBounds_toArray, List.set_cons_zero, List.set_cons_succ]
                refine wpAnyH_ready (rs := [11]) (by kernel_rfl) (by simp) ?_
                refine AllReadyH.cons (o := ({ dst := none, op := Go.Op.store 27 (Go.Operand.tmp 21) (Go.Operand.tmp 135), type := 0, pos := "law.go:67", after := #[{ on := 10, ground := Go.Ground.data }, { on := 8, ground := Go.Ground.data }, { on := 6, ground := Go.Ground.chain }, { on := 0, ground := Go.Ground.phase }, { on := 1, ground := Go.Ground.phase }, { on := 2, ground := Go.Ground.phase }, { on := 3, ground := Go.Ground.phase }, { on := 4, ground := Go.Ground.phase }, { on := 5, ground := Go.Ground.phase }, { on := 6, ground := Go.Ground.phase }, { on := 7, ground := Go.Ground.phase }, { on := 8, ground := Go.Ground.phase }, { on := 9, ground := Go.Ground.textOnly Go.Departure.lateStores }, { on := 10, ground := Go.Ground.phase }], guard := none } : Oper)) rfl (fun K hK => ?_) ?_
                · obtain ⟨c0, c1, c2, cf⟩ := dfa_cells HB_qy.out
                  have f0 := cf 0
                  have f1 := cf 1
                  have f2 := cf 2
                  clear cf
                  go_simp
                  obtain ⟨hs3, hg3⟩ := set3 HB_qy.out (.slice rp D2.P.length rcp) (.slice rn D2.R.length rcn) (.slice rl D2.B.length rcl)
                  replace HG := Lib.hid (gb_trans HG.out hg3 (Or.inr (Or.inr ⟨_, rfl, HL_qy.out⟩)))
                  replace HBT := Lib.hid (HBT.out.zero hg3 HB_qy.out)
                  clear c0 c1 c2 f0 f1 f2 hg3
                  generalize (((wx6.setCell ⟨qy, 0, none⟩ (.slice rp D2.P.length rcp)).setCell ⟨qy, 1, none⟩ (.slice rn D2.R.length rcn)).setCell ⟨qy, 2, none⟩ (.slice rl D2.B.length rcl)) = wx7 at *
                  replace HB_qy := Lib.hid hs3
                  clear hs3
                  refine hK.out _ _ (HSS.out _ HG.out) (fun hHeld => ?_)
                  clear hK K
                  try simp only [Act.put, List.setIfInBounds_toArray, List.set_cons_zero, List.set_cons_succ]
                  refine wpAnyH_take (i := 12) (oi := ({ dst := some 22, op := Go.Op.assign (Go.Operand.tmp 136), type := 33, pos := "law.go:67", after := #[{ on := 9, ground := Go.Ground.data }, { on := 11, ground := Go.Ground.chain }, { on := 0, ground := Go.Ground.phase }, { on := 1, ground := Go.Ground.phase }, { on := 2, ground := Go.Ground.phase }, { on := 3, ground := Go.Ground.phase }, { on := 4, ground := Go.Ground.phase }, { on := 5, ground := Go.Ground.phase }, { on := 6, ground := Go.Ground.phase }, { on := 7, ground := Go.Ground.phase }, { on := 8, ground := Go.Ground.phase }, { on := 9, ground := Go.Ground.phase }, { on := 10, ground := Go.Ground.phase }, { on := 11, ground := Go.Ground.phase }], guard := none } : Oper)) (v := ?_) rfl (by kernel_rfl) (by kernel_rfl) (by kernel_rfl) (fun _ _ _ h => h) (Or.inl ⟨by rfl, ?_⟩) (by assumption) ?_
                  rotate_left
                  · (intro wS hSw; (try dsimp only at hSw); go_simp <;> with_reducible rfl)
                  try simp only [Act.put, List.setIfInBounds_toArray, List.set_cons_zero, List.set_cons_succ]
                  refine wpAnyH_done (by kernel_rfl) ?_ _
                  go_wp2_with fail
                  go_meet
                  exact ⟨_, _, _, _, _, _, _, rfl, rfl, HB_qy, Lib.hid ⟨_, _, HBT.out⟩, HG⟩
                exact AllReadyH.nil
              exact AllReadyH.nil
            exact AllReadyH.nil
          refine AllReadyH.cons (o := ({ dst := some 21, op := Go.Op.alloc 27, type := 0, pos := "law.go:67", after := #[], guard := none } : Oper)) rfl (fun K hK => ?_) ?_
          · go_simp
            have hgN := World.grownBy_alloc wx0 (.cells #[.slice none 0 0, .slice none 0 0, .slice none 0 0] 27) none
            have hbN := Lib.hid (heap_alloc_new wx0 (.cells #[.slice none 0 0, .slice none 0 0, .slice none 0 0] 27))
            have hlN := Lib.hid (Nat.le_refl wx0.heap.size)
            generalize wx0.alloc (.cells #[.slice none 0 0, .slice none 0 0, .slice none 0 0] 27) = wx8 at hgN hbN ⊢
            obtain ⟨qy, hb_qy⟩ : ∃ b : Nat, b = wx0.heap.size := ⟨_, rfl⟩
            rw [← hb_qy] at hbN ⊢
            have HB_qy := hbN
            have HL_qy := Lib.hid (Nat.le_trans HG.out.size (Nat.le_of_eq hb_qy.symm))
            clear hbN hlN hb_qy
            replace HG := Lib.hid (gb_trans HG.out hgN (Or.inl rfl))
            clear hgN
            refine hK.out _ _ (HSS.out _ HG.out) (fun hHeld => ?_)
            clear hK K
            try simp only [Act.put, List.setIfInBounds_toArray, List.set_cons_zero, List.set_cons_succ]
            refine wpAnyH_ready (rs := [4]) (by kernel_rfl) (by simp) ?_
            refine AllReadyH.cons (o := ({ dst := some 132, op := Go.Op.call { callee := Go.Callee.value (Go.Operand.func 29), args := #[Go.Operand.tmp 130, Go.Operand.tmp 131], argTypes := #[3, 50] }, type := 25, pos := "law.go:67", after := #[{ on := 2, ground := Go.Ground.data }, { on := 3, ground := Go.Ground.data }], guard := none } : Oper)) rfl (fun K hK => ?_) ?_
            · go_simp
              ((with_reducible refine (HYe.out _ HG.out).mono ?_); rintro e wx9 ⟨vy, rfl, hy, hgN⟩)
              obtain ⟨ay, cy, rfl⟩ := own_val hy
              have HYo := Lib.hid hy
              clear hy
              replace HB_qy := Lib.hid (blk_kept HB_qy.out hgN (by simp))
              replace HG := Lib.hid (gb_trans HG.out hgN (Or.inl rfl))
              clear hgN
              refine hK.out _ _ (HSS.out _ HG.out) (fun hHeld => ?_)
              clear hK K
              try simp only [Act.put, List.setIfInBounds_toArray, List.set_cons_zero, List.set_cons_succ]
              refine wpAnyH_ready (rs := [6]) (by kernel_rfl) (by simp) ?_
              refine AllReadyH.cons (o := ({ dst := some 134, op := Go.Op.call { callee := Go.Callee.value (Go.Operand.func 28), args := #[Go.Operand.tmp 128, Go.Operand.tmp 132, Go.Operand.tmp 133], argTypes := #[47, 25, 3] }, type := 52, pos := "law.go:67", after := #[{ on := 0, ground := Go.Ground.data }, { on := 4, ground := Go.Ground.data }, { on := 5, ground := Go.Ground.data }, { on := 4, ground := Go.Ground.chain }], guard := none } : Oper)) rfl (fun K hK => ?_) ?_
              · go_simp
                ((with_reducible refine (HRe.out _ _ _ _ HG.out HYo.out).mono ?_); rintro e wx10 ⟨rp, rcp, rn, rcn, rl, rcl, ru, rfl, hbt, hgN⟩)
                have HBT := Lib.hid hbt
                clear hbt
                replace HB_qy := Lib.hid (blk_kept HB_qy.out hgN (by simp))
                replace HYo := Lib.hid (HYo.out.kept hgN (Classical.em _))
                replace HG := Lib.hid (gb_trans HG.out hgN (Or.inl rfl))
                clear hgN
                refine hK.out _ _ (HSS.out _ HG.out) (fun hHeld => ?_)
                clear hK K
                try simp only [Act.put, List.setIfInBounds_toArray, List.set_cons_zero, List.set_cons_succ]
                refine wpAnyH_take (i := 7) (oi := ({ dst := some 127, op := Go.Op.move (Go.Operand.tmp 134), type := 52, pos := "law.go:67", after := #[{ on := 6, ground := Go.Ground.data }], guard := none } : Oper)) (v := ?_) rfl (by kernel_rfl) (by kernel_rfl) (by kernel_rfl) (fun _ _ _ h => h) (Or.inl ⟨by rfl, ?_⟩) (by assumption) ?_
                rotate_left
                · (intro wS hSw; (try dsimp only at hSw); go_simp <;> with_reducible rfl)
                try simp only [Act.put, List.setIfInBounds_toArray, List.set_cons_zero, List.set_cons_succ]
                refine wpAnyH_take (i := 8) (oi := ({ dst := some 135, op := Go.Op.extract (Go.Operand.tmp 127) 0, type := 27, pos := "law.go:67", after := #[{ on := 7, ground := Go.Ground.data }], guard := none } : Oper)) (v := ?_) rfl (by kernel_rfl) (by kernel_rfl) (by kernel_rfl) (fun _ _ _ h => h) (Or.inl ⟨by rfl, ?_⟩) (by assumption) ?_
                rotate_left
                · (intro wS hSw; (try dsimp only at hSw); go_simp <;> with_reducible rfl)
                try simp only [Act.put, List.setIfInBounds_toArray, List.set_cons_zero, List.set_cons_succ]
                refine wpAnyH_take (i := 9) (oi := ({ dst := some 136, op := Go.Op.extract (Go.Operand.tmp 127) 1, type := 33, pos := "law.go:67", after := #[{ on := 7, ground := Go.Ground.data }, { on := 11, ground := Go.Ground.gcOnly Go.Departure.lateStores }], guard := none } : Oper)) (v := ?_) rfl (by kernel_rfl) (by kernel_rfl) (by kernel_rfl) (fun _ _ _ h => h) (Or.inl ⟨by rfl, ?_⟩) (by assumption) ?_
                rotate_left
                · (intro wS hSw; (try dsimp only at hSw); go_simp <;> with_reducible rfl)
                try simp only [Act.put, List.setIfInBounds_toArray, List.set_cons_zero, List.set_cons_succ]
                refine wpAnyH_ready (rs := [11]) (by kernel_rfl) (by simp) ?_
                refine AllReadyH.cons (o := ({ dst := none, op := Go.Op.store 27 (Go.Operand.tmp 21) (Go.Operand.tmp 135), type := 0, pos := "law.go:67", after := #[{ on := 10, ground := Go.Ground.data }, { on := 8, ground := Go.Ground.data }, { on := 6, ground := Go.Ground.chain }, { on := 0, ground := Go.Ground.phase }, { on := 1, ground := Go.Ground.phase }, { on := 2, ground := Go.Ground.phase }, { on := 3, ground := Go.Ground.phase }, { on := 4, ground := Go.Ground.phase }, { on := 5, ground := Go.Ground.phase }, { on := 6, ground := Go.Ground.phase }, { on := 7, ground := Go.Ground.phase }, { on := 8, ground := Go.Ground.phase }, { on := 9, ground := Go.Ground.textOnly Go.Departure.lateStores }, { on := 10, ground := Go.Ground.phase }], guard := none } : Oper)) rfl (fun K hK => ?_) ?_
                · obtain ⟨c0, c1, c2, cf⟩ := dfa_cells HB_qy.out
                  have f0 := cf 0
                  have f1 := cf 1
                  have f2 := cf 2
                  clear cf
                  go_simp
                  obtain ⟨hs3, hg3⟩ := set3 HB_qy.out (.slice rp D2.P.length rcp) (.slice rn D2.R.length rcn) (.slice rl D2.B.length rcl)
                  replace HG := Lib.hid (gb_trans HG.out hg3 (Or.inr (Or.inr ⟨_, rfl, HL_qy.out⟩)))
                  replace HBT := Lib.hid (HBT.out.zero hg3 HB_qy.out)
                  clear c0 c1 c2 f0 f1 f2 hg3
                  generalize (((wx10.setCell ⟨qy, 0, none⟩ (.slice rp D2.P.length rcp)).setCell ⟨qy, 1, none⟩ (.slice rn D2.R.length rcn)).setCell ⟨qy, 2, none⟩ (.slice rl D2.B.length rcl)) = wx11 at *
                  replace HB_qy := Lib.hid hs3
                  clear hs3
                  refine hK.out _ _ (HSS.out _ HG.out) (fun hHeld => ?_)
                  clear hK K
                  try simp only [Act.put, List.setIfInBounds_toArray, List.set_cons_zero, List.set_cons_succ]
                  refine wpAnyH_take (i := 12) (oi := ({ dst := some 22, op := Go.Op.assign (Go.Operand.tmp 136), type := 33, pos := "law.go:67", after := #[{ on := 9, ground := Go.Ground.data }, { on := 11, ground := Go.Ground.chain }, { on := 0, ground := Go.Ground.phase }, { on := 1, ground := Go.Ground.phase }, { on := 2, ground := Go.Ground.phase }, { on := 3, ground := Go.Ground.phase }, { on := 4, ground := Go.Ground.phase }, { on := 5, ground := Go.Ground.phase }, { on := 6, ground := Go.Ground.phase }, { on := 7, ground := Go.Ground.phase }, { on := 8, ground := Go.Ground.phase }, { on := 9, ground := Go.Ground.phase }, { on := 10, ground := Go.Ground.phase }, { on := 11, ground := Go.Ground.phase }], guard := none } : Oper)) (v := ?_) rfl (by kernel_rfl) (by kernel_rfl) (by kernel_rfl) (fun _ _ _ h => h) (Or.inl ⟨by rfl, ?_⟩) (by assumption) ?_
                  rotate_left
                  · (intro wS hSw; (try dsimp only at hSw); go_simp <;> with_reducible rfl)
                  try simp only [Act.put, List.setIfInBounds_toArray, List.set_cons_zero, List.set_cons_succ]
                  refine wpAnyH_done (by kernel_rfl) ?_ _
                  go_wp2_with fail
                  go_meet
                  exact ⟨_, _, _, _, _, _, _, rfl, rfl, HB_qy, Lib.hid ⟨_, _, HBT.out⟩, HG⟩
                exact AllReadyH.nil
              exact AllReadyH.nil
            exact AllReadyH.nil
          exact AllReadyH.nil
        case rest =>
          obtain ⟨qy, rp, rcp, rn, rcn, rl, rcl, rfl, rfl, HBY, HY0, HG2⟩ := hcut
          have HY : Hid (DfaAt wc (.slice rp D2.P.length rcp) (.slice rn D2.R.length rcn) (.slice rl D2.B.length rcl) D2) := Lib.hid (by
            obtain ⟨ru, Z, h⟩ := HY0.out
            exact res_at h HOk2.out HDt2.out)
          have hg := HG2.out
          clear HY0 HG2 HYe HRe HSS HBx2 HRx2
          replace HG := Lib.hid (gb_trans HG.out hg (Or.inl rfl))
          replace HBx := Lib.hid (blk_kept HBx.out hg (by simp))
          replace HS := Lib.hid (HS.out.kept hg (by simp) (by simp))
          replace HLb := Lib.hid (HLb.out.kept hg)
          replace HBi := Lib.hid (blk_kept HBi.out hg (by simp))
          replace HD := Lib.hid (HD.out.kept hg)
          replace HBd := Lib.hid (blk_kept HBd.out hg (by simp))
          replace HB := Lib.hid (HB.out.kept hg)
          replace HBb := Lib.hid (blk_kept HBb.out hg (by simp))
          replace HX := Lib.hid (HX.out.kept hg)
          replace HBX := Lib.hid (blk_kept HBX.out hg (by simp))
          clear hg
          obtain ⟨x0, x1, x2, -⟩ := dfa_cells HBX.out
          obtain ⟨y0, y1, y2, -⟩ := dfa_cells HBY.out
          go_wp2_with fail
          refine (same_dfa (res_at HX.out HOk2.out HDt2.out) HY.out).mono ?_
          rintro e wJ ⟨rfl, hg⟩
          clear x0 x1 x2 y0 y1 y2 HX HY HBX HBY HOk2 HDt2
          replace HG := Lib.hid (gb_trans HG.out hg (Or.inl rfl))
          replace HBx := Lib.hid (blk_kept HBx.out hg (by simp))
          replace HS := Lib.hid (HS.out.kept hg (by simp) (by simp))
          replace HLb := Lib.hid (HLb.out.kept hg)
          replace HBi := Lib.hid (blk_kept HBi.out hg (by simp))
          replace HD := Lib.hid (HD.out.kept hg)
          replace HBd := Lib.hid (blk_kept HBd.out hg (by simp))
          replace HB := Lib.hid (HB.out.kept hg)
          replace HBb := Lib.hid (blk_kept HBb.out hg (by simp))
          clear hg
          obtain ⟨b0, b1, b2, b3, b4⟩ := buchi_cells HBi.out
          go_wp2_with fail
          have hzl : ZL ≤ wJ.heap.size := Nat.le_of_lt (Array.getElem?_eq_some_iff.1 HBi.out).1
          have HSp := Lib.hid (spoil_buchi (n : Int) (HLb.out.roomZ HLm.out) hzl)
          unfold autV at HSp
          refine HSp.out.mono ?_
          rintro e wK ⟨rfl, hsp⟩
          have HFr := Lib.hid hsp.fr
          replace HG := Lib.hid (gb_spared HG.out hsp (Nat.le_of_lt HYL.out.1))
          replace HBx := Lib.hid (fr_blk HBx.out HFr.out (fun h => absurd h.1 (Nat.not_le.2 HYL.out.1)))
          replace HS := Lib.hid (HFr.out.set HS.out (fun h => absurd h.1 (Nat.not_le.2 HYL.out.2.1)) (fun h => absurd h.1 (Nat.not_le.2 HYL.out.2.2)))
          replace HD := Lib.hid (HD.out.fr HFr.out (fun k h => h.2))
          replace HBd := Lib.hid (fr_blk HBd.out HFr.out (fun h => absurd h.2 (Nat.not_lt.2 (Nat.le_of_lt HQd.out))))
          replace HB := Lib.hid (HB.out.fr HFr.out (fun k h => Nat.lt_of_lt_of_le h.2 HZB.out))
          replace HBb := Lib.hid (fr_blk HBb.out HFr.out (fun h => absurd h.2 (Nat.not_lt.2 (Nat.le_of_lt HQb.out))))
          have hzk : ZL ≤ wK.heap.size := Nat.le_trans hzl hsp.size
          clear b0 b1 b2 b3 b4 HLb HBi hsp HFr HSp hzl HLx
          go_wp2_with fail
          have HYe : Hid (∀ wx, wK.grownBy wx none → Calls Try.prog 29 #[.int .i64 (n : Int), .pointer (some ⟨p1, 0, none⟩)] wx fun e w' => ∃ v, e = .returned v ∧ w'.ownsRow wx.heap.size 4 1 v n ((yesL n V n).map tv01) ∧ wx.grownBy w' none) := Lib.hid fun wx hx => HYs.out wx p1 g1 c1 (HS.out.kept hx (by simp) (by simp))
          have HRe : Hid (∀ (wx : World) (av : Option Addr) (cv Z : Nat), wK.grownBy wx none → wx.ownsRow Z 4 1 (.slice av n cv) n ((yesL n V n).map tv01) → Calls Try.prog 28 #[.agg #[.slice ap a.P.length cp, .int .i64 (n : Int), .slice ai a.I.length ci, .slice ae a.E.length ce, .slice af a.F.length cf], .slice av n cv, .int .i64 most] wx (ResAt wx D er)) := Lib.hid fun wx av cv Z hx hv => HRb.out wx _ (gb_trans HG.out hx (Or.inl rfl)) (y_bools hv (Nat.le_trans h14 (by decide)))
          have HSS : Hid (∀ wx, wK.grownBy wx none → wK.grownBy wx none ∧ wx.cell? ⟨w.heap.size, 0, none⟩ = some (.slice ap a.P.length cp) ∧ wx.cell? ⟨w.heap.size, 1, none⟩ = some (.int .i64 (n : Int)) ∧ wx.cell? ⟨w.heap.size, 2, none⟩ = some (.slice ai a.I.length ci) ∧ wx.cell? ⟨w.heap.size, 3, none⟩ = some (.slice ae a.E.length ce) ∧ wx.cell? ⟨w.heap.size, 4, none⟩ = some (.slice af a.F.length cf)) := Lib.hid fun wx hx => by
            obtain ⟨a0, a1, a2, a3, a4⟩ := buchi_cells HBx.out
            exact ⟨hx, hx.cell a0 (by simp), hx.cell a1 (by simp), hx.cell a2 (by simp), hx.cell a3 (by simp), hx.cell a4 (by simp)⟩
          go_cut [24, 25] (fun s1 s2 wx => ∃ (qy : Nat) (rp : Option Addr) (rcp : Nat) (rn : Option Addr) (rcn : Nat) (rl : Option Addr) (rcl : Nat), s1 = .pointer (some ⟨qy, 0, none⟩) ∧ s2 = .int .i64 er ∧ Hid (wx.heap[qy]? = some (.cells #[.slice rp D.P.length rcp, .slice rn D.R.length rcn, .slice rl D.B.length rcl] 27 (0, 0))) ∧ Hid (∃ ru Z, BuiltAt Z wx (.slice rp D.P.length rcp) (.slice rn D.R.length rcn) (.slice rl D.B.length rcl) ru D.P D.R D.B) ∧ Hid (wK.grownBy wx none))
          case first =>
            clear HG HD HB
            refine wp_region_held_drew (S := (fun wx => wK.grownBy wx none ∧ wx.cell? ⟨w.heap.size, 0, none⟩ = some (.slice ap a.P.length cp) ∧ wx.cell? ⟨w.heap.size, 1, none⟩ = some (.int .i64 (n : Int)) ∧ wx.cell? ⟨w.heap.size, 2, none⟩ = some (.slice ai a.I.length ci) ∧ wx.cell? ⟨w.heap.size, 3, none⟩ = some (.slice ae a.E.length ce) ∧ wx.cell? ⟨w.heap.size, 4, none⟩ = some (.slice af a.F.length cf))) (by kernel_rfl) (HSS.out _ (gb_drew _ none)) (fun hHeld => ?_)
            have HG := Lib.hid (gb_drew wK none)
            generalize wK.drew = wy0 at hHeld HG ⊢
            refine wpAnyH_take (i := 0) (oi := ({ dst := some 143, op := Go.Op.load 47 (Go.Operand.tmp 3), type := 47, pos := "law.go:70", after := #[], guard := none } : Oper)) (v := ?_) rfl (by kernel_rfl) (by kernel_rfl) (by kernel_rfl) (fun _ _ _ h => h) (Or.inl ⟨by rfl, ?_⟩) (by assumption) ?_
            rotate_left
            · (intro wS hSw; (try dsimp only at hSw); go_simp <;> with_reducible rfl)
            try simp only [Act.put, List.setIfInBounds_toArray, List.set_cons_zero, List.set_cons_succ]
            refine wpAnyH_take (i := 1) (oi := ({ dst := some 144, op := Go.Op.fieldAddr 47 (Go.Operand.tmp 3) 1, type := 0, pos := "law.go:70", after := #[], guard := none } : Oper)) (v := ?_) rfl (by kernel_rfl) (by kernel_rfl) (by kernel_rfl) (fun _ _ _ h => h) (Or.inl ⟨by rfl, ?_⟩) (by assumption) ?_
            rotate_left
            · (intro wS hSw; (try dsimp only at hSw); go_simp <;> with_reducible rfl)
            try simp only [Act.put, List.setIfInBounds_toArray, List.set_cons_zero, List.set_cons_succ]
            refine wpAnyH_take (i := 2) (oi := ({ dst := some 145, op := Go.Op.load 3 (Go.Operand.tmp 144), type := 3, pos := "law.go:70", after := #[{ on := 1, ground := Go.Ground.data }], guard := none } : Oper)) (v := ?_) rfl (by kernel_rfl) (by kernel_rfl) (by kernel_rfl) (fun _ _ _ h => h) (Or.inl ⟨by rfl, ?_⟩) (by assumption) ?_
            rotate_left
            · (intro wS hSw; (try dsimp only at hSw); go_simp <;> with_reducible rfl)
            try simp only [Act.put, List.setIfInBounds_toArray, List.set_cons_zero, List.set_cons_succ]
            refine wpAnyH_take (i := 3) (oi := ({ dst := some 146, op := Go.Op.move (Go.Operand.tmp 8), type := 50, pos := "law.go:70", after := #[], guard := none } : Oper)) (v := ?_) rfl (by kernel_rfl) (by kernel_rfl) (by kernel_rfl) (fun _ _ _ h => h) (Or.inl ⟨by rfl, ?_⟩) (by assumption) ?_
            rotate_left
            · (intro wS hSw; (try dsimp only at hSw); go_simp <;> with_reducible rfl)
            try simp only [Act.put, List.setIfInBounds_toArray, List.set_cons_zero, List.set_cons_succ]
            refine wpAnyH_take (i := 5) (oi := ({ dst := some 148, op := Go.Op.move (Go.Operand.tmp 2), type := 3, pos := "law.go:70", after := #[], guard := none } : Oper)) (v := ?_) rfl (by kernel_rfl) (by kernel_rfl) (by kernel_rfl) (fun _ _ _ h => h) (Or.inl ⟨by rfl, ?_⟩) (by assumption) ?_
            rotate_left
            · (intro wS hSw; (try dsimp only at hSw); go_simp <;> with_reducible rfl)
            try simp only [Act.put, List.setIfInBounds_toArray, List.set_cons_zero, List.set_cons_succ]
            refine wpAnyH_ready (rs := [4, 10]) (by kernel_rfl) (by simp) ?_
            refine AllReadyH.cons (o := ({ dst := some 147, op := Go.Op.call { callee := Go.Callee.value (Go.Operand.func 29), args := #[Go.Operand.tmp 145, Go.Operand.tmp 146], argTypes := #[3, 50] }, type := 25, pos := "law.go:70", after := #[{ on := 2, ground := Go.Ground.data }, { on := 3, ground := Go.Ground.data }], guard := none } : Oper)) rfl (fun K hK => ?_) ?_
            · go_simp
              ((with_reducible refine (HYe.out _ HG.out).mono ?_); rintro e wy1 ⟨vy, rfl, hy, hgN⟩)
              obtain ⟨ay, cy, rfl⟩ := own_val hy
              have HYo := Lib.hid hy
              clear hy
              replace HG := Lib.hid (gb_trans HG.out hgN (Or.inl rfl))
              clear hgN
              refine hK.out _ _ (HSS.out _ HG.out) (fun hHeld => ?_)
              clear hK K
              try simp only [Act.put, List.setIfInBounds_toArray, List.set_cons_zero, List.set_cons_succ]
              refine wpAnyH_ready (rs := [6, 10]) (by kernel_rfl) (by simp) ?_
              refine AllReadyH.cons (o := ({ dst := some 149, op := Go.Op.call { callee := Go.Callee.value (Go.Operand.func 28), args := #[Go.Operand.tmp 143, Go.Operand.tmp 147, Go.Operand.tmp 148], argTypes := #[47, 25, 3] }, type := 52, pos := "law.go:70", after := #[{ on := 0, ground := Go.Ground.data }, { on := 4, ground := Go.Ground.data }, { on := 5, ground := Go.Ground.data }, { on := 4, ground := Go.Ground.chain }], guard := none } : Oper)) rfl (fun K hK => ?_) ?_
              · go_simp
                ((with_reducible refine (HRe.out _ _ _ _ HG.out HYo.out).mono ?_); rintro e wy2 ⟨rp, rcp, rn, rcn, rl, rcl, ru, rfl, hbt, hgN⟩)
                have HBT := Lib.hid hbt
                clear hbt
                replace HYo := Lib.hid (HYo.out.kept hgN (Classical.em _))
                replace HG := Lib.hid (gb_trans HG.out hgN (Or.inl rfl))
                clear hgN
                refine hK.out _ _ (HSS.out _ HG.out) (fun hHeld => ?_)
                clear hK K
                try simp only [Act.put, List.setIfInBounds_toArray, List.set_cons_zero, List.set_cons_succ]
                refine wpAnyH_take (i := 7) (oi := ({ dst := some 142, op := Go.Op.move (Go.Operand.tmp 149), type := 52, pos := "law.go:70", after := #[{ on := 6, ground := Go.Ground.data }], guard := none } : Oper)) (v := ?_) rfl (by kernel_rfl) (by kernel_rfl) (by kernel_rfl) (fun _ _ _ h => h) (Or.inl ⟨by rfl, ?_⟩) (by assumption) ?_
                rotate_left
                · (intro wS hSw; (try dsimp only at hSw); go_simp <;> with_reducible rfl)
                try simp only [Act.put, List.setIfInBounds_toArray, List.set_cons_zero, List.set_cons_succ]
                refine wpAnyH_take (i := 8) (oi := ({ dst := some 150, op := Go.Op.extract (Go.Operand.tmp 142) 0, type := 27, pos := "law.go:70", after := #[{ on := 7, ground := Go.Ground.data }], guard := none } : Oper)) (v := ?_) rfl (by kernel_rfl) (by kernel_rfl) (by kernel_rfl) (fun _ _ _ h => h) (Or.inl ⟨by rfl, ?_⟩) (by assumption) ?_
                rotate_left
                · (intro wS hSw; (try dsimp only at hSw); go_simp <;> with_reducible rfl)
                try simp only [Act.put, List.setIfInBounds_toArray, List.set_cons_zero, List.set_cons_succ]
                refine wpAnyH_take (i := 9) (oi := ({ dst := some 151, op := Go.Op.extract (Go.Operand.tmp 142) 1, type := 33, pos := "law.go:70", after := #[{ on := 7, ground := Go.Ground.data }, { on := 11, ground := Go.Ground.gcOnly Go.Departure.lateStores }], guard := none } : Oper)) (v := ?_) rfl (by kernel_rfl) (by kernel_rfl) (by kernel_rfl) (fun _ _ _ h => h) (Or.inl ⟨by rfl, ?_⟩) (by assumption) ?_
                rotate_left
                · (intro wS hSw; (try dsimp only at hSw); go_simp <;> with_reducible rfl)
                try simp only [Act.put, List.setIfInBounds_toArray, List.set_cons_zero, List.set_cons_succ]
                refine wpAnyH_ready (rs := [10]) (by kernel_rfl) (by simp) ?_
                refine AllReadyH.cons (o := ({ dst := some 24, op := Go.Op.alloc 27, type := 0, pos := "law.go:70", after := #[], guard := none } : Oper)) rfl (fun K hK => ?_) ?_
                · go_simp
                  have hgN := World.grownBy_alloc wy2 (.cells #[.slice none 0 0, .slice none 0 0, .slice none 0 0] 27) none
                  have hbN := Lib.hid (heap_alloc_new wy2 (.cells #[.slice none 0 0, .slice none 0 0, .slice none 0 0] 27))
                  have hlN := Lib.hid (Nat.le_refl wy2.heap.size)
                  generalize wy2.alloc (.cells #[.slice none 0 0, .slice none 0 0, .slice none 0 0] 27) = wy3 at hgN hbN ⊢
                  obtain ⟨qy, hb_qy⟩ : ∃ b : Nat, b = wy2.heap.size := ⟨_, rfl⟩
                  rw [← hb_qy] at hbN ⊢
                  have HB_qy := hbN
                  have HL_qy := Lib.hid (Nat.le_trans HG.out.size (Nat.le_of_eq hb_qy.symm))
                  clear hbN hlN hb_qy
                  replace HYo := Lib.hid (HYo.out.kept hgN (Classical.em _))
                  replace HBT := Lib.hid (HBT.out.kept hgN)
                  replace HG := Lib.hid (gb_trans HG.out hgN (Or.inl rfl))
                  clear hgN
                  refine hK.out _ _ (HSS.out _ HG.out) (fun hHeld => ?_)
                  clear hK K
                  try simp only [Act.put, List.setIfInBounds_toArray, List.set_cons_zero, List.set_cons_succ]
                  refine wpAnyH_ready (rs := [11]) (by kernel_rfl) (by simp) ?_
                  refine AllReadyH.cons (o := ({ dst := none, op := Go.Op.store 27 (Go.Operand.tmp 24) (Go.Operand.tmp 150), type := 0, pos := "law.go:70", after := #[{ on := 10, ground := Go.Ground.data }, { on := 8, ground := Go.Ground.data }, { on := 6, ground := Go.Ground.chain }, { on := 0, ground := Go.Ground.phase }, { on := 1, ground := Go.Ground.phase }, { on := 2, ground := Go.Ground.phase }, { on := 3, ground := Go.Ground.phase }, { on := 4, ground := Go.Ground.phase }, { on := 5, ground := Go.Ground.phase }, { on := 6, ground := Go.Ground.phase }, { on := 7, ground := Go.Ground.phase }, { on := 8, ground := Go.Ground.phase }, { on := 9, ground := Go.Ground.textOnly Go.Departure.lateStores }, { on := 10, ground := Go.Ground.phase }], guard := none } : Oper)) rfl (fun K hK => ?_) ?_
                  · obtain ⟨c0, c1, c2, cf⟩ := dfa_cells HB_qy.out
                    have f0 := cf 0
                    have f1 := cf 1
                    have f2 := cf 2
                    clear cf
                    go_simp
                    obtain ⟨hs3, hg3⟩ := set3 HB_qy.out (.slice rp D.P.length rcp) (.slice rn D.R.length rcn) (.slice rl D.B.length rcl)
                    replace HG := Lib.hid (gb_trans HG.out hg3 (Or.inr (Or.inr ⟨_, rfl, HL_qy.out⟩)))
                    replace HBT := Lib.hid (HBT.out.zero hg3 HB_qy.out)
                    clear c0 c1 c2 f0 f1 f2 hg3
                    generalize (((wy3.setCell ⟨qy, 0, none⟩ (.slice rp D.P.length rcp)).setCell ⟨qy, 1, none⟩ (.slice rn D.R.length rcn)).setCell ⟨qy, 2, none⟩ (.slice rl D.B.length rcl)) = wy4 at *
                    replace HB_qy := Lib.hid hs3
                    clear hs3
                    refine hK.out _ _ (HSS.out _ HG.out) (fun hHeld => ?_)
                    clear hK K
                    try simp only [Act.put, List.setIfInBounds_toArray, List.set_cons_zero, List.set_cons_succ]
                    refine wpAnyH_take (i := 12) (oi := ({ dst := some 25, op := Go.Op.assign (Go.Operand.tmp 151), type := 33, pos := "law.go:70", after := #[{ on := 9, ground := Go.Ground.data }, { on := 11, ground := Go.Ground.chain }, { on := 0, ground := Go.Ground.phase }, { on := 1, ground := Go.Ground.phase }, { on := 2, ground := Go.Ground.phase }, { on := 3, ground := Go.Ground.phase }, { on := 4, ground := Go.Ground.phase }, { on := 5, ground := Go.Ground.phase }, { on := 6, ground := Go.Ground.phase }, { on := 7, ground := Go.Ground.phase }, { on := 8, ground := Go.Ground.phase }, { on := 9, ground := Go.Ground.phase }, { on := 10, ground := Go.Ground.phase }, { on := 11, ground := Go.Ground.phase }], guard := none } : Oper)) (v := ?_) rfl (by kernel_rfl) (by kernel_rfl) (by kernel_rfl) (fun _ _ _ h => h) (Or.inl ⟨by rfl, ?_⟩) (by assumption) ?_
                    rotate_left
                    · (intro wS hSw; (try dsimp only at hSw); go_simp <;> with_reducible rfl)
                    try simp only [Act.put, List.setIfInBounds_toArray, List.set_cons_zero, List.set_cons_succ]
                    refine wpAnyH_done (by kernel_rfl) ?_ _
                    go_wp2_with fail
                    go_meet
                    exact ⟨_, _, _, _, _, _, _, rfl, rfl, HB_qy, Lib.hid ⟨_, _, HBT.out⟩, HG⟩
                  exact AllReadyH.nil
                exact AllReadyH.nil
              refine AllReadyH.cons (o := ({ dst := some 24, op := Go.Op.alloc 27, type := 0, pos := "law.go:70", after := #[], guard := none } : Oper)) rfl (fun K hK => ?_) ?_
              · go_simp
                have hgN := World.grownBy_alloc wy1 (.cells #[.slice none 0 0, .slice none 0 0, .slice none 0 0] 27) none
                have hbN := Lib.hid (heap_alloc_new wy1 (.cells #[.slice none 0 0, .slice none 0 0, .slice none 0 0] 27))
                have hlN := Lib.hid (Nat.le_refl wy1.heap.size)
                generalize wy1.alloc (.cells #[.slice none 0 0, .slice none 0 0, .slice none 0 0] 27) = wy5 at hgN hbN ⊢
                obtain ⟨qy, hb_qy⟩ : ∃ b : Nat, b = wy1.heap.size := ⟨_, rfl⟩
                rw [← hb_qy] at hbN ⊢
                have HB_qy := hbN
                have HL_qy := Lib.hid (Nat.le_trans HG.out.size (Nat.le_of_eq hb_qy.symm))
                clear hbN hlN hb_qy
                replace HYo := Lib.hid (HYo.out.kept hgN (Classical.em _))
                replace HG := Lib.hid (gb_trans HG.out hgN (Or.inl rfl))
                clear hgN
                refine hK.out _ _ (HSS.out _ HG.out) (fun hHeld => ?_)
                clear hK K
                try simp only [Act.put, List.setIfInBounds_toArray, List.set_cons_zero, List.set_cons_succ]
                refine wpAnyH_ready (rs := [6]) (by kernel_rfl) (by simp) ?_
                refine AllReadyH.cons (o := ({ dst := some 149, op := Go.Op.call { callee := Go.Callee.value (Go.Operand.func 28), args := #[Go.Operand.tmp 143, Go.Operand.tmp 147, Go.Operand.tmp 148], argTypes := #[47, 25, 3] }, type := 52, pos := "law.go:70", after := #[{ on := 0, ground := Go.Ground.data }, { on := 4, ground := Go.Ground.data }, { on := 5, ground := Go.Ground.data }, { on := 4, ground := Go.Ground.chain }], guard := none } : Oper)) rfl (fun K hK => ?_) ?_
                · go_simp
                  ((with_reducible refine (HRe.out _ _ _ _ HG.out HYo.out).mono ?_); rintro e wy6 ⟨rp, rcp, rn, rcn, rl, rcl, ru, rfl, hbt, hgN⟩)
                  have HBT := Lib.hid hbt
                  clear hbt
                  replace HYo := Lib.hid (HYo.out.kept hgN (Classical.em _))
                  replace HB_qy := Lib.hid (blk_kept HB_qy.out hgN (by simp))
                  replace HG := Lib.hid (gb_trans HG.out hgN (Or.inl rfl))
                  clear hgN
                  refine hK.out _ _ (HSS.out _ HG.out) (fun hHeld => ?_)
                  clear hK K
                  try simp only [Act.put, List.setIfInBounds_toArray, List.set_cons_zero, List.set_cons_succ]
                  refine wpAnyH_take (i := 7) (oi := ({ dst := some 142, op := Go.Op.move (Go.Operand.tmp 149), type := 52, pos := "law.go:70", after := #[{ on := 6, ground := Go.Ground.data }], guard := none } : Oper)) (v := ?_) rfl (by kernel_rfl) (by kernel_rfl) (by kernel_rfl) (fun _ _ _ h => h) (Or.inl ⟨by rfl, ?_⟩) (by assumption) ?_
                  rotate_left
                  · (intro wS hSw; (try dsimp only at hSw); go_simp <;> with_reducible rfl)
                  try simp only [Act.put, List.setIfInBounds_toArray, List.set_cons_zero, List.set_cons_succ]
                  refine wpAnyH_take (i := 8) (oi := ({ dst := some 150, op := Go.Op.extract (Go.Operand.tmp 142) 0, type := 27, pos := "law.go:70", after := #[{ on := 7, ground := Go.Ground.data }], guard := none } : Oper)) (v := ?_) rfl (by kernel_rfl) (by kernel_rfl) (by kernel_rfl) (fun _ _ _ h => h) (Or.inl ⟨by rfl, ?_⟩) (by assumption) ?_
                  rotate_left
                  · (intro wS hSw; (try dsimp only at hSw); go_simp <;> with_reducible rfl)
                  try simp only [Act.put, List.setIfInBounds_toArray, List.set_cons_zero, List.set_cons_succ]
                  refine wpAnyH_take (i := 9) (oi := ({ dst := some 151, op := Go.Op.extract (Go.Operand.tmp 142) 1, type := 33, pos := "law.go:70", after := #[{ on := 7, ground := Go.Ground.data }, { on := 11, ground := Go.Ground.gcOnly Go.Departure.lateStores }], guard := none } : Oper)) (v := ?_) rfl (by kernel_rfl) (by kernel_rfl) (by kernel_rfl) (fun _ _ _ h => h) (Or.inl ⟨by rfl, ?_⟩) (by assumption) ?_
                  rotate_left
                  · (intro wS hSw; (try dsimp only at hSw); go_simp <;> with_reducible rfl)
                  try simp only [Act.put, List.setIfInBounds_toArray, List.set_cons_zero, List.set_cons_succ]
                  refine wpAnyH_ready (rs := [11]) (by kernel_rfl) (by simp) ?_
                  refine AllReadyH.cons (o := ({ dst := none, op := Go.Op.store 27 (Go.Operand.tmp 24) (Go.Operand.tmp 150), type := 0, pos := "law.go:70", after := #[{ on := 10, ground := Go.Ground.data }, { on := 8, ground := Go.Ground.data }, { on := 6, ground := Go.Ground.chain }, { on := 0, ground := Go.Ground.phase }, { on := 1, ground := Go.Ground.phase }, { on := 2, ground := Go.Ground.phase }, { on := 3, ground := Go.Ground.phase }, { on := 4, ground := Go.Ground.phase }, { on := 5, ground := Go.Ground.phase }, { on := 6, ground := Go.Ground.phase }, { on := 7, ground := Go.Ground.phase }, { on := 8, ground := Go.Ground.phase }, { on := 9, ground := Go.Ground.textOnly Go.Departure.lateStores }, { on := 10, ground := Go.Ground.phase }], guard := none } : Oper)) rfl (fun K hK => ?_) ?_
                  · obtain ⟨c0, c1, c2, cf⟩ := dfa_cells HB_qy.out
                    have f0 := cf 0
                    have f1 := cf 1
                    have f2 := cf 2
                    clear cf
                    go_simp
                    obtain ⟨hs3, hg3⟩ := set3 HB_qy.out (.slice rp D.P.length rcp) (.slice rn D.R.length rcn) (.slice rl D.B.length rcl)
                    replace HG := Lib.hid (gb_trans HG.out hg3 (Or.inr (Or.inr ⟨_, rfl, HL_qy.out⟩)))
                    replace HBT := Lib.hid (HBT.out.zero hg3 HB_qy.out)
                    clear c0 c1 c2 f0 f1 f2 hg3
                    generalize (((wy6.setCell ⟨qy, 0, none⟩ (.slice rp D.P.length rcp)).setCell ⟨qy, 1, none⟩ (.slice rn D.R.length rcn)).setCell ⟨qy, 2, none⟩ (.slice rl D.B.length rcl)) = wy7 at *
                    replace HB_qy := Lib.hid hs3
                    clear hs3
                    refine hK.out _ _ (HSS.out _ HG.out) (fun hHeld => ?_)
                    clear hK K
                    try simp only [Act.put, List.setIfInBounds_toArray, List.set_cons_zero, List.set_cons_succ]
                    refine wpAnyH_take (i := 12) (oi := ({ dst := some 25, op := Go.Op.assign (Go.Operand.tmp 151), type := 33, pos := "law.go:70", after := #[{ on := 9, ground := Go.Ground.data }, { on := 11, ground := Go.Ground.chain }, { on := 0, ground := Go.Ground.phase }, { on := 1, ground := Go.Ground.phase }, { on := 2, ground := Go.Ground.phase }, { on := 3, ground := Go.Ground.phase }, { on := 4, ground := Go.Ground.phase }, { on := 5, ground := Go.Ground.phase }, { on := 6, ground := Go.Ground.phase }, { on := 7, ground := Go.Ground.phase }, { on := 8, ground := Go.Ground.phase }, { on := 9, ground := Go.Ground.phase }, { on := 10, ground := Go.Ground.phase }, { on := 11, ground := Go.Ground.phase }], guard := none } : Oper)) (v := ?_) rfl (by kernel_rfl) (by kernel_rfl) (by kernel_rfl) (fun _ _ _ h => h) (Or.inl ⟨by rfl, ?_⟩) (by assumption) ?_
                    rotate_left
                    · (intro wS hSw; (try dsimp only at hSw); go_simp <;> with_reducible rfl)
                    try simp only [Act.put, List.setIfInBounds_toArray, List.set_cons_zero, List.set_cons_succ]
                    refine wpAnyH_done (by kernel_rfl) ?_ _
                    go_wp2_with fail
                    go_meet
                    exact ⟨_, _, _, _, _, _, _, rfl, rfl, HB_qy, Lib.hid ⟨_, _, HBT.out⟩, HG⟩
                  exact AllReadyH.nil
                exact AllReadyH.nil
              exact AllReadyH.nil
            refine AllReadyH.cons (o := ({ dst := some 24, op := Go.Op.alloc 27, type := 0, pos := "law.go:70", after := #[], guard := none } : Oper)) rfl (fun K hK => ?_) ?_
            · go_simp
              have hgN := World.grownBy_alloc wy0 (.cells #[.slice none 0 0, .slice none 0 0, .slice none 0 0] 27) none
              have hbN := Lib.hid (heap_alloc_new wy0 (.cells #[.slice none 0 0, .slice none 0 0, .slice none 0 0] 27))
              have hlN := Lib.hid (Nat.le_refl wy0.heap.size)
              generalize wy0.alloc (.cells #[.slice none 0 0, .slice none 0 0, .slice none 0 0] 27) = wy8 at hgN hbN ⊢
              obtain ⟨qy, hb_qy⟩ : ∃ b : Nat, b = wy0.heap.size := ⟨_, rfl⟩
              rw [← hb_qy] at hbN ⊢
              have HB_qy := hbN
              have HL_qy := Lib.hid (Nat.le_trans HG.out.size (Nat.le_of_eq hb_qy.symm))
              clear hbN hlN hb_qy
              replace HG := Lib.hid (gb_trans HG.out hgN (Or.inl rfl))
              clear hgN
              refine hK.out _ _ (HSS.out _ HG.out) (fun hHeld => ?_)
              clear hK K
              try simp only [Act.put, List.setIfInBounds_toArray, List.set_cons_zero, List.set_cons_succ]
              refine wpAnyH_ready (rs := [4]) (by kernel_rfl) (by simp) ?_
              refine AllReadyH.cons (o := ({ dst := some 147, op := Go.Op.call { callee := Go.Callee.value (Go.Operand.func 29), args := #[Go.Operand.tmp 145, Go.Operand.tmp 146], argTypes := #[3, 50] }, type := 25, pos := "law.go:70", after := #[{ on := 2, ground := Go.Ground.data }, { on := 3, ground := Go.Ground.data }], guard := none } : Oper)) rfl (fun K hK => ?_) ?_
              · go_simp
                ((with_reducible refine (HYe.out _ HG.out).mono ?_); rintro e wy9 ⟨vy, rfl, hy, hgN⟩)
                obtain ⟨ay, cy, rfl⟩ := own_val hy
                have HYo := Lib.hid hy
                clear hy
                replace HB_qy := Lib.hid (blk_kept HB_qy.out hgN (by simp))
                replace HG := Lib.hid (gb_trans HG.out hgN (Or.inl rfl))
                clear hgN
                refine hK.out _ _ (HSS.out _ HG.out) (fun hHeld => ?_)
                clear hK K
                try simp only [Act.put, List.setIfInBounds_toArray, List.set_cons_zero, List.set_cons_succ]
                refine wpAnyH_ready (rs := [6]) (by kernel_rfl) (by simp) ?_
                refine AllReadyH.cons (o := ({ dst := some 149, op := Go.Op.call { callee := Go.Callee.value (Go.Operand.func 28), args := #[Go.Operand.tmp 143, Go.Operand.tmp 147, Go.Operand.tmp 148], argTypes := #[47, 25, 3] }, type := 52, pos := "law.go:70", after := #[{ on := 0, ground := Go.Ground.data }, { on := 4, ground := Go.Ground.data }, { on := 5, ground := Go.Ground.data }, { on := 4, ground := Go.Ground.chain }], guard := none } : Oper)) rfl (fun K hK => ?_) ?_
                · go_simp
                  ((with_reducible refine (HRe.out _ _ _ _ HG.out HYo.out).mono ?_); rintro e wy10 ⟨rp, rcp, rn, rcn, rl, rcl, ru, rfl, hbt, hgN⟩)
                  have HBT := Lib.hid hbt
                  clear hbt
                  replace HB_qy := Lib.hid (blk_kept HB_qy.out hgN (by simp))
                  replace HYo := Lib.hid (HYo.out.kept hgN (Classical.em _))
                  replace HG := Lib.hid (gb_trans HG.out hgN (Or.inl rfl))
                  clear hgN
                  refine hK.out _ _ (HSS.out _ HG.out) (fun hHeld => ?_)
                  clear hK K
                  try simp only [Act.put, List.setIfInBounds_toArray, List.set_cons_zero, List.set_cons_succ]
                  refine wpAnyH_take (i := 7) (oi := ({ dst := some 142, op := Go.Op.move (Go.Operand.tmp 149), type := 52, pos := "law.go:70", after := #[{ on := 6, ground := Go.Ground.data }], guard := none } : Oper)) (v := ?_) rfl (by kernel_rfl) (by kernel_rfl) (by kernel_rfl) (fun _ _ _ h => h) (Or.inl ⟨by rfl, ?_⟩) (by assumption) ?_
                  rotate_left
                  · (intro wS hSw; (try dsimp only at hSw); go_simp <;> with_reducible rfl)
                  try simp only [Act.put, List.setIfInBounds_toArray, List.set_cons_zero, List.set_cons_succ]
                  refine wpAnyH_take (i := 8) (oi := ({ dst := some 150, op := Go.Op.extract (Go.Operand.tmp 142) 0, type := 27, pos := "law.go:70", after := #[{ on := 7, ground := Go.Ground.data }], guard := none } : Oper)) (v := ?_) rfl (by kernel_rfl) (by kernel_rfl) (by kernel_rfl) (fun _ _ _ h => h) (Or.inl ⟨by rfl, ?_⟩) (by assumption) ?_
                  rotate_left
                  · (intro wS hSw; (try dsimp only at hSw); go_simp <;> with_reducible rfl)
                  try simp only [Act.put, List.setIfInBounds_toArray, List.set_cons_zero, List.set_cons_succ]
                  refine wpAnyH_take (i := 9) (oi := ({ dst := some 151, op := Go.Op.extract (Go.Operand.tmp 142) 1, type := 33, pos := "law.go:70", after := #[{ on := 7, ground := Go.Ground.data }, { on := 11, ground := Go.Ground.gcOnly Go.Departure.lateStores }], guard := none } : Oper)) (v := ?_) rfl (by kernel_rfl) (by kernel_rfl) (by kernel_rfl) (fun _ _ _ h => h) (Or.inl ⟨by rfl, ?_⟩) (by assumption) ?_
                  rotate_left
                  · (intro wS hSw; (try dsimp only at hSw); go_simp <;> with_reducible rfl)
                  try simp only [Act.put, List.setIfInBounds_toArray, List.set_cons_zero, List.set_cons_succ]
                  refine wpAnyH_ready (rs := [11]) (by kernel_rfl) (by simp) ?_
                  refine AllReadyH.cons (o := ({ dst := none, op := Go.Op.store 27 (Go.Operand.tmp 24) (Go.Operand.tmp 150), type := 0, pos := "law.go:70", after := #[{ on := 10, ground := Go.Ground.data }, { on := 8, ground := Go.Ground.data }, { on := 6, ground := Go.Ground.chain }, { on := 0, ground := Go.Ground.phase }, { on := 1, ground := Go.Ground.phase }, { on := 2, ground := Go.Ground.phase }, { on := 3, ground := Go.Ground.phase }, { on := 4, ground := Go.Ground.phase }, { on := 5, ground := Go.Ground.phase }, { on := 6, ground := Go.Ground.phase }, { on := 7, ground := Go.Ground.phase }, { on := 8, ground := Go.Ground.phase }, { on := 9, ground := Go.Ground.textOnly Go.Departure.lateStores }, { on := 10, ground := Go.Ground.phase }], guard := none } : Oper)) rfl (fun K hK => ?_) ?_
                  · obtain ⟨c0, c1, c2, cf⟩ := dfa_cells HB_qy.out
                    have f0 := cf 0
                    have f1 := cf 1
                    have f2 := cf 2
                    clear cf
                    go_simp
                    obtain ⟨hs3, hg3⟩ := set3 HB_qy.out (.slice rp D.P.length rcp) (.slice rn D.R.length rcn) (.slice rl D.B.length rcl)
                    replace HG := Lib.hid (gb_trans HG.out hg3 (Or.inr (Or.inr ⟨_, rfl, HL_qy.out⟩)))
                    replace HBT := Lib.hid (HBT.out.zero hg3 HB_qy.out)
                    clear c0 c1 c2 f0 f1 f2 hg3
                    generalize (((wy10.setCell ⟨qy, 0, none⟩ (.slice rp D.P.length rcp)).setCell ⟨qy, 1, none⟩ (.slice rn D.R.length rcn)).setCell ⟨qy, 2, none⟩ (.slice rl D.B.length rcl)) = wy11 at *
                    replace HB_qy := Lib.hid hs3
                    clear hs3
                    refine hK.out _ _ (HSS.out _ HG.out) (fun hHeld => ?_)
                    clear hK K
                    try simp only [Act.put, List.setIfInBounds_toArray, List.set_cons_zero, List.set_cons_succ]
                    refine wpAnyH_take (i := 12) (oi := ({ dst := some 25, op := Go.Op.assign (Go.Operand.tmp 151), type := 33, pos := "law.go:70", after := #[{ on := 9, ground := Go.Ground.data }, { on := 11, ground := Go.Ground.chain }, { on := 0, ground := Go.Ground.phase }, { on := 1, ground := Go.Ground.phase }, { on := 2, ground := Go.Ground.phase }, { on := 3, ground := Go.Ground.phase }, { on := 4, ground := Go.Ground.phase }, { on := 5, ground := Go.Ground.phase }, { on := 6, ground := Go.Ground.phase }, { on := 7, ground := Go.Ground.phase }, { on := 8, ground := Go.Ground.phase }, { on := 9, ground := Go.Ground.phase }, { on := 10, ground := Go.Ground.phase }, { on := 11, ground := Go.Ground.phase }], guard := none } : Oper)) (v := ?_) rfl (by kernel_rfl) (by kernel_rfl) (by kernel_rfl) (fun _ _ _ h => h) (Or.inl ⟨by rfl, ?_⟩) (by assumption) ?_
                    rotate_left
                    · (intro wS hSw; (try dsimp only at hSw); go_simp <;> with_reducible rfl)
                    try simp only [Act.put, List.setIfInBounds_toArray, List.set_cons_zero, List.set_cons_succ]
                    refine wpAnyH_done (by kernel_rfl) ?_ _
                    go_wp2_with fail
                    go_meet
                    exact ⟨_, _, _, _, _, _, _, rfl, rfl, HB_qy, Lib.hid ⟨_, _, HBT.out⟩, HG⟩
                  exact AllReadyH.nil
                exact AllReadyH.nil
              exact AllReadyH.nil
            exact AllReadyH.nil
          case rest =>
            obtain ⟨qw, tp, tcp, tn, tcn, tl, tcl, rfl, rfl, HBW, HY0, HG2⟩ := hcut
            have HW : Hid (DfaAt wc (.slice tp D.P.length tcp) (.slice tn D.R.length tcn) (.slice tl D.B.length tcl) D) := Lib.hid (by
              obtain ⟨ru, Z, h⟩ := HY0.out
              exact res_at h HOk.out HDt.out)
            have hg := HG2.out
            have hzk2 : ZL ≤ wc.heap.size := Nat.le_trans hzk hg.size
            clear HY0 HG2 HYe HRe HSS HS HBx HYs HRb
            replace HG := Lib.hid (gb_trans HG.out hg (Or.inl rfl))
            replace HD := Lib.hid (HD.out.kept hg)
            replace HBd := Lib.hid (blk_kept HBd.out hg (by simp))
            replace HB := Lib.hid (HB.out.kept hg)
            replace HBb := Lib.hid (blk_kept HBb.out hg (by simp))
            clear hg
            obtain ⟨x0, x1, x2, -⟩ := dfa_cells HBd.out
            obtain ⟨y0, y1, y2, -⟩ := dfa_cells HBW.out
            go_wp2_with fail
            refine (same_dfa (res_at HD.out HOk.out HDt.out) HW.out).mono ?_
            rintro e wM ⟨rfl, hg⟩
            clear x0 x1 x2 y0 y1 y2
            have hzm := Nat.le_trans hzk2 hg.size
            replace HG := Lib.hid (gb_trans HG.out hg (Or.inl rfl))
            replace HD := Lib.hid (HD.out.kept hg)
            replace HBd := Lib.hid (blk_kept HBd.out hg (by simp))
            replace HB := Lib.hid (HB.out.kept hg)
            replace HBb := Lib.hid (blk_kept HBb.out hg (by simp))
            replace HW := Lib.hid (HW.out.kept hg)
            replace HBW := Lib.hid (blk_kept HBW.out hg (by simp))
            clear hg
            obtain ⟨x0, x1, x2, -⟩ := dfa_cells HBb.out
            obtain ⟨y0, y1, y2, -⟩ := dfa_cells HBW.out
            go_wp2_with fail
            refine (same_dfa (res_at HB.out HOk.out HDt.out) HW.out).mono ?_
            rintro e wN ⟨rfl, hg⟩
            clear x0 x1 x2 y0 y1 y2
            have hzn := Nat.le_trans hzm hg.size
            replace HG := Lib.hid (gb_trans HG.out hg (Or.inl rfl))
            replace HD := Lib.hid (HD.out.kept hg)
            replace HBd := Lib.hid (blk_kept HBd.out hg (by simp))
            replace HB := Lib.hid (HB.out.kept hg)
            replace HBb := Lib.hid (blk_kept HBb.out hg (by simp))
            replace HW := Lib.hid (HW.out.kept hg)
            replace HBW := Lib.hid (blk_kept HBW.out hg (by simp))
            clear hg
            clear HW HBW
            have hga := World.grownBy_alloc wN (.cells #[.slice none 0 0, .slice none 0 0, .slice none 0 0, .slice none 0 0, .slice none 0 0, .slice none 0 0, .slice none 0 0, .slice none 0 0, .slice none 0 0, .slice none 0 0, .slice none 0 0, .slice none 0 0, .slice none 0 0] 79) none
            have HBK : Hid (BookAt (wN.alloc (.cells #[.slice none 0 0, .slice none 0 0, .slice none 0 0, .slice none 0 0, .slice none 0 0, .slice none 0 0, .slice none 0 0, .slice none 0 0, .slice none 0 0, .slice none 0 0, .slice none 0 0, .slice none 0 0, .slice none 0 0] 79)) wN.heap.size wN.heap.size nilS nilS nilS nilS [] [] [] []) := Lib.hid (book_new wN)
            have HDY := Lib.hid HD.out.lim
            have HBY := Lib.hid HB.out.lim
            have HQY := Lib.hid (Array.getElem?_eq_some_iff.1 HBb.out).1
            have hwY := HG.out.size
            have hYs := hga.size
            replace HG := Lib.hid (gb_trans HG.out hga (Or.inl rfl))
            replace HD := Lib.hid (HD.out.kept hga)
            replace HBd := Lib.hid (blk_kept HBd.out hga (by simp))
            replace HB := Lib.hid (HB.out.kept hga)
            replace HBb := Lib.hid (blk_kept HBb.out hga (by simp))
            clear hga
            obtain ⟨x0, x1, x2, -⟩ := dfa_cells HBd.out
            go_wp2_with fail
            generalize wN.alloc (.cells #[.slice none 0 0, .slice none 0 0, .slice none 0 0, .slice none 0 0, .slice none 0 0, .slice none 0 0, .slice none 0 0, .slice none 0 0, .slice none 0 0, .slice none 0 0, .slice none 0 0, .slice none 0 0, .slice none 0 0] 79) = wO at HBK HG HD HBd HB HBb hYs x0 x1 x2 ⊢
            generalize wN.heap.size = YB at HBK HDY HBY HQY hwY hYs hzn ⊢
            have hR := HOk.out.r
            have hDu := HD.out.u
            have hBu := HB.out.u
            refine (book_dfa HBK.out hYs (Nat.le_refl _) (by simp) (by simp; omega) (by simp) (by simp) HD.out HDY.out.n).mono ?_
            rintro e wP ⟨rfl, ⟨v1, v2, v3, v4, hb1⟩, hbel⟩
            have HK1 := Lib.hid hb1
            have HBel := Lib.hid ((below_gb HG.out).trans (hbel.mono hwY))
            replace HD := Lib.hid (HD.out.below HDY.out hbel)
            replace HB := Lib.hid (HB.out.below HBY.out hbel)
            replace HBb := Lib.hid ((hbel.block _ HQY.out).trans HBb.out)
            have hYp := Nat.le_trans hYs hbel.size
            clear x0 x1 x2 HBK HBd HG hb1 hbel hYs
            obtain ⟨x0, x1, x2, -⟩ := dfa_cells HBb.out
            go_wp2_with fail
            refine (book_dfa HK1.out hYp (Nat.le_refl _) (by simp) (by simp; omega) (by simp) (by simp) HB.out HBY.out.n).mono ?_
            rintro e wQ ⟨rfl, ⟨v5, v6, v7, v8, hb2⟩, hbel⟩
            have HK2 := Lib.hid hb2
            have HBel2 := Lib.hid (HBel.out.trans (hbel.mono hwY))
            replace HD := Lib.hid (HD.out.below HDY.out hbel)
            replace HB := Lib.hid (HB.out.below HBY.out hbel)
            have hYq := Nat.le_trans hYp hbel.size
            have HOw := Lib.hid (own_pair HK2.out hzn (Nat.le_trans hzn hYq) HD.out HDl.out HB.out HZB.out HOk.out)
            have hwZ : w.heap.size ≤ ZL := Nat.le_trans (Nat.le_of_lt HYL.out.1) HYZ.out
            clear x0 x1 x2 HK1 HBel hb2 hbel HD HB HBb hDu hBu HDY HBY
            go_wp2_with (go_at_call 33; refine HOw.out.mono ?_; rintro e wR ⟨rfl, hbq⟩)
            go_ret
            exact ⟨by simp, HBel2.out.trans (hbq.mono hwZ)⟩
end Go.Proofs.Ytcdepblajobemaa
