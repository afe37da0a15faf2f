/- Runner: New. -/
import Derived.Test.YtpehmlkikhkmfaaRunGrow
import Derived.Deep.RegionHeld3
import Derived.Deep.RegionLaw
import Derived.Deep.AppendLies
import Derived.Deep.DeepCutAuto
namespace Go.Proofs.Ytpehmlkikhkmfaa
open Go.RowKit

/-- All of a runner lies from Y on. -/
def Ovr (Y p mb : Nat) (vn vo vf : Value) (vs : List Value) : Prop :=
  Y ≤ p ∧ Y ≤ mb ∧ (∀ b, vn.ownBlock = some b → Y ≤ b) ∧ (∀ b, vo.ownBlock = some b → Y ≤ b) ∧ (∀ b, vf.ownBlock = some b → Y ≤ b) ∧ ∀ (i : Nat) (v : Value), vs[i]? = some v → ∀ b, v.ownBlock = some b → Y ≤ b
/-- A runner has been made. -/
def Fin2 (w : World) (P : List ByteArray) (R : List (List Int)) (O : List Int) (e : Ending) (w' : World) : Prop :=
  ∃ p mb vn vo vf vs F, e = .returned (.tuple #[.pointer (some ⟨p, 0, none⟩), .int .i64 0]) ∧ RunAt w' p mb vn vo vf vs R O F 0 ∧ NamesAt w' mb (bitF P) ∧ Hid (Fins O (turnF R) 3 F) ∧ w.grownBy w' none ∧ w.heap.size ≤ p ∧ Ovr w.heap.size p mb vn vo vf vs

set_option maxRecDepth 100000 in
set_option maxHeartbeats 8000000 in
theorem new_yes (vp vn vo : Value) (P : List ByteArray) (R : List (List Int)) (O : List Int) (w : World) (hM : MachAt w vp vn vo P R O) (hE : mErr P R O = 0) (hn : O.length ≤ 200000) :
    Calls Try.prog 13 #[.agg #[vp, vn, vo]] w (Fin2 w P R O) := by
  have hb0 := World.grownBy_alloc w (.cells #[vp, vn, vo] 27) none
  have HC := Lib.hid (check_any vp vn vo P R O _ (hM.kept hb0))
  have HB0 := Lib.hid hb0
  rw [hE] at HC
  have HM := Lib.hid (hM.kept hb0)
  have HE := Lib.hid hE
  obtain ⟨⟨ap, cp, rfl, hp0, hp1, _⟩, ⟨an, cn, rfl, hn0, hn1, _⟩, ⟨ao, co, rfl, ho0, _, ho1, _⟩⟩ := hM
  clear hE hb0
  go_enter Try.func13, Try.ntmps13
  go_wp2_with (go_at_call 37; refine HC.out.mono ?_; rintro e w1 ⟨rfl, hg1⟩)
  have c0 := hg1.cell (cell3_0 w (.slice ap P.length cp) (.slice an R.length cn) (.slice ao O.length co) 27) (by simp)
  have c1 := hg1.cell (cell3_1 w (.slice ap P.length cp) (.slice an R.length cn) (.slice ao O.length co) 27) (by simp)
  have c2 := hg1.cell (cell3_2 w (.slice ap P.length cp) (.slice an R.length cn) (.slice ao O.length co) 27) (by simp)
  have hBx : w.heap.size < w1.heap.size := World.block_lt_of_cell? w1 _ c0
  have HMa : Hid (∀ wx, Below w1.heap.size w1 wx → MachAt wx (.slice ap P.length cp) (.slice an R.length cn) (.slice ao O.length co) P R O) := Lib.hid fun wx hb => (HM.out.kept hg1).below hb
  have HCl : Hid (∀ wx, Below w1.heap.size w1 wx → Calls Try.prog 45 #[.slice ao O.length co] wx fun e w' => ∃ v', e = .returned v' ∧ w'.ownsRow w1.heap.size 59 1 v' O.length (O.map ov) ∧ wx.grownBy w' none ∧ Below w1.heap.size w1 w') := Lib.hid fun wx hb =>
    (clone_outs _ O wx (HMa.out wx hb).out).mono fun e w' ⟨v', he, ho, hg⟩ => ⟨v', he, own_base ho hb.size, hg, hb.grown hg hb.size (fun k e => by cases e)⟩
  have HFi : Hid (∀ wx, Below w1.heap.size w1 wx → Calls Try.prog 46 #[.agg #[.slice ap P.length cp, .slice an R.length cn, .slice ao O.length co]] wx fun e w' => ∃ g F, e = .returned (.slice (some ⟨g, 0, none⟩) O.length O.length) ∧ w'.ownsRow w1.heap.size 4 1 (.slice (some ⟨g, 0, none⟩) O.length O.length) O.length (F.map bv) ∧ F.length = O.length ∧ Hid (Fins O (turnF R) 3 F) ∧ wx.grownBy w' none ∧ Below w1.heap.size w1 w') := Lib.hid fun wx hb =>
    (finals_any _ _ _ P R O wx (HMa.out wx hb) (mErr_zero HE.out).2.2.2.1 (mErr_zero HE.out).2.2.1 hn (mErr_rows HE.out)).mono fun e w' ⟨g, F, he, ho, hl, hf, hb2⟩ => ⟨g, F, he, own_base ho hb.size, hl, hf, ⟨hb2.os, hb2.tape, hb2.output, hb2.size, fun k hk _ => hb2.block k hk⟩, hb.trans (hb2.mono hb.size)⟩
  have HP : Hid (∀ wx, Below w1.heap.size w1 wx → Below w1.heap.size w1 wx ∧ wx.cell? ⟨w.heap.size, 0, none⟩ = some (.slice ap P.length cp) ∧ wx.cell? ⟨w.heap.size, 1, none⟩ = some (.slice an R.length cn) ∧ wx.cell? ⟨w.heap.size, 2, none⟩ = some (.slice ao O.length co)) := Lib.hid fun wx hb => ⟨hb, (hb.cell (p := ⟨w.heap.size, 0, none⟩) hBx).trans c0, (hb.cell (p := ⟨w.heap.size, 1, none⟩) hBx).trans c1, (hb.cell (p := ⟨w.heap.size, 2, none⟩) hBx).trans c2⟩
  have hb1 : Below w1.heap.size w1 w1 := Below.refl _ _
  have HW1 : Hid (w.grownBy w1 none) := Lib.hid (gb_trans HB0.out hg1 (Or.inl rfl))
  clear hg1 HC HB0 HM
  have hmm := @run_makeMap Try.prog
  go_wp2_with fail
  have hS0 := HP.out _ hb1.drew
  go_cut [4] (fun s4 wx => ∃ p mb vo vf F, s4 = .pointer (some ⟨p, 0, none⟩) ∧ FreshAt w1.heap.size w1 wx p mb vo vf O F ∧ F.length = O.length ∧ Hid (Fins O (turnF R) 3 F) ∧ w1.heap.size ≤ p ∧ w1.heap.size ≤ mb)
  case first =>
    go_region_held3 (fun wx => Below w1.heap.size w1 wx ∧ wx.cell? ⟨w.heap.size, 0, none⟩ = some (.slice ap P.length cp) ∧ wx.cell? ⟨w.heap.size, 1, none⟩ = some (.slice an R.length cn) ∧ wx.cell? ⟨w.heap.size, 2, none⟩ = some (.slice ao O.length co)) (first | assumption | exact HP.out _ (below_alloc (And.left (by assumption)) _) | exact HP.out _ (below_alloc (below_alloc (And.left (by assumption)) _) _))
      (first
      | (go_at_call 45; refine (HCl.out _ (by first | exact And.left (by assumption) | exact below_alloc (And.left (by assumption)) _)).mono ?_; rintro e w2 ⟨vo2, rfl, ho2, hg2, hb2⟩; obtain ⟨a2, cp2, rfl⟩ := own_val ho2; have hS2 := HP.out _ hb2)
      | (go_at_call 46; refine (HFi.out _ (by first | exact And.left (by assumption) | exact below_alloc (And.left (by assumption)) _)).mono ?_; rintro e w3 ⟨gf, F, rfl, hf3, hl3, hF3, hg3, hb3⟩; have hS3 := HP.out _ hb3))
    · go_wp2_with fail
      go_meet
      exact ⟨_, _, _, _, F, rfl, fresh_a ho2 hf3 hg3 hb3, hl3, hF3, Nat.le_trans hb3.size (Nat.le_succ _), hb3.size⟩
    · go_wp2_with fail
      go_meet
      exact ⟨_, _, _, _, F, rfl, fresh_b ho2 hf3 hg3 hb3, hl3, hF3, hb3.size, hb2.size⟩
    · go_wp2_with fail
      go_meet
      exact ⟨_, _, _, _, F, rfl, fresh_c hg2 ho2 hf3 hg3 hb3, hl3, hF3, hb3.size, Nat.le_refl _⟩
  case rest =>
    obtain ⟨p, mb, vo, vf, F, rfl, hFr, hFl, hFi, hpY, hmY⟩ := hcut
    have hG0 := hFr.grow (R := R) hpY hmY
    have hP0 := HP.out _ hFr.bel
    clear hFr c0 c1 c2 hS0 hb1 HCl HFi
    have hlR : R.length ≤ 200000 := by rw [(mErr_zero HE.out).2.2.1]; exact hn
    obtain ⟨i1, hi1, hy0, hy1, hy2⟩ := info_parts Try.info107
    generalize hYe : w1.heap.size = Y at HMa HP hpY hmY hG0 hP0
    have HY := Lib.hid hYe
    clear hYe
    obtain ⟨hP00, hP01, hP02, hP03⟩ := hP0
    go_wp2_with fail
    go_loopw [23] (fun i wr => ∃ (k : Nat) (vk : Value) (vs : List Value), k ≤ R.length ∧ i = .int .i64 (k : Int) ∧ vs.length = k ∧ GrowAt Y w1 wr p mb vk vo vf vs R O F 0 (.map []) k) (fun i _ => R.length - (intOf i).toNat)
    case atStart => exact ⟨0, _, [], by omega, rfl, rfl, hG0⟩
    case round =>
      obtain ⟨k, vk, vs, hk, rfl, hvl, hG⟩ := hrel
      by_cases hlt : k < R.length
      · obtain ⟨_, ⟨a', cap', hve, _, _, hn3⟩, _⟩ := HMa.out _ hG.bel
        cases hve
        rcases hn3 with rfl | ⟨bn, offn, rfl, hn3⟩
        · exact absurd hlt (by simp)
        obtain ⟨u, hu, hIu⟩ := hn3 k hlt
        clear hn3
        obtain ⟨av, cv, rfl⟩ := own_val hG.next
        obtain ⟨au, cu, rfl⟩ : ∃ au cu, u = .slice au (R.getD k []).length cu := by obtain ⟨au, cu, e, _⟩ := hIu; exact ⟨au, cu, e⟩
        have hZr : Y ≤ wr.heap.size := hG.size
        have HClo : Hid (∀ wy, wr.grownBy wy none → Calls Try.prog 47 #[.slice au (R.getD k []).length cu] wy fun e w' => ∃ v', e = .returned v' ∧ w'.ownsRow Y 3 1 v' (R.getD k []).length ((R.getD k []).map iv) ∧ wr.grownBy w' none) := Lib.hid fun wy hy =>
          (clone_ints _ _ wy (hIu.kept hy)).mono fun e w' ⟨v', he, ho, hg⟩ => ⟨v', he, own_base ho (Nat.le_trans hZr hy.size), gb_trans hy hg (Or.inl rfl)⟩
        have HG := Lib.hid hG
        have HNx : Hid (∀ (w2 w5 : World) (v : Value) (g cap : Nat) (m : Nat) (B : List Value), m = (R.getD k []).length → B = (R.getD k []).map iv → wr.grownBy w2 none → w2.ownsRow Y 3 1 v m B → w5.ownsRow Y 107 1 (.slice (some ⟨g, 0, none⟩) (k + 1) cap) (k + 1) (vs ++ [v]) → (w2.alloc (.cells #[v] 107)).grownBy w5 (Value.slice av k cv).ownBlock →
            GrowAt Y w1 (w5.setCell ⟨p, 0, none⟩ (.slice (some ⟨g, 0, none⟩) (k + 1) cap)) p mb (.slice (some ⟨g, 0, none⟩) (k + 1) cap) vo vf (vs ++ [v]) R O F 0 (.map []) (k + 1)) := Lib.hid fun w2 w5 v g cap m B hm hB hg2 hv h5 h6 => by subst hm hB; exact HG.out.push hvl hg2 hv h5 h6
        have HFa : Hid (∀ (w2 w5 : World) (v : Value), wr.grownBy w2 none → (w2.alloc (.cells #[v] 107)).grownBy w5 (Value.slice av k cv).ownBlock → w5.cell? ⟨p, 0, none⟩ = some (.slice av k cv) ∧ w5.frozen? ⟨p, 0, none⟩ = false) := Lib.hid fun w2 w5 v hg2 h6 => by
          have h3 := (HG.out.kept hg2).kept (World.grownBy_alloc w2 (.cells #[v] 107) none)
          have hne : some p ≠ (Value.slice av k cv).ownBlock := fun e => by
            rcases own_off h3.next h3.blk (by decide) with e2 | e2
            · rw [e2] at e; cases e
            · exact e2 e.symm
          exact ⟨(h6.cell_far ⟨p, 0, none⟩ h3.lt hne).trans h3.cell0, (h6.frozen_far ⟨p, 0, none⟩ h3.lt hne).trans (h3.frozen 0)⟩
        have hc0 := hG.cell0
        generalize hlen : (R.getD k []).length = m at HClo HNx hu
        generalize hBm : (R.getD k []).map iv = B at HClo HNx
        clear hIu hG hP02 HMa HP hBm hlen
        have hkR : (k : Int) < (R.length : Int) := by omega
        go_wp2_with fail
        go_region_law (first
          | (go_simp; go_at_call 47; refine (HClo.out wr.drew ⟨rfl, rfl, rfl, Nat.le_refl _, fun _ _ _ => rfl⟩).mono ?_; rintro e w2 ⟨v2, rfl, ho2, hg2⟩; obtain ⟨a2, cp2, rfl⟩ := own_val ho2; have hc2 := (HG.out.kept hg2).cell0; have hca2 := ((HG.out.kept hg2).kept (World.grownBy_alloc w2 (.cells #[.slice a2 m cp2] 107) none)).cell0)
          | (refine step_append_lies _ (by rfl) (.tmp 31) (.tmp 34) 24 (by rfl) Y 107 i1 (.slice none 0 0) 1 24 Try.underlying24 hi1 hy0 hy1 hy2 rfl (by decide) (.slice av k cv) k vs (by rfl) (((HG.out.kept hg2).next).alloc _) ⟨w2.heap.size, 0, none⟩ 1 1 [.slice a2 m cp2] (by rfl) (by rfl) (cell_one_new _ _ _) (by simp [Value.oneCell']) (by decide) (by unfold maxLen; omega) (by omega) (by rw [World.size_alloc]; exact Nat.le_succ_of_le (Nat.le_trans hZr hg2.size)) _ rfl ?_; intro g5 cap5 w5 hown5 hgr5 hat5 hlt5; have hcf5 := HFa.out _ _ _ hg2 hgr5; have hc5 := hcf5.1; have hf5 := hcf5.2))
        all_goals
          have hNew := Lib.hid (HNx.out _ _ _ _ _ _ _ rfl rfl hg2 ho2 hown5 hgr5)
          generalize w5.setCell ⟨p, 0, none⟩ (.slice (some ⟨g5, 0, none⟩) (k + 1) cap5) = w6 at hNew ⊢
          clear hc2 hca2 hcf5 hc5 hf5 hlt5 hat5 hgr5 hown5 ho2 hg2
          go_wp2_with fail
          exact ⟨⟨k + 1, _, _, by omega, by go_num, by simp [hvl], hNew.out⟩, by simp [intOf]; omega⟩
      · obtain rfl : k = R.length := by omega
        obtain ⟨hP10, hP11, _, _⟩ := HP.out _ hG.bel
        have hPl := listF_len (mErr_zero HE.out).1
        have hTx : ∀ wx, Below Y w1 wx → TextsAt wx (.slice ap P.length cp) P := fun wx hb => (HMa.out wx hb).1
        clear HMa HP hP00 hP01 hP02 hP03 hG0 hlt hk
        have HTx := Lib.hid hTx
        clear hTx
        go_wp2_with fail
        go_loopw [42] (fun i wr => ∃ (k n : Nat) (D : DataW Unit), k ≤ P.length ∧ i = .int .i64 (k : Int) ∧ n ≤ k ∧ GrowAt Y w1 wr p mb vk vo vf vs R O F n D R.length ∧ Hid (Tells P k D)) (fun i _ => P.length - (intOf i).toNat)
        case atStart => exact ⟨0, 0, .map [], by omega, rfl, by omega, hG, Tells.zero P⟩
        case round =>
          obtain ⟨j, n, D, hj, rfl, hn, hG2, HT⟩ := hrel
          by_cases hjl : j < P.length
          · obtain ⟨a', cap', hve, _, _, hsz, hn3⟩ := HTx.out _ hG2.bel
            cases hve
            rcases hn3 with rfl | ⟨bp, offp, rfl, hn3⟩
            · exact absurd hjl (by simp)
            have hu := hn3 j hjl
            have HS := Lib.hid (hsz j hjl)
            have HTp := Lib.hid (HT.out.put hG2.map.isMap)
            clear hn3 hsz HTx hP11
            generalize P.getD j ⟨#[]⟩ = s at hu HS HTp
            have hc3 := hG2.cell3
            have hjP : (j : Int) < (P.length : Int) := by omega
            have hb16 : ((2 ^ j : Nat) : Int) < 65536 := by
              have := Nat.pow_le_pow_right (show 0 < 2 by decide) (show j ≤ 7 by omega)
              omega
            have hb17 : (0 : Int) ≤ ((2 ^ j : Nat) : Int) := Int.natCast_nonneg _
            obtain ⟨w3, hrun, hD3, hg3⟩ := hG2.map.drew.update strKeyed Try.underlying104 (by unfold maxLen; omega) (WideMaps.keyOf_string_mk Try.underlying9 HS.out) (plainElem_int (e := 81) (q := .u16) (a := ((2 ^ j : Nat) : Int)) Try.underlying81 (WalkArith.wf_u16 ⟨by omega, by omega⟩))
            have hG3 := Lib.hid ((hG2.kept (w' := wr.drew) ⟨rfl, rfl, rfl, Nat.le_refl _, fun _ _ _ => rfl⟩).named hD3 hg3)
            clear hD3 hg3
            have hsh : IntKind.u16.wrap ((2 : Int) ^ j) = ((2 ^ j : Nat) : Int) := by rw [show ((2 : Int) ^ j) = ((2 ^ j : Nat) : Int) by rw [Int.natCast_pow]; rfl, IntKind.wrap_u16, Int.emod_eq_of_lt (by omega) (by omega)]
            generalize ((2 ^ j : Nat) : Int) = y at hrun hb16 hb17 hsh HTp hG3
            go_wp2_with fail
            go_region
            go_wp2_with fail
            exact ⟨⟨j + 1, n + 1, _, by omega, by go_num, by omega, hG3.out, HTp⟩, by simp [intOf]; omega⟩
          · obtain rfl : j = P.length := by omega
            have hz := mErr_zero HE.out
            have hend : Fin2 w P R O (.returned (.tuple #[.pointer (some ⟨p, 0, none⟩), .int .i64 0])) wr := by
              refine ⟨p, mb, _, vo, vf, vs, F, rfl, ⟨hG2.blk, own_base hG2.next (Nat.zero_le _), fun i hi => ?_, own_base hG2.out (Nat.zero_le _), ?_, hz.2.2.1, hFl, by have := hz.2.1; omega, by assumption, fun i hi l hl => rowsF_in hz.2.2.2.1 hi hl⟩, ⟨n, D, hG2.map, fun x hx => ⟨Nat.lt_trans (bitK_lt P P.length hPl x) (by decide), HT.out x hx⟩⟩, hFi, gb_trans HW1.out ⟨hG2.bel.os, hG2.bel.tape, hG2.bel.output, hG2.bel.size, fun q hq _ => hG2.bel.block q (by rw [← HY.out]; exact hq)⟩ (Or.inl rfl), ?_, ?_⟩
              · obtain ⟨v, hv, hr⟩ := hG2.each i hi
                exact ⟨v, hv, own_base hr (Nat.zero_le _)⟩
              · rw [hFl]; exact own_base hG2.fin (Nat.zero_le _)
              · have h1 := HW1.out.size
                have h2 := HY.out
                omega
              · have h1 : w.heap.size ≤ Y := by have := HW1.out.size; have := HY.out; omega
                refine ⟨by omega, by have := hG2.oldm; omega, fun b hb => Nat.le_trans h1 (hG2.next.lt b hb).1, fun b hb => Nat.le_trans h1 (hG2.out.lt b hb).1, fun b hb => Nat.le_trans h1 (hG2.fin.lt b hb).1, fun i v hv b hb => ?_⟩
                have hi : i < R.length := by have := (List.getElem?_eq_some_iff.1 hv).1; have := hG2.next.1; omega
                obtain ⟨u, hu, hr⟩ := hG2.each i hi
                obtain rfl := Option.some.inj (hv.symm.trans hu)
                exact Nat.le_trans h1 (hr.lt b hb).1
            have HEnd := Lib.hid hend
            clear hend hG2 HT hz HTx hP11
            go_wp2_with fail
            go_ret2
            exact HEnd.out
end Go.Proofs.Ytpehmlkikhkmfaa
