/- The document's runner: what is final. -/
import Derived.Test.YtpehmlkikhkmfaaRefLetter
import Derived.Deep.AppendLies
namespace Go.Proofs.Ytpehmlkikhkmfaa
open Go.RowKit

set_option maxRecDepth 100000 in
set_option maxHeartbeats 8000000 in
theorem reffinal_core (vp vn vo : Value) (vs : List Value) (P : List ByteArray) (R : List (List Int)) (O : List Int) (q s : Nat) (w : World) (hR0 : RefAt w 0 q vp vn vo vs P R O s) (hM : MachAt w vp vn vo P R O) (hR : rowsF R = true) (hl : R.length = O.length) (hn : O.length ≤ 200000) (hs : s < O.length) :
    Calls Try.prog 56 #[.pointer (some ⟨q, 0, none⟩)] w fun e w' => ∃ b : Bool, e = .returned (.bool b) ∧ Hid (b = true ↔ ∀ t, Reach R s t → O.getD t 0 = O.getD s 0) ∧ w.grownBy w' none := by
  obtain ⟨ib, hib, hb0, hb1, hb2⟩ := info_parts Try.info4
  obtain ⟨i0, hi0, hz0, hz1, hz2⟩ := info_parts Try.info3
  have HM := Lib.hid hM
  have HR := Lib.hid hR
  have HS := Lib.hid (EndI.start (O := O) (R := R) (s := s) (by omega))
  obtain ⟨_, ⟨an, cn, rfl, hnc, hnl, _⟩, ⟨ao, co, rfl, hoc, _, hol, _⟩⟩ := hM
  have c1 := hR0.cell1
  have c2 := hR0.cell2
  have c3 := hR0.cell3
  have hq := hR0.lt
  obtain ⟨W0, hW0⟩ : ∃ W0, Hid (W0 = w) := ⟨_, Lib.hid rfl⟩
  have HMa : Hid (∀ wr, Below w.heap.size W0 wr → MachAt wr vp (.slice an R.length cn) (.slice ao O.length co) P R O) := Lib.hid fun wr hb => by
    rw [hW0.out] at hb
    exact HM.out.below hb
  have HBx : Hid (∀ wr, Below w.heap.size W0 wr → wr.cell? ⟨q, 1, none⟩ = some (.slice an R.length cn) ∧ wr.cell? ⟨q, 2, none⟩ = some (.slice ao O.length co) ∧ wr.cell? ⟨q, 3, none⟩ = some (.int .i64 (s : Int))) := Lib.hid fun wr hb => by
    rw [hW0.out] at hb
    exact ⟨(hb.cell (p := ⟨q, 1, none⟩) hq).trans c1, (hb.cell (p := ⟨q, 2, none⟩) hq).trans c2, (hb.cell (p := ⟨q, 3, none⟩) hq).trans c3⟩
  have HFr : Hid (∀ wr, Below w.heap.size W0 wr → w.grownBy wr none) := Lib.hid fun wr hb => by
    rw [hW0.out] at hb
    exact ⟨hb.os, hb.tape, hb.output, hb.size, fun k hk _ => hb.block k hk⟩
  have HLift : Hid (∀ (wr : World) (p : Addr) (v : Value), Below w.heap.size W0 wr → W0.cell? p = some v → wr.cell? p = some v) := Lib.hid fun wr p v hb hv => (hb.cell (p := p) (by have := World.block_lt_of_cell? W0 p hv; rw [hW0.out] at this; exact this)).trans hv
  have hsI : (s : Int) < (R.length : Int) := by omega
  have hsO : (s : Int) < (O.length : Int) := by omega
  have hnR : R.length ≤ 200000 := by omega
  have HL := Lib.hid hl
  clear hR hl
  go_enter Try.func56, Try.ntmps56
  go_wp2_with (at_make; refine wpList_make_full _ rfl _ _ 102 rfl w.heap.size 4 ib (.bool false) 1 Try.underlying102 hib hb0 hb1 .i64 .i64 _ _ R.length rfl rfl (by omega) (by omega) (by rw [hb2]; omega) (by unfold maxLen; omega) (Nat.le_refl _) ?_; intro w2 hown2 hgrow2; have e1 := hgrow2.cell c1 (by simp); have e2 := hgrow2.cell c2 (by simp); have e3 := hgrow2.cell c3 (by simp); have e3b := (World.grownBy_alloc w2 (.cells #[.int .i64 (s : Int)] 3) none).cell e3 (by simp); have hown2b := bools_made hown2; have HF2 := (hown2b.alloc (.cells #[.int .i64 (s : Int)] 3)).frozenAt s; have HC2 := bool_cell (hown2b.alloc (.cells #[.int .i64 (s : Int)] 3)) (by simp) s (by omega); have H2 := Lib.hid hown2b; have HG2 := Lib.hid hgrow2; clear hown2 hgrow2 hown2b)
  have hE0 : EndAt w.heap.size R.length w.heap.size W0 ((w2.alloc (.cells #[.int .i64 (s : Int)] 3)).setCell ⟨w.heap.size, s, none⟩ (.bool true)) (.slice (some ⟨w2.heap.size, 0, none⟩) 1 1) ((List.replicate R.length false).set s true) [(s : Int)] := by
    have hb : Below w.heap.size W0 w2 := by
      rw [hW0.out]
      exact gb_below HG2.out
    refine EndAt.set ⟨H2.out.alloc _, by simp, ?_, hb.alloc HG2.out.size _, Nat.le_refl _⟩ s
    exact own_base (World.ownsRow_lit (base := w.heap.size) (e := 3) (size := 1) w2 #[.int .i64 (s : Int)] 1 HG2.out.size (by unfold maxLen; omega) rfl) (Nat.le_refl _)
  have HE0 := Lib.hid hE0
  clear hE0 HF2 HC2 H2 HG2 c1 c2 c3 e1 e2 e3 e3b HM hR0
  generalize (w2.alloc (.cells #[.int .i64 (s : Int)] 3)).setCell ⟨w.heap.size, s, none⟩ (.bool true) = w3 at HE0 ⊢
  generalize w.heap.size = Y at HMa HBx HFr HE0 HLift hq ⊢
  go_loopw [5, 4] (fun i vw wr => ∃ (k : Nat) (S : List Bool) (W : List Int), k ≤ W.length ∧ i = .int .i64 (k : Int) ∧ Hid (EndI R O s S W k) ∧ Hid (EndAt Y R.length Y W0 wr vw S W)) (fun i _ _ => R.length - (intOf i).toNat)
  case atStart => exact ⟨0, _, _, by simp, rfl, HS, HE0⟩
  case round =>
    obtain ⟨k, S, W, hk, rfl, HI, HA⟩ := hrel
    have hWl : W.length ≤ R.length := by have := HI.out.count; omega
    by_cases hkl : k < W.length
    · obtain ⟨b, cap, rfl, hcw⟩ := HA.out.at k hkl
      obtain ⟨hxm, hmR, _⟩ := HI.out.el _ (getD_in (d := 0) hkl)
      obtain ⟨m, hm⟩ : ∃ m, Hid (m = (W.getD k 0).toNat) := ⟨_, rfl⟩
      rw [← hm.out] at hxm hmR
      rw [hxm] at hcw
      have HXm := Lib.hid hxm
      clear hxm
      obtain ⟨_, hnx, hou⟩ := HMa.out W0 (Below.refl _ _)
      obtain ⟨_, _, hve, _, _, hn3⟩ := hnx
      cases hve
      obtain ⟨_, _, hve, _, _, _, ho3⟩ := hou
      cases hve
      rcases hn3 with rfl | ⟨bn, offn, rfl, hn3⟩
      · exact absurd hmR (by simp)
      rcases ho3 with rfl | ⟨bo, offo, rfl, ho3⟩
      · exact absurd hs (by simp)
      obtain ⟨u, hu, hIu⟩ := hn3 m hmR
      obtain ⟨au, cu, rfl, hcu, _, hul, hcell⟩ := hIu
      have HU := Lib.hid hu
      have hu := HLift.out _ _ _ HA.out.bel HU.out
      have hom := HLift.out _ _ _ HA.out.bel (ho3 m (by rw [← HL.out]; exact hmR))
      have hos := HLift.out _ _ _ HA.out.bel (ho3 s hs)
      have HCell := Lib.hid hcell
      clear hcell
      obtain ⟨hb1x, hb2x, hb3x⟩ := HBx.out _ HA.out.bel
      have HRw : Hid (∀ y ∈ R.getD m [], y.toNat < S.length ∧ y = (y.toNat : Int)) := Lib.hid (by have := HI.out.rows HR.out hkl; rwa [← hm.out] at this)
      have hmI : (m : Int) < (R.length : Int) := by omega
      have hmO : (m : Int) < (O.length : Int) := by rw [← HL.out]; exact hmI
      have hkW : (k : Int) < (W.length : Int) := by omega
      have HFin : Hid (∀ nq, w.grownBy (wr.drewN nq) none) := Lib.hid fun nq => gb_trans (HFr.out _ HA.out.bel) (gb_drewN _ _ none) (Or.inl rfl)
      clear hn3 ho3
      by_cases hO : O.getD m 0 = O.getD s 0
      · have HSt := Lib.hid (HI.out.step HR.out hkl (by rw [← hm.out]; exact hO))
        rw [← hm.out] at HSt
        have hbt : (O.getD m 0 != O.getD s 0) = false := by rw [hO]; simp
        generalize O.getD m 0 = x at hom hbt
        generalize O.getD s 0 = y at hos hbt
        clear hO
        have hFr2 := HFin
        go_wp2_with fail
        go_quiet (fail)
        have hA9 := HA.out.kept (gb_drewN wr nq none)
        have HA9 := Lib.hid hA9
        clear hA9 hom hos hcw hb1x hb2x hb3x hu HFin hFr2
        generalize wr.drewN nq = w9 at HA9 ⊢
        clear HA
        have HCnt : Hid (W.length + falses S = R.length) := Lib.hid HI.out.count
        have HSl : Hid (S.length = R.length) := Lib.hid HI.out.len
        have HWk : Hid (W.getD k 0 = (m : Int)) := HXm
        clear HI HXm hm
        generalize R.getD m [] = l at hcu hul HCell HRw HSt HU
        go_wp2_with fail
        go_loopw [6, 4] (fun i vw wr => ∃ (j : Nat) (S3 : List Bool) (W3 : List Int), j ≤ l.length ∧ i = .int .i64 (j : Int) ∧ Hid ((S3, W3) = spreads (S, W) (l.take j)) ∧ Hid (W3.length + falses S3 = R.length) ∧ Hid (EndAt Y R.length Y W0 wr vw S3 W3)) (fun i _ _ => l.length - (intOf i).toNat)
        case atStart => exact ⟨0, S, W, by omega, rfl, rfl, HCnt, HA9⟩
        case round =>
          obtain ⟨j, S3, W3, hj, rfl, HSp, HC3, HA3⟩ := hrel
          have hext : ∃ more, W3 = W ++ more := by
            obtain ⟨more, h⟩ := spreads_ext (l.take j) (S, W)
            rw [← HSp.out] at h
            exact ⟨more, h⟩
          have hk3 : k < W3.length := by obtain ⟨more, rfl⟩ := hext; rw [List.length_append]; omega
          have hwk3 : W3.getD k 0 = (m : Int) := by obtain ⟨more, rfl⟩ := hext; rw [getD_left hkl]; exact HWk.out
          obtain ⟨b3, cap3, rfl, hcw3⟩ := HA3.out.at k hk3
          rw [hwk3] at hcw3
          have hu3 := HLift.out _ _ _ HA3.out.bel HU.out
          obtain ⟨hb1x, hb2x, hb3x⟩ := HBx.out _ HA3.out.bel
          have hk3I : (k : Int) < (W3.length : Int) := by omega
          have hW3l : W3.length ≤ R.length := by have := HC3.out; omega
          clear hext hwk3
          by_cases hjl : j < l.length
          · rcases HCell.out with rfl | ⟨bl, offl, rfl, hcell⟩
            · exact absurd hjl (by simp)
            have hc3 := HLift.out _ _ _ HA3.out.bel (hcell j hjl)
            obtain ⟨hql, hyq⟩ := HRw.out _ (getD_in (d := 0) hjl)
            obtain ⟨q, hq⟩ : ∃ q, Hid (q = (l.getD j 0).toNat) := ⟨_, rfl⟩
            rw [← hq.out] at hql hyq
            have HTk := Lib.hid (spreads_take (S, W) l j hjl)
            rw [hyq] at hc3 HTk
            have hqR : q < R.length := by rw [← HSl.out]; exact hql
            have hqI : (q : Int) < (R.length : Int) := by omega
            have hjI : (j : Int) < (l.length : Int) := by omega
            have HSpr : Hid (spreads (S, W) (l.take (j + 1)) = if S3.getD q false then (S3, W3) else (S3.set q true, W3 ++ [(q : Int)])) := Lib.hid (by rw [HTk.out, ← HSp.out]; unfold spread; rw [Int.toNat_natCast])
            clear hyq hcell HTk hql
            have HFs := Lib.hid (fun h => falses_set (T := S3) (k := q) (by rw [HA3.out.len]; exact hqR) h)
            go_wp2_with fail
            go_quiet (fail)
            generalize nq = n1
            go_wp2_with fail
            go_quiet (fail)
            have HA5 := Lib.hid ((HA3.out.kept (gb_drewN wr n1 none)).kept (gb_drewN (wr.drewN n1) nq none))
            clear hcw3 hu3 hb1x hb2x hb3x hc3 HA3
            generalize (wr.drewN n1).drewN nq = w5 at HA5 ⊢
            have hcellq := (HA5.out.cell q hqR).1
            have hfzq := (HA5.out.cell q hqR).2
            cases htb : S3.getD q false
            · rw [htb] at hcellq
              have HFs2 := HFs.out htb
              have HSpr2 := HSpr.out
              rw [htb] at HSpr2
              have HSpr3 := Lib.hid HSpr2
              have HAs := Lib.hid (HA5.out.set q)
              have hz5 : (w5.setCell ⟨Y, q, none⟩ (.bool true)).heap.size = w5.heap.size := by simp [World.setCell]
              have hcn := cell_one_new (w5.setCell ⟨Y, q, none⟩ (.bool true)) (.int .i64 (q : Int)) 3
              rw [hz5] at hcn
              have HCn := Lib.hid hcn
              have HZ5 := Lib.hid hz5
              have HC4 : Hid ((W3 ++ [(q : Int)]).length + falses (S3.set q true) = R.length) := Lib.hid (by have := HC3.out; rw [List.length_append, List.length_singleton]; omega)
              clear hcn hz5 HFs2 HFs HSpr HSpr2 htb
              go_wp2_with (at_builtin; refine wpList_append_lies _ rfl (.tmp 93) (.tmp 95) 107 rfl Y 3 i0 (.int .i64 0) 1 8 Try.underlying107 hi0 hz0 hz1 hz2 rfl (by decide) (.slice (some ⟨b3, 0, none⟩) W3.length cap3) W3.length (W3.map iv) rfl (HAs.out.work.alloc _) ⟨w5.heap.size, 0, none⟩ 1 1 [.int .i64 (q : Int)] rfl rfl HCn.out (by simp [Value.oneCell']) (by decide) (by unfold maxLen; omega) (by omega) (by rw [World.size_alloc, HZ5.out]; have := HA5.out.size; omega) _ rfl ?_; intro g5 cap5 w6 hown5 hgr5 hat5 hlt5; have HP := Lib.hid (HAs.out.push hown5 hgr5); clear hown5 hgr5 hat5 hlt5)
              exact ⟨⟨j + 1, S3.set q true, W3 ++ [(q : Int)], by omega, by go_num, Lib.hid (by rw [HSpr3.out]; rfl), HC4, HP⟩, by simp [intOf]; omega⟩
            · rw [htb] at hcellq
              have HSpr2 := HSpr.out
              rw [htb] at HSpr2
              have HSpr3 := Lib.hid HSpr2
              clear HSpr HSpr2 htb HFs
              go_wp2_with fail
              exact ⟨⟨j + 1, S3, W3, by omega, by go_num, Lib.hid (by rw [HSpr3.out]; rfl), HC3, HA5⟩, by simp [intOf]; omega⟩
          · obtain rfl : j = l.length := by omega
            rw [List.take_length] at HSp
            have HEn : Hid (EndI R O s S3 W3 (k + 1)) := Lib.hid (by have h := HSt.out; rw [← HSp.out] at h; exact h)
            go_wp2_with fail
            go_quiet (fail)
            have HA5 := Lib.hid (HA3.out.kept (gb_drewN wr nq none))
            go_wp2_with fail
            exact ⟨⟨k + 1, S3, W3, by omega, by go_num, HEn, HA5⟩, by simp [intOf]; omega⟩
      · have HNo := Lib.hid (HI.out.some hkl (by rw [← hm.out]; exact hO))
        have hbt : (O.getD m 0 != O.getD s 0) = true := bne_iff_ne.2 hO
        generalize O.getD m 0 = x at hom hbt
        generalize O.getD s 0 = y at hos hbt
        clear hO
        go_wp2_with fail
        go_quiet (fail)
        go_wp2
        go_ret
        exact ⟨false, rfl, Lib.hid ⟨fun h => absurd h (by decide), fun h => absurd h HNo.out⟩, HFin.out _⟩
    · obtain rfl : k = W.length := by omega
      have HAll := Lib.hid (HI.out.all HR.out (by rw [HL.out]; exact hs))
      have HFin := Lib.hid (HFr.out _ HA.out.bel)
      obtain ⟨aw, cw2, rfl⟩ := own_val HA.out.work
      go_wp2_with fail
      go_ret
      exact ⟨true, rfl, Lib.hid ⟨fun _ => HAll.out, fun _ => rfl⟩, HFin.out⟩
end Go.Proofs.Ytpehmlkikhkmfaa
