/- The document's runner: New. -/
import Derived.Test.YtpehmlkikhkmfaaRefRun
namespace Go.Proofs.Ytpehmlkikhkmfaa
open Go.RowKit

theorem ref_mid {w w5 : World} {Y q : Nat} {vp vn vo v : Value} {vs : List Value} {P : List ByteArray} {R : List (List Int)} {O : List Int} {s : Nat} (h : RefAt w Y q vp vn vo vs P R O s) (h6 : (w.alloc (.cells #[v] 107)).grownBy w5 vn.ownBlock) : w5.cell? ⟨q, 1, none⟩ = some vn ∧ w5.frozen? ⟨q, 1, none⟩ = false := by
  have h3 := h.kept (World.grownBy_alloc w (.cells #[v] 107) none)
  have hne : some q ≠ vn.ownBlock := fun e => by
    rcases own_off h3.next h3.blk (by decide) with e2 | e2
    · rw [e2] at e; cases e
    · exact e2 e.symm
  exact ⟨(h6.cell_far ⟨q, 1, none⟩ h3.lt hne).trans h3.cell1, (h6.frozen_far ⟨q, 1, none⟩ h3.lt hne).trans (h3.frozen 1)⟩

theorem RefAt.base {w : World} {Y Y' q : Nat} {vp vn vo : Value} {vs : List Value} {P : List ByteArray} {R : List (List Int)} {O : List Int} {s : Nat} (h : RefAt w Y q vp vn vo vs P R O s) (hy : Y' ≤ Y) : RefAt w Y' q vp vn vo vs P R O s :=
  ⟨h.blk, own_base h.props hy, own_base h.next hy, fun i hi => by obtain ⟨v, hv, hr⟩ := h.each i hi; exact ⟨v, hv, own_base hr hy⟩, own_base h.out hy, Nat.le_trans hy h.old⟩

theorem refnew_no (vp vn vo : Value) (P : List ByteArray) (R : List (List Int)) (O : List Int) (w : World) (hM : MachAt w vp vn vo P R O) (hE : mErr P R O = 140) :
    Calls Try.prog 16 #[.agg #[vp, vn, vo]] w fun e w' => e = .returned (.tuple #[.pointer none, .int .i64 170]) ∧ w.grownBy w' none := by
  have hb0 := World.grownBy_alloc w (.cells #[vp, vn, vo] 27) none
  have HC := Lib.hid (refcheck_any vp vn vo P R O _ (hM.kept hb0))
  have HB0 := Lib.hid hb0
  have c0 := cell3_0 w vp vn vo 27
  have c1 := cell3_1 w vp vn vo 27
  have c2 := cell3_2 w vp vn vo 27
  rw [hE] at HC
  clear hM hE hb0
  go_enter Try.func16, Try.ntmps16
  go_wp2_with (go_at_call 52; refine HC.out.mono ?_; rintro e w1 ⟨rfl, hg1⟩)
  go_ret2
  exact ⟨rfl, gb_trans HB0.out hg1 (Or.inl rfl)⟩

set_option maxRecDepth 100000 in
set_option maxHeartbeats 4000000 in
theorem refnew_yes (vp vn vo : Value) (P : List ByteArray) (R : List (List Int)) (O : List Int) (w : World) (hM : MachAt w vp vn vo P R O) (hE : mErr P R O = 0) (hn : O.length ≤ 200000) :
    Calls Try.prog 16 #[.agg #[vp, vn, vo]] w fun e w' => ∃ q vp' vn' vo' vs, e = .returned (.tuple #[.pointer (some ⟨q, 0, none⟩), .int .i64 0]) ∧ RefAt w' w.heap.size q vp' vn' vo' vs P R O 0 ∧ w.grownBy w' none := by
  have hb0 := World.grownBy_alloc w (.cells #[vp, vn, vo] 27) none
  have HC := Lib.hid (refcheck_any vp vn vo P R O _ (hM.kept hb0))
  rw [hE] at HC
  have HB0 := Lib.hid hb0
  have HM := Lib.hid (hM.kept hb0)
  have HMw := Lib.hid hM
  have hpos := mErr_pow hE
  have hz := mErr_zero hE
  have hpl := listF_len hz.1
  have hRl : R.length ≤ 200000 := by have := hz.2.2.1; omega
  have HRr := Lib.hid (mErr_rows hE)
  have c0 := cell3_0 w vp vn vo 27
  have c1 := cell3_1 w vp vn vo 27
  have c2 := cell3_2 w vp vn vo 27
  obtain ⟨⟨ap, cp, rfl, hp0, hp1, _⟩, ⟨an, cn, rfl, hn0, hn1, _⟩, ⟨ao, co, rfl, ho0, _, ho1, _⟩⟩ := hM
  obtain ⟨is, his, hs0, hs1, hs2⟩ := info_parts Try.info9
  obtain ⟨ir, hir, hr0, hr1, hr2⟩ := info_parts Try.info107
  obtain ⟨ii, hii, hi0, hi1, hi2⟩ := info_parts Try.info3
  obtain ⟨iv0, hiv, hv0, hv1, hv2⟩ := info_parts Try.info59
  have HPos : Hid (∀ k, k < R.length → 0 < (R.getD k []).length) := Lib.hid fun k hk => by rw [hpos k hk]; exact Nat.two_pow_pos _
  have HO0 : Hid (O.length ≠ 0) := Lib.hid hz.2.1
  clear hE hb0 hz hpos
  go_enter Try.func16, Try.ntmps16
  go_wp2_with (go_at_call 52; refine HC.out.mono ?_; rintro e w1 ⟨rfl, hg1⟩)
  have hgb := World.grownBy_alloc w1 (.cells #[.slice none 0 0, .slice none 0 0, .slice none 0 0, .int .i64 0] 51) none
  have hB : RefAt (w1.alloc (.cells #[.slice none 0 0, .slice none 0 0, .slice none 0 0, .int .i64 0] 51)) w1.heap.size w1.heap.size (.slice none 0 0) (.slice none 0 0) (.slice none 0 0) [] [] [] [] 0 :=
    ⟨heap_alloc_new w1 _, World.ownsRow_nil _ _ _ _, World.ownsRow_nil _ _ _ _, fun i hi => absurd hi (Nat.not_lt_zero _), World.ownsRow_nil _ _ _ _, Nat.le_refl _⟩
  have hG := gb_trans (gb_trans HB0.out hg1 (Or.inl rfl)) hgb (Or.inl rfl)
  have hMa := (HM.out.kept hg1).kept hgb
  have k0 := hgb.cell (hg1.cell c0 (by simp)) (by simp)
  have k1 := hgb.cell (hg1.cell c1 (by simp)) (by simp)
  have k2 := hgb.cell (hg1.cell c2 (by simp)) (by simp)
  have hbq : w.heap.size < w1.heap.size := by have := World.block_lt_of_cell? w1 _ (hg1.cell c0 (by simp)); exact this
  clear c0 c1 c2 hgb hg1 HC HM
  have hsz2 : (w1.alloc (.cells #[.slice none 0 0, .slice none 0 0, .slice none 0 0, .int .i64 0] 51)).heap.size = w1.heap.size + 1 := World.size_alloc _ _
  have HSz := Lib.hid hsz2
  clear hsz2
  generalize w1.alloc (.cells #[.slice none 0 0, .slice none 0 0, .slice none 0 0, .int .i64 0] 51) = w2 at hB hG hMa k0 k1 k2 HSz ⊢
  generalize w1.heap.size = q at hB hbq HSz ⊢
  have HBx : Hid (∀ wx, w2.grownBy wx (some q) → wx.cell? ⟨w.heap.size, 0, none⟩ = some (.slice ap P.length cp) ∧ wx.cell? ⟨w.heap.size, 1, none⟩ = some (.slice an R.length cn) ∧ wx.cell? ⟨w.heap.size, 2, none⟩ = some (.slice ao O.length co)) := Lib.hid fun wx h => ⟨h.cell k0 (by simp; omega), h.cell k1 (by simp; omega), h.cell k2 (by simp; omega)⟩
  have HMa := Lib.hid hMa
  have HGq : Hid (∀ wx, w2.grownBy wx (some q) → w.grownBy wx none) := Lib.hid fun wx h => gb_trans hG h (Or.inr (Or.inr ⟨q, rfl, Nat.le_of_lt hbq⟩))
  have HM2 : Hid (∀ wx, w2.grownBy wx (some q) → q < w2.heap.size → MachAt w2 (.slice ap P.length cp) (.slice an R.length cn) (.slice ao O.length co) P R O) := Lib.hid fun _ _ _ => HMa.out
  have HB := Lib.hid hB
  have hc0 := hB.cell0
  have hc1 := hB.cell1
  have hc2 := hB.cell2
  have hf0 := hB.frozen 0
  clear hMa hB
  go_cut [4] (fun s4 wx => s4 = .pointer (some ⟨q, 0, none⟩) ∧ ∃ vp', Hid (RefAt wx q q vp' (.slice none 0 0) (.slice none 0 0) [] P [] [] 0) ∧ Hid (w2.grownBy wx (some q)))
  case first =>
    cases ap with
    | none =>
      obtain ⟨_, _, hve, _, _, _, hcc⟩ := HMa.out.props
      cases hve
      rcases hcc with rfl | ⟨_, _, e, _⟩
      · go_region
        all_goals
          have hR9 := (HB.out.kept (gb_drew w2 none)).set0 (P' := []) (vp' := .slice none 0 0) (World.ownsRow_nil _ _ _ _)
          have hG9 := gb_trans (gb_drew w2 (some q)) (gb_set (w := w2.drew) (a := ⟨q, 0, none⟩) (v := .slice none 0 0)) (Or.inr (Or.inl rfl))
          go_wp2_with fail
          go_meet
          exact ⟨rfl, _, Lib.hid hR9, Lib.hid hG9⟩
      · cases e
    | some ad =>
      have HN : Hid (∀ j u, (P.map sv)[j]? = some u → w2.cell? (ad.add j) = some u) := Lib.hid fun j u hu => by
        obtain ⟨_, _, hve, _, _, _, hcc⟩ := HMa.out.props
        cases hve
        have hj : j < P.length := by simpa using (List.getElem?_eq_some_iff.1 hu).1
        rcases hcc with rfl | ⟨b, off, e, hcc⟩
        · simp at hj
        · cases e
          rw [Addr.add_lit, hcc j hj]
          rw [map_at sv P ⟨#[]⟩ j hj] at hu
          rw [← hu]
          rfl
      go_region_law (refine step_append_own (by rfl) (.tmp 17) (.tmp 19) 23 (by rfl) q 9 is (.string ⟨#[]⟩) 1 16 Try.underlying23 his hs0 hs1 hs2 rfl (by decide) (.slice none 0 0) 0 [] (by rfl) (World.ownsRow_nil _ _ _ _) ad P.length cp (P.map sv) (by rfl) (by simp) HN.out (sv_one P) (by unfold maxLen; omega) (by omega) (by exact Nat.le_of_lt HB.out.lt) ?_; intro v3 w3 hown3 hg3; have hB3 := (HB.out.kept (gb_drew w2 none)).kept hg3; have hc3 := hB3.cell0; have hf3 := hB3.frozen 0; obtain ⟨a3, c3, hv3⟩ := own_val hown3; rw [Nat.zero_add] at hv3; subst hv3)
      all_goals
        have hR9 := hB3.set0 (P' := P) (vp' := .slice a3 P.length c3) (by rw [List.nil_append, Nat.zero_add] at hown3; exact hown3)
        have hG9 := gb_trans (gb_trans (gb_drew w2 (some q)) hg3 (Or.inl rfl)) (gb_set (w := w3) (a := ⟨q, 0, none⟩) (v := .slice a3 P.length c3)) (Or.inr (Or.inl rfl))
        go_wp2_with fail
        go_meet
        exact ⟨rfl, _, Lib.hid hR9, Lib.hid hG9⟩
  case rest =>
    obtain ⟨rfl, vp', HR0, HG0⟩ := hcut
    obtain ⟨b0, b1, b2⟩ := HBx.out _ HG0.out
    clear hc0 hc1 hc2 hf0 k0 k1 k2 HB b0 b2
    go_wp2_with fail
    go_loopw [5] (fun i wr => ∃ (k : Nat) (vn : Value) (vs : List Value), k ≤ R.length ∧ i = .int .i64 (k : Int) ∧ vs.length = k ∧ Hid (RefAt wr q q vp' vn (.slice none 0 0) vs P (R.take k) [] 0) ∧ Hid (w2.grownBy wr (some q))) (fun i _ => R.length - (intOf i).toNat)
    case atStart => exact ⟨0, _, _, by omega, rfl, rfl, HR0, HG0⟩
    case round =>
      obtain ⟨k, vn, vs, hk, rfl, hvl, HRk, HGk⟩ := hrel
      obtain ⟨c0, c1, c2⟩ := HBx.out _ HGk.out
      by_cases hlt : k < R.length
      · obtain ⟨_, _, hve, _, _, hn3⟩ := (HMw.out.next)
        cases hve
        rcases hn3 with rfl | ⟨bn, offn, rfl, hn3⟩
        · exact absurd hlt (by simp)
        obtain ⟨u, hu0, au, cu, rfl, hcu, _, hul, hcell⟩ := hn3 k hlt
        have hrl := HRr.out k hlt
        have HPk := HPos.out k hlt
        have hTk : R.take (k + 1) = R.take k ++ [R.getD k []] := by
          rw [List.take_add_one, List.getElem?_eq_getElem hlt, List.getD_eq_getElem?_getD, List.getElem?_eq_getElem hlt]; rfl
        have HTk := Lib.hid hTk
        clear hTk hn3
        have hlenk : (R.take k).length = k := by rw [List.length_take]; omega
        have HLk := Lib.hid hlenk
        clear hlenk
        have hGw := HGq.out _ HGk.out
        have hu := hGw.cell hu0 (by simp)
        have HGw := Lib.hid hGw
        generalize R.getD k [] = A at hu hcu hul hcell hrl HPk HTk hu0
        rcases hcell with rfl | ⟨bl, offl, rfl, hcell⟩
        · exact absurd HPk (by simp)
        have HN : Hid (∀ wx, w.grownBy wx none → ∀ j x, (A.map iv)[j]? = some x → wx.cell? ((⟨bl, offl, none⟩ : Addr).add j) = some x) := Lib.hid fun wx hg j x hx => by
          have hj : j < A.length := by simpa using (List.getElem?_eq_some_iff.1 hx).1
          rw [Addr.add_lit, hg.cell (hcell j hj) (by simp)]
          rw [map_at iv A 0 j hj] at hx
          rw [← hx]
          rfl
        have hc1 := HRk.out.cell1
        have hkI : (k : Int) < (R.length : Int) := by omega
        generalize hmA : A.length = m at hu hcu hul hrl HPk
        have HmA := Lib.hid hmA
        have hvn : wr.ownsRow q 107 1 vn k vs := by have := HRk.out.next; rw [HLk.out] at this; exact this
        have HVn := Lib.hid hvn
        obtain ⟨avn, cvn, rfl⟩ := own_val hvn
        clear hvn hcell hmA hu0 hGw
        go_wp2_with fail
        go_region_law (first
          | (refine step_append_own (by rfl) (.tmp 37) (.tmp 42) 107 (by rfl) q 3 ii (.int .i64 0) 1 8 Try.underlying107 hii hi0 hi1 hi2 rfl (by decide) (.slice none 0 0) 0 [] (by rfl) (World.ownsRow_nil _ _ _ _) ⟨bl, offl, none⟩ m cu (A.map iv) (by rfl) (by rw [List.length_map, HmA.out]; omega) (HN.out _ (gb_trans HGw.out (gb_drew wr none) (Or.inl rfl))) (iv_one A) (by unfold maxLen; omega) (by omega) (by exact Nat.le_of_lt HRk.out.lt) ?_; intro v3 w3 hown3 hg3; rw [Nat.zero_add, List.nil_append] at hown3; have hg03 := gb_trans (gb_drew wr none) hg3 (Or.inl rfl); have hB3 := HRk.out.kept hg03; have hc3 := hB3.cell1; have hV3 := HVn.out.kept hg03 (Classical.em _); obtain ⟨a3, c3, rfl⟩ := own_val hown3; have hca3 := (hB3.kept (World.grownBy_alloc w3 (.cells #[.slice a3 m c3] 107) none)).cell1)
          | (refine step_append_lies _ (by rfl) (.tmp 36) (.tmp 44) 24 (by rfl) q 107 ir (.slice none 0 0) 1 24 Try.underlying24 hir hr0 hr1 hr2 rfl (by decide) (.slice avn k cvn) k vs (by rfl) (hV3.alloc _) ⟨w3.heap.size, 0, none⟩ 1 1 [.slice a3 m c3] (by rfl) (by rfl) (cell_one_new _ _ _) (by simp [Value.oneCell']) (by decide) (by unfold maxLen; omega) (by omega) (by rw [World.size_alloc]; exact Nat.le_succ_of_le (Nat.le_of_lt hB3.lt)) _ rfl ?_; intro g5 cap5 w5 hown5 hgr5 hat5 hlt5; have hcf := ref_mid hB3 hgr5; have hc5 := hcf.1; have hf5 := hcf.2))
        all_goals
          have hP := HRk.out.push (l := A) (g := g5) (cap := cap5) (by rw [HLk.out]; exact hvl) hg03 (by rw [HmA.out]; exact hown3) (by rw [HLk.out]; exact hown5) hgr5
          rw [HLk.out, ← HTk.out] at hP
          have hfr : w2.grownBy (w5.setCell ⟨q, 1, none⟩ (.slice (some ⟨g5, 0, none⟩) (k + 1) cap5)) (some q) := by
            refine gb_trans (gb_trans (gb_trans (gb_trans HGk.out hg03 (Or.inl rfl)) (World.grownBy_alloc w3 (.cells #[.slice a3 m c3] 107) none) (Or.inl rfl)) hgr5 ?_) gb_set (Or.inr (Or.inl rfl))
            rcases e : (Value.slice avn k cvn).ownBlock with _ | b
            · exact Or.inl rfl
            · refine Or.inr (Or.inr ⟨b, rfl, ?_⟩)
              have h1 := (HVn.out.lt b e).1
              have h2 : b ≠ q := fun e2 => by
                rcases own_off HVn.out HRk.out.blk (by decide) with e3 | e3
                · rw [e3] at e; cases e
                · exact e3 (by rw [e, e2])
              have h3 := HSz.out
              omega
          have HP := Lib.hid hP
          have HFr := Lib.hid hfr
          generalize w5.setCell ⟨q, 1, none⟩ (.slice (some ⟨g5, 0, none⟩) (k + 1) cap5) = w6 at HP HFr ⊢
          clear hP hfr hc5 hf5 hcf hca3 hc3 hB3 hV3 hown5 hgr5 hown3 hg3
          go_wp2_with fail
          exact ⟨⟨k + 1, _, _, by omega, by go_num, by simp [hvl], HP, HFr⟩, by simp [intOf]; omega⟩
      · obtain rfl : k = R.length := by omega
        rw [List.take_length] at HRk
        have hc1 := HRk.out.cell2
        have hc1b := hc1
        obtain ⟨_, _, hve, _, _, _, ho3⟩ := HMw.out.out
        cases hve
        rcases ho3 with rfl | ⟨bo, offo, rfl, ho3⟩
        · exact absurd HO0.out (by simp)
        have HN : Hid (∀ j x, (O.map ov)[j]? = some x → wr.drew.cell? ((⟨bo, offo, none⟩ : Addr).add j) = some x) := Lib.hid fun j x hx => by
          have hj : j < O.length := by simpa using (List.getElem?_eq_some_iff.1 hx).1
          rw [Addr.add_lit, (gb_trans (HGq.out _ HGk.out) (gb_drew wr none) (Or.inl rfl)).cell (ho3 j hj) (by simp)]
          rw [map_at ov O 0 j hj] at hx
          rw [← hx]
          rfl
        clear ho3
        go_wp2_with fail
        go_region_law (refine step_append_own (by rfl) (.tmp 54) (.tmp 56) 25 (by rfl) q 59 iv0 (.int .u8 0) 1 1 Try.underlying25 hiv hv0 hv1 hv2 rfl (by decide) (.slice none 0 0) 0 [] (by rfl) (World.ownsRow_nil _ _ _ _) ⟨bo, offo, none⟩ O.length co (O.map ov) (by rfl) (by simp) HN.out (ov_one O) (by unfold maxLen; omega) (by omega) (by exact Nat.le_of_lt HRk.out.lt) ?_; intro v3 w3 hown3 hg3; rw [Nat.zero_add, List.nil_append] at hown3; have hg03 := gb_trans (gb_drew wr none) hg3 (Or.inl rfl); have hB3 := HRk.out.kept hg03; have hc3 := hB3.cell2; have hf3 := hB3.frozen 2; obtain ⟨a3, c3, rfl⟩ := own_val hown3)
        all_goals
          have hR := (hB3.set2 (O' := O) hown3).base (Y' := w.heap.size) (Nat.le_of_lt hbq)
          have hfr := gb_trans (gb_trans HGk.out hg03 (Or.inl rfl)) (gb_set (w := w3) (a := ⟨q, 2, none⟩) (v := .slice a3 O.length c3)) (Or.inr (Or.inl rfl))
          have HEnd := Lib.hid hR
          have HFr := Lib.hid (HGq.out _ hfr)
          generalize w3.setCell ⟨q, 2, none⟩ (.slice a3 O.length c3) = w6 at HEnd HFr ⊢
          clear hR hfr hB3 hc3 hf3 hown3 hg3
          go_wp2_with fail
          go_ret2
          exact ⟨q, _, _, _, _, rfl, HEnd.out, HFr.out⟩
end Go.Proofs.Ytpehmlkikhkmfaa
