/- Runner: every Run, asked twice: the walk. -/
import Derived.Test.YtpehmlkikhkmfaaRunRow
import Derived.Test.YtpehmlkikhkmfaaRunDoes
namespace Go.Proofs.Ytpehmlkikhkmfaa
open Go.RowKit

theorem Try.info23 : (Try.prog.info? 23).map (fun i => (i.zero, i.size, i.bytes)) = some (some (.slice none 0 0), 1, 24) := by kernel_rfl
theorem sum_facts {n x m0 k l : Nat} (hb : n ≤ 100000) (hx : x ≤ 140739635834880) (hm : m0 + k ≤ n) (hk : k < l) : wrap64 ((n : Int) + 1) = (n : Int) + 1 ∧ wrap64 ((n : Int) + 1 + (x : Int)) = (n : Int) + 1 + (x : Int) ∧ n + 1 + x ≤ 1000000000000000 ∧ m0 + (k + 1) ≤ n + 1 + x ∧ l - (intOf (Value.int IntKind.i64 ((k : Int) + 1))).toNat < l - (intOf (Value.int IntKind.i64 (k : Int))).toNat :=
  ⟨IntWalk.wrap64_in _ ⟨by omega, by omega⟩, IntWalk.wrap64_in _ ⟨by omega, by omega⟩, by omega, by omega, by simp [intOf]; omega⟩

set_option maxRecDepth 100000 in
set_option maxHeartbeats 16000000 in
theorem runs_walk (vp vn vo ve : Value) (P : List ByteArray) (R : List (List Int)) (O : List Int) (E : List (List ByteArray)) (w : World) (hM : MooreIn w vp vn vo P R O) (hev : EventsAt w ve E) (hsh : ∀ k, k < E.length → Short (E.getD k [])) :
    Calls Try.prog 5 #[.agg #[vp, vn, vo], ve] w fun e w' => e = .returned (.bool true) ∧ Below w.heap.size w w' := by
  have hg := World.grownBy_alloc w (.cells #[vp, vn, vo] 27) none
  have c0 := cell3_0 w vp vn vo 27
  have c1 := cell3_1 w vp vn vo 27
  have c2 := cell3_2 w vp vn vo 27
  have hOM := ofmoore_any (hM.props.kept hg) hM.short (hM.next.kept hg) hM.slice (by have := hM.len; omega)
  have hm0 : capN (sizes P) + capN (lens R) + O.length ≤ 500000000000000 := by
    have h1 := short_le hM.short
    have h2 := rows_le hM.next
    have h3 := hM.len
    omega
  have HX : Hid (∀ m, m = capN (sizes P) + capN (lens R) + O.length → m ≤ 100000 → P.length ≤ 100000 ∧ (∀ i, i < R.length → (R.getD i []).length ≤ 100000) ∧ O.length ≤ 100000 ∧ R.length ≤ 100000) := Lib.hid fun m e h => by
    have h1 := capN_sum (l := sizes P) (by omega)
    have h2 := sumN_len (sizes P)
    rw [show (sizes P).length = P.length by unfold sizes; rw [List.length_map]] at h2
    have h3 := capN_sum (l := lens R) (by omega)
    have h4 := sumN_len (lens R)
    rw [show (lens R).length = R.length by unfold lens; rw [List.length_map]] at h4
    exact ⟨by omega, fun i hi => row_small (by omega) hi, by omega, by omega⟩
  have HXe : Hid (∀ j, j < E.length → capN (sizes (E.getD j [])) ≤ 100000 → (E.getD j []).length ≤ 100000) := Lib.hid fun j _ h => by
    have h1 := capN_sum (l := sizes (E.getD j [])) (by omega)
    have h2 := sumN_len (sizes (E.getD j []))
    rw [show (sizes (E.getD j [])).length = (E.getD j []).length by unfold sizes; rw [List.length_map]] at h2
    omega
  obtain ⟨m0, hm⟩ : ∃ m, Hid (m = capN (sizes P) + capN (lens R) + O.length) := ⟨_, rfl⟩
  rw [← hm.out] at hOM hm0
  have HX0 := Lib.hid (HX.out m0 hm.out)
  clear HX hm
  have HOM := Lib.hid hOM
  have HM := Lib.hid hM
  have HEv := Lib.hid hev
  have HSh := Lib.hid hsh
  obtain ⟨ae, ce, rfl, hce, hel, _⟩ := hev
  obtain ⟨an, cn, rfl, hcn, hnl, _⟩ := hM.next
  clear hM hOM hsh
  go_enter Try.func5, Try.ntmps5
  go_wp2_with fail
  generalize hw1 : w.alloc (.cells #[vp, .slice an R.length cn, vo] 27) = w1 at c0 c1 c2 hg HOM
  have hs1 : w1.heap.size = w.heap.size + 1 := by rw [← hw1, World.size_alloc]
  have HS1 := Lib.hid hs1
  clear hw1 hs1 hcn hnl
  go_wp2_with (go_at_call 10; refine HOM.out.mono ?_; rintro e w2 ⟨rfl, hg2⟩)
  have hG2 := gb_trans hg hg2 (Or.inl rfl)
  have d0 := hg2.cell c0 (by simp)
  have d1 := hg2.cell c1 (by simp)
  have d2 := hg2.cell c2 (by simp)
  have hY2 := hg2
  clear hg2 HOM
  go_loop [6, 5] (fun i c => ∃ (k n : Nat), k ≤ E.length ∧ i = .int .i64 (k : Int) ∧ c = .int .i64 (n : Int) ∧ n ≤ 1000000000000000 ∧ m0 + k ≤ n ∧ Hid (∀ j, j < k → capN (sizes (E.getD j [])) ≤ n)) (fun i _ => E.length - (intOf i).toNat)
  case atStart => exact ⟨0, m0, by omega, rfl, rfl, by omega, by omega, Lib.hid fun j hj => absurd hj (Nat.not_lt_zero _)⟩
  case round =>
    obtain ⟨k, n, hk, rfl, rfl, hn, hmn, HSz⟩ := hrel
    by_cases hlt : k < E.length
    · by_cases hb : n ≤ 100000
      · obtain ⟨_, _, hve, _, _, hn3⟩ := HEv.out.kept hG2
        cases hve
        rcases hn3 with rfl | ⟨be, offe, rfl, hn3⟩
        · exact absurd hlt (by simp)
        obtain ⟨u, hu, hTx⟩ := hn3 k hlt
        have HOT := Lib.hid (oftexts_any hTx (HSh.out k hlt))
        have hxl := short_le (HSh.out k hlt)
        have HSz2 : Hid (∀ j, j < k + 1 → capN (sizes (E.getD j [])) ≤ n + 1 + capN (sizes (E.getD k []))) := Lib.hid fun j hj => by
          by_cases e : j < k
          · exact Nat.le_trans (HSz.out j e) (Nat.le_trans (Nat.le_succ n) (Nat.le_add_right _ _))
          · obtain rfl : j = k := Nat.le_antisymm (Nat.le_of_lt_succ hj) (Nat.le_of_not_lt e)
            exact Nat.le_add_left _ _
        generalize capN (sizes (E.getD k [])) = x at HOT hxl HSz2
        have hkI : (k : Int) < (E.length : Int) := by omega
        have hbI : (n : Int) ≤ 100000 := by omega
        obtain ⟨e1, e2, e3, e4, e5⟩ := sum_facts hb hxl hmn hlt
        clear hn3 hTx
        go_wp2_with (go_at_call 19; refine HOT.out.mono ?_; rintro e w3 ⟨rfl, _, rfl⟩)
        go_round
        case rel => exact ⟨k + 1, n + 1 + x, hlt, by go_num, by go_num, e3, e4, HSz2⟩
        case measure => exact e5
      · have hkI : (k : Int) < (E.length : Int) := by omega
        have hbI : ¬ (n : Int) ≤ 100000 := by omega
        have hbJ : (100000 : Int) < (n : Int) := by omega
        go_wp2_with fail
        go_ret
        exact ⟨rfl, gb_below hG2⟩
    · obtain rfl : k = E.length := by omega
      by_cases hb : n ≤ 100000
      · have hbI : ¬ (100000 : Int) < (n : Int) := by omega
        have hbK : (n : Int) ≤ 100000 := by omega
        obtain ⟨hPl, hRl, hOl, hRn⟩ := HX0.out (by omega)
        have hEl : E.length ≤ 100000 := by omega
        have HEl : Hid (∀ j, j < E.length → (E.getD j []).length ≤ 100000) := Lib.hid fun j hj => HXe.out j hj (by have := HSz.out j hj; omega)
        clear hmn hm0 hn hlt hk HSh hb HX0 HXe HSz
        go_wp2_with (go_at_call 9; refine (known_any w2).mono ?_; rintro e w3 ⟨rfl, hg3⟩; have f0 := hg3.cell d0 (by simp); have f1 := hg3.cell d1 (by simp); have f2 := hg3.cell d2 (by simp); have hG3 := gb_trans hG2 hg3 (Or.inl rfl); have hY3 := gb_trans hY2 hg3 (Or.inl rfl); clear d0 d1 d2 hg3 hG2 hY2)
        have hMm := (HM.out.mach (by omega)).kept hg
        have HMm := Lib.hid hMm
        have HEv1 := Lib.hid (HEv.out.kept hg)
        have HLm := Lib.hid (lent_moore (hMm.kept hY3) (by omega) (by omega) (fun i hi => by have := hRl i hi; omega) (by omega))
        have hz3 : w1.heap.size ≤ w3.heap.size := hY3.size
        clear hMm hRl
        go_wp2_with (go_at_call 12; refine HLm.out.mono ?_; rintro e w4 ⟨up, un, uo, rfl, hL4, hg4⟩; obtain ⟨g0, g1, g2, g3, g4, g5⟩ := moore_box w4; have HL4 := Lib.hid hL4; obtain ⟨⟨ga, ca, rfl, _⟩, ⟨gb, cb, _, _, rfl, _⟩, ⟨gc, cc, rfl, _⟩⟩ := hL4)
        have hg5 := World.grownBy_alloc w4 (Obj.cells #[.slice (some ⟨ga, 0, none⟩) P.length ca, .slice (some ⟨gb, 0, none⟩) R.length cb, .slice (some ⟨gc, 0, none⟩) O.length cc] 27) none
        have hb5 := heap_alloc_new w4 (Obj.cells #[.slice (some ⟨ga, 0, none⟩) P.length ca, .slice (some ⟨gb, 0, none⟩) R.length cb, .slice (some ⟨gc, 0, none⟩) O.length cc] 27)
        generalize w4.alloc (Obj.cells #[.slice (some ⟨ga, 0, none⟩) P.length ca, .slice (some ⟨gb, 0, none⟩) R.length cb, .slice (some ⟨gc, 0, none⟩) O.length cc] 27) = w5 at hg5 hb5 ⊢
        have hl5 : w4.heap.size < w5.heap.size := (Array.getElem?_eq_some_iff.1 hb5).1
        have hY5 := gb_trans (gb_trans hY3 hg4 (Or.inl rfl)) hg5 (Or.inl rfl)
        have hL5 := HL4.out.kept hg5
        have HM5 := Lib.hid (hL5.at (HMm.out.kept hY5))
        obtain ⟨_, _, hvo, hOc, hOm, hOr⟩ := hL5.out
        cases hvo
        have hOb := own_blk hOr
        have hgcl := hOr.lt gc rfl
        have HGc : Hid (w1.heap.size ≤ gc ∧ gc < w5.heap.size) := Lib.hid ⟨Nat.le_trans hz3 hgcl.1, hgcl.2⟩
        have HOb := Lib.hid hOb
        have HOr := Lib.hid (own_pre (m := 2) hOr (by rw [List.length_map]))
        have HPR : Hid (∀ wx, w5.grownBy wx (some gc) → LentTexts wx w3.heap.size (.slice (some ⟨ga, 0, none⟩) P.length ca) P ∧ LentRows wx w3.heap.size (.slice (some ⟨gb, 0, none⟩) R.length cb) R) := Lib.hid fun wx h => by
          obtain ⟨c, hc⟩ := hOb
          exact ⟨hL5.props.offb hc (by decide) h, hL5.next.off hc (by decide) (by decide) h⟩
        have HL5 := Lib.hid hL5
        have HB : Hid (∀ wx, w5.grownBy wx (some gc) → wx.cell? ⟨w4.heap.size, 0, none⟩ = some (.slice (some ⟨ga, 0, none⟩) P.length ca) ∧ wx.cell? ⟨w4.heap.size, 1, none⟩ = some (.slice (some ⟨gb, 0, none⟩) R.length cb) ∧ wx.cell? ⟨w4.heap.size, 2, none⟩ = some (.slice (some ⟨gc, 0, none⟩) O.length cc)) := Lib.hid fun wx h => by
          obtain ⟨c, hc⟩ := hOb
          have e : wx.heap[w4.heap.size]? = _ := (h.block _ hl5 (fun e => blk_ne hb5 hc (by decide) (Option.some.inj e))).trans hb5
          exact ⟨by simp [World.cell?, e], by simp [World.cell?, e], by simp [World.cell?, e]⟩
        have HYb : Hid (∀ wx, w5.grownBy wx (some gc) → Below w1.heap.size w1 wx) := Lib.hid fun wx h => (gb_below hY5).grown h hY5.size (fun k e => by cases e; exact Nat.le_trans hz3 hgcl.1)
        have HC : Hid (∀ wx, Below w1.heap.size w1 wx → wx.cell? ⟨w.heap.size, 0, none⟩ = some vp ∧ wx.cell? ⟨w.heap.size, 1, none⟩ = some (.slice an R.length cn) ∧ wx.cell? ⟨w.heap.size, 2, none⟩ = some vo) := Lib.hid fun wx h => ⟨(h.cell (World.block_lt_of_cell? w1 _ c0)).trans c0, (h.cell (World.block_lt_of_cell? w1 _ c1)).trans c1, (h.cell (World.block_lt_of_cell? w1 _ c2)).trans c2⟩
        have HEnd : Hid (∀ wx, Below w1.heap.size w1 wx → Below w.heap.size w wx) := Lib.hid fun wx h => (gb_below hg).trans (h.mono (by have := HS1.out; omega))
        have HY5 := Lib.hid hY5
        have HBl : Hid (w1.heap.size ≤ w5.heap.size) := Lib.hid hY5.size
        clear f0 f1 f2 hG3 hY3 hY5 hg4 hg5 g0 g1 g2 g3 g4 g5 c0 c1 c2 hb5 HLm hL5 hOr hOb hgcl hOc hOm hl5 hz3 HL4 hg
        obtain ⟨i0, hi0, hz0, hz1, hz2⟩ := info_parts Try.info23
        go_loopw [10, 9] (fun i vx wr => ∃ (k : Nat) (vs : List Value), k ≤ E.length ∧ i = .int .i64 (k : Int) ∧ vs.length = k ∧ wr.ownsRow w5.heap.size 23 1 vx k vs ∧ Hid (∀ j, j < k → LentTexts wr w5.heap.size (vs.getD j default) (E.getD j [])) ∧ w5.grownBy wr none) (fun i _ _ => E.length - (intOf i).toNat)
        case atStart => exact ⟨0, [], by omega, rfl, rfl, World.ownsRow_nil _ _ _ _, Lib.hid (fun j hj => absurd hj (Nat.not_lt_zero _)), gb_refl _ _⟩
        case round =>
          obtain ⟨k, vs, hk, rfl, hvl, hown, HTs, hG⟩ := hrel
          have hYr : w5.heap.size ≤ wr.heap.size := hG.size
          obtain ⟨ax, cx, rfl⟩ := own_val hown
          by_cases hlt : k < E.length
          · obtain ⟨_, _, hve, _, _, hn3⟩ := HEv1.out.kept (gb_trans HY5.out hG (Or.inl rfl))
            cases hve
            rcases hn3 with rfl | ⟨be, offe, rfl, hn3⟩
            · exact absurd hlt (by simp)
            obtain ⟨u, hu, hTx⟩ := hn3 k hlt
            have HLI := Lib.hid (lent_texts hTx (Nat.le_trans (HEl.out k hlt) (by omega)))
            obtain ⟨au, cu, mu, rfl⟩ : ∃ au cu mu, u = .slice au mu cu := by obtain ⟨au, cu, e, _⟩ := hTx; exact ⟨au, cu, _, e⟩
            have hkI : (k : Int) < (E.length : Int) := by omega
            have HOwn := Lib.hid hown
            clear hn3 hTx hown
            go_wp2_with (first
              | (go_at_call 20; refine HLI.out.mono ?_; rintro e wa ⟨v2, rfl, hl2, hga⟩; have HL2 := Lib.hid hl2; obtain ⟨a2, n2, c2, rfl⟩ : ∃ a n c, v2 = .slice a n c := (by obtain ⟨g2, c2, e, _⟩ := hl2; exact ⟨_, _, _, e⟩); clear hl2)
              | (at_builtin; refine wpList_append_lies _ rfl (.tmp 60) (.tmp 66) 53 rfl w5.heap.size 23 i0 (.slice none 0 0) 1 24 Try.underlying53 hi0 hz0 hz1 hz2 rfl (by decide) (.slice ax k cx) k vs rfl ((HOwn.out.kept hga (Classical.em _)).alloc _) ⟨wa.heap.size, 0, none⟩ 1 1 [.slice a2 n2 c2] rfl rfl (cell_one_new _ _ _) (by simp [Value.oneCell']) (by decide) (by unfold maxLen; omega) (by omega) (by rw [World.size_alloc]; have := hga.size; omega) _ rfl ?_; intro g9 cap9 w9 hown9 hgr9 hat9 hlt9))
            have hgb := World.grownBy_alloc wa (.cells #[.slice a2 n2 c2] 23) none
            have hOa := (HOwn.out.kept hga (Classical.em _)).kept hgb (Classical.em _)
            refine ⟨⟨k + 1, vs ++ [.slice a2 n2 c2], by omega, by go_num, by simp [hvl], hown9, Lib.hid (fun j hj => ?_), gb_trans (gb_trans (gb_trans hG hga (Or.inl rfl)) hgb (Or.inl rfl)) hgr9 ?_⟩, by simp [intOf]; omega⟩
            · have step : ∀ {u : Value} {L : List ByteArray}, LentTexts wa w5.heap.size u L → LentTexts w9 w5.heap.size u L := fun {u L} hu => by
                obtain ⟨g, c, rfl, h1, h2, h3⟩ := hu
                exact ⟨g, c, rfl, h1, h2, (h3.kept hgb (Classical.em _)).kept hgr9 (own_apart hOa (h3.kept hgb (Classical.em _)) (by decide))⟩
              by_cases e : j < k
              · rw [List.getD_eq_getElem?_getD, List.getElem?_append_left (by omega), ← List.getD_eq_getElem?_getD]
                exact step ((HTs.out j e).kept hga (Classical.em _))
              · obtain rfl : j = k := by omega
                rw [List.getD_eq_getElem?_getD, List.getElem?_append_right (by omega), hvl, Nat.sub_self]
                refine step ?_
                obtain ⟨g, c, hv, h1, h2, h3⟩ := HL2.out
                exact ⟨g, c, hv, h1, h2, own_base h3 hYr⟩
            · rcases e : (Value.slice ax k cx).ownBlock with _ | b
              · exact Or.inl rfl
              · exact Or.inr (Or.inr ⟨b, rfl, (HOwn.out.lt b e).1⟩)
          · obtain rfl : k = E.length := by omega
            have HOwn := Lib.hid hown
            clear hown
            go_wp2_with (at_builtin; refine wpList_append_lies _ rfl (.tmp 68) (.tmp 70) 53 rfl w5.heap.size 23 i0 (.slice none 0 0) 1 24 Try.underlying53 hi0 hz0 hz1 hz2 rfl (by decide) (.slice ax E.length cx) E.length vs rfl ((HOwn.out.alloc _).alloc _) ⟨wr.heap.size + 1, 0, none⟩ 1 1 [.slice (some ⟨wr.heap.size, 0, none⟩) 1 1] rfl rfl (by rw [← World.size_alloc wr (.cells #[.string ⟨#[116, 104, 101, 32, 111, 119, 110, 101, 114, 39, 115]⟩] 9)]; exact cell_one_new _ _ _) (by simp [Value.oneCell']) (by decide) (by unfold maxLen; omega) (by omega) (by rw [World.size_alloc, World.size_alloc]; omega) _ rfl ?_; intro g9 cap9 w9 hown9 hgr9 hat9 hlt9)
            have hgs := gb_trans (World.grownBy_alloc wr (.cells #[.string ⟨#[116, 104, 101, 32, 111, 119, 110, 101, 114, 39, 115]⟩] 9) none) (World.grownBy_alloc _ (.cells #[.slice (some ⟨wr.heap.size, 0, none⟩) 1 1] 23) none) (Or.inl rfl)
            have hOs := HOwn.out.kept hgs (Classical.em _)
            have htb := (World.ownsRow_lit (base := w5.heap.size) (e := 9) (size := 1) wr #[.string ⟨#[116, 104, 101, 32, 111, 119, 110, 101, 114, 39, 115]⟩] 1 hYr (by unfold maxLen; omega) rfl).alloc (.cells #[.slice (some ⟨wr.heap.size, 0, none⟩) 1 1] 23)
            have ht9 := htb.kept hgr9 (own_apart hOs htb (by decide))
            have hc9 : E.length + 1 ≤ cap9 := by
              rcases hown9.2 with ⟨h0, _⟩ | ⟨g', cap', cur, hv, _, _, hnc, _⟩
              · cases h0
              · cases hv
                exact hnc
            have hT9 : ∀ j, j < E.length → LentTexts w9 w5.heap.size (vs.getD j default) (E.getD j []) := fun j hj => by
              obtain ⟨g, c, e, h1, h2, h3⟩ := HTs.out j hj
              rw [e]
              exact ⟨g, c, rfl, h1, h2, (h3.kept hgs (Classical.em _)).kept hgr9 (own_apart hOs (h3.kept hgs (Classical.em _)) (by decide))⟩
            have hG9 : w5.grownBy w9 none := gb_trans (gb_trans hG hgs (Or.inl rfl)) hgr9 (by
              rcases e : (Value.slice ax E.length cx).ownBlock with _ | b
              · exact Or.inl rfl
              · exact Or.inr (Or.inr ⟨b, rfl, (HOwn.out.lt b e).1⟩))
            have hE1 := HEv1.out.kept (gb_trans HY5.out hG9 (Or.inl rfl))
            have hwf : ∀ j, j < E.length → (E.getD j []).length ≤ 17592186043904 ∧ ∀ k, k < (E.getD j []).length → ((E.getD j []).getD k ⟨#[]⟩).size ≤ maxLen := fun j hj => by
              obtain ⟨_, _, _, _, _, hn3⟩ := hE1
              rcases hn3 with rfl | ⟨b, off, _, hn3⟩
              · exact absurd hj (Nat.not_lt_zero _)
              · obtain ⟨u, _, hTx⟩ := hn3 j hj
                exact texts_wf hTx
            have hRS : RowS w9 w5.heap.size g9 cap9 vs (.slice (some ⟨wr.heap.size, 0, none⟩) 1 1) := ⟨by rw [hvl]; exact hown9, fun i hi => (hT9 i (by omega)).troom (hwf i (by omega)).1 (hwf i (by omega)).2, by omega⟩
            have hEv9 : EventsAt w9 (.slice (some ⟨g9, 0, none⟩) E.length cap9) E := ⟨_, _, rfl, by omega, hel, Or.inr ⟨g9, 0, rfl, fun k hk => ⟨vs.getD k default, by rw [Nat.zero_add]; exact hRS.cell (by omega), (hT9 k hk).at (hwf k hk).1 (hwf k hk).2⟩⟩⟩
            have htc : w9.cell? ⟨wr.heap.size, 0, none⟩ = some (.string ⟨#[116, 104, 101, 32, 111, 119, 110, 101, 114, 39, 115]⟩) := by rw [ht9.cellAt 0 (by omega)]; rfl
            have hM9 := HM5.out.kept hG9
            generalize wr.heap.size = tb at hRS htc
            have HRS := Lib.hid hRS
            have HEv9 := Lib.hid hEv9
            have HT9 := Lib.hid hT9
            have HM9 := Lib.hid hM9
            have HG9 := Lib.hid hG9
            have HTc := Lib.hid htc
            obtain ⟨b0, b1, b2⟩ := HB.out _ (gb_any hG9 _)
            have hO2 : O.length ≤ 200000 := by omega
            have hE2 : E.length ≤ 1000000 := by omega
            have HR1 := Lib.hid (run_any _ _ _ (.slice (some ⟨g9, 0, none⟩) E.length cap9) P R O E w9.drew (hM9.kept (gb_drew _ none)) hO2 (hEv9.kept (gb_drew _ none)) hE2)
            have hcI : (E.length : Int) ≤ (cap9 : Int) := by omega
            clear hgs hOs htb ht9 hT9 hG9 hE1 hwf hRS hEv9 htc hM9 hown9 hgr9 hat9 hlt9 HOwn HTs hG hYr
            go_region_with (go_at_call 21; refine HR1.out.mono ?_; rintro e wa ⟨va, rfl, ha, hga⟩)
            go_wp2_with fail
            have hg9a := gb_trans (gb_drew w9 none) hga (Or.inl rfl)
            have hza : w5.heap.size ≤ w9.drew.heap.size := HG9.out.size
            have HGa := Lib.hid (gb_trans HG9.out hg9a (Or.inl rfl))
            have HA := Lib.hid (own_base ha hza)
            obtain ⟨aa, ca', rfl⟩ := own_val ha
            have HR2 := Lib.hid (run_any _ _ _ (.slice (some ⟨g9, 0, none⟩) E.length cap9) P R O E wa.drew ((HM9.out.kept hg9a).kept (gb_drew _ none)) hO2 ((HEv9.out.kept hg9a).kept (gb_drew _ none)) hE2)
            obtain ⟨b0, b1, b2⟩ := HB.out _ (gb_any HGa.out _)
            have hzA : w9.drew.heap.size ≤ wa.heap.size := hga.size
            have HAlt : Hid (∀ b, (Value.slice aa (ranL P R O E).length ca').ownBlock = some b → b < wa.heap.size) := Lib.hid fun b hb => (ha.lt b hb).2
            have HRSa := Lib.hid (HRS.out.kept hg9a)
            have HTca := Lib.hid (hg9a.cell HTc.out (by simp))
            have HTxa := Lib.hid (fun j hj => (HT9.out j hj).kept hg9a (Classical.em _))
            clear ha hga HRS HTc HT9 HR1 hg9a
            go_region_with (go_at_call 21; refine HR2.out.mono ?_; rintro e wb ⟨vb, rfl, hb, hgb⟩)
            have hgab := gb_trans (gb_drew wa none) hgb (Or.inl rfl)
            have hzb : w5.heap.size ≤ wa.heap.size := HGa.out.size
            have HGb := Lib.hid (gb_trans HGa.out hgab (Or.inl rfl))
            have HA2 := Lib.hid (HA.out.kept hgab (Classical.em _))
            have HB2 := Lib.hid (own_base hb hzb)
            have HBge : Hid (∀ b, vb.ownBlock = some b → wa.heap.size ≤ b) := Lib.hid fun b h => (hb.lt b h).1
            obtain ⟨ab, cb', rfl⟩ := own_val hb
            obtain ⟨b0, b1, b2⟩ := HB.out _ (gb_any HGb.out _)
            have HRSb := Lib.hid (HRSa.out.kept hgab)
            have HTcb := Lib.hid (hgab.cell HTca.out (by simp))
            have HTxb := Lib.hid (fun j hj => (HTxa.out j hj).kept hgab (Classical.em _))
            have hYb := HYb.out _ (gb_any HGb.out _)
            obtain ⟨m0, m1, m2⟩ := HC.out _ hYb
            have HWh := Lib.hid (whole_moore (HL5.out.kept HGb.out) (HMm.out.below hYb))
            have hrl := HRSb.out.last
            rw [hvl] at hrl
            have HRl := Lib.hid hrl
            clear hb hgb HRSa HTca HTxa HR2 hgab hrl HA hYb
            go_wp2_with (go_at_call 14; refine HWh.out.mono ?_; rintro e wc ⟨rfl, hgc⟩; have r1 := hgc.cell HRl.out (by simp); have r2 := hgc.cell HTcb.out (by simp))
            have HGc2 := Lib.hid (gb_trans HGb.out hgc (Or.inl rfl))
            have HA3 := Lib.hid (HA2.out.kept hgc (Classical.em _))
            have HB3 := Lib.hid (HB2.out.kept hgc (Classical.em _))
            have HRSc := Lib.hid (HRSb.out.kept hgc)
            have HTxc := Lib.hid (fun j hj => (HTxb.out j hj).kept hgc (Classical.em _))
            clear hgc r1 r2 HRl HTcb HRSb HTxb HWh HGb HA2 HB2 m0 m1 m2 b0 b1 b2 hce hel hPl hRn hbK hza hzA hzb hOl hE2 hcI
            go_loopw [16, 15] (fun i bv wx => ∃ (k : Nat), k ≤ E.length ∧ i = .int .i64 (k : Int) ∧ bv = .bool true ∧ wc.grownBy wx none) (fun i _ _ => E.length - (intOf i).toNat)
            case atStart => exact ⟨0, by omega, rfl, rfl, gb_refl _ _⟩
            case round =>
              obtain ⟨k, hk, rfl, rfl, hG⟩ := hrel
              by_cases hlt : k < E.length
              · obtain ⟨_, _, hve, _, _, hn3⟩ := HEv1.out.kept (gb_trans (gb_trans HY5.out HGc2.out (Or.inl rfl)) hG (Or.inl rfl))
                cases hve
                rcases hn3 with rfl | ⟨be, offe, rfl, hn3⟩
                · exact absurd hlt (by simp)
                obtain ⟨u, hu, hTx⟩ := hn3 k hlt
                have hLT := (HTxc.out k hlt).kept hG (Classical.em _)
                have hrc := (HRSc.out.kept hG).cell (i := k) (by omega)
                obtain ⟨au, cu, mu, rfl⟩ : ∃ au cu mu, u = .slice au mu cu := by obtain ⟨au, cu, e, _⟩ := hTx; exact ⟨au, cu, _, e⟩
                have HWt : Hid (∀ wx, wr.grownBy wx none → Calls Try.prog 22 #[vs.getD k default, .slice au mu cu] wx fun e w' => e = .returned (.bool true) ∧ wr.grownBy w' none) := Lib.hid fun wx h => (whole_texts (hLT.kept h (Classical.em _)) (hTx.kept h)).mono fun e w' ⟨he, hg⟩ => ⟨he, gb_trans h hg (Or.inl rfl)⟩
                obtain ⟨gt, ct, hgt, _⟩ := hLT
                rw [hgt] at hrc HWt
                have HSS : Hid (∀ wx, wr.grownBy wx none → wr.grownBy wx none ∧ wx.cell? ⟨g9, k, none⟩ = some (.slice (some ⟨gt, 0, none⟩) (E.getD k []).length ct) ∧ wx.cell? ⟨be, offe + k, none⟩ = some (.slice au mu cu)) := Lib.hid fun wx h => ⟨h, h.cell hrc (by simp), h.cell hu (by simp)⟩
                have hkI : (k : Int) < (E.length : Int) := by omega
                have hkJ : (k : Int) < (E.length : Int) + 1 := by omega
                generalize (E.getD k []).length = lk at hrc HWt HSS
                clear hn3 hTx hgt
                go_wp2_with fail
                have hS0 := HSS.out _ (gb_drew wr none)
                go_region_held3 (fun wx => wr.grownBy wx none ∧ wx.cell? ⟨g9, k, none⟩ = some (.slice (some ⟨gt, 0, none⟩) lk ct) ∧ wx.cell? ⟨be, offe + k, none⟩ = some (.slice au mu cu)) (assumption)
                  ((go_at_call 22; refine (HWt.out _ (by exact And.left (by assumption))).mono ?_; rintro e wn ⟨rfl, hgn⟩; have hSn := HSS.out _ hgn))
                all_goals
                  go_wp2_with fail
                all_goals
                  exact ⟨⟨k + 1, by omega, by go_num, rfl, gb_trans hG hgn (Or.inl rfl)⟩, by simp [intOf]; omega⟩
              · obtain rfl : k = E.length := by omega
                have hkI : ¬ ((E.length : Int) < (E.length : Int)) := by omega
                go_wp2_with fail
                have HGd := Lib.hid (gb_trans HGc2.out hG (Or.inl rfl))
                have HAd := Lib.hid (HA3.out.kept hG (Classical.em _))
                have HBd := Lib.hid (HB3.out.kept hG (Classical.em _))
                have HRSd := Lib.hid (HRSc.out.kept hG)
                have HOd := Lib.hid (HOr.out.kept HGd.out (Classical.em _))
                have HByte := Lib.hid (bytes_wf HMm.out.out).2
                clear hG HTxc HRSc HA3 HB3 hlt hk hkI HOr
                generalize wr = wd at HGd HAd HBd HRSd HOd ⊢
                go_loopw [17] (fun i wx => ∃ (k : Nat) (O' : List Int), k ≤ O.length ∧ i = .int .i64 (k : Int) ∧ Hid (O'.length = O.length) ∧ Hid (∀ j, j < O'.length → 0 ≤ O'.getD j 0 ∧ O'.getD j 0 ≤ 255) ∧ Hid (wx.ownsRow w3.heap.size 59 1 (.slice (some ⟨gc, 0, none⟩) O.length cc) O.length (O'.map ov)) ∧ Hid (wd.grownBy wx (some gc))) (fun i _ => O.length - (intOf i).toNat)
                case atStart => exact ⟨0, O, by omega, rfl, Lib.hid rfl, HByte, HOd, Lib.hid (gb_refl _ _)⟩
                case round =>
                  obtain ⟨k, O', hk, rfl, HOl, HOb', HOw, HG⟩ := hrel
                  obtain ⟨b0, b1, b2⟩ := HB.out _ (gb_trans (gb_any HGd.out (some gc)) HG.out (Or.inr (Or.inl rfl)))
                  by_cases hlt : k < O.length
                  · obtain ⟨j, hj⟩ : ∃ j, k + 1 + j = O.length := ⟨O.length - k - 1, by omega⟩
                    have hjI : (O.length : Int) - 1 - (k : Int) = (j : Int) := by omega
                    have hjL : (j : Int) < (O.length : Int) := by omega
                    have hkI : (k : Int) < (O.length : Int) := by omega
                    have ck : wr.cell? ⟨gc, k, none⟩ = some (.int .u8 (O'.getD k 0)) := by rw [HOw.out.cellAt k (by omega), ov_at (by rw [HOl.out]; exact hlt)]
                    have cj : wr.cell? ⟨gc, j, none⟩ = some (.int .u8 (O'.getD j 0)) := by rw [HOw.out.cellAt j (by omega), ov_at (by rw [HOl.out]; omega)]
                    have hf := HOw.out.frozenAt k
                    have hst := HOw.out.stored k (.int .u8 (O'.getD j 0))
                    rw [show (.int .u8 (O'.getD j 0) : Value) = ov (O'.getD j 0) from rfl, ← List.map_set] at hst
                    have HB' : Hid (∀ i, i < (O'.set k (O'.getD j 0)).length → 0 ≤ (O'.set k (O'.getD j 0)).getD i 0 ∧ (O'.set k (O'.getD j 0)).getD i 0 ≤ 255) := Lib.hid fun i hi => by
                      rw [List.length_set] at hi
                      rw [getD_set (by rw [HOl.out]; exact hlt)]
                      split
                      · exact HOb'.out j (by rw [HOl.out]; omega)
                      · exact HOb'.out i hi
                    have HL' : Hid ((O'.set k (O'.getD j 0)).length = O.length) := Lib.hid (by rw [List.length_set]; exact HOl.out)
                    have HSt : Hid (_ ∧ _) := Lib.hid hst
                    unfold ov at HSt
                    generalize O'.set k (O'.getD j 0) = O2 at HB' HL' HSt
                    generalize O'.getD j 0 = y at cj HSt
                    generalize O'.getD k 0 = y0 at ck
                    clear hst
                    go_wp2_with fail
                    go_region
                    all_goals
                      go_wp2_with fail
                    all_goals
                      exact ⟨⟨k + 1, O2, by omega, by go_num, HL', HB', Lib.hid (HSt.out.1.kept (gb_drew _ none) (Classical.em _)), Lib.hid (gb_trans HG.out (gb_trans HSt.out.2 (gb_drew _ none) (Or.inl rfl)) (Or.inr (Or.inl rfl)))⟩, by simp [intOf]; omega⟩
                  · obtain rfl : k = O.length := by omega
                    have hkI : ¬ ((O.length : Int) < (O.length : Int)) := by omega
                    go_wp2_with fail
                    have HGe := Lib.hid (gb_trans (gb_any HGd.out (some gc)) HG.out (Or.inr (Or.inl rfl)))
                    have HAe := Lib.hid (own_far HAd.out HG.out HGc.out.2)
                    have HBe := Lib.hid (own_far HBd.out HG.out HGc.out.2)
                    have HRSe : Hid (RowS wr w5.heap.size g9 cap9 vs (.slice (some ⟨tb, 0, none⟩) 1 1)) := Lib.hid (by
                      obtain ⟨c, hc⟩ := own_blk HOd.out
                      exact HRSd.out.off hc (by decide) (by decide) HG.out)
                    clear hk hlt hkI HG HAd HBd HRSd HOd HGd b0 b1 b2
                    generalize wr = we at HGe HAe HBe HRSe HOw ⊢
                    go_loopw [18] (fun i wx => ∃ (k : Nat), k ≤ E.length ∧ i = .int .i64 (k : Int) ∧ Hid (Only 9 w5.heap.size we wx) ∧ Hid (RowS wx w5.heap.size g9 cap9 vs (.slice (some ⟨tb, 0, none⟩) 1 1))) (fun i _ => E.length - (intOf i).toNat)
                    case atStart => exact ⟨0, by omega, rfl, Lib.hid (Only.refl _ _ _), HRSe⟩
                    case round =>
                      obtain ⟨k, hk, rfl, HOn, HRS⟩ := hrel
                      by_cases hlt : k < E.length
                      · have hrc := HRS.out.cell (i := k) (by omega)
                        obtain ⟨gt, nt, ct, cur, hv, hbk, hsk, hnk, hck, _, hZk, _⟩ := HRS.out.each k (by omega)
                        rw [hv] at hrc
                        have HSp := Lib.hid (spoil_texts2 hbk hsk hnk hck)
                        have HBk := Lib.hid (And.intro hbk (And.intro hsk hZk))
                        have hkI : (k : Int) < (E.length : Int) := by omega
                        have hkJ : (k : Int) < (E.length : Int) + 1 := by omega
                        clear hbk hsk hnk hck hZk hv
                        go_wp2_with (go_at_call 23; refine HSp.out.mono ?_; rintro e wn ⟨rfl, hgn, cur', hb', hs', hx'⟩; have HN := Lib.hid (And.intro hgn (HRS.out.spoilt hgn ⟨cur, HBk.out.1, HBk.out.2.1⟩ hb' hs' hx')); clear hgn hb' hs' hx')
                        exact ⟨⟨k + 1, by omega, by go_num, Lib.hid (HOn.out.grown HN.out.1 (Nat.le_trans HGe.out.size HOn.out.bel.size) (fun b e => by cases e; exact ⟨HBk.out.2.2, Or.inr ⟨_, _, HBk.out.1⟩⟩)), Lib.hid HN.out.2⟩, by simp [intOf]; omega⟩
                      · obtain rfl : k = E.length := by omega
                        have hkI : ¬ ((E.length : Int) < (E.length : Int)) := by omega
                        go_wp2_with fail
                        have HGf := Lib.hid (gb_over HGe.out HOn.out.bel)
                        have HAf := Lib.hid (own_only HAe.out HOn.out (by decide))
                        have HBf := Lib.hid (own_only HBe.out HOn.out (by decide))
                        have hYf := HYb.out _ HGf.out
                        have hMo := HMm.out.below hYf
                        have hEo := HEv1.out.below hYf
                        have hPR := HPR.out _ HGf.out
                        have hOf := own_only HOw.out HOn.out (by decide)
                        have hOl := HOl.out
                        rw [← hOl] at hOf
                        have hMf : MachAt wr (.slice (some ⟨ga, 0, none⟩) P.length ca) (.slice (some ⟨gb, 0, none⟩) R.length cb) (.slice (some ⟨gc, 0, none⟩) O.length cc) P R O' := ⟨hPR.1.at (texts_wf hMo.props).1 (texts_wf hMo.props).2, hPR.2.at (rows_wf hMo.next).1 (rows_wf hMo.next).2, by rw [← hOl]; exact bytes_own hOf (by omega) HOb'.out⟩
                        obtain ⟨E', hEl', hE'⟩ := HRS.out.events (by omega)
                        rw [hvl] at hEl' hE'
                        have hO3 : O'.length ≤ 200000 := by omega
                        have hE3 : E'.length ≤ 1000000 := by omega
                        have hL1 : (ranL P R O E).length ≤ 1000000 := Nat.le_trans (ranL_len _ _ _ _) (by omega)
                        have hL2 : (ranL P R O' E').length ≤ 1000000 := Nat.le_trans (ranL_len _ _ _ _) hE3
                        have HV1 := Lib.hid (ranL_byte (P := P) (R := R) (E := E) (bytes_wf hMo.out).2)
                        have HV2 := Lib.hid (ranL_byte (P := P) (R := R) (E := E') HOb'.out)
                        have HR1 : Hid (∀ wx, wr.grownBy wx none → Calls Try.prog 21 #[.agg #[.slice (some ⟨ga, 0, none⟩) P.length ca, .slice (some ⟨gb, 0, none⟩) R.length cb, .slice (some ⟨gc, 0, none⟩) O.length cc], .slice (some ⟨g9, 0, none⟩) E.length cap9] wx fun e w' => ∃ v, e = .returned (.tuple #[v, .int .i64 (ranE P R O' : Int)]) ∧ w'.ownsRow wx.heap.size 59 1 v (ranL P R O' E').length ((ranL P R O' E').map ov) ∧ wx.grownBy w' none) := Lib.hid fun wx h => run_any _ _ _ _ P R O' E' wx (hMf.kept h) hO3 (hE'.kept h) hE3
                        have HR2 : Hid (∀ wx, wr.grownBy wx none → Calls Try.prog 24 #[.agg #[.slice (some ⟨ga, 0, none⟩) P.length ca, .slice (some ⟨gb, 0, none⟩) R.length cb, .slice (some ⟨gc, 0, none⟩) O.length cc], .slice (some ⟨g9, 0, none⟩) E.length cap9] wx fun e w' => ∃ v, e = .returned (.tuple #[v, .int .i64 (ranE P R O' : Int)]) ∧ w'.ownsRow wx.heap.size 59 1 v (ranL P R O' E').length ((ranL P R O' E').map ov) ∧ wx.grownBy w' none) := Lib.hid fun wx h => refrun_any _ _ _ _ P R O' E' wx (hMf.kept h) hO3 (hE'.kept h) hE3
                        have HR3 : Hid (∀ wx, wr.grownBy wx none → Calls Try.prog 24 #[.agg #[vp, .slice an R.length cn, vo], .slice ae E.length ce] wx fun e w' => ∃ v, e = .returned (.tuple #[v, .int .i64 (ranE P R O : Int)]) ∧ w'.ownsRow wx.heap.size 59 1 v (ranL P R O E).length ((ranL P R O E).map ov) ∧ wx.grownBy w' none) := Lib.hid fun wx h => refrun_any _ _ _ _ P R O E wx (hMo.kept h) hO2 (hEo.kept h) (by omega)
                        have hcI : (E.length : Int) ≤ (cap9 : Int) := by omega
                        have HBox : Hid (∀ wx, wr.grownBy wx none → wx.cell? ⟨w4.heap.size, 0, none⟩ = some (.slice (some ⟨ga, 0, none⟩) P.length ca) ∧ wx.cell? ⟨w4.heap.size, 1, none⟩ = some (.slice (some ⟨gb, 0, none⟩) R.length cb) ∧ wx.cell? ⟨w4.heap.size, 2, none⟩ = some (.slice (some ⟨gc, 0, none⟩) O.length cc)) := Lib.hid fun wx h => HB.out wx (gb_trans HGf.out h (Or.inl rfl))
                        have HMb : Hid (∀ wx, wr.grownBy wx none → wx.cell? ⟨w.heap.size, 0, none⟩ = some vp ∧ wx.cell? ⟨w.heap.size, 1, none⟩ = some (.slice an R.length cn) ∧ wx.cell? ⟨w.heap.size, 2, none⟩ = some vo) := Lib.hid fun wx h => HC.out wx (HYb.out _ (gb_trans HGf.out h (Or.inl rfl)))
                        have HFin : Hid (∀ wx, Below w5.heap.size wr wx → Below w.heap.size w wx) := Lib.hid fun wx h => HEnd.out _ (hYf.trans (h.mono HBl.out))
                        have HZf : Hid (w5.heap.size ≤ wr.heap.size) := Lib.hid HGf.out.size
                        generalize ranE P R O' = e2 at HR1 HR2
                        generalize ranL P R O' E' = l2 at HR1 HR2 HV2 hL2
                        generalize ranE P R O = e1 at HR3 ⊢
                        generalize ranL P R O E = l1 at HR3 HAf HBf HV1 HAlt HBge hL1 ⊢
                        have hK1 : l1.length ≤ 17592186043904 := Nat.le_trans hL1 (by decide)
                        have hK2 : l2.length ≤ 17592186043904 := Nat.le_trans hL2 (by decide)
                        have HL1 := Lib.hid hL1
                        clear hL1 hL2
                        obtain ⟨b0, b1, b2⟩ := HBox.out wr (gb_refl _ _)
                        have hgd := gb_drew wr none
                        have HR1' := Lib.hid (HR1.out _ hgd)
                        clear hk hlt hkI HR1 hMf hE' hMo hEo hPR hOf hOl hYf hEl' hO3 hE3 HOw HOl HOb' HGe HAe HBe HRSe HRS HOn
                        go_region_with (go_at_call 21; refine HR1'.out.mono ?_; rintro e wg ⟨vc, rfl, hc1, hg1⟩)
                        have hG1 := gb_trans hgd hg1 (Or.inl rfl)
                        have HC1 := Lib.hid hc1
                        obtain ⟨b0, b1, b2⟩ := HBox.out wg hG1
                        go_wp2_with fail
                        have hgd2 := gb_trans hG1 (gb_drew wg none) (Or.inl rfl)
                        have HR2' := Lib.hid (HR2.out _ hgd2)
                        clear hc1 hg1
                        go_region_with (go_at_call 24; refine HR2'.out.mono ?_; rintro e wh ⟨vd, rfl, hd1, hg2⟩)
                        have hG2 := gb_trans hgd2 hg2 (Or.inl rfl)
                        have HD1 := Lib.hid hd1
                        have hgh := gb_trans (gb_drew wg none) hg2 (Or.inl rfl)
                        have HS1 := Lib.hid (same_verdicts (bytes_own (HC1.out.kept hgh (Classical.em _)) hK2 HV2.out) (bytes_own HD1.out hK2 HV2.out))
                        clear hd1 hg2 hgh
                        go_wp2_with (go_at_call 25; refine HS1.out.mono ?_; rintro e wi ⟨rfl, hgi⟩; have HGi := Lib.hid (gb_trans hG2 hgi (Or.inl rfl)); obtain ⟨m0, m1, m2⟩ := HMb.out _ HGi.out)
                        have HR3' := Lib.hid (HR3.out _ HGi.out)
                        clear hG1 hgd2 hG2 hgd HR1' HR2' HR2 HS1 hgi HC1 HD1 HR3
                        go_wp2_with (go_at_call 24; refine HR3'.out.mono ?_; rintro e wj ⟨vw, rfl, hw1, hgj⟩; have HW1 := Lib.hid hw1; have HGj := Lib.hid (gb_trans HGi.out hgj (Or.inl rfl)); clear hw1 hgj)
                        have HS2 := Lib.hid (same_verdicts (bytes_own (HAf.out.kept HGj.out (Classical.em _)) hK1 HV1.out) (bytes_own HW1.out hK1 HV1.out))
                        go_upto_region 38 with (go_at_call 25; refine HS2.out.mono ?_; rintro e wk ⟨rfl, hgk⟩; have HGk := Lib.hid (gb_trans HGj.out hgk (Or.inl rfl)); have HW2 := Lib.hid (HW1.out.kept hgk (Classical.em _)); clear hgk)
                        have HS3 := Lib.hid (same_verdicts (bytes_own (HBf.out.kept HGk.out (Classical.em _)) hK1 HV1.out) (bytes_own HW2.out hK1 HV1.out))
                        go_upto_region 39 with (go_at_call 25; refine HS3.out.mono ?_; rintro e wl ⟨rfl, hgl⟩; have HGl := Lib.hid (gb_trans HGk.out hgl (Or.inl rfl)); clear hgl)
                        go_upto_region 40 with fail
                        have hAl := HAf.out.kept HGl.out (Classical.em _)
                        have hBl := HBf.out.kept HGl.out (Classical.em _)
                        have hAlt := fun b hb => (hAl.lt b hb).2
                        have hBlt := fun b hb => (hBl.lt b hb).2
                        have hbk := book_new wl
                        have hgm := World.grownBy_alloc wl (.cells #[nilS, nilS, nilS, nilS, nilS, nilS, nilS, nilS, nilS, nilS, nilS, nilS, nilS] 76) none
                        unfold nilS at hbk hgm
                        generalize wl.alloc _ = wm at hbk hgm ⊢
                        have hAm := hAl.kept hgm (Classical.em _)
                        have hBm := hBl.kept hgm (Classical.em _)
                        have hzl : w5.heap.size ≤ wl.heap.size := Nat.le_trans HZf.out HGl.out.size
                        have hzm := hgm.size
                        have HBelm : Hid (Below w5.heap.size wr wm) := Lib.hid (((Below.refl w5.heap.size wr).grown HGl.out HZf.out (fun _ e => by cases e)).grown hgm hzl (fun _ e => by cases e))
                        generalize wl.heap.size = yb at hbk hzl hzm hAlt hBlt ⊢
                        have HV1' := Lib.hid (book_verdicts (n := l1.length) (a := aa) (cap := ca') hbk hzm (Nat.le_refl _) (by simp))
                        have HAm := Lib.hid (And.intro hAm (And.intro hBm (And.intro hAlt hBlt)))
                        have HZl := Lib.hid (And.intro hzl hzm)
                        clear hAl hBl hAlt hBlt hbk hgm hAm hBm hzl hzm
                        go_upto_region 41 with (go_at_call 26; refine HV1'.out.mono ?_; rintro e wn ⟨rfl, hBn, hbn⟩; have HBn := Lib.hid (And.intro hBn hbn); clear hBn hbn)
                        obtain ⟨v1, hv1⟩ := HBn.out.1
                        have HV2' := Lib.hid (book_verdicts (n := l1.length) (a := ab) (cap := cb') hv1 (Nat.le_trans HZl.out.2 HBn.out.2.size) (Nat.le_refl _) (by simp))
                        clear hv1
                        go_upto_region 42 with (go_at_call 26; refine HV2'.out.mono ?_; rintro e wo ⟨rfl, hBo, hbo⟩; have HBo := Lib.hid (And.intro hBo hbo); clear hBo hbo)
                        obtain ⟨v2, hv2⟩ := HBo.out.1
                        have hbmo := HBn.out.2.trans HBo.out.2
                        have hAo := own_below HAm.out.1 hbmo HAm.out.2.2.1
                        have hBo := own_below HAm.out.2.1 hbmo HAm.out.2.2.2
                        have hP := own_two (mk := mkV) hAo hBo (fun b h1 h2 => by have h3 := HAlt.out b h1; have h4 := HBge.out b h2; exact absurd h3 (Nat.not_lt_of_le h4))
                        have hbelo : Below w5.heap.size wr wo := HBelm.out.trans (hbmo.mono HZl.out.1)
                        have HOw := Lib.hid (book_own (hv2.base HZl.out.1) hP (fun _ _ => HL1.out) (by show 2 ≤ 1000000; omega) (Nat.le_trans HZf.out hbelo.size))
                        have HBelo := Lib.hid hbelo
                        clear hv2 hbmo hAo hBo hP hbelo
                        go_wp2_with (go_at_call 27; refine HOw.out.mono ?_; rintro e wp ⟨rfl, hOnl⟩)
                        go_ret
                        exact ⟨rfl, HFin.out _ (HBelo.out.trans hOnl.bel)⟩
      · have hbI : (100000 : Int) < (n : Int) := by omega
        have hbK : ¬ (n : Int) ≤ 100000 := by omega
        go_wp2_with fail
        go_ret
        exact ⟨rfl, gb_below hG2⟩
end Go.Proofs.Ytpehmlkikhkmfaa
