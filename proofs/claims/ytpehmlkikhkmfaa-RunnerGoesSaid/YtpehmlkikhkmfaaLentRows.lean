/- Rows that are lent. -/
import Derived.Test.YtpehmlkikhkmfaaLentVerdicts
namespace Go.Proofs.Ytpehmlkikhkmfaa
open Go.RowKit

theorem own_caps {w : World} {Y e n : Nat} {g cap : Nat} {xs : List Value} (h : w.ownsRow Y e 1 (.slice (some ⟨g, 0, none⟩) n cap) n xs) : ∃ g' cap', (Value.slice (some ⟨g, 0, none⟩) n cap) = .slice (some ⟨g', 0, none⟩) n cap' ∧ n ≤ cap' ∧ cap' ≤ maxLen := by
  rcases h.2 with ⟨h0, _⟩ | ⟨g', cap', cur, hv, hb, hg, hnc, hcm, hcs, htk⟩
  · cases h0
  · exact ⟨g', cap', hv, hnc, hcm⟩

/-- Rows that are lent: each row with its marks, a row with a mark behind them. -/
def LentRows (w : World) (Y : Nat) (v : Value) (R : List (List Int)) : Prop :=
  ∃ (g cap : Nat) (vs : List Value) (t : Nat), v = .slice (some ⟨g, 0, none⟩) R.length cap ∧ R.length + 1 ≤ cap ∧ cap ≤ maxLen ∧ vs.length = R.length ∧
    w.ownsRow Y 107 1 (.slice (some ⟨g, 0, none⟩) (R.length + 1) cap) (R.length + 1) (vs ++ [.slice (some ⟨t, 0, none⟩) 1 1]) ∧
    (∀ i, i < R.length → ∃ u, vs[i]? = some u ∧ LentInts w Y u (R.getD i [])) ∧ w.ownsRow Y 3 1 (.slice (some ⟨t, 0, none⟩) 1 1) 1 [.int .i64 (-77)]
theorem LentRows.kept {w w' : World} {Y : Nat} {v : Value} {R : List (List Int)} (h : LentRows w Y v R) (hg : w.grownBy w' none) : LentRows w' Y v R := by
  obtain ⟨g, cap, vs, t, rfl, h1, h2, h3, h4, h5, h6⟩ := h
  exact ⟨g, cap, vs, t, rfl, h1, h2, h3, h4.kept hg (Classical.em _), fun i hi => by obtain ⟨u, hu, hr⟩ := h5 i hi; exact ⟨u, hu, hr.kept hg (Classical.em _)⟩, h6.kept hg (Classical.em _)⟩
theorem LentRows.at {w : World} {Y : Nat} {v : Value} {R : List (List Int)} (h : LentRows w Y v R) (hl : R.length ≤ 17592186043904) (hr : ∀ i, i < R.length → (R.getD i []).length ≤ 17592186043904 ∧ ∀ k, k < (R.getD i []).length → -9223372036854775808 ≤ (R.getD i []).getD k 0 ∧ (R.getD i []).getD k 0 ≤ 9223372036854775807) : RowsAt w v R := by
  obtain ⟨g, cap, vs, t, rfl, h1, h2, h3, h4, h5, h6⟩ := h
  refine ⟨_, _, rfl, by omega, hl, Or.inr ⟨g, 0, rfl, fun k hk => ?_⟩⟩
  obtain ⟨u, hu, hi⟩ := h5 k hk
  refine ⟨u, ?_, hi.at (hr k hk).1 (hr k hk).2⟩
  rw [Nat.zero_add, h4.cellAt k (by omega), List.getElem?_append_left (by omega)]
  exact hu
theorem rows_wf {w : World} {v : Value} {R : List (List Int)} (h : RowsAt w v R) : R.length ≤ 17592186043904 ∧ ∀ i, i < R.length → (R.getD i []).length ≤ 17592186043904 ∧ ∀ k, k < (R.getD i []).length → -9223372036854775808 ≤ (R.getD i []).getD k 0 ∧ (R.getD i []).getD k 0 ≤ 9223372036854775807 := by
  obtain ⟨a, cap, rfl, h0, h1, h2⟩ := h
  refine ⟨h1, fun i hi => ?_⟩
  rcases h2 with rfl | ⟨b, off, _, h2⟩
  · exact absurd hi (by simp)
  · obtain ⟨u, _, a, c, _, _, hw, hl, _⟩ := h2 i hi
    exact ⟨hl, hw⟩

set_option maxRecDepth 100000 in
set_option maxHeartbeats 2000000 in
theorem lent_rows {w : World} {v : Value} {R : List (List Int)} (hL : RowsAt w v R) (hs : R.length ≤ 1000000) (hr : ∀ i, i < R.length → (R.getD i []).length ≤ 1000000) :
    Calls Try.prog 43 #[v] w fun e w' => ∃ v', e = .returned v' ∧ LentRows w' w.heap.size v' R ∧ w.grownBy w' none := by
  obtain ⟨i0, hi, hz0, hz1, hz2⟩ := info_parts Try.info107
  have HL := Lib.hid hL
  have HR := Lib.hid hr
  obtain ⟨a, cap, rfl, hcap, hlen, _⟩ := hL
  obtain ⟨Y, hY⟩ : ∃ Y, Hid (Y = w.heap.size) := ⟨_, Lib.hid rfl⟩
  have hYw : Y ≤ w.heap.size := by rw [hY.out]; exact Nat.le_refl _
  rw [← hY.out]
  clear hr
  go_enter Try.func43, Try.ntmps43
  go_wp2_with (at_make; refine wpList_make_own _ rfl _ _ 24 rfl Y 107 i0 (.slice none 0 0) 1 Try.underlying24 hi hz0 hz1 .i64 .i64 _ (R.length + 1) rfl rfl (by omega) (by rw [hz2]; omega) (by unfold maxLen; omega) hYw ?_; intro w1 hown1 hg1)
  go_loopw [4, 3] (fun i vx wr => ∃ (k : Nat) (vs : List Value), k ≤ R.length ∧ i = .int .i64 (k : Int) ∧ vs.length = k ∧ wr.ownsRow Y 107 1 vx k vs ∧ Hid (∀ i, i < k → ∃ u, vs[i]? = some u ∧ LentInts wr Y u (R.getD i [])) ∧ w.grownBy wr none) (fun i _ _ => R.length - (intOf i).toNat)
  case atStart => exact ⟨0, [], by omega, rfl, rfl, hown1, fun _ h => absurd h (Nat.not_lt_zero _), hg1⟩
  case round =>
    obtain ⟨k, vs, hk, rfl, hvl, hown, HEach, hG⟩ := hrel
    have hYr : Y ≤ wr.heap.size := by have := hG.size; omega
    obtain ⟨ax, cx, rfl⟩ := own_val hown
    by_cases hlt : k < R.length
    · obtain ⟨_, _, hve, _, _, hn3⟩ := HL.out.kept hG
      cases hve
      rcases hn3 with rfl | ⟨bn, offn, rfl, hn3⟩
      · exact absurd hlt (by simp)
      obtain ⟨u, hu, hIu⟩ := hn3 k hlt
      have HLI := Lib.hid (lent_ints hIu (HR.out k hlt))
      obtain ⟨au, cu, mu, rfl⟩ : ∃ au cu mu, u = .slice au mu cu := by obtain ⟨au, cu, e, _⟩ := hIu; exact ⟨au, cu, _, e⟩
      have hkI : (k : Int) < (R.length : Int) := by omega
      have HOwn := Lib.hid hown
      clear hn3 hIu hown hown1
      go_wp2_with (first
        | (go_at_call 74; refine HLI.out.mono ?_; rintro e w2 ⟨v2, rfl, hl2, hg2⟩; have HL2 := Lib.hid hl2; obtain ⟨a2, n2, c2, rfl⟩ : ∃ a n c, v2 = .slice a n c := (by obtain ⟨g2, c2, e, _⟩ := hl2; exact ⟨_, _, _, e⟩); clear hl2)
        | (at_builtin; refine wpList_append_lies _ rfl (.tmp 16) (.tmp 22) 24 rfl Y 107 i0 (.slice none 0 0) 1 24 Try.underlying24 hi hz0 hz1 hz2 rfl (by decide) (.slice ax k cx) k vs rfl ((HOwn.out.kept hg2 (Classical.em _)).alloc _) ⟨w2.heap.size, 0, none⟩ 1 1 [.slice a2 n2 c2] rfl rfl (cell_one_new _ _ _) (by simp [Value.oneCell']) (by decide) (by unfold maxLen; omega) (by omega) (by rw [World.size_alloc]; have := hg2.size; omega) _ rfl ?_; intro g5 cap5 w5 hown5 hgr5 hat5 hlt5))
      have hga := World.grownBy_alloc w2 (.cells #[.slice a2 n2 c2] 107) none
      have hoff : ∀ {e n : Nat} {u : Value} {xs : List Value}, (w2.alloc (.cells #[.slice a2 n2 c2] 107)).ownsRow Y e 1 u n xs → 107 ≠ e → u.ownBlock = none ∨ u.ownBlock ≠ (Value.slice ax k cx).ownBlock := fun hu he => own_apart ((HOwn.out.kept hg2 (Classical.em _)).kept hga (Classical.em _)) hu he
      refine ⟨⟨k + 1, vs ++ [.slice a2 n2 c2], by omega, by go_num, by simp [hvl], hown5, Lib.hid (fun i hi => ?_), gb_trans (gb_trans (gb_trans hG hg2 (Or.inl rfl)) hga (Or.inl rfl)) hgr5 ?_⟩, by simp [intOf]; omega⟩
      · have step : ∀ {u : Value} {L : List Int}, LentInts w2 Y u L → LentInts w5 Y u L := fun {u L} hu => by
          obtain ⟨g, c, rfl, h1, h2, h3⟩ := hu
          exact ⟨g, c, rfl, h1, h2, (h3.kept hga (Classical.em _)).kept hgr5 (hoff (h3.kept hga (Classical.em _)) (by decide))⟩
        by_cases e : i = k
        · subst e
          refine ⟨_, by rw [List.getElem?_append_right (by omega), hvl, Nat.sub_self]; rfl, step ?_⟩
          obtain ⟨g, c, hv, h1, h2, h3⟩ := HL2.out
          exact ⟨g, c, hv, h1, h2, own_base h3 hYr⟩
        · obtain ⟨u, hu, hl⟩ := HEach.out i (by omega)
          exact ⟨u, by rw [List.getElem?_append_left (by omega)]; exact hu, step (hl.kept hg2 (Classical.em _))⟩
      · rcases e : (Value.slice ax k cx).ownBlock with _ | b
        · exact Or.inl rfl
        · exact Or.inr (Or.inr ⟨b, rfl, by rw [← hY.out]; exact (HOwn.out.lt b e).1⟩)
    · obtain rfl : k = R.length := by omega
      have HOwn := Lib.hid hown
      clear hown hown1
      go_wp2_with (at_builtin; refine wpList_append_lies _ rfl (.tmp 24) (.tmp 26) 24 rfl Y 107 i0 (.slice none 0 0) 1 24 Try.underlying24 hi hz0 hz1 hz2 rfl (by decide) (.slice ax R.length cx) R.length vs rfl ((HOwn.out.alloc _).alloc _) ⟨wr.heap.size + 1, 0, none⟩ 1 1 [.slice (some ⟨wr.heap.size, 0, none⟩) 1 1] rfl rfl (by rw [← World.size_alloc wr (.cells #[.int .i64 (-77)] 3)]; exact cell_one_new _ _ _) (by simp [Value.oneCell']) (by decide) (by unfold maxLen; omega) (by omega) (by rw [World.size_alloc, World.size_alloc]; omega) _ rfl ?_; intro g5 cap5 w5 hown5 hgr5 hat5 hlt5; obtain ⟨_, _, h5v, h5c, h5m⟩ := own_caps hown5; cases h5v; have hi5 : (R.length : Int) ≤ (cap5 : Int) := by omega)
      go_ret
      have hga := gb_trans (World.grownBy_alloc wr (.cells #[.int .i64 (-77)] 3) none) (World.grownBy_alloc _ (.cells #[.slice (some ⟨wr.heap.size, 0, none⟩) 1 1] 107) none) (Or.inl rfl)
      have hoff : ∀ {e n : Nat} {u : Value} {xs : List Value}, ((wr.alloc (.cells #[.int .i64 (-77)] 3)).alloc (.cells #[.slice (some ⟨wr.heap.size, 0, none⟩) 1 1] 107)).ownsRow Y e 1 u n xs → 107 ≠ e → u.ownBlock = none ∨ u.ownBlock ≠ (Value.slice ax R.length cx).ownBlock := fun hu he => own_apart (HOwn.out.kept hga (Classical.em _)) hu he
      refine ⟨_, rfl, ⟨g5, cap5, vs, wr.heap.size, rfl, h5c, h5m, hvl, hown5, fun i hi => ?_, ?_⟩, gb_trans (gb_trans hG hga (Or.inl rfl)) hgr5 ?_⟩
      · obtain ⟨u, hu, g, c, rfl, h1, h2, h3⟩ := HEach.out i hi
        exact ⟨_, hu, g, c, rfl, h1, h2, (h3.kept hga (Classical.em _)).kept hgr5 (hoff (h3.kept hga (Classical.em _)) (by decide))⟩
      · have h1 := (World.ownsRow_lit (base := Y) (e := 3) (size := 1) wr #[.int .i64 (-77)] 1 hYr (by unfold maxLen; omega) rfl).alloc (.cells #[.slice (some ⟨wr.heap.size, 0, none⟩) 1 1] 107)
        exact h1.kept hgr5 (hoff h1 (by decide))
      · rcases e : (Value.slice ax R.length cx).ownBlock with _ | b
        · exact Or.inl rfl
        · exact Or.inr (Or.inr ⟨b, rfl, by rw [← hY.out]; exact (HOwn.out.lt b e).1⟩)
end Go.Proofs.Ytpehmlkikhkmfaa
