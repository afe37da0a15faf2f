/- Lists that are lent: Ints. -/
import Derived.Test.YtpehmlkikhkmfaaLentTexts
import Derived.Deep.AppendLies
namespace Go.Proofs.Ytpehmlkikhkmfaa
open Go.RowKit

/-- A list that is lent: two marks stand behind it. -/
def LentInts (w : World) (Y : Nat) (v : Value) (L : List Int) : Prop :=
  ∃ g cap, v = .slice (some ⟨g, 0, none⟩) L.length cap ∧ L.length + 2 ≤ cap ∧ cap ≤ maxLen ∧ w.ownsRow Y 3 1 (.slice (some ⟨g, 0, none⟩) (L.length + 2) cap) (L.length + 2) (L.map iv ++ [(.int .i64 (-771)), (.int .i64 (-772))])
theorem LentInts.kept {w w' : World} {Y : Nat} {v : Value} {L : List Int} {row : Option Nat} (h : LentInts w Y v L) (hg : w.grownBy w' row) (hne : v.ownBlock = none ∨ v.ownBlock ≠ row) : LentInts w' Y v L := by
  obtain ⟨g, cap, rfl, h1, h2, h3⟩ := h
  exact ⟨g, cap, rfl, h1, h2, h3.kept hg hne⟩
theorem LentInts.lt {w : World} {Y : Nat} {v : Value} {L : List Int} (h : LentInts w Y v L) : ∀ b, v.ownBlock = some b → Y ≤ b ∧ b < w.heap.size := by
  obtain ⟨g, cap, rfl, h1, h2, h3⟩ := h
  exact fun b hb => h3.lt b hb
theorem LentInts.cells {w : World} {Y g n cap : Nat} {L : List Int} (h : LentInts w Y (.slice (some ⟨g, 0, none⟩) n cap) L) :
    (∀ k, k < L.length → w.cell? ⟨g, k, none⟩ = some (.int .i64 (L.getD k 0))) ∧ w.cell? ⟨g, L.length, none⟩ = some (.int .i64 (-771)) ∧ w.cell? ⟨g, L.length + 1, none⟩ = some (.int .i64 (-772)) := by
  obtain ⟨g', cap', hv, h1, h2, h3⟩ := h
  cases hv
  refine ⟨fun k hk => ?_, ?_, ?_⟩
  · rw [h3.cellAt k (by omega), List.getElem?_append_left (by rw [List.length_map]; exact hk), map_at iv L 0 k hk]; rfl
  · rw [h3.cellAt _ (by omega), List.getElem?_append_right (by rw [List.length_map]; exact Nat.le_refl _), List.length_map, Nat.sub_self]; rfl
  · rw [h3.cellAt _ (by omega), List.getElem?_append_right (by rw [List.length_map]; omega), List.length_map, Nat.add_sub_cancel_left]; rfl
theorem LentInts.room {w : World} {Y : Nat} {v : Value} {L : List Int} (h : LentInts w Y v L) : ∃ g cap cur, v = .slice (some ⟨g, 0, none⟩) L.length cap ∧ w.heap[g]? = some (.cells cur 3 (0, 0)) ∧ cur.size = cap ∧ L.length ≤ cap ∧ cap ≤ maxLen ∧ Y ≤ g ∧ g < w.heap.size := by
  obtain ⟨g, cap, rfl, hc, hcm, hr⟩ := h
  have hl := hr.lt g rfl
  rcases hr.2 with ⟨h0, _⟩ | ⟨g', cap', cur, hv, hb, hg, hnc, hcm, hcs, htk⟩
  · cases h0
  · cases hv
    exact ⟨g, cap, cur, rfl, hg, by omega, by omega, hcm, hl⟩
theorem LentInts.at {w : World} {Y : Nat} {v : Value} {L : List Int} (h : LentInts w Y v L) (hl : L.length ≤ 17592186043904) (hw : ∀ k, k < L.length → -9223372036854775808 ≤ L.getD k 0 ∧ L.getD k 0 ≤ 9223372036854775807) : IntsAt w v L := by
  obtain ⟨g, cap, rfl, h1, h2, h3⟩ := h
  have hc := (show LentInts w Y (.slice (some ⟨g, 0, none⟩) L.length cap) L from ⟨g, cap, rfl, h1, h2, h3⟩).cells.1
  exact ⟨_, _, rfl, by omega, hw, by omega, Or.inr ⟨g, 0, rfl, fun k hk => by rw [Nat.zero_add]; exact hc k hk⟩⟩

set_option maxRecDepth 100000 in
set_option maxHeartbeats 1000000 in
theorem lent_ints {w : World} {v : Value} {L : List Int} (hL : IntsAt w v L) (hs : L.length ≤ 1000000) :
    Calls Try.prog 74 #[v] w fun e w' => ∃ v', e = .returned v' ∧ LentInts w' w.heap.size v' L ∧ w.grownBy w' none := by
  obtain ⟨i0, hi, hz0, hz1, hz2⟩ := info_parts Try.info3
  obtain ⟨a, cap, rfl, hcap, hwf, hlen, hc⟩ := hL

  have hend : ∀ (g cap : Nat) (w' : World), w'.ownsRow w.heap.size 3 1 (.slice (some ⟨g, 0, none⟩) (L.length + 2) cap) (L.length + 2) (L.map iv ++ [(.int .i64 (-771)), (.int .i64 (-772))]) → L.length + 2 ≤ cap ∧ cap ≤ maxLen ∧ LentInts w' w.heap.size (.slice (some ⟨g, 0, none⟩) L.length cap) L := fun g cap w' h => by
    rcases h.2 with ⟨h0, _⟩ | ⟨g', cap', cur, hv, hb, hg, hnc, hcm, hcs, htk⟩
    · cases h0
    · cases hv
      exact ⟨hnc, hcm, g, cap, rfl, hnc, hcm, h⟩
  have HE := Lib.hid hend
  clear hwf hend
  cases a with
  | none =>
    rcases hc with rfl | ⟨b, off, h, _⟩
    · go_enter Try.func74, Try.ntmps74
      go_wp2_with (first | (at_make; refine wpList_make_own _ rfl _ _ 107 rfl w.heap.size 3 i0 (.int .i64 0) 1 Try.underlying107 hi hz0 hz1 .i64 .i64 _ 2 rfl rfl (by decide) (by rw [hz2]; decide) (by decide) (Nat.le_refl _) ?_; intro w1 hown1 hg1) | (at_builtin; refine wpList_append_lies _ rfl (.tmp 11) (.tmp 12) 107 rfl w.heap.size 3 i0 (.int .i64 0) 1 8 Try.underlying107 hi hz0 hz1 hz2 rfl (by decide) (.slice (some ⟨w.heap.size, 0, none⟩) 0 2) 0 [] rfl (hown1.alloc _) ⟨w1.heap.size, 0, none⟩ 2 2 [(.int .i64 (-771)), (.int .i64 (-772))] rfl rfl (cell_two_new _ _ _ _) (by simp [Value.oneCell']) (by decide) (by unfold maxLen; omega) (by omega) (by rw [World.size_alloc]; exact Nat.le_succ_of_le hg1.size) _ rfl ?_; intro g3 cap3 w3 hown3 hg3 hat3 hlt3; have hE3 := HE.out _ _ _ hown3; have hi3 : (0 : Int) ≤ (cap3 : Int) := by omega))
      go_ret
      refine ⟨_, rfl, hE3.2.2, gb_trans (gb_trans hg1 (World.grownBy_alloc _ _ _) (Or.inl rfl)) hg3 (Or.inr (Or.inr ⟨w.heap.size, rfl, Nat.le_refl _⟩))⟩
    · cases h
  | some ad =>
    have hnews : ∀ (w1 : World), w.grownBy w1 none → ∀ j u, (L.map iv)[j]? = some u → w1.cell? (ad.add j) = some u := fun w1 hg j u hu => by
      have hj : j < L.length := by simpa using (List.getElem?_eq_some_iff.1 hu).1
      rcases hc with rfl | ⟨b, off, h, hc⟩
      · simp at hj
      · cases h
        rw [Addr.add_lit, hg.cell (hc j hj) (by simp)]
        rw [map_at iv L 0 j hj] at hu
        rw [← hu]
        rfl
    have HN := Lib.hid hnews
    clear hnews hc
    go_enter Try.func74, Try.ntmps74
    go_wp2_with (first
      | (at_make; refine wpList_make_own _ rfl _ _ 107 rfl w.heap.size 3 i0 (.int .i64 0) 1 Try.underlying107 hi hz0 hz1 .i64 .i64 _ (L.length + 2) rfl rfl (by omega) (by rw [hz2]; omega) (by unfold maxLen; omega) (Nat.le_refl _) ?_; intro w1 hown1 hg1)
      | (at_builtin; refine wpList_append_own _ rfl (.tmp 8) (.tmp 9) 107 rfl w.heap.size 3 i0 (.int .i64 0) 1 8 Try.underlying107 hi hz0 hz1 hz2 rfl (by decide) _ _ _ rfl hown1 ad L.length cap (L.map iv) rfl (by simp) (HN.out _ hg1) (iv_one L) (by unfold maxLen; omega) (by omega) hg1.size ?_; intro v2 w2 hown2 hg2 hnil; have hG2 := gb_trans hg1 hg2 (Or.inr (Or.inr ⟨w.heap.size, rfl, Nat.le_refl _⟩)); rw [Nat.zero_add, List.nil_append] at hown2; obtain ⟨a2, c2, rfl⟩ := own_val hown2)
      | (at_builtin; refine wpList_append_lies _ rfl (.tmp 11) (.tmp 12) 107 rfl w.heap.size 3 i0 (.int .i64 0) 1 8 Try.underlying107 hi hz0 hz1 hz2 rfl (by decide) (.slice a2 L.length c2) L.length (L.map iv) rfl (hown2.alloc _) ⟨w2.heap.size, 0, none⟩ 2 2 [(.int .i64 (-771)), (.int .i64 (-772))] rfl rfl (cell_two_new _ _ _ _) (by simp [Value.oneCell']) (by decide) (by unfold maxLen; omega) (by omega) (by rw [World.size_alloc]; exact Nat.le_succ_of_le hG2.size) _ rfl ?_; intro g3 cap3 w3 hown3 hg3 hat3 hlt3; have hE3 := HE.out _ _ _ hown3; have hi3 : (L.length : Int) ≤ (cap3 : Int) := by omega))
    go_ret
    refine ⟨_, rfl, hE3.2.2, gb_trans (gb_trans hG2 (World.grownBy_alloc _ _ _) (Or.inl rfl)) hg3 ?_⟩
    rcases e : (Value.slice a2 L.length c2).ownBlock with _ | b
    · exact Or.inl rfl
    · exact Or.inr (Or.inr ⟨b, rfl, (hown2.lt b e).1⟩)

set_option maxRecDepth 100000 in
set_option maxHeartbeats 1000000 in
theorem same_ints {w : World} {a b : Value} {L : List Int} (ha : IntsAt w a L) (hb : IntsAt w b L) :
    Calls Try.prog 81 #[a, b] w fun e w' => e = .returned (.bool true) ∧ w.grownBy w' none := by
  have HA := Lib.hid ha
  have HB := Lib.hid hb
  obtain ⟨aa, ca, rfl, hca, _, _, _⟩ := ha
  obtain ⟨ab, cb, rfl, hcb, _, _, _⟩ := hb
  go_enter Try.func81, Try.ntmps81
  go_wp2_with fail
  go_loopw [5] (fun i wr => ∃ (k : Nat), k ≤ L.length ∧ i = .int .i64 (k : Int) ∧ w.grownBy wr none) (fun i _ => L.length - (intOf i).toNat)
  case atStart => exact ⟨0, by omega, rfl, gb_refl _ _⟩
  case round =>
    obtain ⟨k, hk, rfl, hG⟩ := hrel
    by_cases hlt : k < L.length
    · obtain ⟨_, _, hva, _, _, _, hma⟩ := HA.out.kept hG
      cases hva
      obtain ⟨_, _, hvb, _, _, _, hmb⟩ := HB.out.kept hG
      cases hvb
      rcases hma with rfl | ⟨b1, o1, rfl, hma⟩
      · exact absurd hlt (by simp)
      rcases hmb with rfl | ⟨b2, o2, rfl, hmb⟩
      · exact absurd hlt (by simp)
      have h1 := hma k hlt
      have h2 := hmb k hlt
      clear hma hmb
      generalize L.getD k 0 = x at h1 h2
      have hkI : (k : Int) < (L.length : Int) := by omega
      go_wp2_with fail
      go_quiet (fail)
      go_wp2
      go_roundw
      case rel => exact ⟨k + 1, by omega, by go_num, gb_trans hG (gb_drewN _ _ none) (Or.inl rfl)⟩
      case measure => simp [intOf]; omega
    · obtain rfl : k = L.length := by omega
      go_wp2_with fail
      go_ret
      exact ⟨rfl, hG⟩

set_option maxRecDepth 100000 in
set_option maxHeartbeats 1000000 in
theorem whole_ints {w : World} {Y : Nat} {x l : Value} {L : List Int} (hx : LentInts w Y x L) (hl : IntsAt w l L) :
    Calls Try.prog 76 #[x, l] w fun e w' => e = .returned (.bool true) ∧ w.grownBy w' none := by
  have hxa : IntsAt w x L := by
    obtain ⟨_, _, _, _, hwf, hlen, _⟩ := hl
    exact hx.at hlen hwf
  have HS := Lib.hid (same_ints hxa hl)
  have hlen : L.length ≤ 17592186043904 := by obtain ⟨_, _, _, _, hwf, hlen, _⟩ := hl; exact hlen
  obtain ⟨al, cl, nl, rfl⟩ : ∃ al cl nl, l = .slice al nl cl := by obtain ⟨al, cl, e, _⟩ := hl; exact ⟨al, cl, _, e⟩
  obtain ⟨g, cap, rfl, hc, hcm, hr⟩ := hx
  obtain ⟨_, h1, h2⟩ := (show LentInts w Y (.slice (some ⟨g, 0, none⟩) L.length cap) L from ⟨g, cap, rfl, hc, hcm, hr⟩).cells
  clear hr hl hxa
  have hcI : ¬ (cap : Int) < (L.length : Int) + 2 := by omega
  have hcJ : (L.length : Int) + 2 ≤ (cap : Int) := by omega
  have hcK : (cap : Int) ≤ 9223372036854775807 := by unfold maxLen at hcm; omega
  unfold iv at *
  go_enter Try.func76, Try.ntmps76
  go_wp2_with (go_at_call 81; refine HS.out.mono ?_; rintro e w1 ⟨rfl, hg1⟩)
  go_ret
  exact ⟨rfl, hg1⟩

set_option maxRecDepth 100000 in
set_option maxHeartbeats 1000000 in
theorem spoil_ints {w : World} {g n cap : Nat} {cur : Array Value} (hgb : w.heap[g]? = some (.cells cur 3 (0, 0))) (hsz : cur.size = cap) (hc : n ≤ cap) (hcm : cap ≤ maxLen) :
    Calls Try.prog 77 #[.slice (some ⟨g, 0, none⟩) n cap] w fun e w' => e = .returned (.tuple #[]) ∧ w.grownBy w' (some g) ∧ (∃ cur', w'.heap[g]? = some (.cells cur' 3 (0, 0)) ∧ cur'.size = cap) ∧ (n ≤ 17592186043904 → IntsAt w' (.slice (some ⟨g, 0, none⟩) n cap) (List.replicate n (-5 : Int))) := by
  have hcK : (cap : Int) ≤ 9223372036854775807 := by unfold maxLen at hcm; omega
  have hcN : cap ≤ 9223372036854775807 := by omega
  clear hcm
  go_enter Try.func77, Try.ntmps77
  go_wp2_with fail
  go_loopw [3] (fun i wr => ∃ (k : Nat) (c : Array Value), k ≤ cap ∧ i = .int .i64 (k : Int) ∧ wr.heap[g]? = some (.cells c 3 (0, 0)) ∧ c.size = cap ∧ (∀ j, j < k → c[j]? = some (.int .i64 (-5))) ∧ w.grownBy wr (some g)) (fun i _ => cap - (intOf i).toNat)
  case atStart => exact ⟨0, cur, by omega, rfl, hgb, hsz, fun j hj => absurd hj (Nat.not_lt_zero _), gb_refl _ _⟩
  case round =>
    obtain ⟨k, c, hk, rfl, hb, hcs, hdone, hG⟩ := hrel
    by_cases hlt : k < cap
    · have hcell : wr.cell? ⟨g, k, none⟩ = some (c[k]'(by omega)) := by simp [World.cell?, hb, hcs, hlt]
      have hfz : wr.frozen? ⟨g, k, none⟩ = false := by simp [World.frozen?, hb]
      have HSet : Hid ((wr.setCell ⟨g, k, none⟩ (.int .i64 (-5))).heap[g]? = some (.cells (c.setIfInBounds k (.int .i64 (-5))) 3 (0, 0))) := Lib.hid (by simp only [World.setCell, Array.getElem?_modify, hb]; simp)
      have HD := Lib.hid hdone
      generalize c[k]'(by omega) = old at hcell
      have hkI : (k : Int) < (cap : Int) := by omega
      clear hb hdone hgb hsz
      go_wp2_with fail
      go_roundw
      case rel =>
        refine ⟨k + 1, _, by omega, by go_num, HSet.out, by simpa using hcs, fun j hj => ?_, gb_trans hG gb_set (Or.inr (Or.inl rfl))⟩
        rw [Array.getElem?_setIfInBounds]
        by_cases e : k = j
        · subst e; rw [if_pos rfl, if_pos (by omega)]
        · rw [if_neg e]; exact HD.out j (by omega)
      case measure => simp [intOf]; omega
    · obtain rfl : k = cap := by omega
      have HEnd : Hid (n ≤ 17592186043904 → IntsAt wr (.slice (some ⟨g, 0, none⟩) n k) (List.replicate n (-5 : Int))) := Lib.hid fun hlen => by
        have hw : ∀ k, k < (List.replicate n (-5 : Int)).length → -9223372036854775808 ≤ (List.replicate n (-5 : Int)).getD k 0 ∧ (List.replicate n (-5 : Int)).getD k 0 ≤ 9223372036854775807 := fun j hj => by
          rw [List.length_replicate] at hj
          rw [List.getD_eq_getElem?_getD, List.getElem?_replicate, if_pos hj]
          decide
        have hcl : ∀ j, j < (List.replicate n (-5 : Int)).length → wr.cell? ⟨g, j, none⟩ = some (.int .i64 ((List.replicate n (-5 : Int)).getD j 0)) := fun j hj => by
          rw [List.length_replicate] at hj
          rw [List.getD_eq_getElem?_getD, List.getElem?_replicate, if_pos hj]
          have := hdone j (by omega)
          simp only [World.cell?, hb]
          exact this
        have hn : (List.replicate n (-5 : Int)).length = n := List.length_replicate
        exact ⟨_, _, by rw [hn], by rw [hn]; omega, hw, by rw [hn]; exact hlen, Or.inr ⟨g, 0, rfl, fun j hj => by rw [Nat.zero_add]; exact hcl j hj⟩⟩
      have HCur : Hid (∃ cur', wr.heap[g]? = some (.cells cur' 3 (0, 0)) ∧ cur'.size = k) := Lib.hid ⟨c, hb, hcs⟩
      clear hb hdone hgb
      go_wp2_with fail
      all_goals go_end0
      all_goals exact ⟨rfl, hG, HCur.out, HEnd.out⟩
end Go.Proofs.Ytpehmlkikhkmfaa
