/- Lists that are lent: yes and no, letters. -/
import Derived.Test.YtcdepblajobemaaDfaLentA
namespace Go.Proofs.Ytcdepblajobemaa
open Go.RowKit

theorem Try.info55 : (Try.prog.info? 55).map (fun i => (i.zero, i.size, i.bytes)) = some (some (.int .u16 0), 1, 2) := by kernel_rfl
def lv (x : Nat) : Value := .int .u16 (x : Int)
theorem lv_one (L : List Nat) : ∀ u ∈ L.map lv, u.oneCell' = true := by
  intro u hu
  obtain ⟨x, _, rfl⟩ := List.mem_map.1 hu
  rfl
theorem tv_one (L : List Bool) : ∀ u ∈ L.map tv01, u.oneCell' = true := by
  intro u hu
  obtain ⟨x, _, rfl⟩ := List.mem_map.1 hu
  rfl

/-- A list that is lent: two marks stand behind it. -/
def LentBools (w : World) (Y : Nat) (v : Value) (L : List Bool) : Prop :=
  ∃ g cap, v = .slice (some ⟨g, 0, none⟩) L.length cap ∧ L.length + 2 ≤ cap ∧ cap ≤ maxLen ∧ w.ownsRow Y 4 1 (.slice (some ⟨g, 0, none⟩) (L.length + 2) cap) (L.length + 2) (L.map tv01 ++ [(.bool true), (.bool false)])
theorem LentBools.kept {w w' : World} {Y : Nat} {v : Value} {L : List Bool} {row : Option Nat} (h : LentBools w Y v L) (hg : w.grownBy w' row) (hne : v.ownBlock = none ∨ v.ownBlock ≠ row) : LentBools w' Y v L := by
  obtain ⟨g, cap, rfl, h1, h2, h3⟩ := h
  exact ⟨g, cap, rfl, h1, h2, h3.kept hg hne⟩
theorem LentBools.lt {w : World} {Y : Nat} {v : Value} {L : List Bool} (h : LentBools w Y v L) : ∀ b, v.ownBlock = some b → Y ≤ b ∧ b < w.heap.size := by
  obtain ⟨g, cap, rfl, h1, h2, h3⟩ := h
  exact fun b hb => h3.lt b hb
theorem LentBools.cells {w : World} {Y g n cap : Nat} {L : List Bool} (h : LentBools w Y (.slice (some ⟨g, 0, none⟩) n cap) L) :
    (∀ k, k < L.length → w.cell? ⟨g, k, none⟩ = some (.bool (L.getD k false))) ∧ w.cell? ⟨g, L.length, none⟩ = some (.bool true) ∧ w.cell? ⟨g, L.length + 1, none⟩ = some (.bool false) := by
  obtain ⟨g', cap', hv, h1, h2, h3⟩ := h
  cases hv
  refine ⟨fun k hk => ?_, ?_, ?_⟩
  · rw [h3.cellAt k (by omega), List.getElem?_append_left (by rw [List.length_map]; exact hk), map_at tv01 L false k hk]; rfl
  · rw [h3.cellAt _ (by omega), List.getElem?_append_right (by rw [List.length_map]; exact Nat.le_refl _), List.length_map, Nat.sub_self]; rfl
  · rw [h3.cellAt _ (by omega), List.getElem?_append_right (by rw [List.length_map]; omega), List.length_map, Nat.add_sub_cancel_left]; rfl
theorem LentBools.room {w : World} {Y : Nat} {v : Value} {L : List Bool} (h : LentBools w Y v L) : ∃ g cap cur, v = .slice (some ⟨g, 0, none⟩) L.length cap ∧ w.heap[g]? = some (.cells cur 4 (0, 0)) ∧ cur.size = cap ∧ L.length ≤ cap ∧ cap ≤ maxLen ∧ Y ≤ g ∧ g < w.heap.size := by
  obtain ⟨g, cap, rfl, hc, hcm, hr⟩ := h
  have hl := hr.lt g rfl
  rcases hr.2 with ⟨h0, _⟩ | ⟨g', cap', cur, hv, hb, hg, hnc, hcm, hcs, htk⟩
  · cases h0
  · cases hv
    exact ⟨g, cap, cur, rfl, hg, by omega, by omega, hcm, hl⟩
theorem LentBools.at {w : World} {Y : Nat} {v : Value} {L : List Bool} (h : LentBools w Y v L) (hl : L.length ≤ 140737488351232) (hw : ∀ k, k < L.length → L.getD k false = L.getD k false) : BoolsAt w v L := by
  obtain ⟨g, cap, rfl, h1, h2, h3⟩ := h
  have hc := (show LentBools w Y (.slice (some ⟨g, 0, none⟩) L.length cap) L from ⟨g, cap, rfl, h1, h2, h3⟩).cells.1
  exact ⟨_, _, rfl, by omega, by omega, Or.inr ⟨g, 0, rfl, fun k hk => by rw [Nat.zero_add]; exact hc k hk⟩⟩

set_option maxRecDepth 100000 in
set_option maxHeartbeats 1000000 in
theorem lent_bools {w : World} {v : Value} {L : List Bool} (hL : BoolsAt w v L) (hs : L.length ≤ 1000000) :
    Calls Try.prog 36 #[v] w fun e w' => ∃ v', e = .returned v' ∧ LentBools w' w.heap.size v' L ∧ w.grownBy w' none := by
  obtain ⟨i0, hi, hz0, hz1, hz2⟩ := info_parts Try.info4
  obtain ⟨a, cap, rfl, hcap, hlen, hc⟩ := hL

  have hend : ∀ (g cap : Nat) (w' : World), w'.ownsRow w.heap.size 4 1 (.slice (some ⟨g, 0, none⟩) (L.length + 2) cap) (L.length + 2) (L.map tv01 ++ [(.bool true), (.bool false)]) → L.length + 2 ≤ cap ∧ cap ≤ maxLen ∧ LentBools w' w.heap.size (.slice (some ⟨g, 0, none⟩) L.length cap) L := fun g cap w' h => by
    rcases h.2 with ⟨h0, _⟩ | ⟨g', cap', cur, hv, hb, hg, hnc, hcm, hcs, htk⟩
    · cases h0
    · cases hv
      exact ⟨hnc, hcm, g, cap, rfl, hnc, hcm, h⟩
  have HE := Lib.hid hend
  clear hend
  cases a with
  | none =>
    rcases hc with rfl | ⟨b, off, h, _⟩
    · go_enter Try.func36, Try.ntmps36
      go_wp2_with (first | (at_make; refine wpList_make_own _ rfl _ _ 25 rfl w.heap.size 4 i0 (.bool false) 1 Try.underlying25 hi hz0 hz1 .i64 .i64 _ 2 rfl rfl (by decide) (by rw [hz2]; decide) (by decide) (Nat.le_refl _) ?_; intro w1 hown1 hg1) | (at_builtin; refine wpList_append_lies _ rfl (.tmp 11) (.tmp 12) 25 rfl w.heap.size 4 i0 (.bool false) 1 1 Try.underlying25 hi hz0 hz1 hz2 rfl (by decide) (.slice (some ⟨w.heap.size, 0, none⟩) 0 2) 0 [] rfl (hown1.alloc _) ⟨w1.heap.size, 0, none⟩ 2 2 [(.bool true), (.bool false)] rfl rfl (cell_two_new _ _ _ _) (by simp [Value.oneCell']) (by decide) (by unfold maxLen; omega) (by omega) (by rw [World.size_alloc]; exact Nat.le_succ_of_le hg1.size) _ rfl ?_; intro g3 cap3 w3 hown3 hg3 hat3 hlt3; have hE3 := HE.out _ _ _ hown3; have hi3 : (0 : Int) ≤ (cap3 : Int) := by omega))
      go_ret
      refine ⟨_, rfl, hE3.2.2, gb_trans (gb_trans hg1 (World.grownBy_alloc _ _ _) (Or.inl rfl)) hg3 (Or.inr (Or.inr ⟨w.heap.size, rfl, Nat.le_refl _⟩))⟩
    · cases h
  | some ad =>
    have hnews : ∀ (w1 : World), w.grownBy w1 none → ∀ j u, (L.map tv01)[j]? = some u → w1.cell? (ad.add j) = some u := fun w1 hg j u hu => by
      have hj : j < L.length := by simpa using (List.getElem?_eq_some_iff.1 hu).1
      rcases hc with rfl | ⟨b, off, h, hc⟩
      · simp at hj
      · cases h
        rw [Addr.add_lit, hg.cell (hc j hj) (by simp)]
        rw [map_at tv01 L false j hj] at hu
        rw [← hu]
        rfl
    have HN := Lib.hid hnews
    clear hnews hc
    go_enter Try.func36, Try.ntmps36
    go_wp2_with (first
      | (at_make; refine wpList_make_own _ rfl _ _ 25 rfl w.heap.size 4 i0 (.bool false) 1 Try.underlying25 hi hz0 hz1 .i64 .i64 _ (L.length + 2) rfl rfl (by omega) (by rw [hz2]; omega) (by unfold maxLen; omega) (Nat.le_refl _) ?_; intro w1 hown1 hg1)
      | (at_builtin; refine wpList_append_own _ rfl (.tmp 8) (.tmp 9) 25 rfl w.heap.size 4 i0 (.bool false) 1 1 Try.underlying25 hi hz0 hz1 hz2 rfl (by decide) _ _ _ rfl hown1 ad L.length cap (L.map tv01) rfl (by simp) (HN.out _ hg1) (tv_one L) (by unfold maxLen; omega) (by omega) hg1.size ?_; intro v2 w2 hown2 hg2 hnil; have hG2 := gb_trans hg1 hg2 (Or.inr (Or.inr ⟨w.heap.size, rfl, Nat.le_refl _⟩)); rw [Nat.zero_add, List.nil_append] at hown2; obtain ⟨a2, c2, rfl⟩ := own_val hown2)
      | (at_builtin; refine wpList_append_lies _ rfl (.tmp 11) (.tmp 12) 25 rfl w.heap.size 4 i0 (.bool false) 1 1 Try.underlying25 hi hz0 hz1 hz2 rfl (by decide) (.slice a2 L.length c2) L.length (L.map tv01) rfl (hown2.alloc _) ⟨w2.heap.size, 0, none⟩ 2 2 [(.bool true), (.bool false)] rfl rfl (cell_two_new _ _ _ _) (by simp [Value.oneCell']) (by decide) (by unfold maxLen; omega) (by omega) (by rw [World.size_alloc]; exact Nat.le_succ_of_le hG2.size) _ rfl ?_; intro g3 cap3 w3 hown3 hg3 hat3 hlt3; have hE3 := HE.out _ _ _ hown3; have hi3 : (L.length : Int) ≤ (cap3 : Int) := by omega))
    go_ret
    refine ⟨_, rfl, hE3.2.2, gb_trans (gb_trans hG2 (World.grownBy_alloc _ _ _) (Or.inl rfl)) hg3 ?_⟩
    rcases e : (Value.slice a2 L.length c2).ownBlock with _ | b
    · exact Or.inl rfl
    · exact Or.inr (Or.inr ⟨b, rfl, (hown2.lt b e).1⟩)

set_option maxRecDepth 100000 in
set_option maxHeartbeats 1000000 in
theorem same_bools {w : World} {a b : Value} {L : List Bool} (ha : BoolsAt w a L) (hb : BoolsAt w b L) :
    Calls Try.prog 71 #[a, b] w fun e w' => e = .returned (.bool true) ∧ w.grownBy w' none := by
  have HA := Lib.hid ha
  have HB := Lib.hid hb
  obtain ⟨aa, ca, rfl, hca, _, _⟩ := ha
  obtain ⟨ab, cb, rfl, hcb, _, _⟩ := hb
  go_enter Try.func71, Try.ntmps71
  go_wp2_with fail
  go_loopw [5] (fun i wr => ∃ (k : Nat), k ≤ L.length ∧ i = .int .i64 (k : Int) ∧ w.grownBy wr none) (fun i _ => L.length - (intOf i).toNat)
  case atStart => exact ⟨0, by omega, rfl, gb_refl _ _⟩
  case round =>
    obtain ⟨k, hk, rfl, hG⟩ := hrel
    by_cases hlt : k < L.length
    · obtain ⟨_, _, hva, _, _, hma⟩ := HA.out.kept hG
      cases hva
      obtain ⟨_, _, hvb, _, _, hmb⟩ := HB.out.kept hG
      cases hvb
      rcases hma with rfl | ⟨b1, o1, rfl, hma⟩
      · exact absurd hlt (by simp)
      rcases hmb with rfl | ⟨b2, o2, rfl, hmb⟩
      · exact absurd hlt (by simp)
      have h1 := hma k hlt
      have h2 := hmb k hlt
      clear hma hmb
      generalize L.getD k false = x at h1 h2
      have hkI : (k : Int) < (L.length : Int) := by omega
      go_wp2_with fail
      go_quiet (fail)
      go_wp2
      go_roundw
      case rel => exact ⟨k + 1, by omega, by go_num, gb_trans hG (gb_drewN _ _ none) (Or.inl rfl)⟩
      case measure => simp [intOf]; omega
    · obtain rfl : k = L.length := by omega
      go_wp2_with fail
      go_ret
      exact ⟨rfl, hG⟩

set_option maxRecDepth 100000 in
set_option maxHeartbeats 1000000 in
theorem whole_bools {w : World} {Y : Nat} {x l : Value} {L : List Bool} (hx : LentBools w Y x L) (hl : BoolsAt w l L) :
    Calls Try.prog 42 #[x, l] w fun e w' => e = .returned (.bool true) ∧ w.grownBy w' none := by
  have hxa : BoolsAt w x L := by
    obtain ⟨_, _, _, _, hlen, _⟩ := hl
    exact hx.at hlen (fun _ _ => rfl)
  have HS := Lib.hid (same_bools hxa hl)
  have hlen : L.length ≤ 140737488351232 := by obtain ⟨_, _, _, _, hlen, _⟩ := hl; exact hlen
  obtain ⟨al, cl, nl, rfl⟩ : ∃ al cl nl, l = .slice al nl cl := by obtain ⟨al, cl, e, _⟩ := hl; exact ⟨al, cl, _, e⟩
  obtain ⟨g, cap, rfl, hc, hcm, hr⟩ := hx
  obtain ⟨_, h1, h2⟩ := (show LentBools w Y (.slice (some ⟨g, 0, none⟩) L.length cap) L from ⟨g, cap, rfl, hc, hcm, hr⟩).cells
  clear hr hl hxa
  have hcI : ¬ (cap : Int) < (L.length : Int) + 2 := by omega
  have hcJ : (L.length : Int) + 2 ≤ (cap : Int) := by omega
  have hcK : (cap : Int) ≤ 9223372036854775807 := by unfold maxLen at hcm; omega
  unfold tv01 at *
  go_enter Try.func42, Try.ntmps42
  go_wp2_with (go_at_call 71; refine HS.out.mono ?_; rintro e w1 ⟨rfl, hg1⟩)
  go_ret
  exact ⟨rfl, hg1⟩

/-- A list that is lent: two marks stand behind it. -/
def LentLetters (w : World) (Y : Nat) (v : Value) (L : List Nat) : Prop :=
  ∃ g cap, v = .slice (some ⟨g, 0, none⟩) L.length cap ∧ L.length + 2 ≤ cap ∧ cap ≤ maxLen ∧ w.ownsRow Y 55 1 (.slice (some ⟨g, 0, none⟩) (L.length + 2) cap) (L.length + 2) (L.map lv ++ [(.int .u16 60001), (.int .u16 60002)])
theorem LentLetters.kept {w w' : World} {Y : Nat} {v : Value} {L : List Nat} {row : Option Nat} (h : LentLetters w Y v L) (hg : w.grownBy w' row) (hne : v.ownBlock = none ∨ v.ownBlock ≠ row) : LentLetters w' Y v L := by
  obtain ⟨g, cap, rfl, h1, h2, h3⟩ := h
  exact ⟨g, cap, rfl, h1, h2, h3.kept hg hne⟩
theorem LentLetters.lt {w : World} {Y : Nat} {v : Value} {L : List Nat} (h : LentLetters w Y v L) : ∀ b, v.ownBlock = some b → Y ≤ b ∧ b < w.heap.size := by
  obtain ⟨g, cap, rfl, h1, h2, h3⟩ := h
  exact fun b hb => h3.lt b hb
theorem LentLetters.cells {w : World} {Y g n cap : Nat} {L : List Nat} (h : LentLetters w Y (.slice (some ⟨g, 0, none⟩) n cap) L) :
    (∀ k, k < L.length → w.cell? ⟨g, k, none⟩ = some (.int .u16 (((L.getD k 0) : Nat) : Int))) ∧ w.cell? ⟨g, L.length, none⟩ = some (.int .u16 60001) ∧ w.cell? ⟨g, L.length + 1, none⟩ = some (.int .u16 60002) := by
  obtain ⟨g', cap', hv, h1, h2, h3⟩ := h
  cases hv
  refine ⟨fun k hk => ?_, ?_, ?_⟩
  · rw [h3.cellAt k (by omega), List.getElem?_append_left (by rw [List.length_map]; exact hk), map_at lv L 0 k hk]; rfl
  · rw [h3.cellAt _ (by omega), List.getElem?_append_right (by rw [List.length_map]; exact Nat.le_refl _), List.length_map, Nat.sub_self]; rfl
  · rw [h3.cellAt _ (by omega), List.getElem?_append_right (by rw [List.length_map]; omega), List.length_map, Nat.add_sub_cancel_left]; rfl
theorem LentLetters.room {w : World} {Y : Nat} {v : Value} {L : List Nat} (h : LentLetters w Y v L) : ∃ g cap cur, v = .slice (some ⟨g, 0, none⟩) L.length cap ∧ w.heap[g]? = some (.cells cur 55 (0, 0)) ∧ cur.size = cap ∧ L.length ≤ cap ∧ cap ≤ maxLen ∧ Y ≤ g ∧ g < w.heap.size := by
  obtain ⟨g, cap, rfl, hc, hcm, hr⟩ := h
  have hl := hr.lt g rfl
  rcases hr.2 with ⟨h0, _⟩ | ⟨g', cap', cur, hv, hb, hg, hnc, hcm, hcs, htk⟩
  · cases h0
  · cases hv
    exact ⟨g, cap, cur, rfl, hg, by omega, by omega, hcm, hl⟩
theorem LentLetters.at {w : World} {Y : Nat} {v : Value} {L : List Nat} (h : LentLetters w Y v L) (hl : L.length ≤ 70368744175616) (hw : ∀ k, k < L.length → L.getD k 0 ≤ 65535) : LettersAt w v L := by
  obtain ⟨g, cap, rfl, h1, h2, h3⟩ := h
  have hc := (show LentLetters w Y (.slice (some ⟨g, 0, none⟩) L.length cap) L from ⟨g, cap, rfl, h1, h2, h3⟩).cells.1
  exact ⟨_, _, rfl, hw, by omega, Or.inr ⟨g, 0, rfl, fun k hk => by rw [Nat.zero_add]; exact hc k hk⟩⟩

set_option maxRecDepth 100000 in
set_option maxHeartbeats 1000000 in
theorem lent_letters {w : World} {v : Value} {L : List Nat} (hL : LettersAt w v L) (hs : L.length ≤ 1000000) :
    Calls Try.prog 11 #[v] w fun e w' => ∃ v', e = .returned v' ∧ LentLetters w' w.heap.size v' L ∧ w.grownBy w' none := by
  obtain ⟨i0, hi, hz0, hz1, hz2⟩ := info_parts Try.info55
  obtain ⟨a, cap, rfl, hwf, hlen, hc⟩ := hL

  have hend : ∀ (g cap : Nat) (w' : World), w'.ownsRow w.heap.size 55 1 (.slice (some ⟨g, 0, none⟩) (L.length + 2) cap) (L.length + 2) (L.map lv ++ [(.int .u16 60001), (.int .u16 60002)]) → L.length + 2 ≤ cap ∧ cap ≤ maxLen ∧ LentLetters w' w.heap.size (.slice (some ⟨g, 0, none⟩) L.length cap) L := fun g cap w' h => by
    rcases h.2 with ⟨h0, _⟩ | ⟨g', cap', cur, hv, hb, hg, hnc, hcm, hcs, htk⟩
    · cases h0
    · cases hv
      exact ⟨hnc, hcm, g, cap, rfl, hnc, hcm, h⟩
  have HE := Lib.hid hend
  clear hwf hend
  cases a with
  | none =>
    rcases hc with rfl | ⟨b, off, h, _⟩
    · go_enter Try.func11, Try.ntmps11
      go_wp2_with (first | (at_make; refine wpList_make_own _ rfl _ _ 28 rfl w.heap.size 55 i0 (.int .u16 0) 1 Try.underlying28 hi hz0 hz1 .i64 .i64 _ 2 rfl rfl (by decide) (by rw [hz2]; decide) (by decide) (Nat.le_refl _) ?_; intro w1 hown1 hg1) | (at_builtin; refine wpList_append_lies _ rfl (.tmp 11) (.tmp 12) 28 rfl w.heap.size 55 i0 (.int .u16 0) 1 2 Try.underlying28 hi hz0 hz1 hz2 rfl (by decide) (.slice (some ⟨w.heap.size, 0, none⟩) 0 2) 0 [] rfl (hown1.alloc _) ⟨w1.heap.size, 0, none⟩ 2 2 [(.int .u16 60001), (.int .u16 60002)] rfl rfl (cell_two_new _ _ _ _) (by simp [Value.oneCell']) (by decide) (by unfold maxLen; omega) (by omega) (by rw [World.size_alloc]; exact Nat.le_succ_of_le hg1.size) _ rfl ?_; intro g3 cap3 w3 hown3 hg3 hat3 hlt3; have hE3 := HE.out _ _ _ hown3; have hi3 : (0 : Int) ≤ (cap3 : Int) := by omega))
      go_ret
      refine ⟨_, rfl, hE3.2.2, gb_trans (gb_trans hg1 (World.grownBy_alloc _ _ _) (Or.inl rfl)) hg3 (Or.inr (Or.inr ⟨w.heap.size, rfl, Nat.le_refl _⟩))⟩
    · cases h
  | some ad =>
    have hnews : ∀ (w1 : World), w.grownBy w1 none → ∀ j u, (L.map lv)[j]? = some u → w1.cell? (ad.add j) = some u := fun w1 hg j u hu => by
      have hj : j < L.length := by simpa using (List.getElem?_eq_some_iff.1 hu).1
      rcases hc with rfl | ⟨b, off, h, hc⟩
      · simp at hj
      · cases h
        rw [Addr.add_lit, hg.cell (hc j hj) (by simp)]
        rw [map_at lv L 0 j hj] at hu
        rw [← hu]
        rfl
    have HN := Lib.hid hnews
    clear hnews hc
    go_enter Try.func11, Try.ntmps11
    go_wp2_with (first
      | (at_make; refine wpList_make_own _ rfl _ _ 28 rfl w.heap.size 55 i0 (.int .u16 0) 1 Try.underlying28 hi hz0 hz1 .i64 .i64 _ (L.length + 2) rfl rfl (by omega) (by rw [hz2]; omega) (by unfold maxLen; omega) (Nat.le_refl _) ?_; intro w1 hown1 hg1)
      | (at_builtin; refine wpList_append_own _ rfl (.tmp 8) (.tmp 9) 28 rfl w.heap.size 55 i0 (.int .u16 0) 1 2 Try.underlying28 hi hz0 hz1 hz2 rfl (by decide) _ _ _ rfl hown1 ad L.length cap (L.map lv) rfl (by simp) (HN.out _ hg1) (lv_one L) (by unfold maxLen; omega) (by omega) hg1.size ?_; intro v2 w2 hown2 hg2 hnil; have hG2 := gb_trans hg1 hg2 (Or.inr (Or.inr ⟨w.heap.size, rfl, Nat.le_refl _⟩)); rw [Nat.zero_add, List.nil_append] at hown2; obtain ⟨a2, c2, rfl⟩ := own_val hown2)
      | (at_builtin; refine wpList_append_lies _ rfl (.tmp 11) (.tmp 12) 28 rfl w.heap.size 55 i0 (.int .u16 0) 1 2 Try.underlying28 hi hz0 hz1 hz2 rfl (by decide) (.slice a2 L.length c2) L.length (L.map lv) rfl (hown2.alloc _) ⟨w2.heap.size, 0, none⟩ 2 2 [(.int .u16 60001), (.int .u16 60002)] rfl rfl (cell_two_new _ _ _ _) (by simp [Value.oneCell']) (by decide) (by unfold maxLen; omega) (by omega) (by rw [World.size_alloc]; exact Nat.le_succ_of_le hG2.size) _ rfl ?_; intro g3 cap3 w3 hown3 hg3 hat3 hlt3; have hE3 := HE.out _ _ _ hown3; have hi3 : (L.length : Int) ≤ (cap3 : Int) := by omega))
    go_ret
    refine ⟨_, rfl, hE3.2.2, gb_trans (gb_trans hG2 (World.grownBy_alloc _ _ _) (Or.inl rfl)) hg3 ?_⟩
    rcases e : (Value.slice a2 L.length c2).ownBlock with _ | b
    · exact Or.inl rfl
    · exact Or.inr (Or.inr ⟨b, rfl, (hown2.lt b e).1⟩)

set_option maxRecDepth 100000 in
set_option maxHeartbeats 1000000 in
theorem same_letters {w : World} {a b : Value} {L : List Nat} (ha : LettersAt w a L) (hb : LettersAt w b L) :
    Calls Try.prog 43 #[a, b] w fun e w' => e = .returned (.bool true) ∧ w.grownBy w' none := by
  have HA := Lib.hid ha
  have HB := Lib.hid hb
  obtain ⟨aa, ca, rfl, _, _, _⟩ := ha
  obtain ⟨ab, cb, rfl, _, _, _⟩ := hb
  go_enter Try.func43, Try.ntmps43
  go_wp2_with fail
  go_loopw [5] (fun i wr => ∃ (k : Nat), k ≤ L.length ∧ i = .int .i64 (k : Int) ∧ w.grownBy wr none) (fun i _ => L.length - (intOf i).toNat)
  case atStart => exact ⟨0, by omega, rfl, gb_refl _ _⟩
  case round =>
    obtain ⟨k, hk, rfl, hG⟩ := hrel
    by_cases hlt : k < L.length
    · obtain ⟨_, _, hva, _, _, hma⟩ := HA.out.kept hG
      cases hva
      obtain ⟨_, _, hvb, _, _, hmb⟩ := HB.out.kept hG
      cases hvb
      rcases hma with rfl | ⟨b1, o1, rfl, hma⟩
      · exact absurd hlt (by simp)
      rcases hmb with rfl | ⟨b2, o2, rfl, hmb⟩
      · exact absurd hlt (by simp)
      have h1 := hma k hlt
      have h2 := hmb k hlt
      clear hma hmb
      generalize L.getD k 0 = x at h1 h2
      have hkI : (k : Int) < (L.length : Int) := by omega
      go_wp2_with fail
      go_quiet (fail)
      go_wp2
      go_roundw
      case rel => exact ⟨k + 1, by omega, by go_num, gb_trans hG (gb_drewN _ _ none) (Or.inl rfl)⟩
      case measure => simp [intOf]; omega
    · obtain rfl : k = L.length := by omega
      go_wp2_with fail
      go_ret
      exact ⟨rfl, hG⟩

set_option maxRecDepth 100000 in
set_option maxHeartbeats 1000000 in
theorem whole_letters {w : World} {Y : Nat} {x l : Value} {L : List Nat} (hx : LentLetters w Y x L) (hl : LettersAt w l L) :
    Calls Try.prog 16 #[x, l] w fun e w' => e = .returned (.bool true) ∧ w.grownBy w' none := by
  have hxa : LettersAt w x L := by
    obtain ⟨_, _, _, hwf, hlen, _⟩ := hl
    exact hx.at hlen hwf
  have HS := Lib.hid (same_letters hxa hl)
  have hlen : L.length ≤ 70368744175616 := by obtain ⟨_, _, _, hwf, hlen, _⟩ := hl; exact hlen
  obtain ⟨al, cl, nl, rfl⟩ : ∃ al cl nl, l = .slice al nl cl := by obtain ⟨al, cl, e, _⟩ := hl; exact ⟨al, cl, _, e⟩
  obtain ⟨g, cap, rfl, hc, hcm, hr⟩ := hx
  obtain ⟨_, h1, h2⟩ := (show LentLetters w Y (.slice (some ⟨g, 0, none⟩) L.length cap) L from ⟨g, cap, rfl, hc, hcm, hr⟩).cells
  clear hr hl hxa
  have hcI : ¬ (cap : Int) < (L.length : Int) + 2 := by omega
  have hcJ : (L.length : Int) + 2 ≤ (cap : Int) := by omega
  have hcK : (cap : Int) ≤ 9223372036854775807 := by unfold maxLen at hcm; omega
  unfold lv at *
  go_enter Try.func16, Try.ntmps16
  go_wp2_with (go_at_call 43; refine HS.out.mono ?_; rintro e w1 ⟨rfl, hg1⟩)
  go_ret
  exact ⟨rfl, hg1⟩

end Go.Proofs.Ytcdepblajobemaa
