/- Lists that are lent: texts, numbers. -/
import Derived.Test.YtcdepblajobemaaBuilds07
set_option maxRecDepth 100000
namespace Go.Proofs.Ytcdepblajobemaa
open Go.RowKit

theorem iv_one (L : List Int) : ∀ u ∈ L.map iv, u.oneCell' = true := by
  intro u hu
  obtain ⟨x, _, rfl⟩ := List.mem_map.1 hu
  rfl
theorem map_at {α β : Type} (f : α → β) (L : List α) (d : α) (k : Nat) (hk : k < L.length) : (L.map f)[k]? = some (f (L.getD k d)) := by
  rw [List.getElem?_map, List.getElem?_eq_getElem hk, List.getD_eq_getElem?_getD, List.getElem?_eq_getElem hk]; rfl
/-- A list of two, laid out. -/
theorem cell_two_new (w : World) (x y : Value) (t : TypeId) : ∀ j u, [x, y][j]? = some u → (w.alloc (.cells #[x, y] t)).cell? ((⟨w.heap.size, 0, none⟩ : Addr).add j) = some u :=
  World.news_of_block (cs := #[x, y]) (t := t) (fr := (0, 0)) (heap_alloc_new w _)

/-- A list that is lent: two marks stand behind it. -/
def LentTexts (w : World) (Y : Nat) (v : Value) (L : List ByteArray) : Prop :=
  ∃ g cap, v = .slice (some ⟨g, 0, none⟩) L.length cap ∧ L.length + 2 ≤ cap ∧ cap ≤ maxLen ∧ w.ownsRow Y 9 1 (.slice (some ⟨g, 0, none⟩) (L.length + 2) cap) (L.length + 2) (L.map sv ++ [(.string ⟨#[116, 104, 101, 32, 111, 119, 110, 101, 114, 39, 115]⟩), (.string ⟨#[116, 104, 101, 32, 111, 119, 110, 101, 114, 39, 115]⟩)])
theorem LentTexts.kept {w w' : World} {Y : Nat} {v : Value} {L : List ByteArray} {row : Option Nat} (h : LentTexts w Y v L) (hg : w.grownBy w' row) (hne : v.ownBlock = none ∨ v.ownBlock ≠ row) : LentTexts w' Y v L := by
  obtain ⟨g, cap, rfl, h1, h2, h3⟩ := h
  exact ⟨g, cap, rfl, h1, h2, h3.kept hg hne⟩
theorem LentTexts.lt {w : World} {Y : Nat} {v : Value} {L : List ByteArray} (h : LentTexts w Y v L) : ∀ b, v.ownBlock = some b → Y ≤ b ∧ b < w.heap.size := by
  obtain ⟨g, cap, rfl, h1, h2, h3⟩ := h
  exact fun b hb => h3.lt b hb
theorem LentTexts.cells {w : World} {Y g n cap : Nat} {L : List ByteArray} (h : LentTexts w Y (.slice (some ⟨g, 0, none⟩) n cap) L) :
    (∀ k, k < L.length → w.cell? ⟨g, k, none⟩ = some (.string (L.getD k ⟨#[]⟩))) ∧ w.cell? ⟨g, L.length, none⟩ = some (.string ⟨#[116, 104, 101, 32, 111, 119, 110, 101, 114, 39, 115]⟩) ∧ w.cell? ⟨g, L.length + 1, none⟩ = some (.string ⟨#[116, 104, 101, 32, 111, 119, 110, 101, 114, 39, 115]⟩) := by
  obtain ⟨g', cap', hv, h1, h2, h3⟩ := h
  cases hv
  refine ⟨fun k hk => ?_, ?_, ?_⟩
  · rw [h3.cellAt k (by omega), List.getElem?_append_left (by rw [List.length_map]; exact hk), map_at sv L ⟨#[]⟩ k hk]; rfl
  · rw [h3.cellAt _ (by omega), List.getElem?_append_right (by rw [List.length_map]; exact Nat.le_refl _), List.length_map, Nat.sub_self]; rfl
  · rw [h3.cellAt _ (by omega), List.getElem?_append_right (by rw [List.length_map]; omega), List.length_map, Nat.add_sub_cancel_left]; rfl
theorem LentTexts.room {w : World} {Y : Nat} {v : Value} {L : List ByteArray} (h : LentTexts w Y v L) : ∃ g cap cur, v = .slice (some ⟨g, 0, none⟩) L.length cap ∧ w.heap[g]? = some (.cells cur 9 (0, 0)) ∧ cur.size = cap ∧ L.length ≤ cap ∧ cap ≤ maxLen ∧ Y ≤ g ∧ g < w.heap.size := by
  obtain ⟨g, cap, rfl, hc, hcm, hr⟩ := h
  have hl := hr.lt g rfl
  rcases hr.2 with ⟨h0, _⟩ | ⟨g', cap', cur, hv, hb, hg, hnc, hcm, hcs, htk⟩
  · cases h0
  · cases hv
    exact ⟨g, cap, cur, rfl, hg, by omega, by omega, hcm, hl⟩
theorem LentTexts.at {w : World} {Y : Nat} {v : Value} {L : List ByteArray} (h : LentTexts w Y v L) (hl : L.length ≤ 17592186043904) (hw : ∀ k, k < L.length → (L.getD k ⟨#[]⟩).size ≤ maxLen) : TextsAt w v L := by
  obtain ⟨g, cap, rfl, h1, h2, h3⟩ := h
  have hc := (show LentTexts w Y (.slice (some ⟨g, 0, none⟩) L.length cap) L from ⟨g, cap, rfl, h1, h2, h3⟩).cells.1
  exact ⟨_, _, rfl, by omega, by omega, hw, Or.inr ⟨g, 0, rfl, fun k hk => by rw [Nat.zero_add]; exact hc k hk⟩⟩

set_option maxRecDepth 100000 in
set_option maxHeartbeats 1000000 in
theorem lent_texts {w : World} {v : Value} {L : List ByteArray} (hL : TextsAt w v L) (hs : L.length ≤ 1000000) :
    Calls Try.prog 34 #[v] w fun e w' => ∃ v', e = .returned v' ∧ LentTexts w' w.heap.size v' L ∧ w.grownBy w' none := by
  obtain ⟨i0, hi, hz0, hz1, hz2⟩ := info_parts Try.info9
  obtain ⟨a, cap, rfl, hcap, hlen, hwf, hc⟩ := hL

  have hend : ∀ (g cap : Nat) (w' : World), w'.ownsRow w.heap.size 9 1 (.slice (some ⟨g, 0, none⟩) (L.length + 2) cap) (L.length + 2) (L.map sv ++ [(.string ⟨#[116, 104, 101, 32, 111, 119, 110, 101, 114, 39, 115]⟩), (.string ⟨#[116, 104, 101, 32, 111, 119, 110, 101, 114, 39, 115]⟩)]) → L.length + 2 ≤ cap ∧ cap ≤ maxLen ∧ LentTexts w' w.heap.size (.slice (some ⟨g, 0, none⟩) L.length cap) L := fun g cap w' h => by
    rcases h.2 with ⟨h0, _⟩ | ⟨g', cap', cur, hv, hb, hg, hnc, hcm, hcs, htk⟩
    · cases h0
    · cases hv
      exact ⟨hnc, hcm, g, cap, rfl, hnc, hcm, h⟩
  have HE := Lib.hid hend
  clear hwf hend
  cases a with
  | none =>
    rcases hc with rfl | ⟨b, off, h, _⟩
    · go_enter Try.func34, Try.ntmps34
      go_wp2_with (first | (at_make; refine wpList_make_own _ rfl _ _ 23 rfl w.heap.size 9 i0 (.string ⟨#[]⟩) 1 Try.underlying23 hi hz0 hz1 .i64 .i64 _ 2 rfl rfl (by decide) (by rw [hz2]; decide) (by decide) (Nat.le_refl _) ?_; intro w1 hown1 hg1) | (at_builtin; refine wpList_append_lies _ rfl (.tmp 11) (.tmp 12) 23 rfl w.heap.size 9 i0 (.string ⟨#[]⟩) 1 16 Try.underlying23 hi hz0 hz1 hz2 rfl (by decide) (.slice (some ⟨w.heap.size, 0, none⟩) 0 2) 0 [] rfl (hown1.alloc _) ⟨w1.heap.size, 0, none⟩ 2 2 [(.string ⟨#[116, 104, 101, 32, 111, 119, 110, 101, 114, 39, 115]⟩), (.string ⟨#[116, 104, 101, 32, 111, 119, 110, 101, 114, 39, 115]⟩)] rfl rfl (cell_two_new _ _ _ _) (by simp [Value.oneCell']) (by decide) (by unfold maxLen; omega) (by omega) (by rw [World.size_alloc]; exact Nat.le_succ_of_le hg1.size) _ rfl ?_; intro g3 cap3 w3 hown3 hg3 hat3 hlt3; have hE3 := HE.out _ _ _ hown3; have hi3 : (0 : Int) ≤ (cap3 : Int) := by omega))
      go_ret
      refine ⟨_, rfl, hE3.2.2, gb_trans (gb_trans hg1 (World.grownBy_alloc _ _ _) (Or.inl rfl)) hg3 (Or.inr (Or.inr ⟨w.heap.size, rfl, Nat.le_refl _⟩))⟩
    · cases h
  | some ad =>
    have hnews : ∀ (w1 : World), w.grownBy w1 none → ∀ j u, (L.map sv)[j]? = some u → w1.cell? (ad.add j) = some u := fun w1 hg j u hu => by
      have hj : j < L.length := by simpa using (List.getElem?_eq_some_iff.1 hu).1
      rcases hc with rfl | ⟨b, off, h, hc⟩
      · simp at hj
      · cases h
        rw [Addr.add_lit, hg.cell (hc j hj) (by simp)]
        rw [map_at sv L ⟨#[]⟩ j hj] at hu
        rw [← hu]
        rfl
    have HN := Lib.hid hnews
    clear hnews hc
    go_enter Try.func34, Try.ntmps34
    go_wp2_with (first
      | (at_make; refine wpList_make_own _ rfl _ _ 23 rfl w.heap.size 9 i0 (.string ⟨#[]⟩) 1 Try.underlying23 hi hz0 hz1 .i64 .i64 _ (L.length + 2) rfl rfl (by omega) (by rw [hz2]; omega) (by unfold maxLen; omega) (Nat.le_refl _) ?_; intro w1 hown1 hg1)
      | (at_builtin; refine wpList_append_own _ rfl (.tmp 8) (.tmp 9) 23 rfl w.heap.size 9 i0 (.string ⟨#[]⟩) 1 16 Try.underlying23 hi hz0 hz1 hz2 rfl (by decide) _ _ _ rfl hown1 ad L.length cap (L.map sv) rfl (by simp) (HN.out _ hg1) (sv_one L) (by unfold maxLen; omega) (by omega) hg1.size ?_; intro v2 w2 hown2 hg2 hnil; have hG2 := gb_trans hg1 hg2 (Or.inr (Or.inr ⟨w.heap.size, rfl, Nat.le_refl _⟩)); rw [Nat.zero_add, List.nil_append] at hown2; obtain ⟨a2, c2, rfl⟩ := own_val hown2)
      | (at_builtin; refine wpList_append_lies _ rfl (.tmp 11) (.tmp 12) 23 rfl w.heap.size 9 i0 (.string ⟨#[]⟩) 1 16 Try.underlying23 hi hz0 hz1 hz2 rfl (by decide) (.slice a2 L.length c2) L.length (L.map sv) rfl (hown2.alloc _) ⟨w2.heap.size, 0, none⟩ 2 2 [(.string ⟨#[116, 104, 101, 32, 111, 119, 110, 101, 114, 39, 115]⟩), (.string ⟨#[116, 104, 101, 32, 111, 119, 110, 101, 114, 39, 115]⟩)] rfl rfl (cell_two_new _ _ _ _) (by simp [Value.oneCell']) (by decide) (by unfold maxLen; omega) (by omega) (by rw [World.size_alloc]; exact Nat.le_succ_of_le hG2.size) _ rfl ?_; intro g3 cap3 w3 hown3 hg3 hat3 hlt3; have hE3 := HE.out _ _ _ hown3; have hi3 : (L.length : Int) ≤ (cap3 : Int) := by omega))
    go_ret
    refine ⟨_, rfl, hE3.2.2, gb_trans (gb_trans hG2 (World.grownBy_alloc _ _ _) (Or.inl rfl)) hg3 ?_⟩
    rcases e : (Value.slice a2 L.length c2).ownBlock with _ | b
    · exact Or.inl rfl
    · exact Or.inr (Or.inr ⟨b, rfl, (hown2.lt b e).1⟩)

set_option maxRecDepth 100000 in
set_option maxHeartbeats 1000000 in
theorem same_texts {w : World} {a b : Value} {L : List ByteArray} (ha : TextsAt w a L) (hb : TextsAt w b L) :
    Calls Try.prog 69 #[a, b] w fun e w' => e = .returned (.bool true) ∧ w.grownBy w' none := by
  have HA := Lib.hid ha
  have HB := Lib.hid hb
  obtain ⟨aa, ca, rfl, hca, _, _, _⟩ := ha
  obtain ⟨ab, cb, rfl, hcb, _, _, _⟩ := hb
  go_enter Try.func69, Try.ntmps69
  go_wp2_with fail
  go_loopw [5] (fun i wr => ∃ (k : Nat), k ≤ L.length ∧ i = .int .i64 (k : Int) ∧ w.grownBy wr none) (fun i _ => L.length - (intOf i).toNat)
  case atStart => exact ⟨0, by omega, rfl, gb_refl _ _⟩
  case round =>
    obtain ⟨k, hk, rfl, hG⟩ := hrel
    by_cases hlt : k < L.length
    · obtain ⟨_, _, hva, _, _, _, hma⟩ := HA.out.kept hG
      cases hva
      obtain ⟨_, _, hvb, _, _, _, hmb⟩ := HB.out.kept hG
      cases hvb
      rcases hma with rfl | ⟨b1, o1, rfl, hma⟩
      · exact absurd hlt (by simp)
      rcases hmb with rfl | ⟨b2, o2, rfl, hmb⟩
      · exact absurd hlt (by simp)
      have h1 := hma k hlt
      have h2 := hmb k hlt
      clear hma hmb
      generalize L.getD k ⟨#[]⟩ = x at h1 h2
      have hkI : (k : Int) < (L.length : Int) := by omega
      go_wp2_with fail
      go_quiet (fail)
      go_wp2
      go_roundw
      case rel => exact ⟨k + 1, by omega, by go_num, gb_trans hG (gb_drewN _ _ none) (Or.inl rfl)⟩
      case measure => simp [intOf]; omega
    · obtain rfl : k = L.length := by omega
      go_wp2_with fail
      go_ret
      exact ⟨rfl, hG⟩

set_option maxRecDepth 100000 in
set_option maxHeartbeats 1000000 in
theorem whole_texts {w : World} {Y : Nat} {x l : Value} {L : List ByteArray} (hx : LentTexts w Y x L) (hl : TextsAt w l L) :
    Calls Try.prog 40 #[x, l] w fun e w' => e = .returned (.bool true) ∧ w.grownBy w' none := by
  have hxa : TextsAt w x L := by
    obtain ⟨_, _, _, _, hlen, hwf, _⟩ := hl
    exact hx.at hlen hwf
  have HS := Lib.hid (same_texts hxa hl)
  have hlen : L.length ≤ 17592186043904 := by obtain ⟨_, _, _, _, hlen, hwf, _⟩ := hl; exact hlen
  obtain ⟨al, cl, nl, rfl⟩ : ∃ al cl nl, l = .slice al nl cl := by obtain ⟨al, cl, e, _⟩ := hl; exact ⟨al, cl, _, e⟩
  obtain ⟨g, cap, rfl, hc, hcm, hr⟩ := hx
  obtain ⟨_, h1, h2⟩ := (show LentTexts w Y (.slice (some ⟨g, 0, none⟩) L.length cap) L from ⟨g, cap, rfl, hc, hcm, hr⟩).cells
  clear hr hl hxa
  have hcI : ¬ (cap : Int) < (L.length : Int) + 2 := by omega
  have hcJ : (L.length : Int) + 2 ≤ (cap : Int) := by omega
  have hcK : (cap : Int) ≤ 9223372036854775807 := by unfold maxLen at hcm; omega
  unfold maxLen at *
  go_enter Try.func40, Try.ntmps40
  go_wp2_with (go_at_call 69; refine HS.out.mono ?_; rintro e w1 ⟨rfl, hg1⟩)
  go_ret
  exact ⟨rfl, hg1⟩

set_option maxRecDepth 100000 in
set_option maxHeartbeats 1000000 in
theorem spoil_texts {w : World} {g n cap : Nat} {cur : Array Value} (hgb : w.heap[g]? = some (.cells cur 9 (0, 0))) (hsz : cur.size = cap) (hc : n ≤ cap) (hcm : cap ≤ maxLen) :
    Calls Try.prog 72 #[.slice (some ⟨g, 0, none⟩) n cap] w fun e w' => e = .returned (.tuple #[]) ∧ w.grownBy w' (some g) ∧ (∃ cur', w'.heap[g]? = some (.cells cur' 9 (0, 0)) ∧ cur'.size = cap) ∧ (n ≤ 17592186043904 → TextsAt w' (.slice (some ⟨g, 0, none⟩) n cap) (List.replicate n (⟨#[115, 112, 111, 105, 108, 116]⟩ : ByteArray))) := by
  have hcK : (cap : Int) ≤ 9223372036854775807 := by unfold maxLen at hcm; omega
  have hcN : cap ≤ 9223372036854775807 := by omega
  clear hcm
  go_enter Try.func72, Try.ntmps72
  go_wp2_with fail
  go_loopw [3] (fun i wr => ∃ (k : Nat) (c : Array Value), k ≤ cap ∧ i = .int .i64 (k : Int) ∧ wr.heap[g]? = some (.cells c 9 (0, 0)) ∧ c.size = cap ∧ (∀ j, j < k → c[j]? = some (.string ⟨#[115, 112, 111, 105, 108, 116]⟩)) ∧ w.grownBy wr (some g)) (fun i _ => cap - (intOf i).toNat)
  case atStart => exact ⟨0, cur, by omega, rfl, hgb, hsz, fun j hj => absurd hj (Nat.not_lt_zero _), gb_refl _ _⟩
  case round =>
    obtain ⟨k, c, hk, rfl, hb, hcs, hdone, hG⟩ := hrel
    by_cases hlt : k < cap
    · have hcell : wr.cell? ⟨g, k, none⟩ = some (c[k]'(by omega)) := by simp [World.cell?, hb, hcs, hlt]
      have hfz : wr.frozen? ⟨g, k, none⟩ = false := by simp [World.frozen?, hb]
      have HSet : Hid ((wr.setCell ⟨g, k, none⟩ (.string ⟨#[115, 112, 111, 105, 108, 116]⟩)).heap[g]? = some (.cells (c.setIfInBounds k (.string ⟨#[115, 112, 111, 105, 108, 116]⟩)) 9 (0, 0))) := Lib.hid (by simp only [World.setCell, Array.getElem?_modify, hb]; simp)
      have HD := Lib.hid hdone
      generalize c[k]'(by omega) = old at hcell
      have hkI : (k : Int) < (cap : Int) := by omega
      clear hb hdone hgb hsz
      go_wp2_with fail
      go_roundw
      case rel =>
        refine ⟨k + 1, _, by omega, by go_num, HSet.out, by simpa using hcs, fun j hj => ?_, gb_trans hG gb_set (Or.inr (Or.inl rfl))⟩
        rw [Array.getElem?_setIfInBounds]
        by_cases e : k = j
        · subst e; rw [if_pos rfl, if_pos (by omega)]
        · rw [if_neg e]; exact HD.out j (by omega)
      case measure => simp [intOf]; omega
    · obtain rfl : k = cap := by omega
      have HEnd : Hid (n ≤ 17592186043904 → TextsAt wr (.slice (some ⟨g, 0, none⟩) n k) (List.replicate n (⟨#[115, 112, 111, 105, 108, 116]⟩ : ByteArray))) := Lib.hid fun hlen => by
        have hw : ∀ k, k < (List.replicate n (⟨#[115, 112, 111, 105, 108, 116]⟩ : ByteArray)).length → ((List.replicate n (⟨#[115, 112, 111, 105, 108, 116]⟩ : ByteArray)).getD k ⟨#[]⟩).size ≤ maxLen := fun j hj => by
          rw [List.length_replicate] at hj
          rw [List.getD_eq_getElem?_getD, List.getElem?_replicate, if_pos hj]
          decide
        have hcl : ∀ j, j < (List.replicate n (⟨#[115, 112, 111, 105, 108, 116]⟩ : ByteArray)).length → wr.cell? ⟨g, j, none⟩ = some (.string ((List.replicate n (⟨#[115, 112, 111, 105, 108, 116]⟩ : ByteArray)).getD j ⟨#[]⟩)) := fun j hj => by
          rw [List.length_replicate] at hj
          rw [List.getD_eq_getElem?_getD, List.getElem?_replicate, if_pos hj]
          have := hdone j (by omega)
          simp only [World.cell?, hb]
          exact this
        have hn : (List.replicate n (⟨#[115, 112, 111, 105, 108, 116]⟩ : ByteArray)).length = n := List.length_replicate
        exact ⟨_, _, by rw [hn], by rw [hn]; omega, by rw [hn]; exact hlen, hw, Or.inr ⟨g, 0, rfl, fun j hj => by rw [Nat.zero_add]; exact hcl j hj⟩⟩
      have HCur : Hid (∃ cur', wr.heap[g]? = some (.cells cur' 9 (0, 0)) ∧ cur'.size = k) := Lib.hid ⟨c, hb, hcs⟩
      clear hb hdone hgb
      go_wp2_with fail
      all_goals go_end0
      all_goals exact ⟨rfl, hG, HCur.out, HEnd.out⟩
/-- A list that is lent: two marks stand behind it. -/
def LentInts (w : World) (Y : Nat) (v : Value) (L : List Int) : Prop :=
  ∃ g cap, v = .slice (some ⟨g, 0, none⟩) L.length cap ∧ L.length + 2 ≤ cap ∧ cap ≤ maxLen ∧ w.ownsRow Y 3 1 (.slice (some ⟨g, 0, none⟩) (L.length + 2) cap) (L.length + 2) (L.map iv ++ [(.int .i64 (-771)), (.int .i64 (-772))])
theorem LentInts.kept {w w' : World} {Y : Nat} {v : Value} {L : List Int} {row : Option Nat} (h : LentInts w Y v L) (hg : w.grownBy w' row) (hne : v.ownBlock = none ∨ v.ownBlock ≠ row) : LentInts w' Y v L := by
  obtain ⟨g, cap, rfl, h1, h2, h3⟩ := h
  exact ⟨g, cap, rfl, h1, h2, h3.kept hg hne⟩
theorem LentInts.lt {w : World} {Y : Nat} {v : Value} {L : List Int} (h : LentInts w Y v L) : ∀ b, v.ownBlock = some b → Y ≤ b ∧ b < w.heap.size := by
  obtain ⟨g, cap, rfl, h1, h2, h3⟩ := h
  exact fun b hb => h3.lt b hb
theorem LentInts.cells {w : World} {Y g n cap : Nat} {L : List Int} (h : LentInts w Y (.slice (some ⟨g, 0, none⟩) n cap) L) :
    (∀ k, k < L.length → w.cell? ⟨g, k, none⟩ = some (.int .i64 (L.getD k 0))) ∧ w.cell? ⟨g, L.length, none⟩ = some (.int .i64 (-771)) ∧ w.cell? ⟨g, L.length + 1, none⟩ = some (.int .i64 (-772)) := by
  obtain ⟨g', cap', hv, h1, h2, h3⟩ := h
  cases hv
  refine ⟨fun k hk => ?_, ?_, ?_⟩
  · rw [h3.cellAt k (by omega), List.getElem?_append_left (by rw [List.length_map]; exact hk), map_at iv L 0 k hk]; rfl
  · rw [h3.cellAt _ (by omega), List.getElem?_append_right (by rw [List.length_map]; exact Nat.le_refl _), List.length_map, Nat.sub_self]; rfl
  · rw [h3.cellAt _ (by omega), List.getElem?_append_right (by rw [List.length_map]; omega), List.length_map, Nat.add_sub_cancel_left]; rfl
theorem LentInts.room {w : World} {Y : Nat} {v : Value} {L : List Int} (h : LentInts w Y v L) : ∃ g cap cur, v = .slice (some ⟨g, 0, none⟩) L.length cap ∧ w.heap[g]? = some (.cells cur 3 (0, 0)) ∧ cur.size = cap ∧ L.length ≤ cap ∧ cap ≤ maxLen ∧ Y ≤ g ∧ g < w.heap.size := by
  obtain ⟨g, cap, rfl, hc, hcm, hr⟩ := h
  have hl := hr.lt g rfl
  rcases hr.2 with ⟨h0, _⟩ | ⟨g', cap', cur, hv, hb, hg, hnc, hcm, hcs, htk⟩
  · cases h0
  · cases hv
    exact ⟨g, cap, cur, rfl, hg, by omega, by omega, hcm, hl⟩
theorem LentInts.at {w : World} {Y : Nat} {v : Value} {L : List Int} (h : LentInts w Y v L) (hl : L.length ≤ 17592186043904) (hw : ∀ k, k < L.length → -9223372036854775808 ≤ L.getD k 0 ∧ L.getD k 0 ≤ 9223372036854775807) : IntsAt w v L := by
  obtain ⟨g, cap, rfl, h1, h2, h3⟩ := h
  have hc := (show LentInts w Y (.slice (some ⟨g, 0, none⟩) L.length cap) L from ⟨g, cap, rfl, h1, h2, h3⟩).cells.1
  exact ⟨_, _, rfl, hw, by omega, Or.inr ⟨g, 0, rfl, fun k hk => by rw [Nat.zero_add]; exact hc k hk⟩⟩

set_option maxRecDepth 100000 in
set_option maxHeartbeats 1000000 in
theorem lent_ints {w : World} {v : Value} {L : List Int} (hL : IntsAt w v L) (hs : L.length ≤ 1000000) :
    Calls Try.prog 59 #[v] w fun e w' => ∃ v', e = .returned v' ∧ LentInts w' w.heap.size v' L ∧ w.grownBy w' none := by
  obtain ⟨i0, hi, hz0, hz1, hz2⟩ := info_parts Try.info3
  obtain ⟨a, cap, rfl, hwf, hlen, hc⟩ := hL

  have hend : ∀ (g cap : Nat) (w' : World), w'.ownsRow w.heap.size 3 1 (.slice (some ⟨g, 0, none⟩) (L.length + 2) cap) (L.length + 2) (L.map iv ++ [(.int .i64 (-771)), (.int .i64 (-772))]) → L.length + 2 ≤ cap ∧ cap ≤ maxLen ∧ LentInts w' w.heap.size (.slice (some ⟨g, 0, none⟩) L.length cap) L := fun g cap w' h => by
    rcases h.2 with ⟨h0, _⟩ | ⟨g', cap', cur, hv, hb, hg, hnc, hcm, hcs, htk⟩
    · cases h0
    · cases hv
      exact ⟨hnc, hcm, g, cap, rfl, hnc, hcm, h⟩
  have HE := Lib.hid hend
  clear hwf hend
  cases a with
  | none =>
    rcases hc with rfl | ⟨b, off, h, _⟩
    · go_enter Try.func59, Try.ntmps59
      go_wp2_with (first | (at_make; refine wpList_make_own _ rfl _ _ 43 rfl w.heap.size 3 i0 (.int .i64 0) 1 Try.underlying43 hi hz0 hz1 .i64 .i64 _ 2 rfl rfl (by decide) (by rw [hz2]; decide) (by decide) (Nat.le_refl _) ?_; intro w1 hown1 hg1) | (at_builtin; refine wpList_append_lies _ rfl (.tmp 11) (.tmp 12) 43 rfl w.heap.size 3 i0 (.int .i64 0) 1 8 Try.underlying43 hi hz0 hz1 hz2 rfl (by decide) (.slice (some ⟨w.heap.size, 0, none⟩) 0 2) 0 [] rfl (hown1.alloc _) ⟨w1.heap.size, 0, none⟩ 2 2 [(.int .i64 (-771)), (.int .i64 (-772))] rfl rfl (cell_two_new _ _ _ _) (by simp [Value.oneCell']) (by decide) (by unfold maxLen; omega) (by omega) (by rw [World.size_alloc]; exact Nat.le_succ_of_le hg1.size) _ rfl ?_; intro g3 cap3 w3 hown3 hg3 hat3 hlt3; have hE3 := HE.out _ _ _ hown3; have hi3 : (0 : Int) ≤ (cap3 : Int) := by omega))
      go_ret
      refine ⟨_, rfl, hE3.2.2, gb_trans (gb_trans hg1 (World.grownBy_alloc _ _ _) (Or.inl rfl)) hg3 (Or.inr (Or.inr ⟨w.heap.size, rfl, Nat.le_refl _⟩))⟩
    · cases h
  | some ad =>
    have hnews : ∀ (w1 : World), w.grownBy w1 none → ∀ j u, (L.map iv)[j]? = some u → w1.cell? (ad.add j) = some u := fun w1 hg j u hu => by
      have hj : j < L.length := by simpa using (List.getElem?_eq_some_iff.1 hu).1
      rcases hc with rfl | ⟨b, off, h, hc⟩
      · simp at hj
      · cases h
        rw [Addr.add_lit, hg.cell (hc j hj) (by simp)]
        rw [map_at iv L 0 j hj] at hu
        rw [← hu]
        rfl
    have HN := Lib.hid hnews
    clear hnews hc
    go_enter Try.func59, Try.ntmps59
    go_wp2_with (first
      | (at_make; refine wpList_make_own _ rfl _ _ 43 rfl w.heap.size 3 i0 (.int .i64 0) 1 Try.underlying43 hi hz0 hz1 .i64 .i64 _ (L.length + 2) rfl rfl (by omega) (by rw [hz2]; omega) (by unfold maxLen; omega) (Nat.le_refl _) ?_; intro w1 hown1 hg1)
      | (at_builtin; refine wpList_append_own _ rfl (.tmp 8) (.tmp 9) 43 rfl w.heap.size 3 i0 (.int .i64 0) 1 8 Try.underlying43 hi hz0 hz1 hz2 rfl (by decide) _ _ _ rfl hown1 ad L.length cap (L.map iv) rfl (by simp) (HN.out _ hg1) (iv_one L) (by unfold maxLen; omega) (by omega) hg1.size ?_; intro v2 w2 hown2 hg2 hnil; have hG2 := gb_trans hg1 hg2 (Or.inr (Or.inr ⟨w.heap.size, rfl, Nat.le_refl _⟩)); rw [Nat.zero_add, List.nil_append] at hown2; obtain ⟨a2, c2, rfl⟩ := own_val hown2)
      | (at_builtin; refine wpList_append_lies _ rfl (.tmp 11) (.tmp 12) 43 rfl w.heap.size 3 i0 (.int .i64 0) 1 8 Try.underlying43 hi hz0 hz1 hz2 rfl (by decide) (.slice a2 L.length c2) L.length (L.map iv) rfl (hown2.alloc _) ⟨w2.heap.size, 0, none⟩ 2 2 [(.int .i64 (-771)), (.int .i64 (-772))] rfl rfl (cell_two_new _ _ _ _) (by simp [Value.oneCell']) (by decide) (by unfold maxLen; omega) (by omega) (by rw [World.size_alloc]; exact Nat.le_succ_of_le hG2.size) _ rfl ?_; intro g3 cap3 w3 hown3 hg3 hat3 hlt3; have hE3 := HE.out _ _ _ hown3; have hi3 : (L.length : Int) ≤ (cap3 : Int) := by omega))
    go_ret
    refine ⟨_, rfl, hE3.2.2, gb_trans (gb_trans hG2 (World.grownBy_alloc _ _ _) (Or.inl rfl)) hg3 ?_⟩
    rcases e : (Value.slice a2 L.length c2).ownBlock with _ | b
    · exact Or.inl rfl
    · exact Or.inr (Or.inr ⟨b, rfl, (hown2.lt b e).1⟩)

set_option maxRecDepth 100000 in
set_option maxHeartbeats 1000000 in
theorem same_ints {w : World} {a b : Value} {L : List Int} (ha : IntsAt w a L) (hb : IntsAt w b L) :
    Calls Try.prog 104 #[a, b] w fun e w' => e = .returned (.bool true) ∧ w.grownBy w' none := by
  have HA := Lib.hid ha
  have HB := Lib.hid hb
  obtain ⟨aa, ca, rfl, _, _, _⟩ := ha
  obtain ⟨ab, cb, rfl, _, _, _⟩ := hb
  go_enter Try.func104, Try.ntmps104
  go_wp2_with fail
  go_loopw [5] (fun i wr => ∃ (k : Nat), k ≤ L.length ∧ i = .int .i64 (k : Int) ∧ w.grownBy wr none) (fun i _ => L.length - (intOf i).toNat)
  case atStart => exact ⟨0, by omega, rfl, gb_refl _ _⟩
  case round =>
    obtain ⟨k, hk, rfl, hG⟩ := hrel
    by_cases hlt : k < L.length
    · obtain ⟨_, _, hva, _, _, hma⟩ := HA.out.kept hG
      cases hva
      obtain ⟨_, _, hvb, _, _, hmb⟩ := HB.out.kept hG
      cases hvb
      rcases hma with rfl | ⟨b1, o1, rfl, hma⟩
      · exact absurd hlt (by simp)
      rcases hmb with rfl | ⟨b2, o2, rfl, hmb⟩
      · exact absurd hlt (by simp)
      have h1 := hma k hlt
      have h2 := hmb k hlt
      clear hma hmb
      generalize L.getD k 0 = x at h1 h2
      have hkI : (k : Int) < (L.length : Int) := by omega
      go_wp2_with fail
      go_quiet (fail)
      go_wp2
      go_roundw
      case rel => exact ⟨k + 1, by omega, by go_num, gb_trans hG (gb_drewN _ _ none) (Or.inl rfl)⟩
      case measure => simp [intOf]; omega
    · obtain rfl : k = L.length := by omega
      go_wp2_with fail
      go_ret
      exact ⟨rfl, hG⟩

set_option maxRecDepth 100000 in
set_option maxHeartbeats 1000000 in
theorem whole_ints {w : World} {Y : Nat} {x l : Value} {L : List Int} (hx : LentInts w Y x L) (hl : IntsAt w l L) :
    Calls Try.prog 61 #[x, l] w fun e w' => e = .returned (.bool true) ∧ w.grownBy w' none := by
  have hxa : IntsAt w x L := by
    obtain ⟨_, _, _, hwf, hlen, _⟩ := hl
    exact hx.at hlen hwf
  have HS := Lib.hid (same_ints hxa hl)
  have hlen : L.length ≤ 17592186043904 := by obtain ⟨_, _, _, hwf, hlen, _⟩ := hl; exact hlen
  obtain ⟨al, cl, nl, rfl⟩ : ∃ al cl nl, l = .slice al nl cl := by obtain ⟨al, cl, e, _⟩ := hl; exact ⟨al, cl, _, e⟩
  obtain ⟨g, cap, rfl, hc, hcm, hr⟩ := hx
  obtain ⟨_, h1, h2⟩ := (show LentInts w Y (.slice (some ⟨g, 0, none⟩) L.length cap) L from ⟨g, cap, rfl, hc, hcm, hr⟩).cells
  clear hr hl hxa
  have hcI : ¬ (cap : Int) < (L.length : Int) + 2 := by omega
  have hcJ : (L.length : Int) + 2 ≤ (cap : Int) := by omega
  have hcK : (cap : Int) ≤ 9223372036854775807 := by unfold maxLen at hcm; omega
  unfold iv at *
  go_enter Try.func61, Try.ntmps61
  go_wp2_with (go_at_call 104; refine HS.out.mono ?_; rintro e w1 ⟨rfl, hg1⟩)
  go_ret
  exact ⟨rfl, hg1⟩

set_option maxRecDepth 100000 in
set_option maxHeartbeats 1000000 in
theorem spoil_ints {w : World} {g n cap : Nat} {cur : Array Value} (hgb : w.heap[g]? = some (.cells cur 3 (0, 0))) (hsz : cur.size = cap) (hc : n ≤ cap) (hcm : cap ≤ maxLen) :
    Calls Try.prog 73 #[.slice (some ⟨g, 0, none⟩) n cap] w fun e w' => e = .returned (.tuple #[]) ∧ w.grownBy w' (some g) ∧ (∃ cur', w'.heap[g]? = some (.cells cur' 3 (0, 0)) ∧ cur'.size = cap) ∧ (n ≤ 17592186043904 → IntsAt w' (.slice (some ⟨g, 0, none⟩) n cap) (List.replicate n (-5 : Int))) := by
  have hcK : (cap : Int) ≤ 9223372036854775807 := by unfold maxLen at hcm; omega
  have hcN : cap ≤ 9223372036854775807 := by omega
  clear hcm
  go_enter Try.func73, Try.ntmps73
  go_wp2_with fail
  go_loopw [3] (fun i wr => ∃ (k : Nat) (c : Array Value), k ≤ cap ∧ i = .int .i64 (k : Int) ∧ wr.heap[g]? = some (.cells c 3 (0, 0)) ∧ c.size = cap ∧ (∀ j, j < k → c[j]? = some (.int .i64 (-5))) ∧ w.grownBy wr (some g)) (fun i _ => cap - (intOf i).toNat)
  case atStart => exact ⟨0, cur, by omega, rfl, hgb, hsz, fun j hj => absurd hj (Nat.not_lt_zero _), gb_refl _ _⟩
  case round =>
    obtain ⟨k, c, hk, rfl, hb, hcs, hdone, hG⟩ := hrel
    by_cases hlt : k < cap
    · have hcell : wr.cell? ⟨g, k, none⟩ = some (c[k]'(by omega)) := by simp [World.cell?, hb, hcs, hlt]
      have hfz : wr.frozen? ⟨g, k, none⟩ = false := by simp [World.frozen?, hb]
      have HSet : Hid ((wr.setCell ⟨g, k, none⟩ (.int .i64 (-5))).heap[g]? = some (.cells (c.setIfInBounds k (.int .i64 (-5))) 3 (0, 0))) := Lib.hid (by simp only [World.setCell, Array.getElem?_modify, hb]; simp)
      have HD := Lib.hid hdone
      generalize c[k]'(by omega) = old at hcell
      have hkI : (k : Int) < (cap : Int) := by omega
      clear hb hdone hgb hsz
      go_wp2_with fail
      go_roundw
      case rel =>
        refine ⟨k + 1, _, by omega, by go_num, HSet.out, by simpa using hcs, fun j hj => ?_, gb_trans hG gb_set (Or.inr (Or.inl rfl))⟩
        rw [Array.getElem?_setIfInBounds]
        by_cases e : k = j
        · subst e; rw [if_pos rfl, if_pos (by omega)]
        · rw [if_neg e]; exact HD.out j (by omega)
      case measure => simp [intOf]; omega
    · obtain rfl : k = cap := by omega
      have HEnd : Hid (n ≤ 17592186043904 → IntsAt wr (.slice (some ⟨g, 0, none⟩) n k) (List.replicate n (-5 : Int))) := Lib.hid fun hlen => by
        have hw : ∀ k, k < (List.replicate n (-5 : Int)).length → -9223372036854775808 ≤ (List.replicate n (-5 : Int)).getD k 0 ∧ (List.replicate n (-5 : Int)).getD k 0 ≤ 9223372036854775807 := fun j hj => by
          rw [List.length_replicate] at hj
          rw [List.getD_eq_getElem?_getD, List.getElem?_replicate, if_pos hj]
          decide
        have hcl : ∀ j, j < (List.replicate n (-5 : Int)).length → wr.cell? ⟨g, j, none⟩ = some (.int .i64 ((List.replicate n (-5 : Int)).getD j 0)) := fun j hj => by
          rw [List.length_replicate] at hj
          rw [List.getD_eq_getElem?_getD, List.getElem?_replicate, if_pos hj]
          have := hdone j (by omega)
          simp only [World.cell?, hb]
          exact this
        have hn : (List.replicate n (-5 : Int)).length = n := List.length_replicate
        exact ⟨_, _, by rw [hn], hw, by rw [hn]; exact hlen, Or.inr ⟨g, 0, rfl, fun j hj => by rw [Nat.zero_add]; exact hcl j hj⟩⟩
      have HCur : Hid (∃ cur', wr.heap[g]? = some (.cells cur' 3 (0, 0)) ∧ cur'.size = k) := Lib.hid ⟨c, hb, hcs⟩
      clear hb hdone hgb
      go_wp2_with fail
      all_goals go_end0
      all_goals exact ⟨rfl, hG, HCur.out, HEnd.out⟩
end Go.Proofs.Ytcdepblajobemaa
namespace Go.Proofs.Ytcdepblajobemaa
open Go.RowKit

theorem Try.info55 : (Try.prog.info? 55).map (fun i => (i.zero, i.size, i.bytes)) = some (some (.int .u16 0), 1, 2) := by kernel_rfl
def lv (x : Nat) : Value := .int .u16 (x : Int)
theorem lv_one (L : List Nat) : ∀ u ∈ L.map lv, u.oneCell' = true := by
  intro u hu
  obtain ⟨x, _, rfl⟩ := List.mem_map.1 hu
  rfl
theorem tv_one (L : List Bool) : ∀ u ∈ L.map tv01, u.oneCell' = true := by
  intro u hu
  obtain ⟨x, _, rfl⟩ := List.mem_map.1 hu
  rfl

/-- A list that is lent: two marks stand behind it. -/
def LentBools (w : World) (Y : Nat) (v : Value) (L : List Bool) : Prop :=
  ∃ g cap, v = .slice (some ⟨g, 0, none⟩) L.length cap ∧ L.length + 2 ≤ cap ∧ cap ≤ maxLen ∧ w.ownsRow Y 4 1 (.slice (some ⟨g, 0, none⟩) (L.length + 2) cap) (L.length + 2) (L.map tv01 ++ [(.bool true), (.bool false)])
theorem LentBools.kept {w w' : World} {Y : Nat} {v : Value} {L : List Bool} {row : Option Nat} (h : LentBools w Y v L) (hg : w.grownBy w' row) (hne : v.ownBlock = none ∨ v.ownBlock ≠ row) : LentBools w' Y v L := by
  obtain ⟨g, cap, rfl, h1, h2, h3⟩ := h
  exact ⟨g, cap, rfl, h1, h2, h3.kept hg hne⟩
theorem LentBools.lt {w : World} {Y : Nat} {v : Value} {L : List Bool} (h : LentBools w Y v L) : ∀ b, v.ownBlock = some b → Y ≤ b ∧ b < w.heap.size := by
  obtain ⟨g, cap, rfl, h1, h2, h3⟩ := h
  exact fun b hb => h3.lt b hb
theorem LentBools.cells {w : World} {Y g n cap : Nat} {L : List Bool} (h : LentBools w Y (.slice (some ⟨g, 0, none⟩) n cap) L) :
    (∀ k, k < L.length → w.cell? ⟨g, k, none⟩ = some (.bool (L.getD k false))) ∧ w.cell? ⟨g, L.length, none⟩ = some (.bool true) ∧ w.cell? ⟨g, L.length + 1, none⟩ = some (.bool false) := by
  obtain ⟨g', cap', hv, h1, h2, h3⟩ := h
  cases hv
  refine ⟨fun k hk => ?_, ?_, ?_⟩
  · rw [h3.cellAt k (by omega), List.getElem?_append_left (by rw [List.length_map]; exact hk), map_at tv01 L false k hk]; rfl
  · rw [h3.cellAt _ (by omega), List.getElem?_append_right (by rw [List.length_map]; exact Nat.le_refl _), List.length_map, Nat.sub_self]; rfl
  · rw [h3.cellAt _ (by omega), List.getElem?_append_right (by rw [List.length_map]; omega), List.length_map, Nat.add_sub_cancel_left]; rfl
theorem LentBools.room {w : World} {Y : Nat} {v : Value} {L : List Bool} (h : LentBools w Y v L) : ∃ g cap cur, v = .slice (some ⟨g, 0, none⟩) L.length cap ∧ w.heap[g]? = some (.cells cur 4 (0, 0)) ∧ cur.size = cap ∧ L.length ≤ cap ∧ cap ≤ maxLen ∧ Y ≤ g ∧ g < w.heap.size := by
  obtain ⟨g, cap, rfl, hc, hcm, hr⟩ := h
  have hl := hr.lt g rfl
  rcases hr.2 with ⟨h0, _⟩ | ⟨g', cap', cur, hv, hb, hg, hnc, hcm, hcs, htk⟩
  · cases h0
  · cases hv
    exact ⟨g, cap, cur, rfl, hg, by omega, by omega, hcm, hl⟩
theorem LentBools.at {w : World} {Y : Nat} {v : Value} {L : List Bool} (h : LentBools w Y v L) (hl : L.length ≤ 140737488351232) (hw : ∀ k, k < L.length → L.getD k false = L.getD k false) : BoolsAt w v L := by
  obtain ⟨g, cap, rfl, h1, h2, h3⟩ := h
  have hc := (show LentBools w Y (.slice (some ⟨g, 0, none⟩) L.length cap) L from ⟨g, cap, rfl, h1, h2, h3⟩).cells.1
  exact ⟨_, _, rfl, by omega, by omega, Or.inr ⟨g, 0, rfl, fun k hk => by rw [Nat.zero_add]; exact hc k hk⟩⟩

set_option maxRecDepth 100000 in
set_option maxHeartbeats 1000000 in
theorem lent_bools {w : World} {v : Value} {L : List Bool} (hL : BoolsAt w v L) (hs : L.length ≤ 1000000) :
    Calls Try.prog 36 #[v] w fun e w' => ∃ v', e = .returned v' ∧ LentBools w' w.heap.size v' L ∧ w.grownBy w' none := by
  obtain ⟨i0, hi, hz0, hz1, hz2⟩ := info_parts Try.info4
  obtain ⟨a, cap, rfl, hcap, hlen, hc⟩ := hL

  have hend : ∀ (g cap : Nat) (w' : World), w'.ownsRow w.heap.size 4 1 (.slice (some ⟨g, 0, none⟩) (L.length + 2) cap) (L.length + 2) (L.map tv01 ++ [(.bool true), (.bool false)]) → L.length + 2 ≤ cap ∧ cap ≤ maxLen ∧ LentBools w' w.heap.size (.slice (some ⟨g, 0, none⟩) L.length cap) L := fun g cap w' h => by
    rcases h.2 with ⟨h0, _⟩ | ⟨g', cap', cur, hv, hb, hg, hnc, hcm, hcs, htk⟩
    · cases h0
    · cases hv
      exact ⟨hnc, hcm, g, cap, rfl, hnc, hcm, h⟩
  have HE := Lib.hid hend
  clear hend
  cases a with
  | none =>
    rcases hc with rfl | ⟨b, off, h, _⟩
    · go_enter Try.func36, Try.ntmps36
      go_wp2_with (first | (at_make; refine wpList_make_own _ rfl _ _ 25 rfl w.heap.size 4 i0 (.bool false) 1 Try.underlying25 hi hz0 hz1 .i64 .i64 _ 2 rfl rfl (by decide) (by rw [hz2]; decide) (by decide) (Nat.le_refl _) ?_; intro w1 hown1 hg1) | (at_builtin; refine wpList_append_lies _ rfl (.tmp 11) (.tmp 12) 25 rfl w.heap.size 4 i0 (.bool false) 1 1 Try.underlying25 hi hz0 hz1 hz2 rfl (by decide) (.slice (some ⟨w.heap.size, 0, none⟩) 0 2) 0 [] rfl (hown1.alloc _) ⟨w1.heap.size, 0, none⟩ 2 2 [(.bool true), (.bool false)] rfl rfl (cell_two_new _ _ _ _) (by simp [Value.oneCell']) (by decide) (by unfold maxLen; omega) (by omega) (by rw [World.size_alloc]; exact Nat.le_succ_of_le hg1.size) _ rfl ?_; intro g3 cap3 w3 hown3 hg3 hat3 hlt3; have hE3 := HE.out _ _ _ hown3; have hi3 : (0 : Int) ≤ (cap3 : Int) := by omega))
      go_ret
      refine ⟨_, rfl, hE3.2.2, gb_trans (gb_trans hg1 (World.grownBy_alloc _ _ _) (Or.inl rfl)) hg3 (Or.inr (Or.inr ⟨w.heap.size, rfl, Nat.le_refl _⟩))⟩
    · cases h
  | some ad =>
    have hnews : ∀ (w1 : World), w.grownBy w1 none → ∀ j u, (L.map tv01)[j]? = some u → w1.cell? (ad.add j) = some u := fun w1 hg j u hu => by
      have hj : j < L.length := by simpa using (List.getElem?_eq_some_iff.1 hu).1
      rcases hc with rfl | ⟨b, off, h, hc⟩
      · simp at hj
      · cases h
        rw [Addr.add_lit, hg.cell (hc j hj) (by simp)]
        rw [map_at tv01 L false j hj] at hu
        rw [← hu]
        rfl
    have HN := Lib.hid hnews
    clear hnews hc
    go_enter Try.func36, Try.ntmps36
    go_wp2_with (first
      | (at_make; refine wpList_make_own _ rfl _ _ 25 rfl w.heap.size 4 i0 (.bool false) 1 Try.underlying25 hi hz0 hz1 .i64 .i64 _ (L.length + 2) rfl rfl (by omega) (by rw [hz2]; omega) (by unfold maxLen; omega) (Nat.le_refl _) ?_; intro w1 hown1 hg1)
      | (at_builtin; refine wpList_append_own _ rfl (.tmp 8) (.tmp 9) 25 rfl w.heap.size 4 i0 (.bool false) 1 1 Try.underlying25 hi hz0 hz1 hz2 rfl (by decide) _ _ _ rfl hown1 ad L.length cap (L.map tv01) rfl (by simp) (HN.out _ hg1) (tv_one L) (by unfold maxLen; omega) (by omega) hg1.size ?_; intro v2 w2 hown2 hg2 hnil; have hG2 := gb_trans hg1 hg2 (Or.inr (Or.inr ⟨w.heap.size, rfl, Nat.le_refl _⟩)); rw [Nat.zero_add, List.nil_append] at hown2; obtain ⟨a2, c2, rfl⟩ := own_val hown2)
      | (at_builtin; refine wpList_append_lies _ rfl (.tmp 11) (.tmp 12) 25 rfl w.heap.size 4 i0 (.bool false) 1 1 Try.underlying25 hi hz0 hz1 hz2 rfl (by decide) (.slice a2 L.length c2) L.length (L.map tv01) rfl (hown2.alloc _) ⟨w2.heap.size, 0, none⟩ 2 2 [(.bool true), (.bool false)] rfl rfl (cell_two_new _ _ _ _) (by simp [Value.oneCell']) (by decide) (by unfold maxLen; omega) (by omega) (by rw [World.size_alloc]; exact Nat.le_succ_of_le hG2.size) _ rfl ?_; intro g3 cap3 w3 hown3 hg3 hat3 hlt3; have hE3 := HE.out _ _ _ hown3; have hi3 : (L.length : Int) ≤ (cap3 : Int) := by omega))
    go_ret
    refine ⟨_, rfl, hE3.2.2, gb_trans (gb_trans hG2 (World.grownBy_alloc _ _ _) (Or.inl rfl)) hg3 ?_⟩
    rcases e : (Value.slice a2 L.length c2).ownBlock with _ | b
    · exact Or.inl rfl
    · exact Or.inr (Or.inr ⟨b, rfl, (hown2.lt b e).1⟩)

set_option maxRecDepth 100000 in
set_option maxHeartbeats 1000000 in
theorem same_bools {w : World} {a b : Value} {L : List Bool} (ha : BoolsAt w a L) (hb : BoolsAt w b L) :
    Calls Try.prog 71 #[a, b] w fun e w' => e = .returned (.bool true) ∧ w.grownBy w' none := by
  have HA := Lib.hid ha
  have HB := Lib.hid hb
  obtain ⟨aa, ca, rfl, hca, _, _⟩ := ha
  obtain ⟨ab, cb, rfl, hcb, _, _⟩ := hb
  go_enter Try.func71, Try.ntmps71
  go_wp2_with fail
  go_loopw [5] (fun i wr => ∃ (k : Nat), k ≤ L.length ∧ i = .int .i64 (k : Int) ∧ w.grownBy wr none) (fun i _ => L.length - (intOf i).toNat)
  case atStart => exact ⟨0, by omega, rfl, gb_refl _ _⟩
  case round =>
    obtain ⟨k, hk, rfl, hG⟩ := hrel
    by_cases hlt : k < L.length
    · obtain ⟨_, _, hva, _, _, hma⟩ := HA.out.kept hG
      cases hva
      obtain ⟨_, _, hvb, _, _, hmb⟩ := HB.out.kept hG
      cases hvb
      rcases hma with rfl | ⟨b1, o1, rfl, hma⟩
      · exact absurd hlt (by simp)
      rcases hmb with rfl | ⟨b2, o2, rfl, hmb⟩
      · exact absurd hlt (by simp)
      have h1 := hma k hlt
      have h2 := hmb k hlt
      clear hma hmb
      generalize L.getD k false = x at h1 h2
      have hkI : (k : Int) < (L.length : Int) := by omega
      go_wp2_with fail
      go_quiet (fail)
      go_wp2
      go_roundw
      case rel => exact ⟨k + 1, by omega, by go_num, gb_trans hG (gb_drewN _ _ none) (Or.inl rfl)⟩
      case measure => simp [intOf]; omega
    · obtain rfl : k = L.length := by omega
      go_wp2_with fail
      go_ret
      exact ⟨rfl, hG⟩

set_option maxRecDepth 100000 in
set_option maxHeartbeats 1000000 in
theorem whole_bools {w : World} {Y : Nat} {x l : Value} {L : List Bool} (hx : LentBools w Y x L) (hl : BoolsAt w l L) :
    Calls Try.prog 42 #[x, l] w fun e w' => e = .returned (.bool true) ∧ w.grownBy w' none := by
  have hxa : BoolsAt w x L := by
    obtain ⟨_, _, _, _, hlen, _⟩ := hl
    exact hx.at hlen (fun _ _ => rfl)
  have HS := Lib.hid (same_bools hxa hl)
  have hlen : L.length ≤ 140737488351232 := by obtain ⟨_, _, _, _, hlen, _⟩ := hl; exact hlen
  obtain ⟨al, cl, nl, rfl⟩ : ∃ al cl nl, l = .slice al nl cl := by obtain ⟨al, cl, e, _⟩ := hl; exact ⟨al, cl, _, e⟩
  obtain ⟨g, cap, rfl, hc, hcm, hr⟩ := hx
  obtain ⟨_, h1, h2⟩ := (show LentBools w Y (.slice (some ⟨g, 0, none⟩) L.length cap) L from ⟨g, cap, rfl, hc, hcm, hr⟩).cells
  clear hr hl hxa
  have hcI : ¬ (cap : Int) < (L.length : Int) + 2 := by omega
  have hcJ : (L.length : Int) + 2 ≤ (cap : Int) := by omega
  have hcK : (cap : Int) ≤ 9223372036854775807 := by unfold maxLen at hcm; omega
  unfold tv01 at *
  go_enter Try.func42, Try.ntmps42
  go_wp2_with (go_at_call 71; refine HS.out.mono ?_; rintro e w1 ⟨rfl, hg1⟩)
  go_ret
  exact ⟨rfl, hg1⟩

/-- A list that is lent: two marks stand behind it. -/
def LentLetters (w : World) (Y : Nat) (v : Value) (L : List Nat) : Prop :=
  ∃ g cap, v = .slice (some ⟨g, 0, none⟩) L.length cap ∧ L.length + 2 ≤ cap ∧ cap ≤ maxLen ∧ w.ownsRow Y 55 1 (.slice (some ⟨g, 0, none⟩) (L.length + 2) cap) (L.length + 2) (L.map lv ++ [(.int .u16 60001), (.int .u16 60002)])
theorem LentLetters.kept {w w' : World} {Y : Nat} {v : Value} {L : List Nat} {row : Option Nat} (h : LentLetters w Y v L) (hg : w.grownBy w' row) (hne : v.ownBlock = none ∨ v.ownBlock ≠ row) : LentLetters w' Y v L := by
  obtain ⟨g, cap, rfl, h1, h2, h3⟩ := h
  exact ⟨g, cap, rfl, h1, h2, h3.kept hg hne⟩
theorem LentLetters.lt {w : World} {Y : Nat} {v : Value} {L : List Nat} (h : LentLetters w Y v L) : ∀ b, v.ownBlock = some b → Y ≤ b ∧ b < w.heap.size := by
  obtain ⟨g, cap, rfl, h1, h2, h3⟩ := h
  exact fun b hb => h3.lt b hb
theorem LentLetters.cells {w : World} {Y g n cap : Nat} {L : List Nat} (h : LentLetters w Y (.slice (some ⟨g, 0, none⟩) n cap) L) :
    (∀ k, k < L.length → w.cell? ⟨g, k, none⟩ = some (.int .u16 (((L.getD k 0) : Nat) : Int))) ∧ w.cell? ⟨g, L.length, none⟩ = some (.int .u16 60001) ∧ w.cell? ⟨g, L.length + 1, none⟩ = some (.int .u16 60002) := by
  obtain ⟨g', cap', hv, h1, h2, h3⟩ := h
  cases hv
  refine ⟨fun k hk => ?_, ?_, ?_⟩
  · rw [h3.cellAt k (by omega), List.getElem?_append_left (by rw [List.length_map]; exact hk), map_at lv L 0 k hk]; rfl
  · rw [h3.cellAt _ (by omega), List.getElem?_append_right (by rw [List.length_map]; exact Nat.le_refl _), List.length_map, Nat.sub_self]; rfl
  · rw [h3.cellAt _ (by omega), List.getElem?_append_right (by rw [List.length_map]; omega), List.length_map, Nat.add_sub_cancel_left]; rfl
theorem LentLetters.room {w : World} {Y : Nat} {v : Value} {L : List Nat} (h : LentLetters w Y v L) : ∃ g cap cur, v = .slice (some ⟨g, 0, none⟩) L.length cap ∧ w.heap[g]? = some (.cells cur 55 (0, 0)) ∧ cur.size = cap ∧ L.length ≤ cap ∧ cap ≤ maxLen ∧ Y ≤ g ∧ g < w.heap.size := by
  obtain ⟨g, cap, rfl, hc, hcm, hr⟩ := h
  have hl := hr.lt g rfl
  rcases hr.2 with ⟨h0, _⟩ | ⟨g', cap', cur, hv, hb, hg, hnc, hcm, hcs, htk⟩
  · cases h0
  · cases hv
    exact ⟨g, cap, cur, rfl, hg, by omega, by omega, hcm, hl⟩
theorem LentLetters.at {w : World} {Y : Nat} {v : Value} {L : List Nat} (h : LentLetters w Y v L) (hl : L.length ≤ 70368744175616) (hw : ∀ k, k < L.length → L.getD k 0 ≤ 65535) : LettersAt w v L := by
  obtain ⟨g, cap, rfl, h1, h2, h3⟩ := h
  have hc := (show LentLetters w Y (.slice (some ⟨g, 0, none⟩) L.length cap) L from ⟨g, cap, rfl, h1, h2, h3⟩).cells.1
  exact ⟨_, _, rfl, hw, by omega, Or.inr ⟨g, 0, rfl, fun k hk => by rw [Nat.zero_add]; exact hc k hk⟩⟩

set_option maxRecDepth 100000 in
set_option maxHeartbeats 1000000 in
theorem lent_letters {w : World} {v : Value} {L : List Nat} (hL : LettersAt w v L) (hs : L.length ≤ 1000000) :
    Calls Try.prog 11 #[v] w fun e w' => ∃ v', e = .returned v' ∧ LentLetters w' w.heap.size v' L ∧ w.grownBy w' none := by
  obtain ⟨i0, hi, hz0, hz1, hz2⟩ := info_parts Try.info55
  obtain ⟨a, cap, rfl, hwf, hlen, hc⟩ := hL

  have hend : ∀ (g cap : Nat) (w' : World), w'.ownsRow w.heap.size 55 1 (.slice (some ⟨g, 0, none⟩) (L.length + 2) cap) (L.length + 2) (L.map lv ++ [(.int .u16 60001), (.int .u16 60002)]) → L.length + 2 ≤ cap ∧ cap ≤ maxLen ∧ LentLetters w' w.heap.size (.slice (some ⟨g, 0, none⟩) L.length cap) L := fun g cap w' h => by
    rcases h.2 with ⟨h0, _⟩ | ⟨g', cap', cur, hv, hb, hg, hnc, hcm, hcs, htk⟩
    · cases h0
    · cases hv
      exact ⟨hnc, hcm, g, cap, rfl, hnc, hcm, h⟩
  have HE := Lib.hid hend
  clear hwf hend
  cases a with
  | none =>
    rcases hc with rfl | ⟨b, off, h, _⟩
    · go_enter Try.func11, Try.ntmps11
      go_wp2_with (first | (at_make; refine wpList_make_own _ rfl _ _ 28 rfl w.heap.size 55 i0 (.int .u16 0) 1 Try.underlying28 hi hz0 hz1 .i64 .i64 _ 2 rfl rfl (by decide) (by rw [hz2]; decide) (by decide) (Nat.le_refl _) ?_; intro w1 hown1 hg1) | (at_builtin; refine wpList_append_lies _ rfl (.tmp 11) (.tmp 12) 28 rfl w.heap.size 55 i0 (.int .u16 0) 1 2 Try.underlying28 hi hz0 hz1 hz2 rfl (by decide) (.slice (some ⟨w.heap.size, 0, none⟩) 0 2) 0 [] rfl (hown1.alloc _) ⟨w1.heap.size, 0, none⟩ 2 2 [(.int .u16 60001), (.int .u16 60002)] rfl rfl (cell_two_new _ _ _ _) (by simp [Value.oneCell']) (by decide) (by unfold maxLen; omega) (by omega) (by rw [World.size_alloc]; exact Nat.le_succ_of_le hg1.size) _ rfl ?_; intro g3 cap3 w3 hown3 hg3 hat3 hlt3; have hE3 := HE.out _ _ _ hown3; have hi3 : (0 : Int) ≤ (cap3 : Int) := by omega))
      go_ret
      refine ⟨_, rfl, hE3.2.2, gb_trans (gb_trans hg1 (World.grownBy_alloc _ _ _) (Or.inl rfl)) hg3 (Or.inr (Or.inr ⟨w.heap.size, rfl, Nat.le_refl _⟩))⟩
    · cases h
  | some ad =>
    have hnews : ∀ (w1 : World), w.grownBy w1 none → ∀ j u, (L.map lv)[j]? = some u → w1.cell? (ad.add j) = some u := fun w1 hg j u hu => by
      have hj : j < L.length := by simpa using (List.getElem?_eq_some_iff.1 hu).1
      rcases hc with rfl | ⟨b, off, h, hc⟩
      · simp at hj
      · cases h
        rw [Addr.add_lit, hg.cell (hc j hj) (by simp)]
        rw [map_at lv L 0 j hj] at hu
        rw [← hu]
        rfl
    have HN := Lib.hid hnews
    clear hnews hc
    go_enter Try.func11, Try.ntmps11
    go_wp2_with (first
      | (at_make; refine wpList_make_own _ rfl _ _ 28 rfl w.heap.size 55 i0 (.int .u16 0) 1 Try.underlying28 hi hz0 hz1 .i64 .i64 _ (L.length + 2) rfl rfl (by omega) (by rw [hz2]; omega) (by unfold maxLen; omega) (Nat.le_refl _) ?_; intro w1 hown1 hg1)
      | (at_builtin; refine wpList_append_own _ rfl (.tmp 8) (.tmp 9) 28 rfl w.heap.size 55 i0 (.int .u16 0) 1 2 Try.underlying28 hi hz0 hz1 hz2 rfl (by decide) _ _ _ rfl hown1 ad L.length cap (L.map lv) rfl (by simp) (HN.out _ hg1) (lv_one L) (by unfold maxLen; omega) (by omega) hg1.size ?_; intro v2 w2 hown2 hg2 hnil; have hG2 := gb_trans hg1 hg2 (Or.inr (Or.inr ⟨w.heap.size, rfl, Nat.le_refl _⟩)); rw [Nat.zero_add, List.nil_append] at hown2; obtain ⟨a2, c2, rfl⟩ := own_val hown2)
      | (at_builtin; refine wpList_append_lies _ rfl (.tmp 11) (.tmp 12) 28 rfl w.heap.size 55 i0 (.int .u16 0) 1 2 Try.underlying28 hi hz0 hz1 hz2 rfl (by decide) (.slice a2 L.length c2) L.length (L.map lv) rfl (hown2.alloc _) ⟨w2.heap.size, 0, none⟩ 2 2 [(.int .u16 60001), (.int .u16 60002)] rfl rfl (cell_two_new _ _ _ _) (by simp [Value.oneCell']) (by decide) (by unfold maxLen; omega) (by omega) (by rw [World.size_alloc]; exact Nat.le_succ_of_le hG2.size) _ rfl ?_; intro g3 cap3 w3 hown3 hg3 hat3 hlt3; have hE3 := HE.out _ _ _ hown3; have hi3 : (L.length : Int) ≤ (cap3 : Int) := by omega))
    go_ret
    refine ⟨_, rfl, hE3.2.2, gb_trans (gb_trans hG2 (World.grownBy_alloc _ _ _) (Or.inl rfl)) hg3 ?_⟩
    rcases e : (Value.slice a2 L.length c2).ownBlock with _ | b
    · exact Or.inl rfl
    · exact Or.inr (Or.inr ⟨b, rfl, (hown2.lt b e).1⟩)

set_option maxRecDepth 100000 in
set_option maxHeartbeats 1000000 in
theorem same_letters {w : World} {a b : Value} {L : List Nat} (ha : LettersAt w a L) (hb : LettersAt w b L) :
    Calls Try.prog 43 #[a, b] w fun e w' => e = .returned (.bool true) ∧ w.grownBy w' none := by
  have HA := Lib.hid ha
  have HB := Lib.hid hb
  obtain ⟨aa, ca, rfl, _, _, _⟩ := ha
  obtain ⟨ab, cb, rfl, _, _, _⟩ := hb
  go_enter Try.func43, Try.ntmps43
  go_wp2_with fail
  go_loopw [5] (fun i wr => ∃ (k : Nat), k ≤ L.length ∧ i = .int .i64 (k : Int) ∧ w.grownBy wr none) (fun i _ => L.length - (intOf i).toNat)
  case atStart => exact ⟨0, by omega, rfl, gb_refl _ _⟩
  case round =>
    obtain ⟨k, hk, rfl, hG⟩ := hrel
    by_cases hlt : k < L.length
    · obtain ⟨_, _, hva, _, _, hma⟩ := HA.out.kept hG
      cases hva
      obtain ⟨_, _, hvb, _, _, hmb⟩ := HB.out.kept hG
      cases hvb
      rcases hma with rfl | ⟨b1, o1, rfl, hma⟩
      · exact absurd hlt (by simp)
      rcases hmb with rfl | ⟨b2, o2, rfl, hmb⟩
      · exact absurd hlt (by simp)
      have h1 := hma k hlt
      have h2 := hmb k hlt
      clear hma hmb
      generalize L.getD k 0 = x at h1 h2
      have hkI : (k : Int) < (L.length : Int) := by omega
      go_wp2_with fail
      go_quiet (fail)
      go_wp2
      go_roundw
      case rel => exact ⟨k + 1, by omega, by go_num, gb_trans hG (gb_drewN _ _ none) (Or.inl rfl)⟩
      case measure => simp [intOf]; omega
    · obtain rfl : k = L.length := by omega
      go_wp2_with fail
      go_ret
      exact ⟨rfl, hG⟩

set_option maxRecDepth 100000 in
set_option maxHeartbeats 1000000 in
theorem whole_letters {w : World} {Y : Nat} {x l : Value} {L : List Nat} (hx : LentLetters w Y x L) (hl : LettersAt w l L) :
    Calls Try.prog 16 #[x, l] w fun e w' => e = .returned (.bool true) ∧ w.grownBy w' none := by
  have hxa : LettersAt w x L := by
    obtain ⟨_, _, _, hwf, hlen, _⟩ := hl
    exact hx.at hlen hwf
  have HS := Lib.hid (same_letters hxa hl)
  have hlen : L.length ≤ 70368744175616 := by obtain ⟨_, _, _, hwf, hlen, _⟩ := hl; exact hlen
  obtain ⟨al, cl, nl, rfl⟩ : ∃ al cl nl, l = .slice al nl cl := by obtain ⟨al, cl, e, _⟩ := hl; exact ⟨al, cl, _, e⟩
  obtain ⟨g, cap, rfl, hc, hcm, hr⟩ := hx
  obtain ⟨_, h1, h2⟩ := (show LentLetters w Y (.slice (some ⟨g, 0, none⟩) L.length cap) L from ⟨g, cap, rfl, hc, hcm, hr⟩).cells
  clear hr hl hxa
  have hcI : ¬ (cap : Int) < (L.length : Int) + 2 := by omega
  have hcJ : (L.length : Int) + 2 ≤ (cap : Int) := by omega
  have hcK : (cap : Int) ≤ 9223372036854775807 := by unfold maxLen at hcm; omega
  unfold lv at *
  go_enter Try.func16, Try.ntmps16
  go_wp2_with (go_at_call 43; refine HS.out.mono ?_; rintro e w1 ⟨rfl, hg1⟩)
  go_ret
  exact ⟨rfl, hg1⟩

end Go.Proofs.Ytcdepblajobemaa
namespace Go.Proofs.Ytcdepblajobemaa
open Go.RowKit

/-- A set of nw as yes and no, as far as n. -/
def yesL (nw : Nat) (L : List Nat) (n : Nat) : List Bool := (List.range n).map fun (i : Nat) => hasI nw L (i : Int)
theorem yesL_len (nw : Nat) (L : List Nat) (n : Nat) : (yesL nw L n).length = n := by simp [yesL]
set_option maxHeartbeats 1000000 in
theorem yes_any (n : Nat) (hn : n ≤ 1000000) (p g cap nw : Nat) (L : List Nat) (w : World) (h : SetAt w p g cap nw L) :
    Calls Try.prog 29 #[.int .i64 (n : Int), .pointer (some ⟨p, 0, none⟩)] w fun e w' => ∃ v, e = .returned v ∧ w'.ownsRow w.heap.size 4 1 v n ((yesL nw L n).map tv01) ∧ w.grownBy w' none := by
  obtain ⟨i0, hi, hz0, hz1, hz2⟩ := info_parts Try.info4
  have HS := Lib.hid h
  go_enter Try.func29, Try.ntmps29
  go_wp2_with (at_make; refine wpList_make_full _ rfl _ _ 25 rfl w.heap.size 4 i0 (.bool false) 1 Try.underlying25 hi hz0 hz1 .i64 .i64 _ _ n rfl rfl (by omega) (by omega) (by rw [hz2]; omega) (by unfold maxLen; omega) (Nat.le_refl _) ?_; intro w0 hown0 hgrow0)
  go_loopw [6] (fun i wr => ∃ (k : Nat) (xs : List Value), k ≤ n ∧ i = .int .i64 (k : Int) ∧ Hid (wr.ownsRow w.heap.size 4 1 (.slice (some ⟨w.heap.size, 0, none⟩) n n) n xs) ∧ Hid (w.grownBy wr none) ∧ Hid (∀ j, j < k → xs[j]? = some (tv01 (hasI nw L (j : Int))))) (fun i _ => n - (intOf i).toNat)
  case atStart => exact ⟨0, _, by omega, rfl, Lib.hid hown0, Lib.hid hgrow0, Lib.hid fun j h => absurd h (Nat.not_lt_zero _)⟩
  case round =>
    obtain ⟨k, xs, hk, rfl, HO, HG, HX⟩ := hrel
    by_cases hlt : k < n
    · have hkI : (k : Int) < (n : Int) := by omega
      have hl : xs.length = n := by have := HO.out.1; omega
      have HH : Hid (∀ wx, w.grownBy wx none → Calls Try.prog 68 #[.pointer (some ⟨p, 0, none⟩), .int .i64 (k : Int)] wx fun e w' => e = .returned (.bool (hasI nw L (k : Int))) ∧ wx = w') := Lib.hid fun wx hg => has_any (k : Int) p g cap nw L wx (HS.out.kept hg (by simp) (by simp))
      obtain ⟨u0, hu0⟩ : ∃ u, wr.cell? ⟨w.heap.size, k, none⟩ = some u := ⟨_, (HO.out.cellAt k (by omega)).trans (List.getElem?_eq_getElem (by omega))⟩
      have hf0 := HO.out.frozenAt k
      have hst := HO.out.stored k (tv01 (hasI nw L (k : Int)))
      have HN : Hid (∀ j, j < k + 1 → (xs.set k (tv01 (hasI nw L (k : Int))))[j]? = some (tv01 (hasI nw L (j : Int)))) := Lib.hid fun j hj => by
        by_cases e : j = k
        · subst e; exact List.getElem?_set_self (by omega)
        · rw [List.getElem?_set_ne (fun h => e h.symm)]; exact HX.out j (by omega)
      unfold tv01 at hst
      have HSt := Lib.hid hst
      clear hst
      generalize hasI nw L (k : Int) = b at HH HN HSt
      go_wp2_with (go_at_call 68; refine (HH.out _ HG.out).mono ?_; rintro e w2 ⟨rfl, rfl⟩)
      exact ⟨⟨k + 1, _, by omega, by go_num, Lib.hid HSt.out.1, Lib.hid (gb_trans HG.out HSt.out.2 (Or.inr (Or.inr ⟨_, rfl, Nat.le_refl _⟩))), HN⟩, by simp [intOf]; omega⟩
    · obtain rfl : k = n := by omega
      have hkI : ¬ ((k : Int) < (k : Int)) := by omega
      go_wp2_with fail
      go_ret
      refine ⟨_, rfl, ?_, HG.out⟩
      have e : xs = (yesL nw L k).map tv01 := by
        refine List.ext_getElem? fun j => ?_
        have hl : xs.length = k := by have := HO.out.1; omega
        by_cases hj : j < k
        · rw [HX.out j hj]
          simp [yesL, hj]
        · rw [List.getElem?_eq_none (by omega), List.getElem?_eq_none (by simp [yesL]; omega)]
      rw [← e]
      exact HO.out
end Go.Proofs.Ytcdepblajobemaa
