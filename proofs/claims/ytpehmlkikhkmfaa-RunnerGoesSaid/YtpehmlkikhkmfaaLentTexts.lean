/- Lists that are lent: Texts. -/
import Derived.Test.YtpehmlkikhkmfaaRunRun
import Derived.Deep.AppendLies
namespace Go.Proofs.Ytpehmlkikhkmfaa
open Go.RowKit

def sv (x : ByteArray) : Value := .string x
theorem Try.info9 : (Try.prog.info? 9).map (fun i => (i.zero, i.size, i.bytes)) = some (some (.string ⟨#[]⟩), 1, 16) := by kernel_rfl
theorem sv_one (L : List ByteArray) : ∀ u ∈ L.map sv, u.oneCell' = true := by
  intro u hu
  obtain ⟨x, _, rfl⟩ := List.mem_map.1 hu
  rfl
theorem map_at {α β : Type} (f : α → β) (L : List α) (d : α) (k : Nat) (hk : k < L.length) : (L.map f)[k]? = some (f (L.getD k d)) := by
  rw [List.getElem?_map, List.getElem?_eq_getElem hk, List.getD_eq_getElem?_getD, List.getElem?_eq_getElem hk]; rfl
/-- A list of two, laid out. -/
theorem cell_two_new (w : World) (x y : Value) (t : TypeId) : ∀ j u, [x, y][j]? = some u → (w.alloc (.cells #[x, y] t)).cell? ((⟨w.heap.size, 0, none⟩ : Addr).add j) = some u :=
  World.news_of_block (cs := #[x, y]) (t := t) (fr := (0, 0)) (heap_alloc_new w _)

/-- A list that is lent: two marks stand behind it. -/
def LentTexts (w : World) (Y : Nat) (v : Value) (L : List ByteArray) : Prop :=
  ∃ g cap, v = .slice (some ⟨g, 0, none⟩) L.length cap ∧ L.length + 2 ≤ cap ∧ cap ≤ maxLen ∧ w.ownsRow Y 9 1 (.slice (some ⟨g, 0, none⟩) (L.length + 2) cap) (L.length + 2) (L.map sv ++ [(.string ⟨#[116, 104, 101, 32, 111, 119, 110, 101, 114, 39, 115]⟩), (.string ⟨#[116, 104, 101, 32, 111, 119, 110, 101, 114, 39, 115]⟩)])
theorem LentTexts.kept {w w' : World} {Y : Nat} {v : Value} {L : List ByteArray} {row : Option Nat} (h : LentTexts w Y v L) (hg : w.grownBy w' row) (hne : v.ownBlock = none ∨ v.ownBlock ≠ row) : LentTexts w' Y v L := by
  obtain ⟨g, cap, rfl, h1, h2, h3⟩ := h
  exact ⟨g, cap, rfl, h1, h2, h3.kept hg hne⟩
theorem LentTexts.lt {w : World} {Y : Nat} {v : Value} {L : List ByteArray} (h : LentTexts w Y v L) : ∀ b, v.ownBlock = some b → Y ≤ b ∧ b < w.heap.size := by
  obtain ⟨g, cap, rfl, h1, h2, h3⟩ := h
  exact fun b hb => h3.lt b hb
theorem LentTexts.cells {w : World} {Y g n cap : Nat} {L : List ByteArray} (h : LentTexts w Y (.slice (some ⟨g, 0, none⟩) n cap) L) :
    (∀ k, k < L.length → w.cell? ⟨g, k, none⟩ = some (.string (L.getD k ⟨#[]⟩))) ∧ w.cell? ⟨g, L.length, none⟩ = some (.string ⟨#[116, 104, 101, 32, 111, 119, 110, 101, 114, 39, 115]⟩) ∧ w.cell? ⟨g, L.length + 1, none⟩ = some (.string ⟨#[116, 104, 101, 32, 111, 119, 110, 101, 114, 39, 115]⟩) := by
  obtain ⟨g', cap', hv, h1, h2, h3⟩ := h
  cases hv
  refine ⟨fun k hk => ?_, ?_, ?_⟩
  · rw [h3.cellAt k (by omega), List.getElem?_append_left (by rw [List.length_map]; exact hk), map_at sv L ⟨#[]⟩ k hk]; rfl
  · rw [h3.cellAt _ (by omega), List.getElem?_append_right (by rw [List.length_map]; exact Nat.le_refl _), List.length_map, Nat.sub_self]; rfl
  · rw [h3.cellAt _ (by omega), List.getElem?_append_right (by rw [List.length_map]; omega), List.length_map, Nat.add_sub_cancel_left]; rfl
theorem LentTexts.room {w : World} {Y : Nat} {v : Value} {L : List ByteArray} (h : LentTexts w Y v L) : ∃ g cap cur, v = .slice (some ⟨g, 0, none⟩) L.length cap ∧ w.heap[g]? = some (.cells cur 9 (0, 0)) ∧ cur.size = cap ∧ L.length ≤ cap ∧ cap ≤ maxLen ∧ Y ≤ g ∧ g < w.heap.size := by
  obtain ⟨g, cap, rfl, hc, hcm, hr⟩ := h
  have hl := hr.lt g rfl
  rcases hr.2 with ⟨h0, _⟩ | ⟨g', cap', cur, hv, hb, hg, hnc, hcm, hcs, htk⟩
  · cases h0
  · cases hv
    exact ⟨g, cap, cur, rfl, hg, by omega, by omega, hcm, hl⟩
theorem LentTexts.at {w : World} {Y : Nat} {v : Value} {L : List ByteArray} (h : LentTexts w Y v L) (hl : L.length ≤ 17592186043904) (hw : ∀ k, k < L.length → (L.getD k ⟨#[]⟩).size ≤ maxLen) : TextsAt w v L := by
  obtain ⟨g, cap, rfl, h1, h2, h3⟩ := h
  have hc := (show LentTexts w Y (.slice (some ⟨g, 0, none⟩) L.length cap) L from ⟨g, cap, rfl, h1, h2, h3⟩).cells.1
  exact ⟨_, _, rfl, by omega, by omega, hw, Or.inr ⟨g, 0, rfl, fun k hk => by rw [Nat.zero_add]; exact hc k hk⟩⟩

set_option maxRecDepth 100000 in
set_option maxHeartbeats 1000000 in
theorem lent_texts {w : World} {v : Value} {L : List ByteArray} (hL : TextsAt w v L) (hs : L.length ≤ 1000000) :
    Calls Try.prog 20 #[v] w fun e w' => ∃ v', e = .returned v' ∧ LentTexts w' w.heap.size v' L ∧ w.grownBy w' none := by
  obtain ⟨i0, hi, hz0, hz1, hz2⟩ := info_parts Try.info9
  obtain ⟨a, cap, rfl, hcap, hlen, hwf, hc⟩ := hL

  have hend : ∀ (g cap : Nat) (w' : World), w'.ownsRow w.heap.size 9 1 (.slice (some ⟨g, 0, none⟩) (L.length + 2) cap) (L.length + 2) (L.map sv ++ [(.string ⟨#[116, 104, 101, 32, 111, 119, 110, 101, 114, 39, 115]⟩), (.string ⟨#[116, 104, 101, 32, 111, 119, 110, 101, 114, 39, 115]⟩)]) → L.length + 2 ≤ cap ∧ cap ≤ maxLen ∧ LentTexts w' w.heap.size (.slice (some ⟨g, 0, none⟩) L.length cap) L := fun g cap w' h => by
    rcases h.2 with ⟨h0, _⟩ | ⟨g', cap', cur, hv, hb, hg, hnc, hcm, hcs, htk⟩
    · cases h0
    · cases hv
      exact ⟨hnc, hcm, g, cap, rfl, hnc, hcm, h⟩
  have HE := Lib.hid hend
  clear hwf hend
  cases a with
  | none =>
    rcases hc with rfl | ⟨b, off, h, _⟩
    · go_enter Try.func20, Try.ntmps20
      go_wp2_with (first | (at_make; refine wpList_make_own _ rfl _ _ 23 rfl w.heap.size 9 i0 (.string ⟨#[]⟩) 1 Try.underlying23 hi hz0 hz1 .i64 .i64 _ 2 rfl rfl (by decide) (by rw [hz2]; decide) (by decide) (Nat.le_refl _) ?_; intro w1 hown1 hg1) | (at_builtin; refine wpList_append_lies _ rfl (.tmp 11) (.tmp 12) 23 rfl w.heap.size 9 i0 (.string ⟨#[]⟩) 1 16 Try.underlying23 hi hz0 hz1 hz2 rfl (by decide) (.slice (some ⟨w.heap.size, 0, none⟩) 0 2) 0 [] rfl (hown1.alloc _) ⟨w1.heap.size, 0, none⟩ 2 2 [(.string ⟨#[116, 104, 101, 32, 111, 119, 110, 101, 114, 39, 115]⟩), (.string ⟨#[116, 104, 101, 32, 111, 119, 110, 101, 114, 39, 115]⟩)] rfl rfl (cell_two_new _ _ _ _) (by simp [Value.oneCell']) (by decide) (by unfold maxLen; omega) (by omega) (by rw [World.size_alloc]; exact Nat.le_succ_of_le hg1.size) _ rfl ?_; intro g3 cap3 w3 hown3 hg3 hat3 hlt3; have hE3 := HE.out _ _ _ hown3; have hi3 : (0 : Int) ≤ (cap3 : Int) := by omega))
      go_ret
      refine ⟨_, rfl, hE3.2.2, gb_trans (gb_trans hg1 (World.grownBy_alloc _ _ _) (Or.inl rfl)) hg3 (Or.inr (Or.inr ⟨w.heap.size, rfl, Nat.le_refl _⟩))⟩
    · cases h
  | some ad =>
    have hnews : ∀ (w1 : World), w.grownBy w1 none → ∀ j u, (L.map sv)[j]? = some u → w1.cell? (ad.add j) = some u := fun w1 hg j u hu => by
      have hj : j < L.length := by simpa using (List.getElem?_eq_some_iff.1 hu).1
      rcases hc with rfl | ⟨b, off, h, hc⟩
      · simp at hj
      · cases h
        rw [Addr.add_lit, hg.cell (hc j hj) (by simp)]
        rw [map_at sv L ⟨#[]⟩ j hj] at hu
        rw [← hu]
        rfl
    have HN := Lib.hid hnews
    clear hnews hc
    go_enter Try.func20, Try.ntmps20
    go_wp2_with (first
      | (at_make; refine wpList_make_own _ rfl _ _ 23 rfl w.heap.size 9 i0 (.string ⟨#[]⟩) 1 Try.underlying23 hi hz0 hz1 .i64 .i64 _ (L.length + 2) rfl rfl (by omega) (by rw [hz2]; omega) (by unfold maxLen; omega) (Nat.le_refl _) ?_; intro w1 hown1 hg1)
      | (at_builtin; refine wpList_append_own _ rfl (.tmp 8) (.tmp 9) 23 rfl w.heap.size 9 i0 (.string ⟨#[]⟩) 1 16 Try.underlying23 hi hz0 hz1 hz2 rfl (by decide) _ _ _ rfl hown1 ad L.length cap (L.map sv) rfl (by simp) (HN.out _ hg1) (sv_one L) (by unfold maxLen; omega) (by omega) hg1.size ?_; intro v2 w2 hown2 hg2 hnil; have hG2 := gb_trans hg1 hg2 (Or.inr (Or.inr ⟨w.heap.size, rfl, Nat.le_refl _⟩)); rw [Nat.zero_add, List.nil_append] at hown2; obtain ⟨a2, c2, rfl⟩ := own_val hown2)
      | (at_builtin; refine wpList_append_lies _ rfl (.tmp 11) (.tmp 12) 23 rfl w.heap.size 9 i0 (.string ⟨#[]⟩) 1 16 Try.underlying23 hi hz0 hz1 hz2 rfl (by decide) (.slice a2 L.length c2) L.length (L.map sv) rfl (hown2.alloc _) ⟨w2.heap.size, 0, none⟩ 2 2 [(.string ⟨#[116, 104, 101, 32, 111, 119, 110, 101, 114, 39, 115]⟩), (.string ⟨#[116, 104, 101, 32, 111, 119, 110, 101, 114, 39, 115]⟩)] rfl rfl (cell_two_new _ _ _ _) (by simp [Value.oneCell']) (by decide) (by unfold maxLen; omega) (by omega) (by rw [World.size_alloc]; exact Nat.le_succ_of_le hG2.size) _ rfl ?_; intro g3 cap3 w3 hown3 hg3 hat3 hlt3; have hE3 := HE.out _ _ _ hown3; have hi3 : (L.length : Int) ≤ (cap3 : Int) := by omega))
    go_ret
    refine ⟨_, rfl, hE3.2.2, gb_trans (gb_trans hG2 (World.grownBy_alloc _ _ _) (Or.inl rfl)) hg3 ?_⟩
    rcases e : (Value.slice a2 L.length c2).ownBlock with _ | b
    · exact Or.inl rfl
    · exact Or.inr (Or.inr ⟨b, rfl, (hown2.lt b e).1⟩)

set_option maxRecDepth 100000 in
set_option maxHeartbeats 1000000 in
theorem same_texts {w : World} {a b : Value} {L : List ByteArray} (ha : TextsAt w a L) (hb : TextsAt w b L) :
    Calls Try.prog 57 #[a, b] w fun e w' => e = .returned (.bool true) ∧ w.grownBy w' none := by
  have HA := Lib.hid ha
  have HB := Lib.hid hb
  obtain ⟨aa, ca, rfl, hca, _, _, _⟩ := ha
  obtain ⟨ab, cb, rfl, hcb, _, _, _⟩ := hb
  go_enter Try.func57, Try.ntmps57
  go_wp2_with fail
  go_loopw [5] (fun i wr => ∃ (k : Nat), k ≤ L.length ∧ i = .int .i64 (k : Int) ∧ w.grownBy wr none) (fun i _ => L.length - (intOf i).toNat)
  case atStart => exact ⟨0, by omega, rfl, gb_refl _ _⟩
  case round =>
    obtain ⟨k, hk, rfl, hG⟩ := hrel
    by_cases hlt : k < L.length
    · obtain ⟨_, _, hva, _, _, _, hma⟩ := HA.out.kept hG
      cases hva
      obtain ⟨_, _, hvb, _, _, _, hmb⟩ := HB.out.kept hG
      cases hvb
      rcases hma with rfl | ⟨b1, o1, rfl, hma⟩
      · exact absurd hlt (by simp)
      rcases hmb with rfl | ⟨b2, o2, rfl, hmb⟩
      · exact absurd hlt (by simp)
      have h1 := hma k hlt
      have h2 := hmb k hlt
      clear hma hmb
      generalize L.getD k ⟨#[]⟩ = x at h1 h2
      have hkI : (k : Int) < (L.length : Int) := by omega
      go_wp2_with fail
      go_quiet (fail)
      go_wp2
      go_roundw
      case rel => exact ⟨k + 1, by omega, by go_num, gb_trans hG (gb_drewN _ _ none) (Or.inl rfl)⟩
      case measure => simp [intOf]; omega
    · obtain rfl : k = L.length := by omega
      go_wp2_with fail
      go_ret
      exact ⟨rfl, hG⟩

set_option maxRecDepth 100000 in
set_option maxHeartbeats 1000000 in
theorem whole_texts {w : World} {Y : Nat} {x l : Value} {L : List ByteArray} (hx : LentTexts w Y x L) (hl : TextsAt w l L) :
    Calls Try.prog 22 #[x, l] w fun e w' => e = .returned (.bool true) ∧ w.grownBy w' none := by
  have hxa : TextsAt w x L := by
    obtain ⟨_, _, _, _, hlen, hwf, _⟩ := hl
    exact hx.at hlen hwf
  have HS := Lib.hid (same_texts hxa hl)
  have hlen : L.length ≤ 17592186043904 := by obtain ⟨_, _, _, _, hlen, hwf, _⟩ := hl; exact hlen
  obtain ⟨al, cl, nl, rfl⟩ : ∃ al cl nl, l = .slice al nl cl := by obtain ⟨al, cl, e, _⟩ := hl; exact ⟨al, cl, _, e⟩
  obtain ⟨g, cap, rfl, hc, hcm, hr⟩ := hx
  obtain ⟨_, h1, h2⟩ := (show LentTexts w Y (.slice (some ⟨g, 0, none⟩) L.length cap) L from ⟨g, cap, rfl, hc, hcm, hr⟩).cells
  clear hr hl hxa
  have hcI : ¬ (cap : Int) < (L.length : Int) + 2 := by omega
  have hcJ : (L.length : Int) + 2 ≤ (cap : Int) := by omega
  have hcK : (cap : Int) ≤ 9223372036854775807 := by unfold maxLen at hcm; omega
  unfold maxLen at *
  go_enter Try.func22, Try.ntmps22
  go_wp2_with (go_at_call 57; refine HS.out.mono ?_; rintro e w1 ⟨rfl, hg1⟩)
  go_ret
  exact ⟨rfl, hg1⟩

set_option maxRecDepth 100000 in
set_option maxHeartbeats 1000000 in
theorem spoil_texts {w : World} {g n cap : Nat} {cur : Array Value} (hgb : w.heap[g]? = some (.cells cur 9 (0, 0))) (hsz : cur.size = cap) (hc : n ≤ cap) (hcm : cap ≤ maxLen) :
    Calls Try.prog 23 #[.slice (some ⟨g, 0, none⟩) n cap] w fun e w' => e = .returned (.tuple #[]) ∧ w.grownBy w' (some g) ∧ (∃ cur', w'.heap[g]? = some (.cells cur' 9 (0, 0)) ∧ cur'.size = cap) ∧ (n ≤ 17592186043904 → TextsAt w' (.slice (some ⟨g, 0, none⟩) n cap) (List.replicate n (⟨#[115, 112, 111, 105, 108, 116]⟩ : ByteArray))) := by
  have hcK : (cap : Int) ≤ 9223372036854775807 := by unfold maxLen at hcm; omega
  have hcN : cap ≤ 9223372036854775807 := by omega
  clear hcm
  go_enter Try.func23, Try.ntmps23
  go_wp2_with fail
  go_loopw [3] (fun i wr => ∃ (k : Nat) (c : Array Value), k ≤ cap ∧ i = .int .i64 (k : Int) ∧ wr.heap[g]? = some (.cells c 9 (0, 0)) ∧ c.size = cap ∧ (∀ j, j < k → c[j]? = some (.string ⟨#[115, 112, 111, 105, 108, 116]⟩)) ∧ w.grownBy wr (some g)) (fun i _ => cap - (intOf i).toNat)
  case atStart => exact ⟨0, cur, by omega, rfl, hgb, hsz, fun j hj => absurd hj (Nat.not_lt_zero _), gb_refl _ _⟩
  case round =>
    obtain ⟨k, c, hk, rfl, hb, hcs, hdone, hG⟩ := hrel
    by_cases hlt : k < cap
    · have hcell : wr.cell? ⟨g, k, none⟩ = some (c[k]'(by omega)) := by simp [World.cell?, hb, hcs, hlt]
      have hfz : wr.frozen? ⟨g, k, none⟩ = false := by simp [World.frozen?, hb]
      have HSet : Hid ((wr.setCell ⟨g, k, none⟩ (.string ⟨#[115, 112, 111, 105, 108, 116]⟩)).heap[g]? = some (.cells (c.setIfInBounds k (.string ⟨#[115, 112, 111, 105, 108, 116]⟩)) 9 (0, 0))) := Lib.hid (by simp only [World.setCell, Array.getElem?_modify, hb]; simp)
      have HD := Lib.hid hdone
      generalize c[k]'(by omega) = old at hcell
      have hkI : (k : Int) < (cap : Int) := by omega
      clear hb hdone hgb hsz
      go_wp2_with fail
      go_roundw
      case rel =>
        refine ⟨k + 1, _, by omega, by go_num, HSet.out, by simpa using hcs, fun j hj => ?_, gb_trans hG gb_set (Or.inr (Or.inl rfl))⟩
        rw [Array.getElem?_setIfInBounds]
        by_cases e : k = j
        · subst e; rw [if_pos rfl, if_pos (by omega)]
        · rw [if_neg e]; exact HD.out j (by omega)
      case measure => simp [intOf]; omega
    · obtain rfl : k = cap := by omega
      have HEnd : Hid (n ≤ 17592186043904 → TextsAt wr (.slice (some ⟨g, 0, none⟩) n k) (List.replicate n (⟨#[115, 112, 111, 105, 108, 116]⟩ : ByteArray))) := Lib.hid fun hlen => by
        have hw : ∀ k, k < (List.replicate n (⟨#[115, 112, 111, 105, 108, 116]⟩ : ByteArray)).length → ((List.replicate n (⟨#[115, 112, 111, 105, 108, 116]⟩ : ByteArray)).getD k ⟨#[]⟩).size ≤ maxLen := fun j hj => by
          rw [List.length_replicate] at hj
          rw [List.getD_eq_getElem?_getD, List.getElem?_replicate, if_pos hj]
          decide
        have hcl : ∀ j, j < (List.replicate n (⟨#[115, 112, 111, 105, 108, 116]⟩ : ByteArray)).length → wr.cell? ⟨g, j, none⟩ = some (.string ((List.replicate n (⟨#[115, 112, 111, 105, 108, 116]⟩ : ByteArray)).getD j ⟨#[]⟩)) := fun j hj => by
          rw [List.length_replicate] at hj
          rw [List.getD_eq_getElem?_getD, List.getElem?_replicate, if_pos hj]
          have := hdone j (by omega)
          simp only [World.cell?, hb]
          exact this
        have hn : (List.replicate n (⟨#[115, 112, 111, 105, 108, 116]⟩ : ByteArray)).length = n := List.length_replicate
        exact ⟨_, _, by rw [hn], by rw [hn]; omega, by rw [hn]; exact hlen, hw, Or.inr ⟨g, 0, rfl, fun j hj => by rw [Nat.zero_add]; exact hcl j hj⟩⟩
      have HCur : Hid (∃ cur', wr.heap[g]? = some (.cells cur' 9 (0, 0)) ∧ cur'.size = k) := Lib.hid ⟨c, hb, hcs⟩
      clear hb hdone hgb
      go_wp2_with fail
      all_goals go_end0
      all_goals exact ⟨rfl, hG, HCur.out, HEnd.out⟩
end Go.Proofs.Ytpehmlkikhkmfaa
