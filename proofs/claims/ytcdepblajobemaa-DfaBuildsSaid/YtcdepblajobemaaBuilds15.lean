/- Lists of edges that are lent (elements of four cells). -/
import Derived.Test.YtcdepblajobemaaBuilds14
import Derived.Deep.RegionWith
set_option maxRecDepth 100000
namespace Go.Proofs.Ytcdepblajobemaa
open Go.RowKit

theorem Try.info61 : (Try.prog.info? 61).map (fun i => (i.zero, i.size, i.bytes)) = some (some (.agg #[.int .i64 0, .int .i64 0, .int .u16 0, .int .u16 0]), 4, 24) := by kernel_rfl
/-- The four cells of an edge. -/
def ev (e : Edg) : List Value := [.int .i64 e.fr, .int .i64 e.tt, .int .u16 (e.mu : Int), .int .u16 (e.no : Int)]
def evs (L : List Edg) : List Value := L.flatMap ev
def mk7 : Edg := ⟨-7, 0, 0, 0⟩
def mk8 : Edg := ⟨-8, 0, 0, 0⟩
theorem evs_len (L : List Edg) : (evs L).length = L.length * 4 := by
  unfold evs
  induction L with
  | nil => rfl
  | cons e L ih => rw [List.flatMap_cons, List.length_append, ih, List.length_cons]; show 4 + _ = _; omega
theorem evs_at : ∀ (L : List Edg) (i j : Nat), i < L.length → j < 4 → (evs L)[i * 4 + j]? = (ev (L.getD i edg0))[j]?
  | [], i, j, h, _ => absurd h (by simp)
  | e :: L, 0, j, _, hj => by
    unfold evs
    rw [List.flatMap_cons, List.getElem?_append_left (by show 0 * 4 + j < 4; omega)]
    simp
  | e :: L, i + 1, j, h, hj => by
    have ih := evs_at L i j (by simpa using h) hj
    unfold evs at ih ⊢
    rw [List.flatMap_cons, List.getElem?_append_right (by show 4 ≤ _; omega), show (i + 1) * 4 + j - (ev e).length = i * 4 + j from by show (i + 1) * 4 + j - 4 = _; omega]
    rw [ih]
    simp
theorem evs_append (L M : List Edg) : evs (L ++ M) = evs L ++ evs M := by unfold evs; rw [List.flatMap_append]
theorem evs_one (L : List Edg) : ∀ u ∈ evs L, u.oneCell' = true := by
  intro u hu
  obtain ⟨e, _, h⟩ := List.mem_flatMap.1 hu
  unfold ev at h
  simp at h
  rcases h with rfl | rfl | rfl | rfl <;> rfl
/-- A list that is lent: two marks stand behind it. -/
def LentEdges (w : World) (Y : Nat) (v : Value) (L : List Edg) : Prop :=
  ∃ g cap, v = .slice (some ⟨g, 0, none⟩) L.length cap ∧ L.length + 2 ≤ cap ∧ cap ≤ maxLen ∧ w.ownsRow Y 61 4 (.slice (some ⟨g, 0, none⟩) (L.length + 2) cap) (L.length + 2) (evs (L ++ [mk7, mk8]))
theorem LentEdges.kept {w w' : World} {Y : Nat} {v : Value} {L : List Edg} {row : Option Nat} (h : LentEdges w Y v L) (hg : w.grownBy w' row) (hne : v.ownBlock = none ∨ v.ownBlock ≠ row) : LentEdges w' Y v L := by
  obtain ⟨g, cap, rfl, h1, h2, h3⟩ := h
  exact ⟨g, cap, rfl, h1, h2, h3.kept hg hne⟩
theorem LentEdges.lt {w : World} {Y : Nat} {v : Value} {L : List Edg} (h : LentEdges w Y v L) : ∀ b, v.ownBlock = some b → Y ≤ b ∧ b < w.heap.size := by
  obtain ⟨g, cap, rfl, h1, h2, h3⟩ := h
  exact fun b hb => h3.lt b hb
/-- The cells of an edge in an own row. -/
theorem own_edge {w : World} {Y g n cap : Nat} {L : List Edg} (h : w.ownsRow Y 61 4 (.slice (some ⟨g, 0, none⟩) n cap) n (evs L)) (hn : L.length = n) {k : Nat} (hk : k < n) :
    w.cell? ⟨g, k * 4, none⟩ = some (.int .i64 (L.getD k edg0).fr) ∧ w.cell? ⟨g, k * 4 + 1, none⟩ = some (.int .i64 (L.getD k edg0).tt) ∧ w.cell? ⟨g, k * 4 + 2, none⟩ = some (.int .u16 ((L.getD k edg0).mu : Int)) ∧ w.cell? ⟨g, k * 4 + 3, none⟩ = some (.int .u16 ((L.getD k edg0).no : Int)) := by
  have hc : ∀ j, j < 4 → w.cell? ⟨g, k * 4 + j, none⟩ = (ev (L.getD k edg0))[j]? := fun j hj => by
    rw [h.cellAt (k * 4 + j) (by omega), evs_at L k j (by omega) hj]
  exact ⟨hc 0 (by omega), hc 1 (by omega), hc 2 (by omega), hc 3 (by omega)⟩
theorem LentEdges.at {w : World} {Y : Nat} {v : Value} {L : List Edg} (h : LentEdges w Y v L) (hl : L.length ≤ 17592186043904) (hw : ∀ k, k < L.length → edgeOk (L.getD k edg0)) : EdgesAt w v L := by
  obtain ⟨g, cap, rfl, h1, h2, h3⟩ := h
  refine ⟨_, _, rfl, by omega, hw, hl, Or.inr ⟨g, 0, rfl, fun k hk => ?_⟩⟩
  have := own_edge h3 (by simp) (show k < L.length + 2 by omega)
  rw [show (L ++ [mk7, mk8]).getD k edg0 = L.getD k edg0 by rw [List.getD_eq_getElem?_getD, List.getElem?_append_left hk, List.getD_eq_getElem?_getD]] at this
  rw [Nat.zero_add]
  exact this
theorem LentEdges.room {w : World} {Y : Nat} {v : Value} {L : List Edg} (h : LentEdges w Y v L) : ∃ g cap cur, v = .slice (some ⟨g, 0, none⟩) L.length cap ∧ w.heap[g]? = some (.cells cur 61 (0, 0)) ∧ cur.size = cap * 4 ∧ L.length ≤ cap ∧ cap ≤ maxLen ∧ Y ≤ g ∧ g < w.heap.size := by
  obtain ⟨g, cap, rfl, hc, hcm, hr⟩ := h
  have hl := hr.lt g rfl
  rcases hr.2 with ⟨h0, _⟩ | ⟨g', cap', cur, hv, hb, hg, hnc, hcm, hcs, htk⟩
  · cases h0
  · cases hv
    exact ⟨g, cap, cur, rfl, hg, by omega, by omega, hcm, hl⟩
theorem own_val4 {w : World} {Z e n : Nat} {v : Value} {xs : List Value} (h : w.ownsRow Z e 4 v n xs) : ∃ a cap, v = .slice a n cap := by
  rcases h.2 with ⟨rfl, h0⟩ | ⟨g, cap, cur, rfl, _⟩
  · exact ⟨none, 0, by rw [h0]⟩
  · exact ⟨_, _, rfl⟩
theorem edges_news {w : World} {ad : Option Addr} {cap : Nat} {L : List Edg} (hL : EdgesAt w (.slice ad L.length cap) L) {a : Addr} (ha : ad = some a) : ∀ j u, (evs L)[j]? = some u → w.cell? (a.add j) = some u := by
  intro j u hu
  have hj : j < L.length * 4 := by have := (List.getElem?_eq_some_iff.1 hu).1; rwa [evs_len] at this
  obtain ⟨_, _, e, -, -, -, hc⟩ := hL
  cases e
  rcases hc with rfl | ⟨b, off, e, hc⟩
  · simp at hj
  · rw [ha] at e
    cases e
    have hj4 : j = (j / 4) * 4 + j % 4 := by omega
    obtain ⟨c0, c1, c2, c3⟩ := hc (j / 4) (by omega)
    rw [hj4, evs_at L (j / 4) (j % 4) (by omega) (by omega)] at hu
    rw [Addr.add_lit, hj4]
    have hm : j % 4 = 0 ∨ j % 4 = 1 ∨ j % 4 = 2 ∨ j % 4 = 3 := by omega
    rcases hm with h | h | h | h <;> rw [h] at hu ⊢ <;> simp only [ev, List.getElem?_cons_zero, List.getElem?_cons_succ] at hu <;> rw [← hu]
    · exact c0
    · rw [← Nat.add_assoc]; exact c1
    · rw [← Nat.add_assoc]; exact c2
    · rw [← Nat.add_assoc]; exact c3
theorem marks_new (w : World) (t : TypeId) : ∀ j u, ([.int .i64 (-7), .int .i64 0, .int .u16 0, .int .u16 0, .int .i64 (-8), .int .i64 0, .int .u16 0, .int .u16 0] : List Value)[j]? = some u → (w.alloc (.cells #[.int .i64 (-7), .int .i64 0, .int .u16 0, .int .u16 0, .int .i64 (-8), .int .i64 0, .int .u16 0, .int .u16 0] t)).cell? ((⟨w.heap.size, 0, none⟩ : Addr).add j) = some u :=
  World.news_of_block (cs := #[.int .i64 (-7), .int .i64 0, .int .u16 0, .int .u16 0, .int .i64 (-8), .int .i64 0, .int .u16 0, .int .u16 0]) (t := t) (fr := (0, 0)) (heap_alloc_new w _)
set_option maxHeartbeats 1000000 in
theorem lent_edges {w : World} {v : Value} {L : List Edg} (hL : EdgesAt w v L) (hs : L.length ≤ 1000000) :
    Calls Try.prog 60 #[v] w fun e w' => ∃ v', e = .returned v' ∧ LentEdges w' w.heap.size v' L ∧ w.grownBy w' none := by
  obtain ⟨i0, hi, hz0, hz1, hz2⟩ := info_parts Try.info61
  have HL := Lib.hid hL
  obtain ⟨a, cap, rfl, hcap, -, hlen, hc⟩ := hL
  have hend : ∀ (g cap : Nat) (w' : World), w'.ownsRow w.heap.size 61 4 (.slice (some ⟨g, 0, none⟩) (L.length + 2) cap) (L.length + 2) (evs L ++ [.int .i64 (-7), .int .i64 0, .int .u16 0, .int .u16 0, .int .i64 (-8), .int .i64 0, .int .u16 0, .int .u16 0]) → L.length + 2 ≤ cap ∧ cap ≤ maxLen ∧ LentEdges w' w.heap.size (.slice (some ⟨g, 0, none⟩) L.length cap) L := fun g cap w' h => by
    rcases h.2 with ⟨h0, _⟩ | ⟨g', cap', cur, hv, hb, hg, hnc, hcm, hcs, htk⟩
    · cases h0
    · cases hv
      exact ⟨hnc, hcm, g, cap, rfl, hnc, hcm, by rw [evs_append]; exact h⟩
  have HE := Lib.hid hend
  clear hend
  cases a with
  | none =>
    rcases hc with rfl | ⟨b, off, h, _⟩
    · clear HL
      go_enter Try.func60, Try.ntmps60
      go_wp2_with (first | (at_make; refine wpList_make_own _ rfl _ _ 45 rfl w.heap.size 61 i0 (.agg #[.int .i64 0, .int .i64 0, .int .u16 0, .int .u16 0]) 4 Try.underlying45 hi hz0 hz1 .i64 .i64 _ 2 rfl rfl (by decide) (by rw [hz2]; decide) (by decide) (Nat.le_refl _) ?_; intro w1 hown1 hg1) | (at_builtin; refine wpList_append_lies _ rfl (.tmp 11) (.tmp 14) 45 rfl w.heap.size 61 i0 (.agg #[.int .i64 0, .int .i64 0, .int .u16 0, .int .u16 0]) 4 24 Try.underlying45 hi hz0 hz1 hz2 rfl (by decide) (.slice (some ⟨w.heap.size, 0, none⟩) 0 2) 0 [] rfl (hown1.alloc _) ⟨w1.heap.size, 0, none⟩ 2 2 [.int .i64 (-7), .int .i64 0, .int .u16 0, .int .u16 0, .int .i64 (-8), .int .i64 0, .int .u16 0, .int .u16 0] rfl rfl (marks_new _ _) (by simp [Value.oneCell']) (by decide) (by unfold maxLen; omega) (by omega) (by rw [World.size_alloc]; exact Nat.le_succ_of_le hg1.size) _ rfl ?_; intro g3 cap3 w3 hown3 hg3 hat3 hlt3; have hE3 := HE.out _ _ _ hown3; have hi3 : (0 : Int) ≤ (cap3 : Int) := by omega))
      go_ret
      refine ⟨_, rfl, hE3.2.2, gb_trans (gb_trans hg1 (World.grownBy_alloc _ _ _) (Or.inl rfl)) hg3 (Or.inr (Or.inr ⟨w.heap.size, rfl, Nat.le_refl _⟩))⟩
    · cases h
  | some ad =>
    have HN : Hid (∀ (w1 : World), w.grownBy w1 none → ∀ j u, (evs L)[j]? = some u → w1.cell? (ad.add j) = some u) := Lib.hid fun w1 hg => edges_news (HL.out.kept hg) rfl
    have hel := evs_len L
    have heo := evs_one L
    clear hc HL
    go_enter Try.func60, Try.ntmps60
    go_wp2_with (first
      | (at_make; refine wpList_make_own _ rfl _ _ 45 rfl w.heap.size 61 i0 (.agg #[.int .i64 0, .int .i64 0, .int .u16 0, .int .u16 0]) 4 Try.underlying45 hi hz0 hz1 .i64 .i64 _ (L.length + 2) rfl rfl (by omega) (by rw [hz2]; omega) (by unfold maxLen; omega) (Nat.le_refl _) ?_; intro w1 hown1 hg1)
      | (at_builtin; refine wpList_append_own _ rfl (.tmp 8) (.tmp 9) 45 rfl w.heap.size 61 i0 (.agg #[.int .i64 0, .int .i64 0, .int .u16 0, .int .u16 0]) 4 24 Try.underlying45 hi hz0 hz1 hz2 rfl (by decide) _ _ _ rfl hown1 ad L.length cap (evs L) rfl hel (HN.out _ hg1) heo (by unfold maxLen; omega) (by omega) hg1.size ?_; intro v2 w2 hown2 hg2 hnil; have hG2 := gb_trans hg1 hg2 (Or.inr (Or.inr ⟨w.heap.size, rfl, Nat.le_refl _⟩)); rw [Nat.zero_add, List.nil_append] at hown2; obtain ⟨a2, c2, rfl⟩ := own_val4 hown2)
      | (at_builtin; refine wpList_append_lies _ rfl (.tmp 11) (.tmp 14) 45 rfl w.heap.size 61 i0 (.agg #[.int .i64 0, .int .i64 0, .int .u16 0, .int .u16 0]) 4 24 Try.underlying45 hi hz0 hz1 hz2 rfl (by decide) (.slice a2 L.length c2) L.length (evs L) rfl (hown2.alloc _) ⟨w2.heap.size, 0, none⟩ 2 2 [.int .i64 (-7), .int .i64 0, .int .u16 0, .int .u16 0, .int .i64 (-8), .int .i64 0, .int .u16 0, .int .u16 0] rfl rfl (marks_new _ _) (by simp [Value.oneCell']) (by decide) (by unfold maxLen; omega) (by omega) (by rw [World.size_alloc]; exact Nat.le_succ_of_le hG2.size) _ rfl ?_; intro g3 cap3 w3 hown3 hg3 hat3 hlt3; have hE3 := HE.out _ _ _ hown3; have hi3 : (L.length : Int) ≤ (cap3 : Int) := by omega))
    go_ret
    refine ⟨_, rfl, hE3.2.2, gb_trans (gb_trans hG2 (World.grownBy_alloc _ _ _) (Or.inl rfl)) hg3 ?_⟩
    rcases e : (Value.slice a2 L.length c2).ownBlock with _ | b
    · exact Or.inl rfl
    · exact Or.inr (Or.inr ⟨b, rfl, (hown2.lt b e).1⟩)
set_option maxHeartbeats 1000000 in
theorem same_edges {w : World} {a b : Value} {L : List Edg} (ha : EdgesAt w a L) (hb : EdgesAt w b L) :
    Calls Try.prog 105 #[a, b] w fun e w' => e = .returned (.bool true) ∧ w.grownBy w' none := by
  have HA := Lib.hid ha
  have HB := Lib.hid hb
  obtain ⟨aa, ca, rfl, hca, -, hal, -⟩ := ha
  obtain ⟨ab, cb, rfl, hcb, -, -, -⟩ := hb
  go_enter Try.func105, Try.ntmps105
  go_wp2_with fail
  go_loopw [5] (fun i wr => ∃ (k : Nat), k ≤ L.length ∧ i = .int .i64 (k : Int) ∧ w.grownBy wr none) (fun i _ => L.length - (intOf i).toNat)
  case atStart => exact ⟨0, by omega, rfl, gb_refl _ _⟩
  case round =>
    obtain ⟨k, hk, rfl, hG⟩ := hrel
    by_cases hlt : k < L.length
    · obtain ⟨_, _, hva, _, _, _, hma⟩ := HA.out.kept hG
      cases hva
      obtain ⟨_, _, hvb, _, _, _, hmb⟩ := HB.out.kept hG
      cases hvb
      rcases hma with rfl | ⟨b1, o1, rfl, hma⟩
      · exact absurd hlt (by simp)
      rcases hmb with rfl | ⟨b2, o2, rfl, hmb⟩
      · exact absurd hlt (by simp)
      obtain ⟨p0, p1, p2, p3⟩ := hma k hlt
      obtain ⟨q0, q1, q2, q3⟩ := hmb k hlt
      clear hma hmb
      generalize (L.getD k edg0).fr = x0 at p0 q0
      generalize (L.getD k edg0).tt = x1 at p1 q1
      generalize ((L.getD k edg0).mu : Int) = x2 at p2 q2
      generalize ((L.getD k edg0).no : Int) = x3 at p3 q3
      have hkI : (k : Int) < (L.length : Int) := by omega
      have HG := Lib.hid hG
      clear HA HB hG
      go_wp2_with fail
      go_quiet (fail)
      go_wp2
      go_roundw
      case rel => exact ⟨k + 1, by omega, by go_num, gb_trans HG.out (gb_drewN _ _ none) (Or.inl rfl)⟩
      case measure => simp [intOf]; omega
    · obtain rfl : k = L.length := by omega
      go_wp2_with fail
      go_ret
      exact ⟨rfl, hG⟩
set_option maxHeartbeats 1000000 in
theorem whole_edges {w : World} {Y : Nat} {x l : Value} {L : List Edg} (hx : LentEdges w Y x L) (hl : EdgesAt w l L) :
    Calls Try.prog 62 #[x, l] w fun e w' => e = .returned (.bool true) ∧ w.grownBy w' none := by
  have hxa : EdgesAt w x L := by
    obtain ⟨_, _, _, _, hwf, hlen, _⟩ := hl
    exact hx.at hlen hwf
  have HS := Lib.hid (same_edges hxa hl)
  have hlen : L.length ≤ 17592186043904 := by obtain ⟨_, _, _, _, _, hlen, _⟩ := hl; exact hlen
  obtain ⟨al, cl, nl, rfl⟩ : ∃ al cl nl, l = .slice al nl cl := by obtain ⟨al, cl, e, _⟩ := hl; exact ⟨al, cl, _, e⟩
  obtain ⟨g, cap, rfl, hc, hcm, hr⟩ := hx
  obtain ⟨p0, p1, p2, p3⟩ := own_edge hr (by simp) (show L.length < L.length + 2 by omega)
  obtain ⟨q0, q1, q2, q3⟩ := own_edge hr (by simp) (show L.length + 1 < L.length + 2 by omega)
  have e7 : (L ++ [mk7, mk8]).getD L.length edg0 = mk7 := by rw [List.getD_eq_getElem?_getD, List.getElem?_append_right (Nat.le_refl _), Nat.sub_self]; rfl
  have e8 : (L ++ [mk7, mk8]).getD (L.length + 1) edg0 = mk8 := by rw [List.getD_eq_getElem?_getD, List.getElem?_append_right (by omega), Nat.add_sub_cancel_left]; rfl
  rw [e7] at p0 p1 p2 p3
  rw [e8] at q0 q1 q2 q3
  simp only [mk7, mk8] at p0 p1 p2 p3 q0 q1 q2 q3
  clear hr hl hxa e7 e8
  have hcI : ¬ (cap : Int) < (L.length : Int) + 2 := by omega
  have hcJ : (L.length : Int) + 2 ≤ (cap : Int) := by omega
  have hcK : (cap : Int) ≤ 9223372036854775807 := by unfold maxLen at hcm; omega
  unfold maxLen at *
  go_enter Try.func62, Try.ntmps62
  go_wp2_with (go_at_call 105; refine HS.out.mono ?_; rintro e w1 ⟨rfl, hg1⟩)
  go_ret
  exact ⟨rfl, hg1⟩
theorem set1 {w : World} {g : Nat} {c : Array Value} {t : TypeId} (hb : w.heap[g]? = some (.cells c t (0, 0))) (o : Nat) (v : Value) : ∃ c', (w.setCell ⟨g, o, none⟩ v).heap[g]? = some (.cells c' t (0, 0)) ∧ c'.size = c.size ∧ w.grownBy (w.setCell ⟨g, o, none⟩ v) (some g) := by
  refine ⟨c.setIfInBounds o v, ?_, by simp, gb_set⟩
  simp only [World.setCell, Array.getElem?_modify, hb]
  simp
theorem set4 {w : World} {g : Nat} {c : Array Value} {t : TypeId} (hb : w.heap[g]? = some (.cells c t (0, 0))) (o0 o1 o2 o3 : Nat) (v0 v1 v2 v3 : Value) : ∃ c', ((((w.setCell ⟨g, o0, none⟩ v0).setCell ⟨g, o1, none⟩ v1).setCell ⟨g, o2, none⟩ v2).setCell ⟨g, o3, none⟩ v3).heap[g]? = some (.cells c' t (0, 0)) ∧ c'.size = c.size ∧ w.grownBy ((((w.setCell ⟨g, o0, none⟩ v0).setCell ⟨g, o1, none⟩ v1).setCell ⟨g, o2, none⟩ v2).setCell ⟨g, o3, none⟩ v3) (some g) := by
  obtain ⟨c1, h1, s1, g1⟩ := set1 hb o0 v0
  obtain ⟨c2, h2, s2, g2⟩ := set1 h1 o1 v1
  obtain ⟨c3, h3, s3, g3⟩ := set1 h2 o2 v2
  obtain ⟨c4, h4, s4, g4⟩ := set1 h3 o3 v3
  exact ⟨c4, h4, by omega, gb_trans (gb_trans (gb_trans g1 g2 (Or.inr (Or.inl rfl))) g3 (Or.inr (Or.inl rfl))) g4 (Or.inr (Or.inl rfl))⟩
set_option maxHeartbeats 1000000 in
theorem spoil_edges {w : World} {g n cap : Nat} {cur : Array Value} (hgb : w.heap[g]? = some (.cells cur 61 (0, 0))) (hsz : cur.size = cap * 4) (hc : n ≤ cap) (hcm : cap ≤ maxLen) :
    Calls Try.prog 74 #[.slice (some ⟨g, 0, none⟩) n cap] w fun e w' => e = .returned (.tuple #[]) ∧ w.grownBy w' (some g) ∧ ∃ cur', w'.heap[g]? = some (.cells cur' 61 (0, 0)) ∧ cur'.size = cap * 4 := by
  have hcK : (cap : Int) ≤ 9223372036854775807 := by unfold maxLen at hcm; omega
  have hcN : cap ≤ 9223372036854775807 := by omega
  clear hcm
  go_enter Try.func74, Try.ntmps74
  go_wp2_with fail
  go_loopw [3] (fun i wr => ∃ (k : Nat) (c : Array Value), k ≤ cap ∧ i = .int .i64 (k : Int) ∧ wr.heap[g]? = some (.cells c 61 (0, 0)) ∧ c.size = cap * 4 ∧ w.grownBy wr (some g)) (fun i _ => cap - (intOf i).toNat)
  case atStart => exact ⟨0, cur, by omega, rfl, hgb, hsz, gb_refl _ _⟩
  case round =>
    obtain ⟨k, c, hk, rfl, hb, hcs, hG⟩ := hrel
    by_cases hlt : k < cap
    · have hcell : ∀ j, j < 4 → ∃ v, wr.cell? ⟨g, k * 4 + j, none⟩ = some v := fun j hj => ⟨c[k * 4 + j]'(by omega), by simp [World.cell?, hb, show k * 4 + j < c.size by omega]⟩
      obtain ⟨v0, h0⟩ := hcell 0 (by omega)
      obtain ⟨v1, h1⟩ := hcell 1 (by omega)
      obtain ⟨v2, h2⟩ := hcell 2 (by omega)
      obtain ⟨v3, h3⟩ := hcell 3 (by omega)
      have hfz : ∀ o, wr.frozen? ⟨g, o, none⟩ = false := fun o => by simp [World.frozen?, hb]
      have f0 := hfz (k * 4)
      have f1 := hfz (k * 4 + 1)
      have f2 := hfz (k * 4 + 2)
      have f3 := hfz (k * 4 + 3)
      rw [Nat.add_zero] at h0
      have HSet := Lib.hid (set4 hb (k * 4) (k * 4 + 1) (k * 4 + 2) (k * 4 + 3) (.int .i64 (-5)) (.int .i64 0) (.int .u16 0) (.int .u16 0))
      have hkI : (k : Int) < (cap : Int) := by omega
      have HG := Lib.hid hG
      have hcs' := Lib.hid hcs
      clear hb hgb hsz hcell hfz hG hcs
      go_wp2_with fail
      go_roundw
      case rel =>
        obtain ⟨c', e1, e2, e3⟩ := HSet.out
        exact ⟨k + 1, c', by omega, by go_num, e1, by rw [e2]; exact hcs'.out, gb_trans HG.out e3 (Or.inr (Or.inl rfl))⟩
      case measure => simp [intOf]; omega
    · obtain rfl : k = cap := by omega
      have HG := Lib.hid hG
      have HB := Lib.hid hb
      have HC := Lib.hid hcs
      clear hgb hsz hG hb hcs
      go_wp2_with fail
      all_goals go_end0
      all_goals exact ⟨rfl, HG.out, c, HB.out, HC.out⟩
end Go.Proofs.Ytcdepblajobemaa
namespace Go.Proofs.Ytcdepblajobemaa
open Go.RowKit

theorem own_caps {w : World} {Y e n : Nat} {g cap : Nat} {xs : List Value} (h : w.ownsRow Y e 1 (.slice (some ⟨g, 0, none⟩) n cap) n xs) : ∃ g' cap', (Value.slice (some ⟨g, 0, none⟩) n cap) = .slice (some ⟨g', 0, none⟩) n cap' ∧ n ≤ cap' ∧ cap' ≤ maxLen := by
  rcases h.2 with ⟨h0, _⟩ | ⟨g', cap', cur, hv, hb, hg, hnc, hcm, hcs, htk⟩
  · cases h0
  · exact ⟨g', cap', hv, hnc, hcm⟩

/-- Rows that are lent: each row with its marks, a row with a mark behind them. -/
def LentRows (w : World) (Y : Nat) (v : Value) (R : List (List Int)) : Prop :=
  ∃ (g cap : Nat) (vs : List Value) (t : Nat), v = .slice (some ⟨g, 0, none⟩) R.length cap ∧ R.length + 1 ≤ cap ∧ cap ≤ maxLen ∧ vs.length = R.length ∧
    w.ownsRow Y 43 1 (.slice (some ⟨g, 0, none⟩) (R.length + 1) cap) (R.length + 1) (vs ++ [.slice (some ⟨t, 0, none⟩) 1 1]) ∧
    (∀ i, i < R.length → ∃ u, vs[i]? = some u ∧ LentInts w Y u (R.getD i [])) ∧ w.ownsRow Y 3 1 (.slice (some ⟨t, 0, none⟩) 1 1) 1 [.int .i64 (-77)]
theorem LentRows.kept {w w' : World} {Y : Nat} {v : Value} {R : List (List Int)} (h : LentRows w Y v R) (hg : w.grownBy w' none) : LentRows w' Y v R := by
  obtain ⟨g, cap, vs, t, rfl, h1, h2, h3, h4, h5, h6⟩ := h
  exact ⟨g, cap, vs, t, rfl, h1, h2, h3, h4.kept hg (Classical.em _), fun i hi => by obtain ⟨u, hu, hr⟩ := h5 i hi; exact ⟨u, hu, hr.kept hg (Classical.em _)⟩, h6.kept hg (Classical.em _)⟩
theorem LentRows.at {w : World} {Y : Nat} {v : Value} {R : List (List Int)} (h : LentRows w Y v R) (hl : R.length ≤ 17592186043904) (hr : ∀ i, i < R.length → (R.getD i []).length ≤ 17592186043904 ∧ ∀ k, k < (R.getD i []).length → -9223372036854775808 ≤ (R.getD i []).getD k 0 ∧ (R.getD i []).getD k 0 ≤ 9223372036854775807) : RowsAt2 w v R := by
  obtain ⟨g, cap, vs, t, rfl, h1, h2, h3, h4, h5, h6⟩ := h
  refine ⟨_, _, rfl, by omega, hl, Or.inr ⟨g, 0, rfl, fun k hk => ?_⟩⟩
  obtain ⟨u, hu, hi⟩ := h5 k hk
  refine ⟨u, ?_, hi.at (hr k hk).1 (hr k hk).2⟩
  rw [Nat.zero_add, h4.cellAt k (by omega), List.getElem?_append_left (by omega)]
  exact hu
theorem rows_wf {w : World} {v : Value} {R : List (List Int)} (h : RowsAt2 w v R) : R.length ≤ 17592186043904 ∧ ∀ i, i < R.length → (R.getD i []).length ≤ 17592186043904 ∧ ∀ k, k < (R.getD i []).length → -9223372036854775808 ≤ (R.getD i []).getD k 0 ∧ (R.getD i []).getD k 0 ≤ 9223372036854775807 := by
  obtain ⟨a, cap, rfl, h0, h1, h2⟩ := h
  refine ⟨h1, fun i hi => ?_⟩
  rcases h2 with rfl | ⟨b, off, _, h2⟩
  · exact absurd hi (by simp)
  · obtain ⟨u, _, a, c, _, hw, hl, _⟩ := h2 i hi
    exact ⟨hl, hw⟩

set_option maxRecDepth 100000 in
set_option maxHeartbeats 2000000 in
theorem lent_rows {w : World} {v : Value} {R : List (List Int)} (hL : RowsAt2 w v R) (hs : R.length ≤ 1000000) (hr : ∀ i, i < R.length → (R.getD i []).length ≤ 1000000) :
    Calls Try.prog 35 #[v] w fun e w' => ∃ v', e = .returned v' ∧ LentRows w' w.heap.size v' R ∧ w.grownBy w' none := by
  obtain ⟨i0, hi, hz0, hz1, hz2⟩ := info_parts Try.info43
  have HL := Lib.hid hL
  have HR := Lib.hid hr
  obtain ⟨a, cap, rfl, hcap, hlen, _⟩ := hL
  obtain ⟨Y, hY⟩ : ∃ Y, Hid (Y = w.heap.size) := ⟨_, Lib.hid rfl⟩
  have hYw : Y ≤ w.heap.size := by rw [hY.out]; exact Nat.le_refl _
  rw [← hY.out]
  clear hr
  go_enter Try.func35, Try.ntmps35
  go_wp2_with (at_make; refine wpList_make_own _ rfl _ _ 24 rfl Y 43 i0 (.slice none 0 0) 1 Try.underlying24 hi hz0 hz1 .i64 .i64 _ (R.length + 1) rfl rfl (by omega) (by rw [hz2]; omega) (by unfold maxLen; omega) hYw ?_; intro w1 hown1 hg1)
  go_loopw [4, 3] (fun i vx wr => ∃ (k : Nat) (vs : List Value), k ≤ R.length ∧ i = .int .i64 (k : Int) ∧ vs.length = k ∧ wr.ownsRow Y 43 1 vx k vs ∧ Hid (∀ i, i < k → ∃ u, vs[i]? = some u ∧ LentInts wr Y u (R.getD i [])) ∧ w.grownBy wr none) (fun i _ _ => R.length - (intOf i).toNat)
  case atStart => exact ⟨0, [], by omega, rfl, rfl, hown1, fun _ h => absurd h (Nat.not_lt_zero _), hg1⟩
  case round =>
    obtain ⟨k, vs, hk, rfl, hvl, hown, HEach, hG⟩ := hrel
    have hYr : Y ≤ wr.heap.size := by have := hG.size; omega
    obtain ⟨ax, cx, rfl⟩ := own_val hown
    by_cases hlt : k < R.length
    · obtain ⟨_, _, hve, _, _, hn3⟩ := HL.out.kept hG
      cases hve
      rcases hn3 with rfl | ⟨bn, offn, rfl, hn3⟩
      · exact absurd hlt (by simp)
      obtain ⟨u, hu, hIu⟩ := hn3 k hlt
      have HLI := Lib.hid (lent_ints hIu (HR.out k hlt))
      obtain ⟨au, cu, mu, rfl⟩ : ∃ au cu mu, u = .slice au mu cu := by obtain ⟨au, cu, e, _⟩ := hIu; exact ⟨au, cu, _, e⟩
      have hkI : (k : Int) < (R.length : Int) := by omega
      have HOwn := Lib.hid hown
      clear hn3 hIu hown hown1
      go_wp2_with (first
        | (go_at_call 59; refine HLI.out.mono ?_; rintro e w2 ⟨v2, rfl, hl2, hg2⟩; have HL2 := Lib.hid hl2; obtain ⟨a2, n2, c2, rfl⟩ : ∃ a n c, v2 = .slice a n c := (by obtain ⟨g2, c2, e, _⟩ := hl2; exact ⟨_, _, _, e⟩); clear hl2)
        | (at_builtin; refine wpList_append_lies _ rfl (.tmp 16) (.tmp 22) 24 rfl Y 43 i0 (.slice none 0 0) 1 24 Try.underlying24 hi hz0 hz1 hz2 rfl (by decide) (.slice ax k cx) k vs rfl ((HOwn.out.kept hg2 (Classical.em _)).alloc _) ⟨w2.heap.size, 0, none⟩ 1 1 [.slice a2 n2 c2] rfl rfl (cell_one_new _ _ _) (by simp [Value.oneCell']) (by decide) (by unfold maxLen; omega) (by omega) (by rw [World.size_alloc]; have := hg2.size; omega) _ rfl ?_; intro g5 cap5 w5 hown5 hgr5 hat5 hlt5))
      have hga := World.grownBy_alloc w2 (.cells #[.slice a2 n2 c2] 43) none
      have hoff : ∀ {e n : Nat} {u : Value} {xs : List Value}, (w2.alloc (.cells #[.slice a2 n2 c2] 43)).ownsRow Y e 1 u n xs → 43 ≠ e → u.ownBlock = none ∨ u.ownBlock ≠ (Value.slice ax k cx).ownBlock := fun hu he => own_apart ((HOwn.out.kept hg2 (Classical.em _)).kept hga (Classical.em _)) hu he
      refine ⟨⟨k + 1, vs ++ [.slice a2 n2 c2], by omega, by go_num, by simp [hvl], hown5, Lib.hid (fun i hi => ?_), gb_trans (gb_trans (gb_trans hG hg2 (Or.inl rfl)) hga (Or.inl rfl)) hgr5 ?_⟩, by simp [intOf]; omega⟩
      · have step : ∀ {u : Value} {L : List Int}, LentInts w2 Y u L → LentInts w5 Y u L := fun {u L} hu => by
          obtain ⟨g, c, rfl, h1, h2, h3⟩ := hu
          exact ⟨g, c, rfl, h1, h2, (h3.kept hga (Classical.em _)).kept hgr5 (hoff (h3.kept hga (Classical.em _)) (by decide))⟩
        by_cases e : i = k
        · subst e
          refine ⟨_, by rw [List.getElem?_append_right (by omega), hvl, Nat.sub_self]; rfl, step ?_⟩
          obtain ⟨g, c, hv, h1, h2, h3⟩ := HL2.out
          exact ⟨g, c, hv, h1, h2, own_base h3 hYr⟩
        · obtain ⟨u, hu, hl⟩ := HEach.out i (by omega)
          exact ⟨u, by rw [List.getElem?_append_left (by omega)]; exact hu, step (hl.kept hg2 (Classical.em _))⟩
      · rcases e : (Value.slice ax k cx).ownBlock with _ | b
        · exact Or.inl rfl
        · exact Or.inr (Or.inr ⟨b, rfl, by rw [← hY.out]; exact (HOwn.out.lt b e).1⟩)
    · obtain rfl : k = R.length := by omega
      have HOwn := Lib.hid hown
      clear hown hown1
      go_wp2_with (at_builtin; refine wpList_append_lies _ rfl (.tmp 24) (.tmp 26) 24 rfl Y 43 i0 (.slice none 0 0) 1 24 Try.underlying24 hi hz0 hz1 hz2 rfl (by decide) (.slice ax R.length cx) R.length vs rfl ((HOwn.out.alloc _).alloc _) ⟨wr.heap.size + 1, 0, none⟩ 1 1 [.slice (some ⟨wr.heap.size, 0, none⟩) 1 1] rfl rfl (by rw [← World.size_alloc wr (.cells #[.int .i64 (-77)] 3)]; exact cell_one_new _ _ _) (by simp [Value.oneCell']) (by decide) (by unfold maxLen; omega) (by omega) (by rw [World.size_alloc, World.size_alloc]; omega) _ rfl ?_; intro g5 cap5 w5 hown5 hgr5 hat5 hlt5; obtain ⟨_, _, h5v, h5c, h5m⟩ := own_caps hown5; cases h5v; have hi5 : (R.length : Int) ≤ (cap5 : Int) := by omega)
      go_ret
      have hga := gb_trans (World.grownBy_alloc wr (.cells #[.int .i64 (-77)] 3) none) (World.grownBy_alloc _ (.cells #[.slice (some ⟨wr.heap.size, 0, none⟩) 1 1] 43) none) (Or.inl rfl)
      have hoff : ∀ {e n : Nat} {u : Value} {xs : List Value}, ((wr.alloc (.cells #[.int .i64 (-77)] 3)).alloc (.cells #[.slice (some ⟨wr.heap.size, 0, none⟩) 1 1] 43)).ownsRow Y e 1 u n xs → 43 ≠ e → u.ownBlock = none ∨ u.ownBlock ≠ (Value.slice ax R.length cx).ownBlock := fun hu he => own_apart (HOwn.out.kept hga (Classical.em _)) hu he
      refine ⟨_, rfl, ⟨g5, cap5, vs, wr.heap.size, rfl, h5c, h5m, hvl, hown5, fun i hi => ?_, ?_⟩, gb_trans (gb_trans hG hga (Or.inl rfl)) hgr5 ?_⟩
      · obtain ⟨u, hu, g, c, rfl, h1, h2, h3⟩ := HEach.out i hi
        exact ⟨_, hu, g, c, rfl, h1, h2, (h3.kept hga (Classical.em _)).kept hgr5 (hoff (h3.kept hga (Classical.em _)) (by decide))⟩
      · have h1 := (World.ownsRow_lit (base := Y) (e := 3) (size := 1) wr #[.int .i64 (-77)] 1 hYr (by unfold maxLen; omega) rfl).alloc (.cells #[.slice (some ⟨wr.heap.size, 0, none⟩) 1 1] 43)
        exact h1.kept hgr5 (hoff h1 (by decide))
      · rcases e : (Value.slice ax R.length cx).ownBlock with _ | b
        · exact Or.inl rfl
        · exact Or.inr (Or.inr ⟨b, rfl, by rw [← hY.out]; exact (HOwn.out.lt b e).1⟩)
set_option maxRecDepth 100000 in
set_option maxHeartbeats 2000000 in
theorem whole_rows {w : World} {Y : Nat} {x l : Value} {R : List (List Int)} (hx : LentRows w Y x R) (hl : RowsAt2 w l R) :
    Calls Try.prog 41 #[x, l] w fun e w' => e = .returned (.bool true) ∧ w.grownBy w' none := by
  have HX := Lib.hid hx
  have HL := Lib.hid hl
  obtain ⟨g, cap, vs, t, rfl, h1, h2, h3, h4, h5, h6⟩ := hx
  obtain ⟨al, cl, rfl, hcl, hll, _⟩ := hl
  have hc1 : w.cell? ⟨g, R.length, none⟩ = some (.slice (some ⟨t, 0, none⟩) 1 1) := by
    rw [h4.cellAt _ (by omega), List.getElem?_append_right (by omega), h3, Nat.sub_self]; rfl
  have hc2 : w.cell? ⟨t, 0, none⟩ = some (.int .i64 (-77)) := by
    rw [h6.cellAt _ (by omega)]; rfl
  have hcI : ¬ (cap : Int) < (R.length : Int) + 1 := by omega
  have hcJ : (R.length : Int) + 1 ≤ (cap : Int) := by omega
  have hcK : (cap : Int) ≤ 9223372036854775807 := by unfold maxLen at h2; omega
  clear h4 h5 h6 h3 h2
  go_enter Try.func41, Try.ntmps41
  go_wp2_with fail
  go_loopw [6] (fun i wr => ∃ (k : Nat), k ≤ R.length ∧ i = .int .i64 (k : Int) ∧ w.grownBy wr none) (fun i _ => R.length - (intOf i).toNat)
  case atStart => exact ⟨0, by omega, rfl, gb_refl _ _⟩
  case round =>
    obtain ⟨k, hk, rfl, hG⟩ := hrel
    by_cases hlt : k < R.length
    · obtain ⟨g', cap', vs', t', hv, _, _, h3, h4, h5, _⟩ := HX.out.kept hG
      cases hv
      obtain ⟨_, _, hve, _, _, hn3⟩ := HL.out.kept hG
      cases hve
      rcases hn3 with rfl | ⟨bn, offn, rfl, hn3⟩
      · exact absurd hlt (by simp)
      obtain ⟨u, hu, hIu⟩ := hn3 k hlt
      obtain ⟨v, hv, hLv⟩ := h5 k hlt
      have hcv : wr.cell? ⟨g, k, none⟩ = some v := by
        rw [h4.cellAt k (by omega), List.getElem?_append_left (by omega)]; exact hv
      have HW : Hid (∀ wx, wr.grownBy wx none → Calls Try.prog 61 #[v, u] wx fun e w' => e = .returned (.bool true) ∧ wx.grownBy w' none) := Lib.hid fun wx hg => whole_ints (hLv.kept hg (Classical.em _)) (hIu.kept hg)
      obtain ⟨av, cv, mv, rfl⟩ : ∃ a c m, v = .slice a m c := by obtain ⟨g, c, e, _⟩ := hLv; exact ⟨_, c, _, e⟩
      obtain ⟨au, cu, mu, rfl⟩ : ∃ a c m, u = .slice a m c := by obtain ⟨a, c, e, _⟩ := hIu; exact ⟨a, c, _, e⟩
      have hkI : (k : Int) < (R.length : Int) := by omega
      clear hn3 h4 h5 hv hLv hIu hc1 hc2
      go_wp2_with fail
      go_region_with (go_at_call 61; refine (HW.out wr.drew (gb_drew _ _)).mono ?_; rintro e w2 ⟨rfl, hg2⟩)
      all_goals
        go_wp2_with fail
        exact ⟨⟨k + 1, by omega, by go_num, gb_trans (gb_trans hG (gb_drew _ none) (Or.inl rfl)) hg2 (Or.inl rfl)⟩, by simp [intOf]; omega⟩
    · obtain rfl : k = R.length := by omega
      go_wp2_with fail
      go_ret
      exact ⟨rfl, hG⟩

end Go.Proofs.Ytcdepblajobemaa
namespace Go.Proofs.Ytcdepblajobemaa
open Go.RowKit

theorem rowB_all (m N : Nat) (A : List Int) : rowB m N A = (decide (A.length = 2 ^ m) && (List.range A.length).all fun k => decide (0 ≤ A.getD k 0) && decide (A.getD k 0 < N)) := by
  unfold rowB
  by_cases hA : A.length = 2 ^ m
  · have hp : 0 < A.length := by rw [hA]; exact Nat.pow_pos (by decide)
    rw [decide_eq_true hA, Bool.true_and, Bool.true_and, Bool.eq_iff_iff, Bool.and_eq_true, decide_eq_true_iff, decide_eq_true_iff, List.all_eq_true]
    obtain ⟨⟨j1, hj1, e1⟩, f1⟩ := minF_le (A := A) (Nat.le_refl _) hp
    obtain ⟨⟨j2, hj2, e2⟩, f2⟩ := maxF_le (A := A) (Nat.le_refl _) hp
    constructor
    · rintro ⟨h1, h2⟩ k hk
      have hk2 := List.mem_range.1 hk
      have := f1 k hk2
      have := f2 k hk2
      rw [Bool.and_eq_true, decide_eq_true_iff, decide_eq_true_iff]
      omega
    · intro h
      have h1 := h j1 (List.mem_range.2 hj1)
      have h2 := h j2 (List.mem_range.2 hj2)
      rw [Bool.and_eq_true, decide_eq_true_iff, decide_eq_true_iff] at h1 h2
      omega
  · rw [decide_eq_false hA, Bool.false_and, Bool.false_and]
theorem rowB_no {m N : Nat} {A : List Int} {k : Nat} (hk : k < A.length) (h : A.getD k 0 < 0 ∨ (N : Int) ≤ A.getD k 0) : rowB m N A = false := by
  rw [rowB_all, Bool.and_eq_false_iff]
  right
  rw [List.all_eq_false]
  refine ⟨k, List.mem_range.2 hk, ?_⟩
  rw [Bool.and_eq_true, decide_eq_true_iff, decide_eq_true_iff]
  omega
theorem rowB_yes {m N : Nat} {A : List Int} (hA : A.length = 2 ^ m) (h : ∀ k, k < A.length → 0 ≤ A.getD k 0 ∧ A.getD k 0 < N) : rowB m N A = true := by
  rw [rowB_all, decide_eq_true hA, Bool.true_and, List.all_eq_true]
  intro k hk
  rw [Bool.and_eq_true, decide_eq_true_iff, decide_eq_true_iff]
  exact h k (List.mem_range.1 hk)

set_option maxHeartbeats 4000000 in
theorem refcheck13 (vp vn vl : Value) (d : Dfa) (w : World) (h : DfaAt w vp vn vl d) :
    Calls Try.prog 19 #[.agg #[vp, vn, vl]] w fun e w' => e = .returned (.int .i64 (dErr d)) ∧ w.grownBy w' none := by
  obtain ⟨P, R, B⟩ := d
  obtain ⟨hP, hR, hB⟩ := h
  dsimp only at hP hR hB
  have hb0 := World.grownBy_alloc w (.cells #[vp, vn, vl] 27) none
  have HB0 := Lib.hid hb0
  have HC := Lib.hid (fun wx (hg : w.grownBy wx none) => refnames10 vp P wx (hP.kept hg))
  have HR := Lib.hid hR
  obtain ⟨ap, cp, rfl, -⟩ := hP
  obtain ⟨an, cn, rfl, -, hn1, -⟩ := hR
  obtain ⟨al, cl, rfl, -, hl1, -⟩ := hB
  have HC1 := Lib.hid (HC.out _ hb0)
  have HBAD := Lib.hid (dErr_bad (d := ⟨P, R, B⟩))
  have HGOOD := Lib.hid (dErr_good (d := ⟨P, R, B⟩))
  dsimp only at HBAD HGOOD
  generalize dErr ⟨P, R, B⟩ = er at HBAD HGOOD ⊢
  clear HC
  by_cases hn : namesF P = true
  case neg =>
    have HE := Lib.hid (HBAD.out (Or.inl (by simpa using hn)))
    rw [show namesF P = false by simpa using hn] at HC1
    clear hn hb0
    go_enter Try.func19, Try.ntmps19
    go_wp2_with (go_at_call 44; refine HC1.out.mono ?_; rintro e w' ⟨rfl, hg⟩; have c0 := hg.cell (cell3_0 w _ _ _ _) (by simp); have c1 := hg.cell (cell3_1 w _ _ _ _) (by simp); have c2 := hg.cell (cell3_2 w _ _ _ _) (by simp))
    go_ret
    exact ⟨by rw [HE.out]; rfl, gb_trans HB0.out hg (Or.inl rfl)⟩
  rw [hn] at HC1
  have hpl := names_len hn
  have HN := Lib.hid hn
  clear hn hb0
  by_cases h0 : R.length = 0
  · have HE := Lib.hid (HBAD.out (Or.inr (Or.inl h0)))
    obtain rfl : R = [] := List.eq_nil_of_length_eq_zero h0
    clear h0
    go_enter Try.func19, Try.ntmps19
    go_wp2_with (go_at_call 44; refine HC1.out.mono ?_; rintro e w' ⟨rfl, hg⟩; have c0 := hg.cell (cell3_0 w _ _ _ _) (by simp); have c1 := hg.cell (cell3_1 w _ _ _ _) (by simp); have c2 := hg.cell (cell3_2 w _ _ _ _) (by simp))
    go_ret
    exact ⟨by rw [HE.out]; rfl, gb_trans HB0.out hg (Or.inl rfl)⟩
  have h0b : ¬ (R.length : Int) < 1 := by omega
  have H0 := Lib.hid h0
  clear h0
  by_cases hne : B.length = R.length
  case neg =>
    have HE := Lib.hid (HBAD.out (Or.inr (Or.inr (Or.inl hne))))
    have hneb : ((R.length : Int) != (B.length : Int)) = true := by rw [bne_iff_ne]; omega
    clear hne
    go_enter Try.func19, Try.ntmps19
    go_wp2_with (go_at_call 44; refine HC1.out.mono ?_; rintro e w' ⟨rfl, hg⟩; have c0 := hg.cell (cell3_0 w _ _ _ _) (by simp); have c1 := hg.cell (cell3_1 w _ _ _ _) (by simp); have c2 := hg.cell (cell3_2 w _ _ _ _) (by simp))
    go_ret
    exact ⟨by rw [HE.out]; rfl, gb_trans HB0.out hg (Or.inl rfl)⟩
  have hneb : ((R.length : Int) != (B.length : Int)) = false := by rw [hne]; simp
  have HNE := Lib.hid hne
  clear hne
  go_enter Try.func19, Try.ntmps19
  go_wp2_with (go_at_call 44; refine HC1.out.mono ?_; rintro e w1 ⟨rfl, hg1⟩; have c0 := hg1.cell (cell3_0 w _ _ _ _) (by simp); have c1 := hg1.cell (cell3_1 w _ _ _ _) (by simp); have c2 := hg1.cell (cell3_2 w _ _ _ _) (by simp))
  go_loopw [4] (fun i wr => ∃ k : Nat, k ≤ R.length ∧ i = .int .i64 (k : Int) ∧ Hid (∀ j, j < k → rowB P.length R.length (R.getD j []) = true) ∧ w1.grownBy wr none) (fun i _ => R.length - (intOf i).toNat)
  case atStart => exact ⟨0, by omega, rfl, fun j h => absurd h (by omega), gb_refl _ _⟩
  case round =>
    obtain ⟨k, hk, rfl, HS, hG⟩ := hrel
    have hall := gb_trans HB0.out (gb_trans hg1 hG (Or.inl rfl)) (Or.inl rfl)
    by_cases hlt : k < R.length
    · have hkI : (k : Int) < (R.length : Int) := by omega
      have c0r := hG.cell c0 (by simp)
      have c1r := hG.cell c1 (by simp)
      obtain ⟨an', cn', hve, -, -, hn3⟩ := HR.out.kept hall
      cases hve
      rcases hn3 with rfl | ⟨bn, offn, rfl, hn3⟩
      · exact absurd hlt (by simp)
      obtain ⟨u, hu, hI⟩ := hn3 k hlt
      have HBk := Lib.hid (fun h => HBAD.out (Or.inr (Or.inr (Or.inr ⟨k, hlt, h⟩))))
      have HGk : Hid (rowB P.length R.length (R.getD k []) = true → ∀ j, j < k + 1 → rowB P.length R.length (R.getD j []) = true) := Lib.hid fun h j hj => by
        rcases Nat.lt_or_ge j k with h1 | h1
        · exact HS.out j h1
        · obtain rfl : j = k := by omega
          exact h
      generalize R.getD k [] = A at HBk HGk hI
      have HI := Lib.hid hI
      obtain ⟨ar, cr, rfl, -, har, -⟩ := hI
      clear hn3
      by_cases hA : A.length = 2 ^ P.length
      case neg =>
        have HE := Lib.hid (HBk.out (by rw [rowB_all, decide_eq_false hA, Bool.false_and]))
        have hAb : ((A.length : Int) != wrap64 ((2 : Int) ^ P.length)) = true := by rw [wrap_pow _ hpl, bne_iff_ne]; omega
        clear hA
        go_wp2_with fail
        go_quiet (fail)
        go_wp2
        go_ret
        exact ⟨by rw [HE.out]; rfl, gb_trans hall (gb_drewN _ _ none) (Or.inl rfl)⟩
      have hAb : ((A.length : Int) != wrap64 ((2 : Int) ^ P.length)) = false := by rw [wrap_pow _ hpl, hA]; simp
      have HY := Lib.hid (@rowB_yes P.length R.length A hA)
      have HNo : Hid (∀ k : Nat, k < A.length → A.getD k 0 < 0 ∨ (R.length : Int) ≤ A.getD k 0 → rowB P.length R.length A = false) := Lib.hid fun k h1 h2 => rowB_no h1 h2
      clear hA
      go_wp2_with fail
      go_quiet (fail)
      go_wp2_with fail
      obtain ⟨wo, rfl⟩ : ∃ wo : World, wo = wr := ⟨_, rfl⟩
      go_loopw [5] (fun i wr => ∃ j : Nat, j ≤ A.length ∧ i = .int .i64 (j : Int) ∧ Hid (∀ t, t < j → 0 ≤ A.getD t 0 ∧ A.getD t 0 < (R.length : Int)) ∧ wo.grownBy wr none) (fun i _ => A.length - (intOf i).toNat)
      case atStart => exact ⟨0, by omega, rfl, fun t h => absurd h (by omega), gb_drewN _ _ none⟩
      case round =>
        obtain ⟨j, hj, rfl, HT, hG2⟩ := hrel
        have hall2 := gb_trans hall hG2 (Or.inl rfl)
        have d0 := hG2.cell c0r (by simp)
        have d1 := hG2.cell c1r (by simp)
        have du := hG2.cell hu (by simp)
        by_cases hjl : j < A.length
        · have hjI : (j : Int) < (A.length : Int) := by omega
          obtain ⟨_, _, hve, hbnd, -, hc3⟩ := HI.out.kept hG2
          cases hve
          rcases hc3 with rfl | ⟨br, offr, rfl, hc3⟩
          · exact absurd hjl (by simp)
          have dx := hc3 j hjl
          have hx := hbnd j hjl
          have HNj := Lib.hid (fun h => HBk.out (HNo.out j hjl h))
          have HTj : Hid (0 ≤ A.getD j 0 ∧ A.getD j 0 < (R.length : Int) → ∀ t, t < j + 1 → 0 ≤ A.getD t 0 ∧ A.getD t 0 < (R.length : Int)) := Lib.hid fun h t ht => by
            rcases Nat.lt_or_ge t j with h1 | h1
            · exact HT.out t h1
            · obtain rfl : t = j := by omega
              exact h
          generalize A.getD j 0 = x at dx hx HNj HTj
          clear hc3 hbnd
          by_cases hx0 : x < 0
          · have HE := Lib.hid (HNj.out (Or.inl hx0))
            have hd1 : decide (x < 0) = true := decide_eq_true hx0
            clear hx0
            go_wp2_with fail
            go_quiet (fail)
            go_wp2
            go_ret
            exact ⟨by rw [HE.out]; rfl, gb_trans hall2 (gb_drewN _ _ none) (Or.inl rfl)⟩
          have hd1 : decide (x < 0) = false := decide_eq_false hx0
          by_cases hx1 : (R.length : Int) ≤ x
          · have HE := Lib.hid (HNj.out (Or.inr hx1))
            have hd2 : decide ((R.length : Int) ≤ x) = true := decide_eq_true hx1
            clear hx1 hx0
            go_wp2_with fail
            go_quiet (fail)
            go_wp2
            go_ret
            exact ⟨by rw [HE.out]; rfl, gb_trans hall2 (gb_drewN _ _ none) (Or.inl rfl)⟩
          have hd2 : decide ((R.length : Int) ≤ x) = false := decide_eq_false hx1
          have HT2 := Lib.hid (HTj.out ⟨by omega, by omega⟩)
          clear hx1 hx0
          go_wp2_with fail
          go_quiet (fail)
          go_wp2
          go_roundw
          case rel => exact ⟨j + 1, by omega, by go_num, HT2, gb_trans hG2 (gb_drewN _ _ none) (Or.inl rfl)⟩
          case measure => simp [intOf]; omega
        · obtain rfl : j = A.length := by omega
          have HG2 := Lib.hid (HGk.out (HY.out HT.out))
          go_wp2
          go_roundw
          case rel => exact ⟨k + 1, by omega, by go_num, HG2, gb_trans hG hG2 (Or.inl rfl)⟩
          case measure => simp [intOf]; omega
    · obtain rfl : k = R.length := by omega
      have c1r := hG.cell c1 (by simp)
      have HE := Lib.hid (HGOOD.out HN.out H0.out HNE.out HS.out)
      go_wp2
      go_ret
      exact ⟨by rw [HE.out]; rfl, hall⟩
set_option maxHeartbeats 4000000 in
theorem refrun13 (vp vn vl vu : Value) (d : Dfa) (U : List Nat) (w : World) (h : DfaAt w vp vn vl d) (hU : LettersAt w vu U) :
    Calls Try.prog 17 #[.agg #[vp, vn, vl], vu] w fun e w' => e = .returned (.tuple #[.int .i64 (runS d U : Int), .int .i64 (runC d U)]) ∧ w.grownBy w' none := by
  have hb0 := World.grownBy_alloc w (.cells #[vp, vn, vl] 27) none
  have HB0 := Lib.hid hb0
  have HD := Lib.hid h
  have HU := Lib.hid hU
  have hC := refcheck13 vp vn vl d _ (h.kept hb0)
  have k0 := cell3_0 w vp vn vl 27
  have k1 := cell3_1 w vp vn vl 27
  obtain ⟨ap, cp, rfl, _⟩ := h.p
  obtain ⟨an, cn, rfl, _, hn1, _⟩ := h.r
  obtain ⟨al, cl, rfl, _, hl1, _⟩ := h.b
  obtain ⟨au, cu, rfl, _, hu1, _⟩ := hU
  clear h
  by_cases h0 : dErr d = 0
  case neg =>
    have h130 : dErr d = 130 := (dErr_or d).resolve_left h0
    rw [h130] at hC
    have HC := Lib.hid hC
    have HS : Hid (runS d U = 0) := Lib.hid (by unfold runS; rw [if_neg h0])
    have HE : Hid (runC d U = 130) := Lib.hid (by unfold runC; rw [if_neg h0])
    clear h0 h130 hC hb0 k0 k1
    go_enter Try.func17, Try.ntmps17
    go_wp2_with (go_at_call 19; refine HC.out.mono ?_; rintro e w' ⟨rfl, hg⟩)
    go_ret2
    exact ⟨by rw [HE.out, HS.out]; rfl, gb_trans HB0.out hg (Or.inl rfl)⟩
  have HT := Lib.hid (right_of h0)
  rw [h0] at hC
  have HC := Lib.hid hC
  have HS : Hid (runS d U = (runD d U).getD 0) := Lib.hid (by unfold runS; rw [if_pos h0])
  have HE : Hid (runC d U = if (runD d U).isSome = true then 0 else 1) := Lib.hid (by unfold runC; rw [if_pos h0])
  have hpl := HT.out.few
  have hr0 := Nat.pos_of_ne_zero HT.out.pos
  clear h0 hC hb0
  go_enter Try.func17, Try.ntmps17
  go_wp2_with (go_at_call 19; refine HC.out.mono ?_; rintro e w1 ⟨rfl, hg1⟩; have c0 := hg1.cell k0 (by simp); have c1 := hg1.cell k1 (by simp))
  go_loopw [6, 7] (fun s i wr => ∃ k t : Nat, k ≤ U.length ∧ i = .int .i64 (k : Int) ∧ s = .int .i64 (t : Int) ∧ t < d.R.length ∧ Hid (runD d (U.take k) = some t) ∧ w1.grownBy wr none) (fun _ i _ => U.length - (intOf i).toNat)
  case atStart => exact ⟨0, 0, by omega, rfl, rfl, hr0, rfl, gb_refl _ _⟩
  case round =>
    obtain ⟨k, t, hk, rfl, rfl, ht, HR, hG⟩ := hrel
    have hall := gb_trans HB0.out (gb_trans hg1 hG (Or.inl rfl)) (Or.inl rfl)
    have c0 := hG.cell c0 (by simp)
    have c1 := hG.cell c1 (by simp)
    by_cases hlt : k < U.length
    · have hkI : (k : Int) < (U.length : Int) := by omega
      obtain ⟨_, _, e1, hu2, _, hu3⟩ := HU.out.kept hall
      cases e1
      rcases hu3 with hu3 | ⟨bu, offu, rfl, hu3⟩
      · rw [hu3] at hlt; exact absurd hlt (by simp)
      obtain ⟨_, _, e1, _, _, hn3⟩ := HD.out.r.kept hall
      cases e1
      rcases hn3 with hn3 | ⟨bn, offn, rfl, hn3⟩
      · rw [hn3] at hr0; exact absurd hr0 (by simp)
      have cu := hu3 k hlt
      have hl2 := hu2 k hlt
      obtain ⟨u, hu, hI⟩ := hn3 t ht
      have HX := Lib.hid (runD_take (d := d) hlt)
      rw [HR.out] at HX
      generalize U.getD k 0 = l at cu hl2 HX
      by_cases hl : l < 2 ^ d.P.length
      · obtain ⟨t2, ht2, hnum⟩ := HT.out.num t ht l hl
        have hrow := HT.out.row t ht
        have hge : decide (wrap64 ((2 : Int) ^ d.P.length) ≤ (l : Int)) = false := decide_eq_false (by rw [wrap_pow _ hpl]; omega)
        have HY : Hid (runD d (U.take (k + 1)) = some t2) := Lib.hid (by rw [HX.out]; unfold stepD; simp only [hl, if_true]; rw [hnum]; rfl)
        obtain ⟨ar, cr, rfl, _, har, hI3⟩ := hI
        rcases hI3 with hI3 | ⟨br, offr, rfl, hI3⟩
        · rw [hI3] at hrow; have : 0 < 2 ^ d.P.length := Nat.pow_pos (by decide); simp at hrow; omega
        have cx := hI3 l (by omega)
        rw [hnum] at cx
        have hll : l < (d.R.getD t []).length := by omega
        have hlI : (l : Int) < ((d.R.getD t []).length : Int) := by omega
        have htI : (t : Int) < (d.R.length : Int) := by omega
        clear hI3 hn3 hu3 hnum hrow HX hu2
        generalize (d.R.getD t []).length = rl at hu hll hlI har
        clear hl
        go_wp2_with fail
        go_quiet (fail)
        go_wp2_with fail
        go_quiet (fail)
        go_wp2_with fail
        exact ⟨⟨k + 1, t2, by omega, by go_num, rfl, ht2, HY, gb_trans hG (gb_drewN _ _ none) (Or.inl rfl)⟩, by simp [intOf]; omega⟩
      · have hge : decide (wrap64 ((2 : Int) ^ d.P.length) ≤ (l : Int)) = true := decide_eq_true (by rw [wrap_pow _ hpl]; omega)
        have HY : Hid (runD d U = none) := Lib.hid (runD_none (k := k + 1) (by rw [HX.out]; unfold stepD; simp only [hl, if_false]))
        clear hl HX hu3 hn3 hu2 hI hu
        go_wp2_with fail
        go_quiet (fail)
        go_wp2_with fail
        go_ret2
        exact ⟨by rw [HE.out, HS.out, HY.out]; rfl, gb_trans hall (gb_drewN _ _ none) (Or.inl rfl)⟩
    · obtain rfl : k = U.length := by omega
      have hkI : ¬ (U.length : Int) < (U.length : Int) := by omega
      have HY : Hid (runD d U = some t) := Lib.hid (by have := HR.out; rwa [List.take_length] at this)
      go_wp2_with fail
      go_ret2
      exact ⟨by rw [HE.out, HS.out, HY.out]; rfl, hall⟩
set_option maxHeartbeats 1000000 in
theorem refhas13 (vp vn vl vu : Value) (d : Dfa) (U : List Nat) (w : World) (h : DfaAt w vp vn vl d) (hU : LettersAt w vu U) :
    Calls Try.prog 18 #[.agg #[vp, vn, vl], vu] w fun e w' => e = .returned (.tuple #[.bool (hasV d U), .int .i64 (runC d U)]) ∧ w.grownBy w' none := by
  have hb0 := World.grownBy_alloc w (.cells #[vp, vn, vl] 27) none
  have HB0 := Lib.hid hb0
  have HC := Lib.hid (refrun13 vp vn vl vu d U _ (h.kept hb0) (hU.kept hb0))
  have HD := Lib.hid h.b
  have k2 := cell3_2 w vp vn vl 27
  have HL := Lib.hid (@run_lt d U)
  obtain ⟨ap, cp, rfl, _⟩ := h.p
  obtain ⟨an, cn, rfl, _⟩ := h.r
  obtain ⟨al, cl, rfl, _⟩ := h.b
  obtain ⟨au, cu, rfl, _⟩ := hU
  have HV : Hid (hasV d U = if runC d U = 0 then d.B.getD (runS d U) false else false) := Lib.hid rfl
  clear h hb0
  generalize hasV d U = r at HV ⊢
  generalize runC d U = c at HV HC HL ⊢
  generalize runS d U = s at HV HC HL
  by_cases hc : c = 0
  · subst hc
    have hs := HL.out rfl
    have HV2 : Hid (r = d.B.getD s false) := Lib.hid (by rw [HV.out, if_pos rfl])
    have hsI : (s : Int) < (d.B.length : Int) := by omega
    obtain ⟨_, _, e1, _, _, hb3⟩ := HD.out
    cases e1
    rcases hb3 with hb3 | ⟨bl, offl, rfl, hb3⟩
    · rw [hb3] at hs; exact absurd hs (by simp)
    have cs := hb3 s hs
    have cs1 := (HB0.out).cell cs (by simp)
    rw [← HV2.out] at cs cs1
    clear hb3 HV HV2 HL
    go_enter Try.func18, Try.ntmps18
    go_wp2_with (go_at_call 17; refine HC.out.mono ?_; rintro e w1 ⟨rfl, hg1⟩; have c2 := hg1.cell k2 (by simp); have cs2 := hg1.cell cs1 (by simp))
    go_ret2
    exact ⟨rfl, gb_trans HB0.out hg1 (Or.inl rfl)⟩
  · have HV2 : Hid (r = false) := Lib.hid (by rw [HV.out, if_neg hc])
    have hcb : (c == 0) = false := by rw [beq_eq_false_iff_ne]; exact hc
    clear HV HL hc
    go_enter Try.func18, Try.ntmps18
    go_wp2_with (go_at_call 17; refine HC.out.mono ?_; rintro e w1 ⟨rfl, hg1⟩; have c2 := hg1.cell k2 (by simp))
    go_ret2
    exact ⟨by rw [HV2.out]; rfl, gb_trans HB0.out hg1 (Or.inl rfl)⟩
end Go.Proofs.Ytcdepblajobemaa
