/- Runner: rows of texts that are lent and spoilt; what a Run says, whatever lies there. -/
import Derived.Test.YtpehmlkikhkmfaaRefRunE
import Derived.Test.YtpehmlkikhkmfaaLentMachine
import Derived.Test.YtpehmlkikhkmfaaBookV
import Derived.Test.YtpehmlkikhkmfaaRunBatch
namespace Go.Proofs.Ytpehmlkikhkmfaa
open Go.RowKit Go.Deep

set_option maxRecDepth 100000 in
set_option maxHeartbeats 1000000 in
theorem spoil_texts2 {w : World} {g n cap : Nat} {cur : Array Value} (hgb : w.heap[g]? = some (.cells cur 9 (0, 0))) (hsz : cur.size = cap) (hc : n ≤ cap) (hcm : cap ≤ maxLen) :
    Calls Try.prog 23 #[.slice (some ⟨g, 0, none⟩) n cap] w fun e w' => e = .returned (.tuple #[]) ∧ w.grownBy w' (some g) ∧ ∃ cur', w'.heap[g]? = some (.cells cur' 9 (0, 0)) ∧ cur'.size = cap ∧ ∀ j, j < cap → cur'[j]? = some (.string ⟨#[115, 112, 111, 105, 108, 116]⟩) := by
  have hcK : (cap : Int) ≤ 9223372036854775807 := by unfold maxLen at hcm; omega
  have hcN : cap ≤ 9223372036854775807 := by omega
  clear hcm
  go_enter Try.func23, Try.ntmps23
  go_wp2_with fail
  go_loopw [3] (fun i wr => ∃ (k : Nat) (c : Array Value), k ≤ cap ∧ i = .int .i64 (k : Int) ∧ wr.heap[g]? = some (.cells c 9 (0, 0)) ∧ c.size = cap ∧ (∀ j, j < k → c[j]? = some (.string ⟨#[115, 112, 111, 105, 108, 116]⟩)) ∧ w.grownBy wr (some g)) (fun i _ => cap - (intOf i).toNat)
  case atStart => exact ⟨0, cur, by omega, rfl, hgb, hsz, fun j hj => absurd hj (Nat.not_lt_zero _), gb_refl _ _⟩
  case round =>
    obtain ⟨k, c, hk, rfl, hb, hcs, hdone, hG⟩ := hrel
    by_cases hlt : k < cap
    · have hcell : wr.cell? ⟨g, k, none⟩ = some (c[k]'(by omega)) := by simp [World.cell?, hb, hcs, hlt]
      have hfz : wr.frozen? ⟨g, k, none⟩ = false := by simp [World.frozen?, hb]
      have HSet : Hid ((wr.setCell ⟨g, k, none⟩ (.string ⟨#[115, 112, 111, 105, 108, 116]⟩)).heap[g]? = some (.cells (c.setIfInBounds k (.string ⟨#[115, 112, 111, 105, 108, 116]⟩)) 9 (0, 0))) := Lib.hid (by simp only [World.setCell, Array.getElem?_modify, hb]; simp)
      have HD := Lib.hid hdone
      generalize c[k]'(by omega) = old at hcell
      have hkI : (k : Int) < (cap : Int) := by omega
      clear hb hdone hgb hsz
      go_wp2_with fail
      go_roundw
      case rel =>
        refine ⟨k + 1, _, by omega, by go_num, HSet.out, by simpa using hcs, fun j hj => ?_, gb_trans hG gb_set (Or.inr (Or.inl rfl))⟩
        rw [Array.getElem?_setIfInBounds]
        by_cases e : k = j
        · subst e; rw [if_pos rfl, if_pos (by omega)]
        · rw [if_neg e]; exact HD.out j (by omega)
      case measure => simp [intOf]; omega
    · obtain rfl : k = cap := by omega
      have HCur : Hid (∃ cur', wr.heap[g]? = some (.cells cur' 9 (0, 0)) ∧ cur'.size = k ∧ ∀ j, j < k → cur'[j]? = some (.string ⟨#[115, 112, 111, 105, 108, 116]⟩)) := Lib.hid ⟨c, hb, hcs, hdone⟩
      clear hb hdone hgb
      go_wp2_with fail
      all_goals go_end0
      all_goals exact ⟨rfl, hG, HCur.out⟩

/-- A list of texts that somebody may write over. -/
def TRoom (w : World) (Z : Nat) (u : Value) : Prop := ∃ (g n cap : Nat) (cur : Array Value), u = .slice (some ⟨g, 0, none⟩) n cap ∧ w.heap[g]? = some (.cells cur 9 (0, 0)) ∧ cur.size = cap ∧ n ≤ cap ∧ cap ≤ maxLen ∧ n ≤ 17592186043904 ∧ Z ≤ g ∧ ∀ k, k < n → ∃ x : ByteArray, cur[k]? = some (.string x) ∧ x.size ≤ maxLen
theorem LentTexts.troom {w : World} {Y : Nat} {v : Value} {L : List ByteArray} (h : LentTexts w Y v L) (hl : L.length ≤ 17592186043904) (hw : ∀ k, k < L.length → (L.getD k ⟨#[]⟩).size ≤ maxLen) : TRoom w Y v := by
  obtain ⟨g, cap, rfl, h1, h2, h3⟩ := h
  rcases h3.2 with ⟨h0, _⟩ | ⟨g', cap', cur, hv, hb, hg, hnc, hcm, hcs, htk⟩
  · cases h0
  · cases hv
    refine ⟨g, _, cap, cur, rfl, hg, by omega, by omega, hcm, hl, hb, fun k hk => ⟨L.getD k ⟨#[]⟩, ?_, hw k hk⟩⟩
    have e : (List.take ((L.length + 2) * 1) cur.toList)[k]? = cur[k]? := by rw [List.getElem?_take, if_pos (by omega)]; simp
    rw [← e, htk, List.getElem?_append_left (by rw [List.length_map]; exact hk), map_at sv L ⟨#[]⟩ k hk]
    rfl
theorem TRoom.kept {w w' : World} {Z : Nat} {u : Value} {r : Option Nat} (h : TRoom w Z u) (hg : w.grownBy w' r) (hne : u.ownBlock = none ∨ u.ownBlock ≠ r) : TRoom w' Z u := by
  obtain ⟨g, n, cap, cur, rfl, hb, rest⟩ := h
  refine ⟨g, n, cap, cur, rfl, ?_, rest⟩
  rw [hg.block g (Array.getElem?_eq_some_iff.1 hb).1 (by simpa [Value.ownBlock] using hne)]
  exact hb
theorem TRoom.off {w : World} {Z b e : Nat} {u : Value} {c : Array Value} {fr : Nat × Nat} (h : TRoom w Z u) (hb : w.heap[b]? = some (.cells c e fr)) (he : 9 ≠ e) : u.ownBlock = none ∨ u.ownBlock ≠ some b := by
  obtain ⟨g, n, cap, cur, rfl, hg, _⟩ := h
  right
  intro e2
  obtain rfl : g = b := by simpa [Value.ownBlock] using e2
  rw [hb] at hg
  simp only [Option.some.injEq, Obj.cells.injEq] at hg
  exact he hg.2.1.symm
theorem TRoom.apart {w : World} {Z Y e n : Nat} {u v : Value} {xs : List Value} (h : TRoom w Z u) (hv : w.ownsRow Y e 1 v n xs) (he : 9 ≠ e) : u.ownBlock = none ∨ u.ownBlock ≠ v.ownBlock := by
  rcases e2 : v.ownBlock with _ | b
  · exact Classical.em _
  · obtain ⟨c, hc⟩ := own_blk' hv e2
    exact h.off hc he
theorem TRoom.texts {w : World} {Z : Nat} {u : Value} (h : TRoom w Z u) : ∃ L, TextsAt w u L := by
  obtain ⟨g, n, cap, cur, rfl, hb, hs, hn, hc, hl, _, hx⟩ := h
  obtain ⟨F, hF⟩ := choose_lt (α := ByteArray) (p := fun k x => cur[k]? = some (.string x) ∧ x.size ≤ maxLen) hx
  have e : ((List.range n).map F).length = n := by simp
  have e2 : ∀ k, k < n → ((List.range n).map F).getD k ⟨#[]⟩ = F k := fun k hk => by simp [List.getD_eq_getElem?_getD, hk]
  refine ⟨(List.range n).map F, some ⟨g, 0, none⟩, cap, by rw [e], by omega, by omega, fun k hk => ?_, Or.inr ⟨g, 0, rfl, fun k hk => ?_⟩⟩
  · rw [e2 k (by omega)]; exact (hF k (by omega)).2
  · rw [e2 k (by omega), Nat.zero_add]
    simp only [World.cell?, hb]
    exact (hF k (by omega)).1
/-- Rows of texts that are lent, whatever stands in them. -/
structure RowS (w : World) (Z g cap : Nat) (vs : List Value) (t : Value) : Prop where
  row : w.ownsRow Z 23 1 (.slice (some ⟨g, 0, none⟩) (vs.length + 1) cap) (vs.length + 1) (vs ++ [t])
  each : ∀ i, i < vs.length → TRoom w Z (vs.getD i default)
  le : vs.length + 1 ≤ cap
section
variable {w w' : World} {Z g cap : Nat} {vs : List Value} {t : Value}
theorem RowS.kept (h : RowS w Z g cap vs t) (hg : w.grownBy w' none) : RowS w' Z g cap vs t :=
  ⟨h.row.kept hg (Classical.em _), fun i hi => (h.each i hi).kept hg (Classical.em _), h.le⟩
theorem RowS.off {b e : Nat} {c : Array Value} {fr : Nat × Nat} (h : RowS w Z g cap vs t) (hb : w.heap[b]? = some (.cells c e fr)) (h1 : 9 ≠ e) (h2 : 23 ≠ e) (hg : w.grownBy w' (some b)) : RowS w' Z g cap vs t :=
  ⟨h.row.kept hg (own_off h.row hb h2), fun i hi => (h.each i hi).kept hg ((h.each i hi).off hb h1), h.le⟩
theorem RowS.cell (h : RowS w Z g cap vs t) {i : Nat} (hi : i < vs.length) : w.cell? ⟨g, i, none⟩ = some (vs.getD i default) := by
  rw [h.row.cellAt i (by omega), List.getElem?_append_left hi, List.getD_eq_getElem?_getD, List.getElem?_eq_getElem hi]
  rfl
theorem RowS.last (h : RowS w Z g cap vs t) : w.cell? ⟨g, vs.length, none⟩ = some t := by
  rw [h.row.cellAt _ (by omega), List.getElem?_append_right (Nat.le_refl _), Nat.sub_self]
  rfl
theorem RowS.events (h : RowS w Z g cap vs t) (hl : vs.length ≤ 17592186043904) : ∃ E, E.length = vs.length ∧ EventsAt w (.slice (some ⟨g, 0, none⟩) vs.length cap) E := by
  obtain ⟨F, hF⟩ := choose_lt (α := List ByteArray) (p := fun i L => TextsAt w (vs.getD i default) L) (fun i hi => (h.each i hi).texts)
  have e : ((List.range vs.length).map F).length = vs.length := by simp
  refine ⟨(List.range vs.length).map F, e, some ⟨g, 0, none⟩, cap, by rw [e], by have := h.le; omega, by omega, Or.inr ⟨g, 0, rfl, fun k hk => ⟨vs.getD k default, ?_, ?_⟩⟩⟩
  · rw [Nat.zero_add]; exact h.cell (by omega)
  · have e2 : ((List.range vs.length).map F).getD k [] = F k := by simp [List.getD_eq_getElem?_getD, show k < vs.length by omega]
    rw [e2]
    exact hF k (by omega)
/-- One row has been spoilt. -/
theorem RowS.spoilt {b c : Nat} {cur' : Array Value} (h : RowS w Z g cap vs t) (hg : w.grownBy w' (some b)) (hb : ∃ cur, w.heap[b]? = some (.cells cur 9 (0, 0)) ∧ cur.size = c) (hb' : w'.heap[b]? = some (.cells cur' 9 (0, 0))) (hs : cur'.size = c) (hx : ∀ j, j < c → cur'[j]? = some (.string ⟨#[115, 112, 111, 105, 108, 116]⟩)) : RowS w' Z g cap vs t := by
  obtain ⟨cur, hcur, hcs⟩ := hb
  refine ⟨h.row.kept hg (own_off h.row hcur (by decide)), fun i hi => ?_, h.le⟩
  obtain ⟨g2, n2, cap2, cur2, hv, hb2, hs2, hn2, hc2, hl2, hz2, hx2⟩ := h.each i hi
  by_cases e : g2 = b
  · subst e
    rw [hcur] at hb2
    simp only [Option.some.injEq, Obj.cells.injEq] at hb2
    obtain ⟨rfl, _⟩ := hb2
    exact ⟨g2, n2, cap2, cur', hv, hb', by omega, hn2, hc2, hl2, hz2, fun k hk => ⟨_, hx k (by omega), by decide⟩⟩
  · exact ⟨g2, n2, cap2, cur2, hv, by rw [hg.block g2 (Array.getElem?_eq_some_iff.1 hb2).1 (fun e2 => e (Option.some.inj e2))]; exact hb2, hs2, hn2, hc2, hl2, hz2, hx2⟩
end

/-- What a Run says. -/
def ranE (P : List ByteArray) (R : List (List Int)) (O : List Int) : Nat := if mErr P R O = 0 then 0 else 170
def ranL (P : List ByteArray) (R : List (List Int)) (O : List Int) (E : List (List ByteArray)) : List Int := if mErr P R O = 0 then runL P R O E E.length else []
theorem ranL_len (P : List ByteArray) (R : List (List Int)) (O : List Int) (E : List (List ByteArray)) : (ranL P R O E).length ≤ E.length := by
  unfold ranL
  split
  · rw [runL_len]; exact Nat.le_refl _
  · exact Nat.zero_le _
theorem ranL_byte {P : List ByteArray} {R : List (List Int)} {O : List Int} {E : List (List ByteArray)} (h : ∀ k, k < O.length → 0 ≤ O.getD k 0 ∧ O.getD k 0 ≤ 255) : ∀ k, k < (ranL P R O E).length → 0 ≤ (ranL P R O E).getD k 0 ∧ (ranL P R O E).getD k 0 ≤ 255 := by
  intro k hk
  unfold ranL at hk ⊢
  by_cases hE : mErr P R O = 0
  · rw [if_pos hE] at hk ⊢
    rw [runL_len] at hk
    have e : (runL P R O E E.length).getD k 0 = O.getD (goS P R (E.take (k + 1))) 0 := by simp [runL, List.getD_eq_getElem?_getD, hk]
    rw [e]
    exact h _ (goS_lt hE _)
  · rw [if_neg hE] at hk
    exact absurd hk (Nat.not_lt_zero _)
theorem run_any (vp vn vo ve : Value) (P : List ByteArray) (R : List (List Int)) (O : List Int) (E : List (List ByteArray)) (w : World) (hM : MachAt w vp vn vo P R O) (hn : O.length ≤ 200000) (hev : EventsAt w ve E) (hel : E.length ≤ 1000000) :
    Calls Try.prog 21 #[.agg #[vp, vn, vo], ve] w fun e w' => ∃ v, e = .returned (.tuple #[v, .int .i64 (ranE P R O : Int)]) ∧ w'.ownsRow w.heap.size 59 1 v (ranL P R O E).length ((ranL P R O E).map ov) ∧ w.grownBy w' none := by
  rcases mErr_two P R O with hE | hE
  · refine (run_yes vp vn vo ve P R O E w hM hE hn hev hel).mono ?_
    rintro e w' ⟨v, rfl, h1, h2⟩
    exact ⟨v, by unfold ranE; rw [if_pos hE]; rfl, by unfold ranL; rw [if_pos hE, runL_len]; exact h1, h2⟩
  · refine (run_no vp vn vo ve P R O w hM hE).mono ?_
    rintro e w' ⟨rfl, h2⟩
    exact ⟨_, by unfold ranE; rw [if_neg (by omega)]; rfl, by unfold ranL; rw [if_neg (by omega)]; exact World.ownsRow_nil _ _ _ _, h2⟩
theorem refrun_any (vp vn vo ve : Value) (P : List ByteArray) (R : List (List Int)) (O : List Int) (E : List (List ByteArray)) (w : World) (hM : MachAt w vp vn vo P R O) (hn : O.length ≤ 200000) (hev : EventsAt w ve E) (hel : E.length ≤ 1000000) :
    Calls Try.prog 24 #[.agg #[vp, vn, vo], ve] w fun e w' => ∃ v, e = .returned (.tuple #[v, .int .i64 (ranE P R O : Int)]) ∧ w'.ownsRow w.heap.size 59 1 v (ranL P R O E).length ((ranL P R O E).map ov) ∧ w.grownBy w' none := by
  rcases mErr_two P R O with hE | hE
  · refine (refrun_yes vp vn vo ve P R O E w hM hE hn hev hel).mono ?_
    rintro e w' ⟨v, rfl, h1, h2⟩
    exact ⟨v, by unfold ranE; rw [if_pos hE]; rfl, by unfold ranL; rw [if_pos hE, runL_len]; exact h1, h2⟩
  · refine (refrun_no vp vn vo ve P R O w hM hE).mono ?_
    rintro e w' ⟨rfl, h2⟩
    exact ⟨_, by unfold ranE; rw [if_neg (by omega)]; rfl, by unfold ranL; rw [if_neg (by omega)]; exact World.ownsRow_nil _ _ _ _, h2⟩
theorem bytes_own {w : World} {Y : Nat} {v : Value} {L : List Int} (h : w.ownsRow Y 59 1 v L.length (L.map ov)) (hl : L.length ≤ 17592186043904) (hb : ∀ k, k < L.length → 0 ≤ L.getD k 0 ∧ L.getD k 0 ≤ 255) : BytesAt w v L := by
  rcases h.2 with ⟨rfl, h0⟩ | ⟨g, cap, cur, rfl, _, hg, hnc, _⟩
  · exact ⟨none, 0, by rw [h0], by omega, hb, hl, Or.inl (List.eq_nil_of_length_eq_zero h0)⟩
  · refine ⟨some ⟨g, 0, none⟩, cap, rfl, hnc, hb, hl, Or.inr ⟨g, 0, rfl, fun k hk => ?_⟩⟩
    rw [Nat.zero_add, h.cellAt k (by omega), ov_at hk]
theorem EventsAt.below {w w' : World} {v : Value} {E : List (List ByteArray)} (h : EventsAt w v E) (hb : Below w.heap.size w w') : EventsAt w' v E := h.kept ⟨hb.os, hb.tape, hb.output, hb.size, fun k hk _ => hb.block k hk⟩
theorem LentRows.off {w w' : World} {Y b e : Nat} {v : Value} {R : List (List Int)} {c : Array Value} {fr : Nat × Nat} (h : LentRows w Y v R) (hb : w.heap[b]? = some (.cells c e fr)) (h1 : 107 ≠ e) (h2 : 3 ≠ e) (hg : w.grownBy w' (some b)) : LentRows w' Y v R := by
  obtain ⟨g, cap, vs, t, rfl, k1, k2, k3, k4, k5, k6⟩ := h
  exact ⟨g, cap, vs, t, rfl, k1, k2, k3, k4.kept hg (own_off k4 hb h1), fun i hi => by obtain ⟨u, hu, g', c', rfl, l1, l2, l3⟩ := k5 i hi; exact ⟨_, hu, g', c', rfl, l1, l2, l3.kept hg (own_off l3 hb h2)⟩, k6.kept hg (own_off k6 hb h2)⟩
theorem LentTexts.offb {w w' : World} {Y b e : Nat} {v : Value} {L : List ByteArray} {c : Array Value} {fr : Nat × Nat} (h : LentTexts w Y v L) (hb : w.heap[b]? = some (.cells c e fr)) (h1 : 9 ≠ e) (hg : w.grownBy w' (some b)) : LentTexts w' Y v L := by
  obtain ⟨g, cap, rfl, k1, k2, k3⟩ := h
  exact ⟨g, cap, rfl, k1, k2, k3.kept hg (own_off k3 hb h1)⟩
theorem own_only {w w' : World} {Y Z e e' n : Nat} {v : Value} {xs : List Value} (h : w.ownsRow Y e 1 v n xs) (ho : Only e' Z w w') (he : e ≠ e') : w'.ownsRow Y e 1 v n xs := by
  refine ⟨h.1, ?_⟩
  rcases h.2 with h2 | ⟨g, cap, cur, hv, hb, hg, rest⟩
  · exact Or.inl h2
  · exact Or.inr ⟨g, cap, cur, hv, hb, ho.far _ _ _ _ hg he, rest⟩
theorem own_below {w w' : World} {Y B e n : Nat} {v : Value} {xs : List Value} (h : w.ownsRow Y e 1 v n xs) (hb : Below B w w') (hl : ∀ b, v.ownBlock = some b → b < B) : w'.ownsRow Y e 1 v n xs := by
  refine ⟨h.1, ?_⟩
  rcases h.2 with h2 | ⟨g, cap, cur, rfl, hY, hg, rest⟩
  · exact Or.inl h2
  · exact Or.inr ⟨g, cap, cur, rfl, hY, by rw [hb.block g (hl g rfl)]; exact hg, rest⟩
theorem own_two {w : World} {Y e n : Nat} {a b : Value} {xs : List Value} {mk : Nat → Nat → Value} (ha : w.ownsRow Y e 1 a n xs) (hb : w.ownsRow Y e 1 b n xs) (hs : Sep a b) : OwnP1 w Y e [a, b] (fun _ => n) mk 0 0 := by
  have e0 : ∀ i : Nat, (if i < 0 then n else if i = 0 then 0 else 0) = 0 := fun i => by rw [if_neg (Nat.not_lt_zero _), ite_self]
  refine ⟨fun i hi => ?_, fun i j hi hj hij => ?_⟩
  · rw [e0]
    have hi2 : i < 2 := hi
    rcases (show i = 0 ∨ i = 1 by omega) with rfl | rfl
    · exact ⟨xs, ha, fun k hk => absurd hk (Nat.not_lt_zero _)⟩
    · exact ⟨xs, hb, fun k hk => absurd hk (Nat.not_lt_zero _)⟩
  · have hi2 : i < 2 := hi
    have hj2 : j < 2 := hj
    rcases (show i = 0 ∧ j = 1 ∨ i = 1 ∧ j = 0 by omega) with ⟨rfl, rfl⟩ | ⟨rfl, rfl⟩
    · exact hs
    · exact hs.symm
theorem BookAt.base {w : World} {Y Y' b : Nat} {v : Value} {vs : List Value} (h : BookAt w Y b v vs) (hy : Y' ≤ Y) : BookAt w Y' b v vs := ⟨h.blk, own_base h.row hy⟩
theorem book_new (w : World) : BookAt (w.alloc (.cells #[nilS, nilS, nilS, nilS, nilS, nilS, nilS, nilS, nilS, nilS, nilS, nilS, nilS] 76)) w.heap.size w.heap.size nilS [] := ⟨heap_alloc_new w _, World.ownsRow_nil _ _ _ _⟩
theorem gb_over {a b c : World} {r : Option Nat} (h : a.grownBy b r) (k : Below a.heap.size b c) : a.grownBy c r :=
  ⟨k.os.trans h.os, k.tape.trans h.tape, k.output.trans h.output, Nat.le_trans h.size k.size, fun i hi hne => (k.block i hi).trans (h.block i hi hne)⟩
end Go.Proofs.Ytpehmlkikhkmfaa
