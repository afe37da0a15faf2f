/- Dfa: lists that are written over, in plain Lean. -/
import Derived.Test.YtcdepblajobemaaBuilds16
import Derived.Deep.RegionWith
set_option maxRecDepth 100000
namespace Go.Proofs.Ytcdepblajobemaa
open Go.RowKit

theorem pick_lt {α : Type} [Inhabited α] {n : Nat} {p : Nat → α → Prop} (h : ∀ k, k < n → ∃ x, p k x) : ∃ F : Nat → α, ∀ k, k < n → p k (F k) := by
  classical
  refine ⟨fun k => if hk : k < n then Classical.choose (h k hk) else default, fun k hk => ?_⟩
  simp only [hk, dif_pos]
  exact Classical.choose_spec (h k hk)
def okI (x : Int) : Prop := -9223372036854775808 ≤ x ∧ x ≤ 9223372036854775807
/-- Some numbers. -/
def IntsOk (w : World) (Y : Nat) (u : Value) (n : Nat) : Prop :=
  ∃ g cap cur, u = .slice (some ⟨g, 0, none⟩) n cap ∧ Y ≤ g ∧ w.heap[g]? = some (.cells cur 3 (0, 0)) ∧ n ≤ 17592186043904 ∧ ∀ k, k < n → ∃ x, cur[k]? = some (.int .i64 x) ∧ okI x
def RowsOk (w : World) (Y : Nat) (v : Value) (N : Nat) : Prop :=
  ∃ g cap cur, v = .slice (some ⟨g, 0, none⟩) N cap ∧ N ≤ cap ∧ Y ≤ g ∧ w.heap[g]? = some (.cells cur 43 (0, 0)) ∧ N ≤ 17592186043904 ∧ ∀ k, k < N → ∃ u n, cur[k]? = some u ∧ IntsOk w Y u n
def BoolsOk (w : World) (Y : Nat) (v : Value) (N : Nat) : Prop :=
  ∃ g cap cur, v = .slice (some ⟨g, 0, none⟩) N cap ∧ N ≤ cap ∧ Y ≤ g ∧ w.heap[g]? = some (.cells cur 4 (0, 0)) ∧ N ≤ 140737488351232 ∧ ∀ k, k < N → ∃ x, cur[k]? = some (.bool x)
structure InAt (w : World) (Y bi : Nat) (xp xn xl vx : Value) (P : List ByteArray) (N nb : Nat) (U : List Nat) : Prop where
  box : w.heap[bi]? = some (.cells #[xp, xn, xl] 27 (0, 0))
  p : LentTexts w Y xp P
  n : RowsOk w Y xn N
  b : BoolsOk w Y xl nb
  x : LentLetters w Y vx U
section
variable {w w' : World} {Y : Nat}
theorem IntsOk.kept {u : Value} {n : Nat} {r : Option Nat} (h : IntsOk w Y u n) (hg : w.grownBy w' r) (hr : ∀ b, u.ownBlock = some b → some b ≠ r) : IntsOk w' Y u n := by
  obtain ⟨g, cap, cur, rfl, h1, h2, h3, h4⟩ := h
  exact ⟨g, cap, cur, rfl, h1, blk_kept h2 hg (hr g rfl), h3, h4⟩
theorem IntsOk.set {u : Value} {n g' j : Nat} {x : Int} {c : Array Value} (h : IntsOk w Y u n) (hb : w.heap[g']? = some (.cells c 3 (0, 0))) (hx : okI x) : IntsOk (w.setCell ⟨g', j, none⟩ (.int .i64 x)) Y u n := by
  obtain ⟨g, cap, cur, rfl, h1, h2, h3, h4⟩ := h
  by_cases e : g = g'
  · subst e
    rw [h2] at hb
    refine ⟨g, cap, _, rfl, h1, heap_setCell_same w g j _ _ _ h2, h3, fun k hk => ?_⟩
    rw [Array.getElem?_setIfInBounds]
    obtain ⟨y, hy, hr⟩ := h4 k hk
    split
    · rename_i e2
      subst e2
      have := (Array.getElem?_eq_some_iff.1 hy).1
      rw [if_pos this]
      exact ⟨x, rfl, hx⟩
    · exact ⟨y, hy, hr⟩
  · exact ⟨g, cap, cur, rfl, h1, blk_kept h2 (gb_set (a := ⟨g', j, none⟩)) (fun e2 => e (Option.some.inj e2)), h3, h4⟩
theorem IntsOk.cell {u : Value} {n k : Nat} (h : IntsOk w Y u n) (hk : k < n) : ∃ g cap x, u = .slice (some ⟨g, 0, none⟩) n cap ∧ Y ≤ g ∧ n ≤ 17592186043904 ∧ w.cell? ⟨g, k, none⟩ = some (.int .i64 x) ∧ okI x ∧ (∀ j, w.frozen? ⟨g, j, none⟩ = false) ∧ ∃ c, w.heap[g]? = some (.cells c 3 (0, 0)) := by
  obtain ⟨g, cap, cur, rfl, h1, h2, h3, h4⟩ := h
  obtain ⟨x, hx, hr⟩ := h4 k hk
  exact ⟨g, cap, x, rfl, h1, h3, by simp [World.cell?, h2, hx], hr, fun j => by simp [World.frozen?, h2], _, h2⟩
theorem IntsOk.at {u : Value} {n : Nat} (h : IntsOk w Y u n) : ∃ A, A.length = n ∧ IntsAt w u A := by
  obtain ⟨g, cap, cur, rfl, h1, h2, h3, h4⟩ := h
  obtain ⟨F, hF⟩ := pick_lt (α := Int) (p := fun k x => cur[k]? = some (.int .i64 x) ∧ okI x) h4
  have hl : ((List.range n).map F).length = n := by simp
  have hg : ∀ k, k < n → ((List.range n).map F).getD k 0 = F k := fun k hk => by simp [List.getD_eq_getElem?_getD, hk]
  refine ⟨(List.range n).map F, hl, some ⟨g, 0, none⟩, cap, by rw [hl], fun k hk => ?_, by rw [hl]; exact h3, Or.inr ⟨g, 0, rfl, fun k hk => ?_⟩⟩
  · rw [hl] at hk
    rw [hg k hk]
    exact (hF k hk).2
  · rw [hl] at hk
    rw [hg k hk, Nat.zero_add]
    simp [World.cell?, h2, (hF k hk).1]
theorem RowsOk.at {v : Value} {N : Nat} (h : RowsOk w Y v N) : ∃ R, R.length = N ∧ RowsAt2 w v R := by
  obtain ⟨g, cap, cur, rfl, h0, h1, h2, h3, h4⟩ := h
  obtain ⟨F, hF⟩ := pick_lt (α := List Int) (p := fun k A => ∃ u, cur[k]? = some u ∧ IntsAt w u A) (fun k hk => by
    obtain ⟨u, n, hu, hi⟩ := h4 k hk
    obtain ⟨A, _, hA⟩ := hi.at
    exact ⟨A, u, hu, hA⟩)
  have hl : ((List.range N).map F).length = N := by simp
  refine ⟨(List.range N).map F, hl, some ⟨g, 0, none⟩, cap, by rw [hl], by rw [hl]; exact h0, by rw [hl]; exact h3, Or.inr ⟨g, 0, rfl, fun k hk => ?_⟩⟩
  rw [hl] at hk
  obtain ⟨u, hu, hA⟩ := hF k hk
  refine ⟨u, by simp [World.cell?, h2, hu], ?_⟩
  rw [show ((List.range N).map F).getD k [] = F k by simp [List.getD_eq_getElem?_getD, hk]]
  exact hA
theorem BoolsOk.at {v : Value} {N : Nat} (h : BoolsOk w Y v N) : ∃ B, B.length = N ∧ BoolsAt w v B := by
  obtain ⟨g, cap, cur, rfl, h0, h1, h2, h3, h4⟩ := h
  obtain ⟨F, hF⟩ := pick_lt (α := Bool) (p := fun k x => cur[k]? = some (.bool x)) h4
  have hl : ((List.range N).map F).length = N := by simp
  refine ⟨(List.range N).map F, hl, some ⟨g, 0, none⟩, cap, by rw [hl], by rw [hl]; exact h0, by rw [hl]; exact h3, Or.inr ⟨g, 0, rfl, fun k hk => ?_⟩⟩
  rw [hl] at hk
  rw [show ((List.range N).map F).getD k false = F k by simp [List.getD_eq_getElem?_getD, hk], Nat.zero_add]
  simp [World.cell?, h2, hF k hk]
theorem InAt.dfa {bi : Nat} {xp xn xl vx : Value} {P : List ByteArray} {N nb : Nat} {U : List Nat} (h : InAt w Y bi xp xn xl vx P N nb U) (h1 : P.length ≤ 17592186043904) (h2 : ∀ k, k < P.length → (P.getD k ⟨#[]⟩).size ≤ maxLen) : ∃ d : Dfa, d.P = P ∧ d.R.length = N ∧ d.B.length = nb ∧ DfaAt w xp xn xl d := by
  obtain ⟨R, hR, hr⟩ := h.n.at
  obtain ⟨B, hB, hb⟩ := h.b.at
  exact ⟨⟨P, R, B⟩, rfl, hR, hB, ⟨h.p.at h1 h2, hr, hb⟩⟩
theorem InAt.kept {bi : Nat} {xp xn xl vx : Value} {P : List ByteArray} {N nb : Nat} {U : List Nat} (h : InAt w Y bi xp xn xl vx P N nb U) (hg : w.grownBy w' none) : InAt w' Y bi xp xn xl vx P N nb U := by
  obtain ⟨hbox, hp, ⟨g, cap, cur, rfl, h0, h1, h2, h3, h4⟩, ⟨g', cap', cur', rfl, k0, k1, k2, k3, k4⟩, hx⟩ := h
  refine ⟨blk_kept hbox hg (by simp), hp.kept hg (Classical.em _), ⟨g, cap, cur, rfl, h0, h1, blk_kept h2 hg (by simp), h3, fun k hk => ?_⟩, ⟨g', cap', cur', rfl, k0, k1, blk_kept k2 hg (by simp), k3, k4⟩, hx.kept hg (Classical.em _)⟩
  obtain ⟨u, n, hu, hi⟩ := h4 k hk
  exact ⟨u, n, hu, hi.kept hg (fun _ _ => by simp)⟩
theorem LentTexts.far {b : Nat} {v : Value} {L : List ByteArray} {c : Array Value} {e : TypeId} {fr : Nat × Nat} (h : LentTexts w Y v L) (hg : w.grownBy w' (some b)) (hb : w.heap[b]? = some (.cells c e fr)) (he : 9 ≠ e) : LentTexts w' Y v L := by
  obtain ⟨g, cap, rfl, h1, h2, h3⟩ := h
  exact ⟨g, cap, rfl, h1, h2, own_far h3 hg hb he⟩
theorem LentLetters.far {b : Nat} {v : Value} {L : List Nat} {c : Array Value} {e : TypeId} {fr : Nat × Nat} (h : LentLetters w Y v L) (hg : w.grownBy w' (some b)) (hb : w.heap[b]? = some (.cells c e fr)) (he : 55 ≠ e) : LentLetters w' Y v L := by
  obtain ⟨g, cap, rfl, h1, h2, h3⟩ := h
  exact ⟨g, cap, rfl, h1, h2, own_far h3 hg hb he⟩
/-- A number is written. -/
theorem InAt.int {bi : Nat} {xp xn xl vx : Value} {P : List ByteArray} {N nb : Nat} {U : List Nat} {g' j : Nat} {x : Int} {c : Array Value} (h : InAt w Y bi xp xn xl vx P N nb U) (hb : w.heap[g']? = some (.cells c 3 (0, 0))) (hx : okI x) : InAt (w.setCell ⟨g', j, none⟩ (.int .i64 x)) Y bi xp xn xl vx P N nb U := by
  have hg : w.grownBy (w.setCell ⟨g', j, none⟩ (.int .i64 x)) (some g') := gb_set
  obtain ⟨hbox, hp, ⟨g, cap, cur, rfl, h0, h1, h2, h3, h4⟩, ⟨g2, cap', cur', rfl, k0, k1, k2, k3, k4⟩, hx2⟩ := h
  refine ⟨blk_kept hbox hg (blk_ne hbox hb (by decide)), hp.far hg hb (by decide), ⟨g, cap, cur, rfl, h0, h1, blk_kept h2 hg (blk_ne h2 hb (by decide)), h3, fun k hk => ?_⟩, ⟨g2, cap', cur', rfl, k0, k1, blk_kept k2 hg (blk_ne k2 hb (by decide)), k3, k4⟩, hx2.far hg hb (by decide)⟩
  obtain ⟨u, n, hu, hi⟩ := h4 k hk
  exact ⟨u, n, hu, hi.set hb hx⟩
/-- A yes or no is written. -/
theorem InAt.bool {bi : Nat} {xp xn xl vx : Value} {P : List ByteArray} {N nb : Nat} {U : List Nat} {k : Nat} (h : InAt w Y bi xp xn xl vx P N nb U) (hk : k < nb) : ∃ g cap b, xl = .slice (some ⟨g, 0, none⟩) nb cap ∧ Y ≤ g ∧ w.cell? ⟨g, k, none⟩ = some (.bool b) ∧ w.frozen? ⟨g, k, none⟩ = false ∧ (∃ c, w.heap[g]? = some (.cells c 4 (0, 0))) ∧ ∀ y, InAt (w.setCell ⟨g, k, none⟩ (.bool y)) Y bi xp xn xl vx P N nb U := by
  obtain ⟨hbox, hp, ⟨g, cap, cur, rfl, h0, h1, h2, h3, h4⟩, ⟨g2, cap', cur', rfl, k0, k1, k2, k3, k4⟩, hx2⟩ := h
  obtain ⟨b, hb⟩ := k4 k hk
  refine ⟨g2, cap', b, rfl, k1, by simp [World.cell?, k2, hb], by simp [World.frozen?, k2], ⟨_, k2⟩, fun y => ?_⟩
  have hg : w.grownBy (w.setCell ⟨g2, k, none⟩ (.bool y)) (some g2) := gb_set
  refine ⟨blk_kept hbox hg (blk_ne hbox k2 (by decide)), hp.far hg k2 (by decide), ⟨g, cap, cur, rfl, h0, h1, blk_kept h2 hg (blk_ne h2 k2 (by decide)), h3, fun i hi => ?_⟩, ⟨g2, cap', _, rfl, k0, k1, heap_setCell_same w g2 k _ _ _ k2, k3, fun i hi => ?_⟩, hx2.far hg k2 (by decide)⟩
  · obtain ⟨u, n, hu, hi2⟩ := h4 i hi
    refine ⟨u, n, hu, hi2.kept hg (fun b hb2 => ?_)⟩
    obtain ⟨g3, c3, cur3, rfl, _, l2, _⟩ := hi2
    obtain rfl : g3 = b := by simpa [Value.ownBlock] using hb2
    exact blk_ne l2 k2 (by decide)
  · rw [Array.getElem?_setIfInBounds]
    obtain ⟨b', hb'⟩ := k4 i hi
    split
    · rename_i e2
      subst e2
      rw [if_pos (Array.getElem?_eq_some_iff.1 hb').1]
      exact ⟨y, rfl⟩
    · exact ⟨b', hb'⟩
theorem InAt.row {bi : Nat} {xp xn xl vx : Value} {P : List ByteArray} {N nb : Nat} {U : List Nat} {k : Nat} (h : InAt w Y bi xp xn xl vx P N nb U) (hk : k < N) : ∃ g cap u n, xn = .slice (some ⟨g, 0, none⟩) N cap ∧ w.cell? ⟨g, k, none⟩ = some u ∧ IntsOk w Y u n := by
  obtain ⟨g, cap, cur, rfl, h0, h1, h2, h3, h4⟩ := h.n
  obtain ⟨u, n, hu, hi⟩ := h4 k hk
  exact ⟨g, cap, u, n, rfl, by simp [World.cell?, h2, hu], hi⟩
/-- What is lent can be written over. -/
theorem LentD.inAt {bi : Nat} {xp xn xl vx : Value} {d : Dfa} {U : List Nat} (h : LentD w Y xp xn xl d) (hx : LentLetters w Y vx U) (hbox : w.heap[bi]? = some (.cells #[xp, xn, xl] 27 (0, 0))) {wo : World} {up un ul : Value} (hd : DfaAt wo up un ul d) : InAt w Y bi xp xn xl vx d.P d.R.length d.B.length U := by
  have hwf := rows_wf hd.r
  obtain ⟨_, _, _, _, hb4, _⟩ := hd.b
  obtain ⟨g, cap, vs, t, rfl, q1, q2, q3, q4, q5, q6⟩ := h.n
  obtain ⟨g3, c3, rfl, r1, r2, r3⟩ := h.b
  have hq := q4.2
  refine ⟨hbox, h.p, ?_, ?_, hx⟩
  · rcases q4.2 with ⟨e, _⟩ | ⟨g', cap', cur, hv, hb, hgg, hn, hcm, hcs, htk⟩
    · cases e
    · cases hv
      refine ⟨g, cap, cur, rfl, by omega, hb, hgg, hwf.1, fun k hk => ?_⟩
      obtain ⟨u, hu, hl⟩ := q5 k hk
      have hck := q4.cellAt k (by omega)
      rw [List.getElem?_append_left (by omega), hu] at hck
      refine ⟨u, (d.R.getD k []).length, by simpa [World.cell?, hgg] using hck, ?_⟩
      obtain ⟨g4, c4, rfl, s1, s2, s3⟩ := hl
      have hwk := (hwf.2 k hk)
      rcases s3.2 with ⟨e, _⟩ | ⟨g5, cap5, cur5, hv5, hb5, hg5, hn5, hcm5, hcs5, htk5⟩
      · cases e
      · cases hv5
        refine ⟨g4, c4, cur5, rfl, hb5, hg5, hwk.1, fun j hj => ⟨(d.R.getD k []).getD j 0, ?_, hwk.2 j hj⟩⟩
        have hc := s3.cellAt j (by omega)
        rw [List.getElem?_append_left (by rw [List.length_map]; exact hj), map_at iv _ 0 j hj] at hc
        simpa [World.cell?, hg5, iv] using hc
  · rcases r3.2 with ⟨e, _⟩ | ⟨g', cap', cur, hv, hb, hgg, hn, hcm, hcs, htk⟩
    · cases e
    · cases hv
      refine ⟨g3, c3, cur, rfl, by omega, hb, hgg, hb4, fun k hk => ⟨d.B.getD k false, ?_⟩⟩
      have hc := r3.cellAt k (by omega)
      rw [List.getElem?_append_left (by rw [List.length_map]; exact hk), map_at tv01 _ false k hk] at hc
      simpa [World.cell?, hgg, tv01] using hc
end
theorem letters_lent {w : World} {Y : Nat} {v : Value} {U : List Nat} (h : LentLetters w Y v U) {wo : World} {u : Value} (hu : LettersAt wo u U) : LettersAt w v U := by
  obtain ⟨_, _, _, h1, h2, _⟩ := hu
  exact h.at h2 h1

set_option maxHeartbeats 2000000 in
theorem whole_dfa {w : World} {Y : Nat} {xp xn xl vp vn vl : Value} {d : Dfa} (hx : LentD w Y xp xn xl d) (hd : DfaAt w vp vn vl d) :
    Calls Try.prog 15 #[.agg #[xp, xn, xl], .agg #[vp, vn, vl]] w fun e w' => e = .returned (.bool true) ∧ w.grownBy w' none := by
  have HT : Hid (∀ wx, w.grownBy wx none → Calls Try.prog 40 #[xp, vp] wx fun e w' => e = .returned (.bool true) ∧ wx.grownBy w' none) := Lib.hid fun wx hg => whole_texts (hx.p.kept hg (Classical.em _)) (hd.p.kept hg)
  have HN : Hid (∀ wx, w.grownBy wx none → Calls Try.prog 41 #[xn, vn] wx fun e w' => e = .returned (.bool true) ∧ wx.grownBy w' none) := Lib.hid fun wx hg => whole_rows (hx.n.kept hg) (hd.r.kept hg)
  have HL : Hid (∀ wx, w.grownBy wx none → Calls Try.prog 42 #[xl, vl] wx fun e w' => e = .returned (.bool true) ∧ wx.grownBy w' none) := Lib.hid fun wx hg => whole_bools (hx.b.kept hg (Classical.em _)) (hd.b.kept hg)
  obtain ⟨qp, yp, rfl⟩ := lent_slice hx.p
  obtain ⟨qn, yn, rfl⟩ := lent_slice2 hx.n
  obtain ⟨ql, yl, rfl⟩ := lent_slice3 hx.b
  obtain ⟨ap, cp, rfl, -⟩ := hd.p
  obtain ⟨an, cn, rfl, -⟩ := hd.r
  obtain ⟨al, cl, rfl, -⟩ := hd.b
  clear hx hd
  have hg0 := World.grownBy_alloc w (.cells #[.slice qp d.P.length yp, .slice qn d.R.length yn, .slice ql d.B.length yl] 27) none
  have hb0 := heap_alloc_new w (.cells #[.slice qp d.P.length yp, .slice qn d.R.length yn, .slice ql d.B.length yl] 27)
  have hg1 := World.grownBy_alloc (w.alloc (.cells #[.slice qp d.P.length yp, .slice qn d.R.length yn, .slice ql d.B.length yl] 27)) (.cells #[.slice ap d.P.length cp, .slice an d.R.length cn, .slice al d.B.length cl] 27) none
  have hb1 := heap_alloc_new (w.alloc (.cells #[.slice qp d.P.length yp, .slice qn d.R.length yn, .slice ql d.B.length yl] 27)) (.cells #[.slice ap d.P.length cp, .slice an d.R.length cn, .slice al d.B.length cl] 27)
  rw [World.size_alloc] at hb1
  have HB0 := Lib.hid (blk_kept hb0 hg1 (by simp))
  have HB1 := Lib.hid hb1
  have HG := Lib.hid (gb_trans hg0 hg1 (Or.inl rfl))
  clear hg0 hg1 hb0 hb1
  go_enter Try.func15, Try.ntmps15
  go_wp2_with fail
  generalize (w.alloc (.cells #[.slice qp d.P.length yp, .slice qn d.R.length yn, .slice ql d.B.length yl] 27)).alloc (.cells #[.slice ap d.P.length cp, .slice an d.R.length cn, .slice al d.B.length cl] 27) = w0 at HB0 HB1 HG ⊢
  refine (HT.out _ HG.out).mono ?_
  rintro e w1 ⟨rfl, hg1⟩
  replace HB0 := Lib.hid (blk_kept HB0.out hg1 (by simp))
  replace HB1 := Lib.hid (blk_kept HB1.out hg1 (by simp))
  replace HG := Lib.hid (gb_trans HG.out hg1 (Or.inl rfl))
  obtain ⟨b0, b1, b2⟩ := S3 HB0.out
  obtain ⟨d0, d1, d2⟩ := S3 HB1.out
  clear hg1
  go_wp2_with fail
  refine (HN.out _ HG.out).mono ?_
  rintro e w2 ⟨rfl, hg1⟩
  replace HB0 := Lib.hid (blk_kept HB0.out hg1 (by simp))
  replace HB1 := Lib.hid (blk_kept HB1.out hg1 (by simp))
  replace HG := Lib.hid (gb_trans HG.out hg1 (Or.inl rfl))
  obtain ⟨b0, b1, b2⟩ := S3 HB0.out
  obtain ⟨d0, d1, d2⟩ := S3 HB1.out
  clear hg1
  go_wp2_with fail
  refine (HL.out _ HG.out).mono ?_
  rintro e w3 ⟨rfl, hg1⟩
  go_wp2_with fail
  go_ret
  exact ⟨rfl, gb_trans HG.out hg1 (Or.inl rfl)⟩
end Go.Proofs.Ytcdepblajobemaa
namespace Go.Proofs.Ytcdepblajobemaa
open Go.RowKit

set_option maxHeartbeats 1000000 in
theorem same_rows {w : World} {a b : Value} {L : List (List Int)} (ha : RowsAt2 w a L) (hb : RowsAt2 w b L) :
    Calls Try.prog 70 #[a, b] w fun e w' => e = .returned (.bool true) ∧ w.grownBy w' none := by
  have HA := Lib.hid ha
  have HB := Lib.hid hb
  obtain ⟨aa, ca, rfl, hca, hla, -⟩ := ha
  obtain ⟨ab, cb, rfl, hcb, -, -⟩ := hb
  go_enter Try.func70, Try.ntmps70
  go_wp2_with fail
  go_loopw [5] (fun i wr => ∃ (k : Nat), k ≤ L.length ∧ i = .int .i64 (k : Int) ∧ w.grownBy wr none) (fun i _ => L.length - (intOf i).toNat)
  case atStart => exact ⟨0, by omega, rfl, gb_refl _ _⟩
  case round =>
    obtain ⟨k, hk, rfl, hG⟩ := hrel
    by_cases hlt : k < L.length
    · obtain ⟨_, _, hva, _, _, hma⟩ := HA.out.kept hG
      cases hva
      obtain ⟨_, _, hvb, _, _, hmb⟩ := HB.out.kept hG
      cases hvb
      rcases hma with rfl | ⟨b1, o1, rfl, hma⟩
      · exact absurd hlt (by simp)
      rcases hmb with rfl | ⟨b2, o2, rfl, hmb⟩
      · exact absurd hlt (by simp)
      obtain ⟨u, hu, hi⟩ := hma k hlt
      obtain ⟨v, hv, hj⟩ := hmb k hlt
      clear hma hmb
      generalize L.getD k [] = R at hi hj
      have HS : Hid (∀ wx, wr.grownBy wx none → Calls Try.prog 104 #[u, v] wx fun e w' => e = .returned (.bool true) ∧ wx.grownBy w' none) := Lib.hid fun wx hx => same_ints (hi.kept hx) (hj.kept hx)
      have HSS : Hid (∀ wx, wr.grownBy wx none → wr.grownBy wx none ∧ wx.cell? ⟨b1, o1 + k, none⟩ = some u ∧ wx.cell? ⟨b2, o2 + k, none⟩ = some v) := Lib.hid fun wx hx => ⟨hx, hx.cell hu (by simp), hx.cell hv (by simp)⟩
      obtain ⟨ua, uc, rfl, -⟩ := hi
      obtain ⟨va, vc, rfl, -⟩ := hj
      have hkI : (k : Int) < (L.length : Int) := by omega
      have HG := Lib.hid hG
      clear HA HB hG hu hv
      go_wp2_with fail
      have hS0 := HSS.out _ (gb_drew wr none)
      refine wp_region_held_drew (S := (fun wx => wr.grownBy wx none ∧ wx.cell? ⟨b1, o1 + k, none⟩ = some (.slice ua R.length uc) ∧ wx.cell? ⟨b2, o2 + k, none⟩ = some (.slice va R.length vc))) (by kernel_rfl) (by exact hS0) (fun hHeld => ?_)
      refine wpAnyH_take (i := 0) (oi := ({ dst := some 17, op := Go.Op.move (Go.Operand.tmp 0), type := 24, pos := "same.go:142", after := #[], guard := none } : Oper)) (v := ?_) rfl (by kernel_rfl) (by kernel_rfl) (by kernel_rfl) (fun _ _ _ h => h) (Or.inl ⟨by rfl, ?_⟩) (by assumption) ?_
      rotate_left
      · (intro wS hSw; (try dsimp only at hSw); go_simp <;> with_reducible rfl)
      try simp only [Act.put, List.setIfInBounds_toArray, List.set_cons_zero, List.set_cons_succ]
      refine wpAnyH_take (i := 1) (oi := ({ dst := some 18, op := Go.Op.move (Go.Operand.tmp 5), type := 3, pos := "same.go:142", after := #[], guard := none } : Oper)) (v := ?_) rfl (by kernel_rfl) (by kernel_rfl) (by kernel_rfl) (fun _ _ _ h => h) (Or.inl ⟨by rfl, ?_⟩) (by assumption) ?_
      rotate_left
      · (intro wS hSw; (try dsimp only at hSw); go_simp <;> with_reducible rfl)
      try simp only [Act.put, List.setIfInBounds_toArray, List.set_cons_zero, List.set_cons_succ]
      refine wpAnyH_take (i := 2) (oi := ({ dst := some 19, op := Go.Op.indexAddr 24 (Go.Operand.tmp 17) (Go.Operand.tmp 18), type := 0, pos := "same.go:142", after := #[{ on := 0, ground := Go.Ground.data }, { on := 1, ground := Go.Ground.data }], guard := none } : Oper)) (v := ?_) rfl (by kernel_rfl) (by kernel_rfl) (by kernel_rfl) (fun _ _ _ h => h) (Or.inl ⟨by rfl, ?_⟩) (by assumption) ?_
      rotate_left
      · (intro wS hSw; (try dsimp only at hSw); go_simp <;> with_reducible rfl)
      try simp only [Act.put, List.setIfInBounds_toArray, List.set_cons_zero, List.set_cons_succ]
      refine wpAnyH_take (i := 3) (oi := ({ dst := some 20, op := Go.Op.load 43 (Go.Operand.tmp 19), type := 43, pos := "same.go:142", after := #[{ on := 2, ground := Go.Ground.data }], guard := none } : Oper)) (v := ?_) rfl (by kernel_rfl) (by kernel_rfl) (by kernel_rfl) (fun _ _ _ h => h) (Or.inl ⟨by rfl, ?_⟩) (by assumption) ?_
      rotate_left
      · (intro wS hSw; (try dsimp only at hSw); go_simp <;> with_reducible rfl)
      try simp only [Act.put, List.setIfInBounds_toArray, List.set_cons_zero, List.set_cons_succ]
      refine wpAnyH_take (i := 4) (oi := ({ dst := some 21, op := Go.Op.move (Go.Operand.tmp 1), type := 24, pos := "same.go:142", after := #[], guard := none } : Oper)) (v := ?_) rfl (by kernel_rfl) (by kernel_rfl) (by kernel_rfl) (fun _ _ _ h => h) (Or.inl ⟨by rfl, ?_⟩) (by assumption) ?_
      rotate_left
      · (intro wS hSw; (try dsimp only at hSw); go_simp <;> with_reducible rfl)
      try simp only [Act.put, List.setIfInBounds_toArray, List.set_cons_zero, List.set_cons_succ]
      refine wpAnyH_take (i := 5) (oi := ({ dst := some 22, op := Go.Op.move (Go.Operand.tmp 5), type := 3, pos := "same.go:142", after := #[], guard := none } : Oper)) (v := ?_) rfl (by kernel_rfl) (by kernel_rfl) (by kernel_rfl) (fun _ _ _ h => h) (Or.inl ⟨by rfl, ?_⟩) (by assumption) ?_
      rotate_left
      · (intro wS hSw; (try dsimp only at hSw); go_simp <;> with_reducible rfl)
      try simp only [Act.put, List.setIfInBounds_toArray, List.set_cons_zero, List.set_cons_succ]
      refine wpAnyH_take (i := 6) (oi := ({ dst := some 23, op := Go.Op.indexAddr 24 (Go.Operand.tmp 21) (Go.Operand.tmp 22), type := 0, pos := "same.go:142", after := #[{ on := 4, ground := Go.Ground.data }, { on := 5, ground := Go.Ground.data }], guard := none } : Oper)) (v := ?_) rfl (by kernel_rfl) (by kernel_rfl) (by kernel_rfl) (fun _ _ _ h => h) (Or.inl ⟨by rfl, ?_⟩) (by assumption) ?_
      rotate_left
      · (intro wS hSw; (try dsimp only at hSw); go_simp <;> with_reducible rfl)
      try simp only [Act.put, List.setIfInBounds_toArray, List.set_cons_zero, List.set_cons_succ]
      refine wpAnyH_take (i := 7) (oi := ({ dst := some 24, op := Go.Op.load 43 (Go.Operand.tmp 23), type := 43, pos := "same.go:142", after := #[{ on := 6, ground := Go.Ground.data }], guard := none } : Oper)) (v := ?_) rfl (by kernel_rfl) (by kernel_rfl) (by kernel_rfl) (fun _ _ _ h => h) (Or.inl ⟨by rfl, ?_⟩) (by assumption) ?_
      rotate_left
      · (intro wS hSw; (try dsimp only at hSw); go_simp <;> with_reducible rfl)
      try simp only [Act.put, List.setIfInBounds_toArray, List.set_cons_zero, List.set_cons_succ]
      refine wpAnyH_ready (rs := [8]) (by kernel_rfl) (by simp) ?_
      refine AllReadyH.cons (o := ({ dst := some 25, op := Go.Op.call { callee := Go.Callee.value (Go.Operand.func 104), args := #[Go.Operand.tmp 20, Go.Operand.tmp 24], argTypes := #[43, 43] }, type := 4, pos := "same.go:142", after := #[{ on := 3, ground := Go.Ground.data }, { on := 7, ground := Go.Ground.data }], guard := none } : Oper)) rfl (fun K hK => ?_) AllReadyH.nil
      go_simp
      ((with_reducible refine (HS.out _ (And.left (by assumption))).mono ?_); rintro e wn ⟨rfl, hgn⟩; have hSn := HSS.out _ (gb_trans (And.left (by assumption)) hgn (Or.inl rfl)); clear hgn)
      refine hK.out _ _ (by exact hSn) (fun hHeld => ?_)
      clear hK K
      try simp only [Act.put, List.setIfInBounds_toArray, List.set_cons_zero, List.set_cons_succ]
      refine wpAnyH_take (i := 9) (oi := ({ dst := some 26, op := Go.Op.unOp Go.UnOp.not 4 (Go.Operand.tmp 25), type := 4, pos := "same.go:142", after := #[{ on := 8, ground := Go.Ground.data }], guard := none } : Oper)) (v := ?_) rfl (by kernel_rfl) (by kernel_rfl) (by kernel_rfl) (fun _ _ _ h => h) (Or.inl ⟨by rfl, ?_⟩) (by assumption) ?_
      rotate_left
      · (intro wS hSw; (try dsimp only at hSw); go_simp <;> with_reducible rfl)
      try simp only [Act.put, List.setIfInBounds_toArray, List.set_cons_zero, List.set_cons_succ]
      refine wpAnyH_done (by kernel_rfl) ?_ _
      have HGn := Lib.hid hSn.1
      clear hSn hS0 hHeld
      go_wp2_with fail
      go_roundw
      case rel => exact ⟨k + 1, by omega, by go_num, gb_trans HG.out HGn.out (Or.inl rfl)⟩
      case measure => simp [intOf]; omega
    · obtain rfl : k = L.length := by omega
      go_wp2_with fail
      go_ret
      exact ⟨rfl, hG⟩
set_option maxHeartbeats 1000000 in
theorem same_dfa {w : World} {xp xn xl vp vn vl : Value} {d : Dfa} (hx : DfaAt w xp xn xl d) (hd : DfaAt w vp vn vl d) :
    Calls Try.prog 30 #[.agg #[xp, xn, xl], .agg #[vp, vn, vl]] w fun e w' => e = .returned (.bool true) ∧ w.grownBy w' none := by
  have HT : Hid (∀ wx, w.grownBy wx none → Calls Try.prog 69 #[xp, vp] wx fun e w' => e = .returned (.bool true) ∧ wx.grownBy w' none) := Lib.hid fun wx hg => same_texts (hx.p.kept hg) (hd.p.kept hg)
  have HN : Hid (∀ wx, w.grownBy wx none → Calls Try.prog 70 #[xn, vn] wx fun e w' => e = .returned (.bool true) ∧ wx.grownBy w' none) := Lib.hid fun wx hg => same_rows (hx.r.kept hg) (hd.r.kept hg)
  have HL : Hid (∀ wx, w.grownBy wx none → Calls Try.prog 71 #[xl, vl] wx fun e w' => e = .returned (.bool true) ∧ wx.grownBy w' none) := Lib.hid fun wx hg => same_bools (hx.b.kept hg) (hd.b.kept hg)
  obtain ⟨qp, yp, rfl, -⟩ := hx.p
  obtain ⟨qn, yn, rfl, -⟩ := hx.r
  obtain ⟨ql, yl, rfl, -⟩ := hx.b
  obtain ⟨ap, cp, rfl, -⟩ := hd.p
  obtain ⟨an, cn, rfl, -⟩ := hd.r
  obtain ⟨al, cl, rfl, -⟩ := hd.b
  clear hx hd
  have hg0 := World.grownBy_alloc w (.cells #[.slice qp d.P.length yp, .slice qn d.R.length yn, .slice ql d.B.length yl] 27) none
  have hb0 := heap_alloc_new w (.cells #[.slice qp d.P.length yp, .slice qn d.R.length yn, .slice ql d.B.length yl] 27)
  have hg1 := World.grownBy_alloc (w.alloc (.cells #[.slice qp d.P.length yp, .slice qn d.R.length yn, .slice ql d.B.length yl] 27)) (.cells #[.slice ap d.P.length cp, .slice an d.R.length cn, .slice al d.B.length cl] 27) none
  have hb1 := heap_alloc_new (w.alloc (.cells #[.slice qp d.P.length yp, .slice qn d.R.length yn, .slice ql d.B.length yl] 27)) (.cells #[.slice ap d.P.length cp, .slice an d.R.length cn, .slice al d.B.length cl] 27)
  rw [World.size_alloc] at hb1
  have HB0 := Lib.hid (blk_kept hb0 hg1 (by simp))
  have HB1 := Lib.hid hb1
  have HG := Lib.hid (gb_trans hg0 hg1 (Or.inl rfl))
  clear hg0 hg1 hb0 hb1
  go_enter Try.func30, Try.ntmps30
  go_wp2_with fail
  generalize (w.alloc (.cells #[.slice qp d.P.length yp, .slice qn d.R.length yn, .slice ql d.B.length yl] 27)).alloc (.cells #[.slice ap d.P.length cp, .slice an d.R.length cn, .slice al d.B.length cl] 27) = w0 at HB0 HB1 HG ⊢
  refine (HT.out _ HG.out).mono ?_
  rintro e w1 ⟨rfl, hg1⟩
  replace HB0 := Lib.hid (blk_kept HB0.out hg1 (by simp))
  replace HB1 := Lib.hid (blk_kept HB1.out hg1 (by simp))
  replace HG := Lib.hid (gb_trans HG.out hg1 (Or.inl rfl))
  obtain ⟨b0, b1, b2⟩ := S3 HB0.out
  obtain ⟨d0, d1, d2⟩ := S3 HB1.out
  clear hg1
  go_wp2_with fail
  refine (HN.out _ HG.out).mono ?_
  rintro e w2 ⟨rfl, hg1⟩
  replace HB0 := Lib.hid (blk_kept HB0.out hg1 (by simp))
  replace HB1 := Lib.hid (blk_kept HB1.out hg1 (by simp))
  replace HG := Lib.hid (gb_trans HG.out hg1 (Or.inl rfl))
  obtain ⟨b0, b1, b2⟩ := S3 HB0.out
  obtain ⟨d0, d1, d2⟩ := S3 HB1.out
  clear hg1
  go_wp2_with fail
  refine (HL.out _ HG.out).mono ?_
  rintro e w3 ⟨rfl, hg1⟩
  go_wp2_with fail
  go_ret
  exact ⟨rfl, gb_trans HG.out hg1 (Or.inl rfl)⟩
end Go.Proofs.Ytcdepblajobemaa
namespace Go.Proofs.Ytcdepblajobemaa
open Go.RowKit

def noD : Dfa := ⟨[], [], []⟩
def resD (a : Aut) (n : Nat) (V : List Nat) (most : Int) : Dfa := if chkA a = 0 then (if most < ((allB a n V).length : Int) then noD else bldD a n V) else noD
def resE (a : Aut) (n : Nat) (V : List Nat) (most : Int) : Int := if chkA a = 0 then (if most < ((allB a n V).length : Int) then 131 else 0) else 130
theorem empty_built (Z : Nat) (w : World) : BuiltAt Z w (.slice none 0 0) (.slice none 0 0) (.slice none 0 0) [] [] [] [] :=
  ⟨World.ownsRow_nil _ _ _ _, World.ownsRow_nil _ _ _ _, rfl, fun _ h => absurd h (Nat.not_lt_zero _), fun _ _ h => absurd h (Nat.not_lt_zero _), World.ownsRow_nil _ _ _ _⟩
/-- What either Build hands over. -/
def ResAt (w : World) (D : Dfa) (x : Int) (e : Ending) (w' : World) : Prop :=
  ∃ ap cp an cn al cl us, e = .returned (.tuple #[.agg #[.slice ap D.P.length cp, .slice an D.R.length cn, .slice al D.B.length cl], .int .i64 x]) ∧ BuiltAt w.heap.size w' (.slice ap D.P.length cp) (.slice an D.R.length cn) (.slice al D.B.length cl) us D.P D.R D.B ∧ w.grownBy w' none
theorem res_no {w : World} {x : Int} {e : Ending} {w' : World} (h : e = .returned (.tuple #[.agg #[.slice none 0 0, .slice none 0 0, .slice none 0 0], .int .i64 x]) ∧ w.grownBy w' none) : ResAt w noD x e w' :=
  ⟨none, 0, none, 0, none, 0, [], h.1, empty_built _ _, h.2⟩
theorem res_bld {w : World} {a : Aut} {n : Nat} {V : List Nat} {most : Int} {e : Ending} {w' : World} (h : Bld w a n V most e w') (hok : chkA a = 0) : ResAt w (resD a n V most) (resE a n V most) e w' := by
  unfold resD resE
  rw [if_pos hok, if_pos hok]
  obtain ⟨hg, ⟨hm, he⟩ | ⟨hm, vp, vn, vl, us, he, hb⟩⟩ := h
  · rw [if_pos hm, if_pos hm]
    exact res_no ⟨he, hg⟩
  · rw [if_neg (by omega), if_neg (by omega)]
    obtain ⟨xp, yp, rfl⟩ := own_val hb.p
    obtain ⟨xn, yn, rfl⟩ := own_val hb.n
    obtain ⟨xl, yl, rfl⟩ := own_val hb.b
    exact ⟨xp, yp, xn, yn, xl, yl, us, he, hb, hg⟩
theorem bld_any {vp vi ve vf : Value} {a : Aut} {n : Nat} (hn : a.n = (n : Int)) (h14 : n ≤ 14) {q g cap : Nat} {V : List Nat} {most : Int} (hm : -9223372036854775808 ≤ most ∧ most ≤ 9223372036854775807) {w : World} (h : AutAt w vp vi ve vf a) (hs : SetAt w q g cap n V) :
    Calls Try.prog 23 #[autV vp vi ve vf a.n, .pointer (some ⟨q, 0, none⟩), .int .i64 most] w (ResAt w (resD a n V most) (resE a n V most)) := by
  rcases chk_two a with hok | hno
  · exact (bld_yes vp vi ve vf a n hn h14 q g cap V most hm w h hs hok).mono fun e w' hb => res_bld hb hok
  · have h0 : chkA a ≠ 0 := by rw [hno]; decide
    unfold resD resE
    rw [if_neg h0, if_neg h0]
    exact (bld_no vp vi ve vf a q g cap n V most w h hs (Or.inl h0)).mono fun e w' hb => res_no hb
theorem rbld_any {vp vi ve vf v : Value} {a : Aut} {n : Nat} (hn : a.n = (n : Int)) (h14 : n ≤ 14) {V : List Nat} {most : Int} (hm : -9223372036854775808 ≤ most ∧ most ≤ 9223372036854775807) {w : World} (h : AutAt w vp vi ve vf a) (hv : BoolsAt w v (yesL n V n)) :
    Calls Try.prog 28 #[autV vp vi ve vf a.n, v, .int .i64 most] w (ResAt w (resD a n V most) (resE a n V most)) := by
  rcases chk_two a with hok | hno
  · exact (rbld_yes vp vi ve vf v a n hn h14 V most hm w h hv hok).mono fun e w' hb => res_bld hb hok
  · have h0 : chkA a ≠ 0 := by rw [hno]; decide
    unfold resD resE
    rw [if_neg h0, if_neg h0]
    exact (rbld_no vp vi ve vf v a most w h _ hv h0).mono fun e w' hb => res_no hb
/-- How long, how great. -/
structure ResOk (D : Dfa) (m : Nat) : Prop where
  le : m ≤ 256
  p : D.P.length ≤ 8
  r : D.R.length ≤ 16384
  b : D.B.length ≤ 16384
  row : ∀ k, k < D.R.length → (D.R.getD k []).length = m
  num : ∀ k, k < D.R.length → ∀ j, j < (D.R.getD k []).length → -9223372036854775808 ≤ (D.R.getD k []).getD j 0 ∧ (D.R.getD k []).getD j 0 ≤ 9223372036854775807
theorem noD_ok : ResOk noD 0 := ⟨by decide, by decide, by decide, by decide, fun _ h => absurd h (Nat.not_lt_zero _), fun _ h => absurd h (Nat.not_lt_zero _)⟩
theorem bldD_ok {a : Aut} {n : Nat} (h14 : n ≤ 14) (V : List Nat) (hok : chkA a = 0) : ResOk (bldD a n V) (2 ^ a.P.length) := by
  have hp := (chkA_zero hok).1
  have hl := allB_le (a := a) (V := V) h14
  refine ⟨pow_le hp, hp, by rw [bldR_len]; exact hl, by unfold bldD; simpa using hl, fun k hk => ?_, fun k hk j hj => ?_⟩
  · rw [bldR_len] at hk
    rw [bldR_row hk, numsB_len]
  · rw [bldR_len] at hk
    rw [bldR_row hk] at hj ⊢
    rw [numsB_len] at hj
    unfold numsB
    rw [List.getD_eq_getElem?_getD, List.getElem?_map, List.getElem?_range hj]
    simp only [Option.map_some, Option.getD_some]
    have := List.idxOf_le_length (a := transF a n V ((allB a n V).getD k []) j) (l := allB a n V)
    omega
theorem resD_ok {a : Aut} {n : Nat} (h14 : n ≤ 14) (V : List Nat) (most : Int) : ∃ m, ResOk (resD a n V most) m := by
  unfold resD
  split
  · rename_i hok
    split
    · exact ⟨0, noD_ok⟩
    · exact ⟨_, bldD_ok h14 V hok⟩
  · exact ⟨0, noD_ok⟩
theorem resD_P (a : Aut) (n : Nat) (V : List Nat) (most : Int) : (resD a n V most).P = a.P ∨ (resD a n V most).P = [] := by
  unfold resD
  split
  · split
    · exact Or.inr rfl
    · exact Or.inl rfl
  · exact Or.inr rfl
theorem res_at {Z m : Nat} {w : World} {vp vn vl : Value} {us : List Value} {D : Dfa} (h : BuiltAt Z w vp vn vl us D.P D.R D.B) (ho : ResOk D m) (hs : ∀ k, k < D.P.length → (D.P.getD k ⟨#[]⟩).size ≤ maxLen) : DfaAt w vp vn vl D :=
  dfa_of_built h (by have := ho.p; omega) hs (by have := ho.r; omega) (fun i hi => ⟨by have := ho.row i hi; have := ho.le; omega, ho.num i hi⟩) (by have := ho.b; omega)
theorem res_texts {a : Aut} {n : Nat} {V : List Nat} {most : Int} {w : World} {v : Value} (h : TextsAt w v a.P) : ∀ k, k < (resD a n V most).P.length → ((resD a n V most).P.getD k ⟨#[]⟩).size ≤ maxLen := by
  obtain ⟨_, _, _, _, _, hs, _⟩ := h
  rcases resD_P a n V most with e | e
  · rw [e]; exact hs
  · rw [e]; exact fun k hk => absurd hk (Nat.not_lt_zero _)

theorem Spared.fr {Y Z : Nat} {w w' : World} (h : Spared Y Z w w') : Fr (fun k => Y ≤ k ∧ k < Z) w w' :=
  ⟨h.os, h.tape, h.output, h.size, fun k hk hn => h.block k hk (by omega)⟩
theorem BuiltAt.fr {S : Nat → Prop} {Z : Nat} {w w' : World} {vp vn vl : Value} {us : List Value} {P : List ByteArray} {R : List (List Int)} {B : List Bool} (h : BuiltAt Z w vp vn vl us P R B) (hf : Fr S w w') (hS : ∀ k, S k → k < Z) : BuiltAt Z w' vp vn vl us P R B :=
  h.keptS hf (fun b hb hs => by have := (h.p.lt b hb).1; have := hS b hs; omega) (fun b hb hs => by have := (h.n.lt b hb).1; have := hS b hs; omega) (fun b hb hs => by have := (h.b.lt b hb).1; have := hS b hs; omega)
    (fun k hk b hb hs => by have := ((h.each k (by have := h.u; omega)).lt b hb).1; have := hS b hs; omega)
theorem BuiltAt.base {Z Y : Nat} {w : World} {vp vn vl : Value} {us : List Value} {P : List ByteArray} {R : List (List Int)} {B : List Bool} (h : BuiltAt Z w vp vn vl us P R B) (hz : Y ≤ Z) : BuiltAt Y w vp vn vl us P R B :=
  ⟨own_base h.p hz, own_base h.n hz, h.u, fun k hk => own_base (h.each k hk) hz, h.sep, own_base h.b hz⟩
theorem gb_spared {Y Z : Nat} {a b c : World} (h : a.grownBy b none) (k : Spared Y Z b c) (hY : a.heap.size ≤ Y) : a.grownBy c none :=
  ⟨k.os.trans h.os, k.tape.trans h.tape, k.output.trans h.output, Nat.le_trans h.size k.size, fun i hi _ => by
    rw [k.block i (by have := h.size; omega) (Or.inl (by omega))]
    exact h.block i hi (by simp)⟩
theorem fr_blk {S : Nat → Prop} {w w' : World} {k : Nat} {o : Obj} (h : w.heap[k]? = some o) (hf : Fr S w w') (hk : ¬ S k) : w'.heap[k]? = some o := by
  rw [hf.block k (Array.getElem?_eq_some_iff.1 h).1 hk]
  exact h
theorem Roomy.lt {w : World} {e z : Nat} {v : Value} {Y Z : Nat} (h : Roomy w e z v Y Z) : ∀ b, v.ownBlock = some b → b < Z := by
  obtain ⟨g, n, cap, cur, rfl, _, _, _, _, _, h6⟩ := h
  intro b hb
  obtain rfl : g = b := by simpa [Value.ownBlock] using hb
  exact h6
/-- .. whose blocks lie below Z. -/
structure LentLim (Z : Nat) (vp vi ve vf : Value) : Prop where
  p : ∀ b, vp.ownBlock = some b → b < Z
  i : ∀ b, vi.ownBlock = some b → b < Z
  e : ∀ b, ve.ownBlock = some b → b < Z
  f : ∀ b, vf.ownBlock = some b → b < Z
theorem LentB.lim {w : World} {Y : Nat} {vp vi ve vf : Value} {a : Aut} (h : LentB w Y vp vi ve vf a) : LentLim w.heap.size vp vi ve vf := ⟨h.room.p.lt, h.room.i.lt, h.room.e.lt, h.room.f.lt⟩
theorem LentB.roomZ {w : World} {Y Z : Nat} {vp vi ve vf : Value} {a : Aut} (h : LentB w Y vp vi ve vf a) (hz : LentLim Z vp vi ve vf) : RoomB w Y Z vp vi ve vf := by
  obtain ⟨⟨g1, n1, c1, x1, rfl, p1, p2, p3, p4, p5, -⟩, ⟨g2, n2, c2, x2, rfl, q1, q2, q3, q4, q5, -⟩, ⟨g3, n3, c3, x3, rfl, r1, r2, r3, r4, r5, -⟩, ⟨g4, n4, c4, x4, rfl, s1, s2, s3, s4, s5, -⟩⟩ := h.room
  exact ⟨⟨_, _, _, _, rfl, p1, p2, p3, p4, p5, hz.p _ rfl⟩, ⟨_, _, _, _, rfl, q1, q2, q3, q4, q5, hz.i _ rfl⟩, ⟨_, _, _, _, rfl, r1, r2, r3, r4, r5, hz.e _ rfl⟩, ⟨_, _, _, _, rfl, s1, s2, s3, s4, s5, hz.f _ rfl⟩⟩
/-- A DFA's lists whose blocks lie below Z. -/
structure LimB (Z : Nat) (vp vn vl : Value) (us : List Value) : Prop where
  p : ∀ b, vp.ownBlock = some b → b < Z
  n : ∀ b, vn.ownBlock = some b → b < Z
  b : ∀ b, vl.ownBlock = some b → b < Z
  u : ∀ k, k < us.length → ∀ b, (us.getD k default).ownBlock = some b → b < Z
theorem BuiltAt.lim {Z : Nat} {w : World} {vp vn vl : Value} {us : List Value} {P : List ByteArray} {R : List (List Int)} {B : List Bool} (h : BuiltAt Z w vp vn vl us P R B) : LimB w.heap.size vp vn vl us :=
  ⟨fun b hb => (h.p.lt b hb).2, fun b hb => (h.n.lt b hb).2, fun b hb => (h.b.lt b hb).2, fun k hk b hb => ((h.each k (by have := h.u; omega)).lt b hb).2⟩
theorem LimB.mono {Z Z' : Nat} {vp vn vl : Value} {us : List Value} (h : LimB Z vp vn vl us) (hz : Z ≤ Z') : LimB Z' vp vn vl us :=
  ⟨fun b hb => Nat.lt_of_lt_of_le (h.p b hb) hz, fun b hb => Nat.lt_of_lt_of_le (h.n b hb) hz, fun b hb => Nat.lt_of_lt_of_le (h.b b hb) hz, fun k hk b hb => Nat.lt_of_lt_of_le (h.u k hk b hb) hz⟩
/-- What is lent, as an automaton that lies in memory. -/
theorem lentb_at {w wo : World} {Y : Nat} {vp vi ve vf up ui ue uf : Value} {a a0 : Aut} (h : LentB w Y vp vi ve vf a) (hA : AutAt wo up ui ue uf a0) (hP : a.P = a0.P) (hI : a.I = a0.I) (hF : a.F = a0.F) (hl : a.E.length ≤ 17592186043904) (hE : ∀ k, k < a.E.length → edgeOk (a.E.getD k edg0)) : AutAt w vp vi ve vf a := by
  obtain ⟨_, _, _, _, p1, p2, _⟩ := hA.p
  obtain ⟨_, _, _, i1, i2, _⟩ := hA.i
  obtain ⟨_, _, _, f1, f2, _⟩ := hA.f
  refine ⟨h.p.at (by rw [hP]; exact p1) (by rw [hP]; exact p2), h.i.at (by rw [hI]; exact i2) (by rw [hI]; exact i1), h.e.at hl hE, h.f.at (by rw [hF]; exact f2) (by rw [hF]; exact f1)⟩
/-! ### Must and Not of an edge change places -/
def swE (e : Edg) : Edg := ⟨e.fr, e.tt, e.no, e.mu⟩
theorem swE_ok {e : Edg} (h : edgeOk e) : edgeOk (swE e) := ⟨h.1, h.2.1, h.2.2.2, h.2.2.1⟩
theorem evs_set {L : List Edg} {k : Nat} (hk : k < L.length) : ((evs L).set (k * 4 + 2) (.int .u16 ((L.getD k edg0).no : Int))).set (k * 4 + 3) (.int .u16 ((L.getD k edg0).mu : Int)) = evs (L.set k (swE (L.getD k edg0))) := by
  have hl := evs_len L
  refine List.ext_getElem? fun j => ?_
  by_cases hj : j < L.length * 4
  · have h4 : j = (j / 4) * 4 + j % 4 := by omega
    have hm : j % 4 < 4 := Nat.mod_lt _ (by decide)
    have hd : j / 4 < L.length := by omega
    have e1 := evs_at (L.set k (swE (L.getD k edg0))) (j / 4) (j % 4) (by rw [List.length_set]; exact hd) hm
    rw [← h4] at e1
    have e3 := evs_at L (j / 4) (j % 4) hd hm
    rw [← h4] at e3
    rw [e1]
    by_cases e : j / 4 = k
    · have e2 : (L.set k (swE (L.getD k edg0))).getD (j / 4) edg0 = swE (L.getD k edg0) := by
        rw [e, List.getD_eq_getElem?_getD, List.getElem?_set_self hk]; rfl
      rw [e2]
      rcases (show j % 4 = 0 ∨ j % 4 = 1 ∨ j % 4 = 2 ∨ j % 4 = 3 by omega) with h | h | h | h
      · rw [List.getElem?_set_ne (by omega), List.getElem?_set_ne (by omega), e3, e, h]; rfl
      · rw [List.getElem?_set_ne (by omega), List.getElem?_set_ne (by omega), e3, e, h]; rfl
      · rw [List.getElem?_set_ne (by omega), show k * 4 + 2 = j by omega, List.getElem?_set_self (by omega), h]; rfl
      · rw [show k * 4 + 3 = j by omega, List.getElem?_set_self (by rw [List.length_set]; omega), h]; rfl
    · have e2 : (L.set k (swE (L.getD k edg0))).getD (j / 4) edg0 = L.getD (j / 4) edg0 := by
        rw [List.getD_eq_getElem?_getD, List.getElem?_set_ne (fun h => e h.symm), ← List.getD_eq_getElem?_getD]
      rw [e2, List.getElem?_set_ne (by omega), List.getElem?_set_ne (by omega)]
      exact e3
  · rw [List.getElem?_eq_none (by rw [List.length_set, List.length_set]; omega), List.getElem?_eq_none (by rw [evs_len, List.length_set]; omega)]
theorem lent_swap {w : World} {Y k : Nat} {ve : Value} {E : List Edg} (h : LentEdges w Y ve E) (hk : k < E.length) : ∃ g cap, ve = .slice (some ⟨g, 0, none⟩) E.length cap ∧
    w.cell? ⟨g, k * 4 + 2, none⟩ = some (.int .u16 ((E.getD k edg0).mu : Int)) ∧ w.cell? ⟨g, k * 4 + 3, none⟩ = some (.int .u16 ((E.getD k edg0).no : Int)) ∧ (∀ j, w.frozen? ⟨g, j, none⟩ = false) ∧ Y ≤ g ∧ g < w.heap.size ∧ (∃ c, w.heap[g]? = some (.cells c 61 (0, 0))) ∧
    LentEdges ((w.setCell ⟨g, k * 4 + 2, none⟩ (.int .u16 ((E.getD k edg0).no : Int))).setCell ⟨g, k * 4 + 3, none⟩ (.int .u16 ((E.getD k edg0).mu : Int))) Y ve (E.set k (swE (E.getD k edg0))) := by
  obtain ⟨g, cap, cur, rfl, hgb, _, _, _, hYg, hgl⟩ := h.room
  obtain ⟨g', cap', hv, h1, h2, h3⟩ := h
  cases hv
  have hx : (E ++ [mk7, mk8]).getD k edg0 = E.getD k edg0 := by rw [List.getD_eq_getElem?_getD, List.getElem?_append_left hk, List.getD_eq_getElem?_getD]
  obtain ⟨-, -, c2, c3⟩ := own_edge h3 (by simp) (show k < E.length + 2 by omega)
  rw [hx] at c2 c3
  have s1 := (h3.stored (k * 4 + 2) (.int .u16 ((E.getD k edg0).no : Int))).1
  have s2 := (s1.stored (k * 4 + 3) (.int .u16 ((E.getD k edg0).mu : Int))).1
  have e := evs_set (L := E ++ [mk7, mk8]) (k := k) (by simp; omega)
  rw [hx, List.set_append_left _ _ hk] at e
  rw [e] at s2
  exact ⟨g, cap, rfl, c2, c3, fun j => buchi_frozen hgb j, hYg, hgl, ⟨cur, hgb⟩, ⟨g, cap, by rw [List.length_set], by rw [List.length_set]; exact h1, h2, by rw [List.length_set]; exact s2⟩⟩
def setE (a : Aut) (E : List Edg) : Aut := ⟨a.P, a.n, a.I, E, a.F⟩
def swA (a : Aut) (k : Nat) : Aut := ⟨a.P, a.n, a.I, a.E.set k (swE (a.E.getD k edg0)), a.F⟩
theorem swE_all {E : List Edg} (h : ∀ j, j < E.length → edgeOk (E.getD j edg0)) {k : Nat} (hk : k < E.length) : ∀ j, j < (E.set k (swE (E.getD k edg0))).length → edgeOk ((E.set k (swE (E.getD k edg0))).getD j edg0) := fun j hj => by
  rw [List.length_set] at hj
  by_cases e : k = j
  · subst e
    rw [List.getD_eq_getElem?_getD, List.getElem?_set_self hk]
    exact swE_ok (h k hk)
  · rw [List.getD_eq_getElem?_getD, List.getElem?_set_ne e, ← List.getD_eq_getElem?_getD]
    exact h j hj
theorem lentb_swap {w : World} {Y k g : Nat} {vp vi ve vf : Value} {a : Aut} {c : Array Value} {w' : World} (h : LentB w Y vp vi ve vf a) (hg : w.grownBy w' (some g)) (hb : w.heap[g]? = some (.cells c 61 (0, 0))) (he : LentEdges w' Y ve (a.E.set k (swE (a.E.getD k edg0)))) : LentB w' Y vp vi ve vf (swA a k) := by
  obtain ⟨⟨g1, c1, rfl, p1, p2, p3⟩, ⟨g2, c2, rfl, q1, q2, q3⟩, _, ⟨g4, c4, rfl, s1, s2, s3⟩⟩ := h
  exact ⟨⟨g1, c1, rfl, p1, p2, own_farS p3 hg hb (by decide)⟩, ⟨g2, c2, rfl, q1, q2, own_farS q3 hg hb (by decide)⟩, he, ⟨g4, c4, rfl, s1, s2, own_farS s3 hg hb (by decide)⟩⟩
end Go.Proofs.Ytcdepblajobemaa
