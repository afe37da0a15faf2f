/- Dfa: lists that are written over, in plain Lean. -/
import Derived.Test.YtcdepblajobemaaDfaLentD
set_option maxRecDepth 100000
namespace Go.Proofs.Ytcdepblajobemaa
open Go.RowKit

theorem pick_lt {α : Type} [Inhabited α] {n : Nat} {p : Nat → α → Prop} (h : ∀ k, k < n → ∃ x, p k x) : ∃ F : Nat → α, ∀ k, k < n → p k (F k) := by
  classical
  refine ⟨fun k => if hk : k < n then Classical.choose (h k hk) else default, fun k hk => ?_⟩
  simp only [hk, dif_pos]
  exact Classical.choose_spec (h k hk)
def okI (x : Int) : Prop := -9223372036854775808 ≤ x ∧ x ≤ 9223372036854775807
/-- Some numbers. -/
def IntsOk (w : World) (Y : Nat) (u : Value) (n : Nat) : Prop :=
  ∃ g cap cur, u = .slice (some ⟨g, 0, none⟩) n cap ∧ Y ≤ g ∧ w.heap[g]? = some (.cells cur 3 (0, 0)) ∧ n ≤ 17592186043904 ∧ ∀ k, k < n → ∃ x, cur[k]? = some (.int .i64 x) ∧ okI x
def RowsOk (w : World) (Y : Nat) (v : Value) (N : Nat) : Prop :=
  ∃ g cap cur, v = .slice (some ⟨g, 0, none⟩) N cap ∧ N ≤ cap ∧ Y ≤ g ∧ w.heap[g]? = some (.cells cur 43 (0, 0)) ∧ N ≤ 17592186043904 ∧ ∀ k, k < N → ∃ u n, cur[k]? = some u ∧ IntsOk w Y u n
def BoolsOk (w : World) (Y : Nat) (v : Value) (N : Nat) : Prop :=
  ∃ g cap cur, v = .slice (some ⟨g, 0, none⟩) N cap ∧ N ≤ cap ∧ Y ≤ g ∧ w.heap[g]? = some (.cells cur 4 (0, 0)) ∧ N ≤ 140737488351232 ∧ ∀ k, k < N → ∃ x, cur[k]? = some (.bool x)
structure InAt (w : World) (Y bi : Nat) (xp xn xl vx : Value) (P : List ByteArray) (N nb : Nat) (U : List Nat) : Prop where
  box : w.heap[bi]? = some (.cells #[xp, xn, xl] 27 (0, 0))
  p : LentTexts w Y xp P
  n : RowsOk w Y xn N
  b : BoolsOk w Y xl nb
  x : LentLetters w Y vx U
section
variable {w w' : World} {Y : Nat}
theorem IntsOk.kept {u : Value} {n : Nat} {r : Option Nat} (h : IntsOk w Y u n) (hg : w.grownBy w' r) (hr : ∀ b, u.ownBlock = some b → some b ≠ r) : IntsOk w' Y u n := by
  obtain ⟨g, cap, cur, rfl, h1, h2, h3, h4⟩ := h
  exact ⟨g, cap, cur, rfl, h1, blk_kept h2 hg (hr g rfl), h3, h4⟩
theorem IntsOk.set {u : Value} {n g' j : Nat} {x : Int} {c : Array Value} (h : IntsOk w Y u n) (hb : w.heap[g']? = some (.cells c 3 (0, 0))) (hx : okI x) : IntsOk (w.setCell ⟨g', j, none⟩ (.int .i64 x)) Y u n := by
  obtain ⟨g, cap, cur, rfl, h1, h2, h3, h4⟩ := h
  by_cases e : g = g'
  · subst e
    rw [h2] at hb
    refine ⟨g, cap, _, rfl, h1, heap_setCell_same w g j _ _ _ h2, h3, fun k hk => ?_⟩
    rw [Array.getElem?_setIfInBounds]
    obtain ⟨y, hy, hr⟩ := h4 k hk
    split
    · rename_i e2
      subst e2
      have := (Array.getElem?_eq_some_iff.1 hy).1
      rw [if_pos this]
      exact ⟨x, rfl, hx⟩
    · exact ⟨y, hy, hr⟩
  · exact ⟨g, cap, cur, rfl, h1, blk_kept h2 (gb_set (a := ⟨g', j, none⟩)) (fun e2 => e (Option.some.inj e2)), h3, h4⟩
theorem IntsOk.cell {u : Value} {n k : Nat} (h : IntsOk w Y u n) (hk : k < n) : ∃ g cap x, u = .slice (some ⟨g, 0, none⟩) n cap ∧ Y ≤ g ∧ n ≤ 17592186043904 ∧ w.cell? ⟨g, k, none⟩ = some (.int .i64 x) ∧ okI x ∧ (∀ j, w.frozen? ⟨g, j, none⟩ = false) ∧ ∃ c, w.heap[g]? = some (.cells c 3 (0, 0)) := by
  obtain ⟨g, cap, cur, rfl, h1, h2, h3, h4⟩ := h
  obtain ⟨x, hx, hr⟩ := h4 k hk
  exact ⟨g, cap, x, rfl, h1, h3, by simp [World.cell?, h2, hx], hr, fun j => by simp [World.frozen?, h2], _, h2⟩
theorem IntsOk.at {u : Value} {n : Nat} (h : IntsOk w Y u n) : ∃ A, A.length = n ∧ IntsAt w u A := by
  obtain ⟨g, cap, cur, rfl, h1, h2, h3, h4⟩ := h
  obtain ⟨F, hF⟩ := pick_lt (α := Int) (p := fun k x => cur[k]? = some (.int .i64 x) ∧ okI x) h4
  have hl : ((List.range n).map F).length = n := by simp
  have hg : ∀ k, k < n → ((List.range n).map F).getD k 0 = F k := fun k hk => by simp [List.getD_eq_getElem?_getD, hk]
  refine ⟨(List.range n).map F, hl, some ⟨g, 0, none⟩, cap, by rw [hl], fun k hk => ?_, by rw [hl]; exact h3, Or.inr ⟨g, 0, rfl, fun k hk => ?_⟩⟩
  · rw [hl] at hk
    rw [hg k hk]
    exact (hF k hk).2
  · rw [hl] at hk
    rw [hg k hk, Nat.zero_add]
    simp [World.cell?, h2, (hF k hk).1]
theorem RowsOk.at {v : Value} {N : Nat} (h : RowsOk w Y v N) : ∃ R, R.length = N ∧ RowsAt2 w v R := by
  obtain ⟨g, cap, cur, rfl, h0, h1, h2, h3, h4⟩ := h
  obtain ⟨F, hF⟩ := pick_lt (α := List Int) (p := fun k A => ∃ u, cur[k]? = some u ∧ IntsAt w u A) (fun k hk => by
    obtain ⟨u, n, hu, hi⟩ := h4 k hk
    obtain ⟨A, _, hA⟩ := hi.at
    exact ⟨A, u, hu, hA⟩)
  have hl : ((List.range N).map F).length = N := by simp
  refine ⟨(List.range N).map F, hl, some ⟨g, 0, none⟩, cap, by rw [hl], by rw [hl]; exact h0, by rw [hl]; exact h3, Or.inr ⟨g, 0, rfl, fun k hk => ?_⟩⟩
  rw [hl] at hk
  obtain ⟨u, hu, hA⟩ := hF k hk
  refine ⟨u, by simp [World.cell?, h2, hu], ?_⟩
  rw [show ((List.range N).map F).getD k [] = F k by simp [List.getD_eq_getElem?_getD, hk]]
  exact hA
theorem BoolsOk.at {v : Value} {N : Nat} (h : BoolsOk w Y v N) : ∃ B, B.length = N ∧ BoolsAt w v B := by
  obtain ⟨g, cap, cur, rfl, h0, h1, h2, h3, h4⟩ := h
  obtain ⟨F, hF⟩ := pick_lt (α := Bool) (p := fun k x => cur[k]? = some (.bool x)) h4
  have hl : ((List.range N).map F).length = N := by simp
  refine ⟨(List.range N).map F, hl, some ⟨g, 0, none⟩, cap, by rw [hl], by rw [hl]; exact h0, by rw [hl]; exact h3, Or.inr ⟨g, 0, rfl, fun k hk => ?_⟩⟩
  rw [hl] at hk
  rw [show ((List.range N).map F).getD k false = F k by simp [List.getD_eq_getElem?_getD, hk], Nat.zero_add]
  simp [World.cell?, h2, hF k hk]
theorem InAt.dfa {bi : Nat} {xp xn xl vx : Value} {P : List ByteArray} {N nb : Nat} {U : List Nat} (h : InAt w Y bi xp xn xl vx P N nb U) (h1 : P.length ≤ 17592186043904) (h2 : ∀ k, k < P.length → (P.getD k ⟨#[]⟩).size ≤ maxLen) : ∃ d : Dfa, d.P = P ∧ d.R.length = N ∧ d.B.length = nb ∧ DfaAt w xp xn xl d := by
  obtain ⟨R, hR, hr⟩ := h.n.at
  obtain ⟨B, hB, hb⟩ := h.b.at
  exact ⟨⟨P, R, B⟩, rfl, hR, hB, ⟨h.p.at h1 h2, hr, hb⟩⟩
theorem InAt.kept {bi : Nat} {xp xn xl vx : Value} {P : List ByteArray} {N nb : Nat} {U : List Nat} (h : InAt w Y bi xp xn xl vx P N nb U) (hg : w.grownBy w' none) : InAt w' Y bi xp xn xl vx P N nb U := by
  obtain ⟨hbox, hp, ⟨g, cap, cur, rfl, h0, h1, h2, h3, h4⟩, ⟨g', cap', cur', rfl, k0, k1, k2, k3, k4⟩, hx⟩ := h
  refine ⟨blk_kept hbox hg (by simp), hp.kept hg (Classical.em _), ⟨g, cap, cur, rfl, h0, h1, blk_kept h2 hg (by simp), h3, fun k hk => ?_⟩, ⟨g', cap', cur', rfl, k0, k1, blk_kept k2 hg (by simp), k3, k4⟩, hx.kept hg (Classical.em _)⟩
  obtain ⟨u, n, hu, hi⟩ := h4 k hk
  exact ⟨u, n, hu, hi.kept hg (fun _ _ => by simp)⟩
theorem LentTexts.far {b : Nat} {v : Value} {L : List ByteArray} {c : Array Value} {e : TypeId} {fr : Nat × Nat} (h : LentTexts w Y v L) (hg : w.grownBy w' (some b)) (hb : w.heap[b]? = some (.cells c e fr)) (he : 9 ≠ e) : LentTexts w' Y v L := by
  obtain ⟨g, cap, rfl, h1, h2, h3⟩ := h
  exact ⟨g, cap, rfl, h1, h2, own_far h3 hg hb he⟩
theorem LentLetters.far {b : Nat} {v : Value} {L : List Nat} {c : Array Value} {e : TypeId} {fr : Nat × Nat} (h : LentLetters w Y v L) (hg : w.grownBy w' (some b)) (hb : w.heap[b]? = some (.cells c e fr)) (he : 55 ≠ e) : LentLetters w' Y v L := by
  obtain ⟨g, cap, rfl, h1, h2, h3⟩ := h
  exact ⟨g, cap, rfl, h1, h2, own_far h3 hg hb he⟩
/-- A number is written. -/
theorem InAt.int {bi : Nat} {xp xn xl vx : Value} {P : List ByteArray} {N nb : Nat} {U : List Nat} {g' j : Nat} {x : Int} {c : Array Value} (h : InAt w Y bi xp xn xl vx P N nb U) (hb : w.heap[g']? = some (.cells c 3 (0, 0))) (hx : okI x) : InAt (w.setCell ⟨g', j, none⟩ (.int .i64 x)) Y bi xp xn xl vx P N nb U := by
  have hg : w.grownBy (w.setCell ⟨g', j, none⟩ (.int .i64 x)) (some g') := gb_set
  obtain ⟨hbox, hp, ⟨g, cap, cur, rfl, h0, h1, h2, h3, h4⟩, ⟨g2, cap', cur', rfl, k0, k1, k2, k3, k4⟩, hx2⟩ := h
  refine ⟨blk_kept hbox hg (blk_ne hbox hb (by decide)), hp.far hg hb (by decide), ⟨g, cap, cur, rfl, h0, h1, blk_kept h2 hg (blk_ne h2 hb (by decide)), h3, fun k hk => ?_⟩, ⟨g2, cap', cur', rfl, k0, k1, blk_kept k2 hg (blk_ne k2 hb (by decide)), k3, k4⟩, hx2.far hg hb (by decide)⟩
  obtain ⟨u, n, hu, hi⟩ := h4 k hk
  exact ⟨u, n, hu, hi.set hb hx⟩
/-- A yes or no is written. -/
theorem InAt.bool {bi : Nat} {xp xn xl vx : Value} {P : List ByteArray} {N nb : Nat} {U : List Nat} {k : Nat} (h : InAt w Y bi xp xn xl vx P N nb U) (hk : k < nb) : ∃ g cap b, xl = .slice (some ⟨g, 0, none⟩) nb cap ∧ Y ≤ g ∧ w.cell? ⟨g, k, none⟩ = some (.bool b) ∧ w.frozen? ⟨g, k, none⟩ = false ∧ (∃ c, w.heap[g]? = some (.cells c 4 (0, 0))) ∧ ∀ y, InAt (w.setCell ⟨g, k, none⟩ (.bool y)) Y bi xp xn xl vx P N nb U := by
  obtain ⟨hbox, hp, ⟨g, cap, cur, rfl, h0, h1, h2, h3, h4⟩, ⟨g2, cap', cur', rfl, k0, k1, k2, k3, k4⟩, hx2⟩ := h
  obtain ⟨b, hb⟩ := k4 k hk
  refine ⟨g2, cap', b, rfl, k1, by simp [World.cell?, k2, hb], by simp [World.frozen?, k2], ⟨_, k2⟩, fun y => ?_⟩
  have hg : w.grownBy (w.setCell ⟨g2, k, none⟩ (.bool y)) (some g2) := gb_set
  refine ⟨blk_kept hbox hg (blk_ne hbox k2 (by decide)), hp.far hg k2 (by decide), ⟨g, cap, cur, rfl, h0, h1, blk_kept h2 hg (blk_ne h2 k2 (by decide)), h3, fun i hi => ?_⟩, ⟨g2, cap', _, rfl, k0, k1, heap_setCell_same w g2 k _ _ _ k2, k3, fun i hi => ?_⟩, hx2.far hg k2 (by decide)⟩
  · obtain ⟨u, n, hu, hi2⟩ := h4 i hi
    refine ⟨u, n, hu, hi2.kept hg (fun b hb2 => ?_)⟩
    obtain ⟨g3, c3, cur3, rfl, _, l2, _⟩ := hi2
    obtain rfl : g3 = b := by simpa [Value.ownBlock] using hb2
    exact blk_ne l2 k2 (by decide)
  · rw [Array.getElem?_setIfInBounds]
    obtain ⟨b', hb'⟩ := k4 i hi
    split
    · rename_i e2
      subst e2
      rw [if_pos (Array.getElem?_eq_some_iff.1 hb').1]
      exact ⟨y, rfl⟩
    · exact ⟨b', hb'⟩
theorem InAt.row {bi : Nat} {xp xn xl vx : Value} {P : List ByteArray} {N nb : Nat} {U : List Nat} {k : Nat} (h : InAt w Y bi xp xn xl vx P N nb U) (hk : k < N) : ∃ g cap u n, xn = .slice (some ⟨g, 0, none⟩) N cap ∧ w.cell? ⟨g, k, none⟩ = some u ∧ IntsOk w Y u n := by
  obtain ⟨g, cap, cur, rfl, h0, h1, h2, h3, h4⟩ := h.n
  obtain ⟨u, n, hu, hi⟩ := h4 k hk
  exact ⟨g, cap, u, n, rfl, by simp [World.cell?, h2, hu], hi⟩
/-- What is lent can be written over. -/
theorem LentD.inAt {bi : Nat} {xp xn xl vx : Value} {d : Dfa} {U : List Nat} (h : LentD w Y xp xn xl d) (hx : LentLetters w Y vx U) (hbox : w.heap[bi]? = some (.cells #[xp, xn, xl] 27 (0, 0))) {wo : World} {up un ul : Value} (hd : DfaAt wo up un ul d) : InAt w Y bi xp xn xl vx d.P d.R.length d.B.length U := by
  have hwf := rows_wf hd.r
  obtain ⟨_, _, _, _, hb4, _⟩ := hd.b
  obtain ⟨g, cap, vs, t, rfl, q1, q2, q3, q4, q5, q6⟩ := h.n
  obtain ⟨g3, c3, rfl, r1, r2, r3⟩ := h.b
  have hq := q4.2
  refine ⟨hbox, h.p, ?_, ?_, hx⟩
  · rcases q4.2 with ⟨e, _⟩ | ⟨g', cap', cur, hv, hb, hgg, hn, hcm, hcs, htk⟩
    · cases e
    · cases hv
      refine ⟨g, cap, cur, rfl, by omega, hb, hgg, hwf.1, fun k hk => ?_⟩
      obtain ⟨u, hu, hl⟩ := q5 k hk
      have hck := q4.cellAt k (by omega)
      rw [List.getElem?_append_left (by omega), hu] at hck
      refine ⟨u, (d.R.getD k []).length, by simpa [World.cell?, hgg] using hck, ?_⟩
      obtain ⟨g4, c4, rfl, s1, s2, s3⟩ := hl
      have hwk := (hwf.2 k hk)
      rcases s3.2 with ⟨e, _⟩ | ⟨g5, cap5, cur5, hv5, hb5, hg5, hn5, hcm5, hcs5, htk5⟩
      · cases e
      · cases hv5
        refine ⟨g4, c4, cur5, rfl, hb5, hg5, hwk.1, fun j hj => ⟨(d.R.getD k []).getD j 0, ?_, hwk.2 j hj⟩⟩
        have hc := s3.cellAt j (by omega)
        rw [List.getElem?_append_left (by rw [List.length_map]; exact hj), map_at iv _ 0 j hj] at hc
        simpa [World.cell?, hg5, iv] using hc
  · rcases r3.2 with ⟨e, _⟩ | ⟨g', cap', cur, hv, hb, hgg, hn, hcm, hcs, htk⟩
    · cases e
    · cases hv
      refine ⟨g3, c3, cur, rfl, by omega, hb, hgg, hb4, fun k hk => ⟨d.B.getD k false, ?_⟩⟩
      have hc := r3.cellAt k (by omega)
      rw [List.getElem?_append_left (by rw [List.length_map]; exact hk), map_at tv01 _ false k hk] at hc
      simpa [World.cell?, hgg, tv01] using hc
end
theorem letters_lent {w : World} {Y : Nat} {v : Value} {U : List Nat} (h : LentLetters w Y v U) {wo : World} {u : Value} (hu : LettersAt wo u U) : LettersAt w v U := by
  obtain ⟨_, _, _, h1, h2, _⟩ := hu
  exact h.at h2 h1

set_option maxHeartbeats 2000000 in
theorem whole_dfa {w : World} {Y : Nat} {xp xn xl vp vn vl : Value} {d : Dfa} (hx : LentD w Y xp xn xl d) (hd : DfaAt w vp vn vl d) :
    Calls Try.prog 15 #[.agg #[xp, xn, xl], .agg #[vp, vn, vl]] w fun e w' => e = .returned (.bool true) ∧ w.grownBy w' none := by
  have HT : Hid (∀ wx, w.grownBy wx none → Calls Try.prog 40 #[xp, vp] wx fun e w' => e = .returned (.bool true) ∧ wx.grownBy w' none) := Lib.hid fun wx hg => whole_texts (hx.p.kept hg (Classical.em _)) (hd.p.kept hg)
  have HN : Hid (∀ wx, w.grownBy wx none → Calls Try.prog 41 #[xn, vn] wx fun e w' => e = .returned (.bool true) ∧ wx.grownBy w' none) := Lib.hid fun wx hg => whole_rows (hx.n.kept hg) (hd.r.kept hg)
  have HL : Hid (∀ wx, w.grownBy wx none → Calls Try.prog 42 #[xl, vl] wx fun e w' => e = .returned (.bool true) ∧ wx.grownBy w' none) := Lib.hid fun wx hg => whole_bools (hx.b.kept hg (Classical.em _)) (hd.b.kept hg)
  obtain ⟨qp, yp, rfl⟩ := lent_slice hx.p
  obtain ⟨qn, yn, rfl⟩ := lent_slice2 hx.n
  obtain ⟨ql, yl, rfl⟩ := lent_slice3 hx.b
  obtain ⟨ap, cp, rfl, -⟩ := hd.p
  obtain ⟨an, cn, rfl, -⟩ := hd.r
  obtain ⟨al, cl, rfl, -⟩ := hd.b
  clear hx hd
  have hg0 := World.grownBy_alloc w (.cells #[.slice qp d.P.length yp, .slice qn d.R.length yn, .slice ql d.B.length yl] 27) none
  have hb0 := heap_alloc_new w (.cells #[.slice qp d.P.length yp, .slice qn d.R.length yn, .slice ql d.B.length yl] 27)
  have hg1 := World.grownBy_alloc (w.alloc (.cells #[.slice qp d.P.length yp, .slice qn d.R.length yn, .slice ql d.B.length yl] 27)) (.cells #[.slice ap d.P.length cp, .slice an d.R.length cn, .slice al d.B.length cl] 27) none
  have hb1 := heap_alloc_new (w.alloc (.cells #[.slice qp d.P.length yp, .slice qn d.R.length yn, .slice ql d.B.length yl] 27)) (.cells #[.slice ap d.P.length cp, .slice an d.R.length cn, .slice al d.B.length cl] 27)
  rw [World.size_alloc] at hb1
  have HB0 := Lib.hid (blk_kept hb0 hg1 (by simp))
  have HB1 := Lib.hid hb1
  have HG := Lib.hid (gb_trans hg0 hg1 (Or.inl rfl))
  clear hg0 hg1 hb0 hb1
  go_enter Try.func15, Try.ntmps15
  go_wp2_with fail
  generalize (w.alloc (.cells #[.slice qp d.P.length yp, .slice qn d.R.length yn, .slice ql d.B.length yl] 27)).alloc (.cells #[.slice ap d.P.length cp, .slice an d.R.length cn, .slice al d.B.length cl] 27) = w0 at HB0 HB1 HG ⊢
  refine (HT.out _ HG.out).mono ?_
  rintro e w1 ⟨rfl, hg1⟩
  replace HB0 := Lib.hid (blk_kept HB0.out hg1 (by simp))
  replace HB1 := Lib.hid (blk_kept HB1.out hg1 (by simp))
  replace HG := Lib.hid (gb_trans HG.out hg1 (Or.inl rfl))
  obtain ⟨b0, b1, b2⟩ := S3 HB0.out
  obtain ⟨d0, d1, d2⟩ := S3 HB1.out
  clear hg1
  go_wp2_with fail
  refine (HN.out _ HG.out).mono ?_
  rintro e w2 ⟨rfl, hg1⟩
  replace HB0 := Lib.hid (blk_kept HB0.out hg1 (by simp))
  replace HB1 := Lib.hid (blk_kept HB1.out hg1 (by simp))
  replace HG := Lib.hid (gb_trans HG.out hg1 (Or.inl rfl))
  obtain ⟨b0, b1, b2⟩ := S3 HB0.out
  obtain ⟨d0, d1, d2⟩ := S3 HB1.out
  clear hg1
  go_wp2_with fail
  refine (HL.out _ HG.out).mono ?_
  rintro e w3 ⟨rfl, hg1⟩
  go_wp2_with fail
  go_ret
  exact ⟨rfl, gb_trans HG.out hg1 (Or.inl rfl)⟩
end Go.Proofs.Ytcdepblajobemaa
