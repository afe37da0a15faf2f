/- Machines that are lent: the machine. -/
import Derived.Test.YtpehmlkikhkmfaaLentMoore
import Derived.Test.YtpehmlkikhkmfaaRunReads
namespace Go.Proofs.Ytpehmlkikhkmfaa
open Go.RowKit

theorem LentRows.base {w : World} {Y Y' : Nat} {v : Value} {R : List (List Int)} (h : LentRows w Y v R) (hy : Y' ≤ Y) : LentRows w Y' v R := by
  obtain ⟨g, cap, vs, t, rfl, h1, h2, h3, h4, h5, h6⟩ := h
  exact ⟨g, cap, vs, t, rfl, h1, h2, h3, own_base h4 hy, fun i hi => by obtain ⟨u, hu, g', c', hv, l1, l2, l3⟩ := h5 i hi; exact ⟨u, hu, g', c', hv, l1, l2, own_base l3 hy⟩, own_base h6 hy⟩

theorem own_far {w w' : World} {Y e n b : Nat} {v : Value} {xs : List Value} (h : w.ownsRow Y e 1 v n xs) (hg : w.grownBy w' (some b)) (hb : b < Y) : w'.ownsRow Y e 1 v n xs :=
  h.kept hg (by
    rcases hv : v.ownBlock with _ | k
    · exact Or.inl rfl
    · right
      intro e2
      have := (h.lt k hv).1
      have := Option.some.inj e2
      omega)
theorem LentRows.far {w w' : World} {Y b : Nat} {v : Value} {R : List (List Int)} (h : LentRows w Y v R) (hg : w.grownBy w' (some b)) (hb : b < Y) : LentRows w' Y v R := by
  obtain ⟨g, cap, vs, t, rfl, h1, h2, h3, h4, h5, h6⟩ := h
  exact ⟨g, cap, vs, t, rfl, h1, h2, h3, own_far h4 hg hb, fun i hi => by obtain ⟨u, hu, g', c', hv, l1, l2, l3⟩ := h5 i hi; exact ⟨u, hu, g', c', hv, l1, l2, own_far l3 hg hb⟩, own_far h6 hg hb⟩

structure LentM (w : World) (Y : Nat) (vp vn vo : Value) (P : List ByteArray) (R : List (List Int)) (O : List Int) : Prop where
  props : LentTexts w Y vp P
  next : LentRows w Y vn R
  out : LentVerdicts w Y vo O
theorem LentM.kept {w w' : World} {Y : Nat} {vp vn vo : Value} {P : List ByteArray} {R : List (List Int)} {O : List Int} (h : LentM w Y vp vn vo P R O) (hg : w.grownBy w' none) : LentM w' Y vp vn vo P R O :=
  ⟨h.props.kept hg (Classical.em _), h.next.kept hg, h.out.kept hg (Classical.em _)⟩
theorem texts_wf {w : World} {v : Value} {L : List ByteArray} (h : TextsAt w v L) : L.length ≤ 17592186043904 ∧ ∀ k, k < L.length → (L.getD k ⟨#[]⟩).size ≤ maxLen := by
  obtain ⟨_, _, _, _, h1, h2, _⟩ := h
  exact ⟨h1, h2⟩
theorem bytes_wf {w : World} {v : Value} {L : List Int} (h : BytesAt w v L) : L.length ≤ 17592186043904 ∧ ∀ k, k < L.length → 0 ≤ L.getD k 0 ∧ L.getD k 0 ≤ 255 := by
  obtain ⟨_, _, _, _, h1, h2, _⟩ := h
  exact ⟨h2, h1⟩
theorem LentM.at {w w0 : World} {Y : Nat} {vp vn vo v0 v1 v2 : Value} {P : List ByteArray} {R : List (List Int)} {O : List Int} (h : LentM w Y vp vn vo P R O) (hM : MachAt w0 v0 v1 v2 P R O) : MachAt w vp vn vo P R O :=
  ⟨h.props.at (texts_wf hM.props).1 (texts_wf hM.props).2, h.next.at (rows_wf hM.next).1 (rows_wf hM.next).2, h.out.at (bytes_wf hM.out).1 (bytes_wf hM.out).2⟩

set_option maxRecDepth 100000 in
set_option maxHeartbeats 4000000 in
theorem lent_moore {w : World} {vp vn vo : Value} {P : List ByteArray} {R : List (List Int)} {O : List Int} (hM : MachAt w vp vn vo P R O) (h1 : P.length ≤ 1000000) (h2 : R.length ≤ 1000000) (h3 : ∀ i, i < R.length → (R.getD i []).length ≤ 1000000) (h4 : O.length ≤ 1000000) :
    Calls Try.prog 12 #[.agg #[vp, vn, vo]] w fun e w' => ∃ up un uo, e = .returned (.agg #[up, un, uo]) ∧ LentM w' w.heap.size up un uo P R O ∧ w.grownBy w' none := by
  have HM := Lib.hid hM
  obtain ⟨⟨ap, cp, rfl, _⟩, ⟨an, cn, rfl, _⟩, ⟨ao, co, rfl, _⟩⟩ := hM
  have hga := gb_trans (World.grownBy_alloc w (.cells #[.slice ap P.length cp, .slice an R.length cn, .slice ao O.length co] 27) none) (World.grownBy_alloc _ (.cells #[.slice none 0 0, .slice none 0 0, .slice none 0 0] 27) none) (Or.inl rfl)
  have b1 := blk_up (o := .cells #[.slice none 0 0, .slice none 0 0, .slice none 0 0] 27) (heap_alloc_new w (.cells #[.slice ap P.length cp, .slice an R.length cn, .slice ao O.length co] 27))
  have b2 := heap_alloc_new (w.alloc (.cells #[.slice ap P.length cp, .slice an R.length cn, .slice ao O.length co] 27)) (.cells #[.slice none 0 0, .slice none 0 0, .slice none 0 0] 27)
  rw [World.size_alloc] at b2
  go_enter Try.func12, Try.ntmps12
  go_wp2_with fail
  generalize (w.alloc (.cells #[.slice ap P.length cp, .slice an R.length cn, .slice ao O.length co] 27)).alloc (.cells #[.slice none 0 0, .slice none 0 0, .slice none 0 0] 27) = w2 at hga b1 b2 ⊢
  have HB2 := Lib.hid b2
  have HGa := Lib.hid hga
  have HS : Hid (∀ wx, w2.grownBy wx none → (w2.grownBy wx none ∧ wx.cell? ⟨w.heap.size, 0, none⟩ = some (.slice ap P.length cp) ∧ wx.cell? ⟨w.heap.size, 1, none⟩ = some (.slice an R.length cn) ∧ wx.cell? ⟨w.heap.size, 2, none⟩ = some (.slice ao O.length co) ∧ wx.cell? ⟨w.heap.size + 1, 0, none⟩ = some (.slice none 0 0) ∧ wx.cell? ⟨w.heap.size + 1, 1, none⟩ = some (.slice none 0 0) ∧ wx.cell? ⟨w.heap.size + 1, 2, none⟩ = some (.slice none 0 0) ∧ wx.frozen? ⟨w.heap.size + 1, 0, none⟩ = false ∧ wx.frozen? ⟨w.heap.size + 1, 1, none⟩ = false ∧ wx.frozen? ⟨w.heap.size + 1, 2, none⟩ = false)) := Lib.hid fun wx h => by
    have e1 : wx.heap[w.heap.size]? = _ := (h.block _ (Array.getElem?_eq_some_iff.1 b1).1 (by simp)).trans b1
    have e2 : wx.heap[w.heap.size + 1]? = _ := (h.block _ (Array.getElem?_eq_some_iff.1 b2).1 (by simp)).trans b2
    exact ⟨h, by simp [World.cell?, e1], by simp [World.cell?, e1], by simp [World.cell?, e1], by simp [World.cell?, e2], by simp [World.cell?, e2], by simp [World.cell?, e2], by simp [World.frozen?, e2], by simp [World.frozen?, e2], by simp [World.frozen?, e2]⟩
  have HT : Hid (∀ wx, w2.grownBy wx none → Calls Try.prog 20 #[.slice ap P.length cp] wx fun e w' => ∃ v', e = .returned v' ∧ LentTexts w' w2.heap.size v' P ∧ w2.grownBy w' none) := Lib.hid fun wx h =>
    (lent_texts (HM.out.props.kept (gb_trans HGa.out h (Or.inl rfl))) h1).mono fun e w' ⟨v', he, ⟨g, c, hv, l1, l2, l3⟩, hg⟩ => ⟨v', he, ⟨g, c, hv, l1, l2, own_base l3 h.size⟩, gb_trans h hg (Or.inl rfl)⟩
  have HV : Hid (∀ wx, w2.grownBy wx none → Calls Try.prog 44 #[.slice ao O.length co] wx fun e w' => ∃ v', e = .returned v' ∧ LentVerdicts w' w2.heap.size v' O ∧ wx.grownBy w' none ∧ w2.grownBy w' none) := Lib.hid fun wx h =>
    (lent_verdicts (HM.out.out.kept (gb_trans HGa.out h (Or.inl rfl))) h4).mono fun e w' ⟨v', he, ⟨g, c, hv, l1, l2, l3⟩, hg⟩ => ⟨v', he, ⟨g, c, hv, l1, l2, own_base l3 h.size⟩, hg, gb_trans h hg (Or.inl rfl)⟩
  have HRw : Hid (∀ wx, w2.grownBy wx none → Calls Try.prog 43 #[.slice an R.length cn] wx fun e w' => ∃ v', e = .returned v' ∧ LentRows w' w2.heap.size v' R ∧ wx.grownBy w' none ∧ w2.grownBy w' none) := Lib.hid fun wx h =>
    (lent_rows (HM.out.next.kept (gb_trans HGa.out h (Or.inl rfl))) h2 h3).mono fun e w' ⟨v', he, hl, hg⟩ => ⟨v', he, hl.base h.size, hg, gb_trans h hg (Or.inl rfl)⟩
  have hS0 := HS.out _ (gb_drew w2 none)
  clear b1 b2 hga
  have hg0 := hS0.1
  obtain ⟨_, p0, p1, p2, q0, q1, q2, f0, f1, f2⟩ := hS0
  clear p0 p1 p2
  have HK : Hid (∀ wx, w2.grownBy wx (some (w.heap.size + 1)) → (w2.grownBy wx (some (w.heap.size + 1)) ∧ wx.cell? ⟨w.heap.size, 0, none⟩ = some (.slice ap P.length cp) ∧ wx.cell? ⟨w.heap.size, 1, none⟩ = some (.slice an R.length cn) ∧ wx.cell? ⟨w.heap.size, 2, none⟩ = some (.slice ao O.length co))) := Lib.hid fun wx h => by
    obtain ⟨_, p0, p1, p2, _⟩ := HS.out w2 (gb_refl _ _)
    exact ⟨h, h.cell p0 (by simp), h.cell p1 (by simp), h.cell p2 (by simp)⟩
  have HK3 : Hid (∀ wx a b c, w2.grownBy wx (some (w.heap.size + 1)) → w2.grownBy (((wx.setCell ⟨w.heap.size + 1, 0, none⟩ a).setCell ⟨w.heap.size + 1, 1, none⟩ b).setCell ⟨w.heap.size + 1, 2, none⟩ c) (some (w.heap.size + 1))) := Lib.hid fun wx a b c h =>
    gb_trans (gb_trans (gb_trans h gb_set (Or.inr (Or.inl rfl))) gb_set (Or.inr (Or.inl rfl))) gb_set (Or.inr (Or.inl rfl))
  have hK0 := HK.out _ (gb_drew w2 _)
  go_region_held3 (fun wx => w2.grownBy wx (some (w.heap.size + 1)) ∧ wx.cell? ⟨w.heap.size, 0, none⟩ = some (.slice ap P.length cp) ∧ wx.cell? ⟨w.heap.size, 1, none⟩ = some (.slice an R.length cn) ∧ wx.cell? ⟨w.heap.size, 2, none⟩ = some (.slice ao O.length co)) (first | assumption | exact HK.out _ (HK3.out _ _ _ _ (And.left (by assumption))))
    (first
    | (go_at_call 20; refine (HT.out _ (by assumption)).mono ?_; rintro e w3 ⟨v3, rfl, hl3, hg3⟩; have HL3 := Lib.hid hl3; obtain ⟨a3, n3, c3, rfl⟩ : ∃ a n c, v3 = .slice a n c := (by obtain ⟨g, c, e, _⟩ := hl3; exact ⟨_, _, _, e⟩); obtain ⟨_, _, _, _, q03, q13, q23, f03, f13, f23⟩ := HS.out _ hg3; have hK3 := HK.out _ (gb_any hg3 _); clear hl3)
    | (go_at_call 43; refine (HRw.out _ (by assumption)).mono ?_; rintro e w4 ⟨v4, rfl, hl4, hg34, hg4⟩; have HL4 := Lib.hid hl4; obtain ⟨a4, n4, c4, rfl⟩ : ∃ a n c, v4 = .slice a n c := (by obtain ⟨g, c, _, _, e, _⟩ := hl4; exact ⟨_, _, _, e⟩); obtain ⟨_, _, _, _, q04, q14, q24, f04, f14, f24⟩ := HS.out _ hg4; have hK4 := HK.out _ (gb_any hg4 _); clear hl4)
    | (go_at_call 44; refine (HV.out _ (by assumption)).mono ?_; rintro e w5 ⟨v5, rfl, hl5, hg45, hg5⟩; have HL5 := Lib.hid hl5; obtain ⟨a5, n5, c5, rfl⟩ : ∃ a n c, v5 = .slice a n c := (by obtain ⟨g, c, e, _⟩ := hl5; exact ⟨_, _, _, e⟩); obtain ⟨_, _, _, _, q05, q15, q25, f05, f15, f25⟩ := HS.out _ hg5; have hK5 := HK.out _ (gb_any hg5 _); clear hl5))
  have HB5 : Hid (w5.heap[w.heap.size + 1]? = some (.cells #[.slice none 0 0, .slice none 0 0, .slice none 0 0] 27 (0, 0))) := Lib.hid ((hg5.block _ (Array.getElem?_eq_some_iff.1 HB2.out).1 (by simp)).trans HB2.out)
  have hb6 : (((w5.setCell ⟨w.heap.size + 1, 0, none⟩ (.slice a3 n3 c3)).setCell ⟨w.heap.size + 1, 1, none⟩ (.slice a4 n4 c4)).setCell ⟨w.heap.size + 1, 2, none⟩ (.slice a5 n5 c5)).heap[w.heap.size + 1]? = some (.cells #[.slice a3 n3 c3, .slice a4 n4 c4, .slice a5 n5 c5] 27 (0, 0)) := by
    simp only [World.setCell, Array.getElem?_modify, HB5.out]
    simp
  have hg6 : w5.grownBy (((w5.setCell ⟨w.heap.size + 1, 0, none⟩ (.slice a3 n3 c3)).setCell ⟨w.heap.size + 1, 1, none⟩ (.slice a4 n4 c4)).setCell ⟨w.heap.size + 1, 2, none⟩ (.slice a5 n5 c5)) (some (w.heap.size + 1)) := gb_trans (gb_trans gb_set gb_set (Or.inr (Or.inl rfl))) gb_set (Or.inr (Or.inl rfl))
  generalize ((w5.setCell ⟨w.heap.size + 1, 0, none⟩ (.slice a3 n3 c3)).setCell ⟨w.heap.size + 1, 1, none⟩ (.slice a4 n4 c4)).setCell ⟨w.heap.size + 1, 2, none⟩ (.slice a5 n5 c5) = w6 at hb6 hg6 ⊢
  have z0 : w6.cell? ⟨w.heap.size + 1, 0, none⟩ = some (.slice a3 n3 c3) := by simp [World.cell?, hb6]
  have z1 : w6.cell? ⟨w.heap.size + 1, 1, none⟩ = some (.slice a4 n4 c4) := by simp [World.cell?, hb6]
  have z2 : w6.cell? ⟨w.heap.size + 1, 2, none⟩ = some (.slice a5 n5 c5) := by simp [World.cell?, hb6]
  have hlt2 : w.heap.size + 1 < w2.heap.size := (Array.getElem?_eq_some_iff.1 HB2.out).1
  have hwz : w.heap.size ≤ w2.heap.size := by omega
  have hend : LentM w6 w.heap.size (.slice a3 n3 c3) (.slice a4 n4 c4) (.slice a5 n5 c5) P R O := by
    have t1 := (HL3.out.kept hg34 (Classical.em _)).kept hg45 (Classical.em _)
    have t3 := HL5.out
    refine ⟨?_, ((HL4.out.kept hg45).far hg6 hlt2).base hwz, ?_⟩
    · obtain ⟨g, c, hv, l1, l2, l3⟩ := t1
      exact ⟨g, c, hv, l1, l2, own_base (own_far l3 hg6 hlt2) hwz⟩
    · obtain ⟨g, c, hv, l1, l2, l3⟩ := t3
      exact ⟨g, c, hv, l1, l2, own_base (own_far l3 hg6 hlt2) hwz⟩
  have HEnd := Lib.hid hend
  have HG6 : Hid (w.grownBy w6 none) := Lib.hid (gb_trans (gb_trans HGa.out hg5 (Or.inl rfl)) hg6 (Or.inr (Or.inr ⟨_, rfl, Nat.le_succ _⟩)))
  clear hend hb6 hg6
  go_wp2_with fail
  have hres : (results Try.f12 #[Value.agg #[.slice ap P.length cp, .slice an R.length cn, .slice ao O.length co], .pointer (some ⟨w.heap.size, 0, none⟩), .pointer (some ⟨w.heap.size + 1, 0, none⟩), .pointer (some ⟨w.heap.size, 0, none⟩), .slice ap P.length cp, .slice a3 n3 c3, .pointer (some ⟨w.heap.size, 1, none⟩), .slice an R.length cn, .slice a4 n4 c4, .pointer (some ⟨w.heap.size, 2, none⟩), .slice ao O.length co, .slice a5 n5 c5, .agg #[.slice a3 n3 c3, .slice a4 n4 c4, .slice a5 n5 c5]]).run Try.prog w6 = .ok (.agg #[.slice a3 n3 c3, .slice a4 n4 c4, .slice a5 n5 c5]) w6 := by
    simp [results, Try.f12, go_sem, z0, z1, z2]
  refine bodyPost_ret hres rfl ⟨_, _, _, rfl, HEnd.out, HG6.out⟩

set_option maxRecDepth 100000 in
set_option maxHeartbeats 2000000 in
theorem whole_moore {w : World} {Y : Nat} {xp xn xo lp ln lo : Value} {P : List ByteArray} {R : List (List Int)} {O : List Int} (hx : LentM w Y xp xn xo P R O) (hl : MachAt w lp ln lo P R O) :
    Calls Try.prog 14 #[.agg #[xp, xn, xo], .agg #[lp, ln, lo]] w fun e w' => e = .returned (.bool true) ∧ w.grownBy w' none := by
  have hga := gb_trans (World.grownBy_alloc w (.cells #[xp, xn, xo] 27) none) (World.grownBy_alloc _ (.cells #[lp, ln, lo] 27) none) (Or.inl rfl)
  have b1 := blk_up (o := .cells #[lp, ln, lo] 27) (heap_alloc_new w (.cells #[xp, xn, xo] 27))
  have b2 := heap_alloc_new (w.alloc (.cells #[xp, xn, xo] 27)) (.cells #[lp, ln, lo] 27)
  rw [World.size_alloc] at b2
  have HX := Lib.hid (hx.kept hga)
  have HL := Lib.hid (hl.kept hga)
  have HGa := Lib.hid hga
  have HS : Hid (∀ wx, ((w.alloc (.cells #[xp, xn, xo] 27)).alloc (.cells #[lp, ln, lo] 27)).grownBy wx none → wx.cell? ⟨w.heap.size, 0, none⟩ = some xp ∧ wx.cell? ⟨w.heap.size, 1, none⟩ = some xn ∧ wx.cell? ⟨w.heap.size, 2, none⟩ = some xo ∧ wx.cell? ⟨w.heap.size + 1, 0, none⟩ = some lp ∧ wx.cell? ⟨w.heap.size + 1, 1, none⟩ = some ln ∧ wx.cell? ⟨w.heap.size + 1, 2, none⟩ = some lo) := Lib.hid fun wx h => by
    have e1 : wx.heap[w.heap.size]? = _ := (h.block _ (Array.getElem?_eq_some_iff.1 b1).1 (by simp)).trans b1
    have e2 : wx.heap[w.heap.size + 1]? = _ := (h.block _ (Array.getElem?_eq_some_iff.1 b2).1 (by simp)).trans b2
    exact ⟨by simp [World.cell?, e1], by simp [World.cell?, e1], by simp [World.cell?, e1], by simp [World.cell?, e2], by simp [World.cell?, e2], by simp [World.cell?, e2]⟩
  have HW1 := Lib.hid (whole_texts HX.out.props HL.out.props)
  have HW2 : Hid (∀ wx, ((w.alloc (.cells #[xp, xn, xo] 27)).alloc (.cells #[lp, ln, lo] 27)).grownBy wx none → Calls Try.prog 48 #[xn, ln] wx fun e w' => e = .returned (.bool true) ∧ wx.grownBy w' none) := Lib.hid fun wx h => whole_rows (HX.out.next.kept h) (HL.out.next.kept h)
  have HW3 : Hid (∀ wx, ((w.alloc (.cells #[xp, xn, xo] 27)).alloc (.cells #[lp, ln, lo] 27)).grownBy wx none → Calls Try.prog 49 #[xo, lo] wx fun e w' => e = .returned (.bool true) ∧ wx.grownBy w' none) := Lib.hid fun wx h => whole_verdicts (HX.out.out.kept h (Classical.em _)) (HL.out.out.kept h)
  clear hx hl hga b1 b2
  go_enter Try.func14, Try.ntmps14
  go_wp2_with (first
    | (go_at_call 22; refine HW1.out.mono ?_; rintro e w3 ⟨rfl, hg3⟩; obtain ⟨p0, p1, p2, q0, q1, q2⟩ := HS.out _ hg3)
    | (go_at_call 48; refine (HW2.out _ hg3).mono ?_; rintro e w4 ⟨rfl, hg4⟩; have hg34 := gb_trans hg3 hg4 (Or.inl rfl); obtain ⟨r0, r1, r2, s0, s1, s2⟩ := HS.out _ hg34)
    | (go_at_call 49; refine (HW3.out _ hg34).mono ?_; rintro e w5 ⟨rfl, hg5⟩))
  go_ret
  exact ⟨rfl, gb_trans HGa.out (gb_trans hg34 hg5 (Or.inl rfl)) (Or.inl rfl)⟩

set_option maxRecDepth 100000 in
set_option maxHeartbeats 2000000 in
theorem spoil_moore {wz w : World} {Y : Nat} {xp xn xo : Value} {P : List ByteArray} {R : List (List Int)} {O : List Int} (hx : LentM wz Y xp xn xo P R O) (hg : wz.grownBy w none) :
    Calls Try.prog 15 #[.agg #[xp, xn, xo]] w fun e w' => e = .returned (.tuple #[]) ∧ Spared Y wz.heap.size w w' := by
  have hga := World.grownBy_alloc w (.cells #[xp, xn, xo] 27) none
  have hbx := heap_alloc_new w (.cells #[xp, xn, xo] 27)
  have HZ : Hid (wz.heap.size ≤ w.heap.size) := Lib.hid hg.size
  have hgz := gb_trans hg hga (Or.inl rfl)
  obtain ⟨g1, c1, cur1, rfl, a1, a2, a3, a4, a5, a6⟩ := hx.props.room
  have hr2 := hx.next.room
  obtain ⟨g3, c3, cur3, rfl, k1, k2, k3, k4, k5, k6⟩ := hx.out.room
  have a1' := (hgz.block g1 a6 (by simp)).trans a1
  have HT := Lib.hid (spoil_texts a1' a2 a3 a4)
  have HS1 : Hid (∀ w2, (w.alloc (.cells #[.slice (some ⟨g1, 0, none⟩) P.length c1, xn, .slice (some ⟨g3, 0, none⟩) O.length c3] 27)).grownBy w2 (some g1) → Spared Y wz.heap.size w w2) := Lib.hid fun w2 h => (Spared.of hga (fun q e => by cases e)).trans (Spared.of h (fun q e => by cases e; exact ⟨a5, a6⟩))
  have HB : Hid (∀ w2, Spared Y wz.heap.size (w.alloc (.cells #[.slice (some ⟨g1, 0, none⟩) P.length c1, xn, .slice (some ⟨g3, 0, none⟩) O.length c3] 27)) w2 → w2.cell? ⟨w.heap.size, 1, none⟩ = some xn ∧ w2.cell? ⟨w.heap.size, 2, none⟩ = some (.slice (some ⟨g3, 0, none⟩) O.length c3)) := Lib.hid fun w2 h => by
    have e1 : w2.heap[w.heap.size]? = _ := (h.block _ (Array.getElem?_eq_some_iff.1 hbx).1 (Or.inr HZ.out)).trans hbx
    exact ⟨by simp [World.cell?, e1], by simp [World.cell?, e1]⟩
  have HRr : Hid (∀ w2, (w.alloc (.cells #[.slice (some ⟨g1, 0, none⟩) P.length c1, xn, .slice (some ⟨g3, 0, none⟩) O.length c3] 27)).grownBy w2 (some g1) → (∃ cur', w2.heap[g1]? = some (.cells cur' 9 (0, 0)) ∧ cur'.size = c1) → Calls Try.prog 50 #[xn] w2 fun e w' => e = .returned (.tuple #[]) ∧ Spared Y wz.heap.size w2 w' ∧ KeepV w2 w') := Lib.hid fun w2 h ⟨cur', h1, h2⟩ =>
    spoil_rows ((hr2.kept hgz).after h a1' h1 (by omega) (by decide))
  have HVv : Hid (∀ w2, (w.alloc (.cells #[.slice (some ⟨g1, 0, none⟩) P.length c1, xn, .slice (some ⟨g3, 0, none⟩) O.length c3] 27)).grownBy w2 (some g1) → ∀ w3, KeepV w2 w3 → Calls Try.prog 51 #[.slice (some ⟨g3, 0, none⟩) O.length c3] w3 fun e w' => e = .returned (.tuple #[]) ∧ w3.grownBy w' (some g3)) := Lib.hid fun w2 h w3 hv =>
    (spoil_verdicts (hv _ _ (KeepV.of h a1' (by decide) _ _ (KeepV.none hgz _ _ k1))) k2 k3 k4).mono fun e w' ⟨he, hg, _⟩ => ⟨he, hg⟩
  have HS0 : Hid (∀ w2, (w.alloc (.cells #[.slice (some ⟨g1, 0, none⟩) P.length c1, xn, .slice (some ⟨g3, 0, none⟩) O.length c3] 27)).grownBy w2 (some g1) → Spared Y wz.heap.size (w.alloc (.cells #[.slice (some ⟨g1, 0, none⟩) P.length c1, xn, .slice (some ⟨g3, 0, none⟩) O.length c3] 27)) w2) := Lib.hid fun w2 h => Spared.of h (fun q e => by cases e; exact ⟨a5, a6⟩)
  clear hx hg hga hbx hgz a1 a1' hr2 k1 a2 k2
  go_enter Try.func15, Try.ntmps15
  go_wp2_with (first
    | (go_at_call 23; refine HT.out.mono ?_; rintro e w2 ⟨rfl, hg2, hc2, _⟩; obtain ⟨p1, p2⟩ := HB.out _ (HS0.out _ hg2); have HC2 := Lib.hid hc2; clear hc2)
    | (go_at_call 50; refine (HRr.out _ hg2 HC2.out).mono ?_; rintro e w3 ⟨rfl, hs3, hk3⟩; obtain ⟨q1, q2⟩ := HB.out _ ((HS0.out _ hg2).trans hs3); have HK3 := Lib.hid hk3; clear hk3)
    | (go_at_call 51; refine (HVv.out _ hg2 _ HK3.out).mono ?_; rintro e w4 ⟨rfl, hg4⟩))
  all_goals go_end0
  all_goals exact ⟨rfl, ((HS1.out _ hg2).trans hs3).trans (Spared.of hg4 (fun q e => by cases e; exact ⟨k5, k6⟩))⟩
end Go.Proofs.Ytpehmlkikhkmfaa
