/- Dfa: an automaton that is lent. -/
import Derived.Test.YtcdepblajobemaaDfaLentC
import Derived.Test.YtcdepblajobemaaDfaRefRun
set_option maxRecDepth 100000
namespace Go.Proofs.Ytcdepblajobemaa
open Go.RowKit

theorem results_dfa1 {fn : Func} {p : Tmp} (h : fn.results = #[.cell p 27]) (tmps : Array Value) (w : World) (g : Nat) (cs : Array Value) (hp : tmps.getD p undef = .pointer (some ⟨g, 0, none⟩)) (hg : w.heap[g]? = some (.cells cs 27 (0, 0))) (hc : cs.size = 3) :
    (results fn tmps).run Try.prog w = .ok (.agg cs) w := by
  have hp' : tmps[p]?.getD undef = .pointer (some ⟨g, 0, none⟩) := by simpa using hp
  have hi : (Try.prog.info? 27).map (·.size) = some cs.size := by rw [hc]; kernel_rfl
  simp [results, h, hp', asAddr, run_loadVar_row w g 27 27 cs (0, 0) _ hg Try.underlying27 rfl hi]
theorem S3 {w : World} {b : Nat} {x0 x1 x2 : Value} (h : w.heap[b]? = some (.cells #[x0, x1, x2] 27 (0, 0))) : w.cell? ⟨b, 0, none⟩ = some x0 ∧ w.cell? ⟨b, 1, none⟩ = some x1 ∧ w.cell? ⟨b, 2, none⟩ = some x2 := ⟨(dfa_cells h).1, (dfa_cells h).2.1, (dfa_cells h).2.2.1⟩
/-- An automaton that is lent. -/
structure LentD (w : World) (Y : Nat) (vp vn vl : Value) (d : Dfa) : Prop where
  p : LentTexts w Y vp d.P
  n : LentRows w Y vn d.R
  b : LentBools w Y vl d.B
theorem LentD.kept {w w' : World} {Y : Nat} {vp vn vl : Value} {d : Dfa} (h : LentD w Y vp vn vl d) (hg : w.grownBy w' none) : LentD w' Y vp vn vl d := ⟨h.p.kept hg (Classical.em _), h.n.kept hg, h.b.kept hg (Classical.em _)⟩
theorem lent_slice {w : World} {Y : Nat} {v : Value} {L : List ByteArray} (h : LentTexts w Y v L) : ∃ a cap, v = .slice a L.length cap := by obtain ⟨g, cap, e, _⟩ := h; exact ⟨_, _, e⟩
theorem lent_slice2 {w : World} {Y : Nat} {v : Value} {L : List (List Int)} (h : LentRows w Y v L) : ∃ a cap, v = .slice a L.length cap := by obtain ⟨g, cap, _, _, e, _⟩ := h; exact ⟨_, _, e⟩
theorem lent_slice3 {w : World} {Y : Nat} {v : Value} {L : List Bool} (h : LentBools w Y v L) : ∃ a cap, v = .slice a L.length cap := by obtain ⟨g, cap, e, _⟩ := h; exact ⟨_, _, e⟩
theorem LentD.at {w : World} {Y : Nat} {vp vn vl : Value} {d : Dfa} (h : LentD w Y vp vn vl d) {wo : World} {up un ul : Value} (hd : DfaAt wo up un ul d) : DfaAt w vp vn vl d := by
  obtain ⟨_, _, _, _, h1, h2, _⟩ := hd.p
  have h3 := rows_wf hd.r
  obtain ⟨_, _, _, _, h4, _⟩ := hd.b
  exact ⟨h.p.at h1 h2, h.n.at h3.1 h3.2, h.b.at h4 (fun _ _ => rfl)⟩
/-- As many as are lent at once. -/
structure Few (d : Dfa) : Prop where
  p : d.P.length ≤ 1000000
  n : d.R.length ≤ 1000000
  r : ∀ i, i < d.R.length → (d.R.getD i []).length ≤ 1000000
  b : d.B.length ≤ 1000000
theorem own_far {w w' : World} {Z e n b : Nat} {v : Value} {xs : List Value} {c : Array Value} {t : TypeId} {fr : Nat × Nat} (h : w.ownsRow Z e 1 v n xs) (hg : w.grownBy w' (some b)) (hb : w.heap[b]? = some (.cells c t fr)) (he : e ≠ t) : w'.ownsRow Z e 1 v n xs := h.kept hg (own_off h hb he)
theorem LentD.far {w w' : World} {Y b : Nat} {vp vn vl : Value} {d : Dfa} {c : Array Value} {fr : Nat × Nat} (h : LentD w Y vp vn vl d) (hg : w.grownBy w' (some b)) (hb : w.heap[b]? = some (.cells c 27 fr)) : LentD w' Y vp vn vl d := by
  obtain ⟨⟨g1, c1, rfl, p1, p2, p3⟩, ⟨g2, c2, vs, t, rfl, q1, q2, q3, q4, q5, q6⟩, ⟨g3, c3, rfl, r1, r2, r3⟩⟩ := h
  refine ⟨⟨g1, c1, rfl, p1, p2, own_far p3 hg hb (by decide)⟩, ⟨g2, c2, vs, t, rfl, q1, q2, q3, own_far q4 hg hb (by decide), fun i hi => ?_, own_far q6 hg hb (by decide)⟩, ⟨g3, c3, rfl, r1, r2, own_far r3 hg hb (by decide)⟩⟩
  obtain ⟨u, hu, g4, c4, rfl, s1, s2, s3⟩ := q5 i hi
  exact ⟨_, hu, g4, c4, rfl, s1, s2, own_far s3 hg hb (by decide)⟩
theorem LentTexts.base {w : World} {Y Z : Nat} {v : Value} {L : List ByteArray} (h : LentTexts w Z v L) (hz : Y ≤ Z) : LentTexts w Y v L := by obtain ⟨g, c, rfl, h1, h2, h3⟩ := h; exact ⟨g, c, rfl, h1, h2, own_base h3 hz⟩
theorem LentInts.base {w : World} {Y Z : Nat} {v : Value} {L : List Int} (h : LentInts w Z v L) (hz : Y ≤ Z) : LentInts w Y v L := by obtain ⟨g, c, rfl, h1, h2, h3⟩ := h; exact ⟨g, c, rfl, h1, h2, own_base h3 hz⟩
theorem LentBools.base {w : World} {Y Z : Nat} {v : Value} {L : List Bool} (h : LentBools w Z v L) (hz : Y ≤ Z) : LentBools w Y v L := by obtain ⟨g, c, rfl, h1, h2, h3⟩ := h; exact ⟨g, c, rfl, h1, h2, own_base h3 hz⟩
theorem LentRows.base {w : World} {Y Z : Nat} {v : Value} {L : List (List Int)} (h : LentRows w Z v L) (hz : Y ≤ Z) : LentRows w Y v L := by
  obtain ⟨g, c, vs, t, rfl, h1, h2, h3, h4, h5, h6⟩ := h
  exact ⟨g, c, vs, t, rfl, h1, h2, h3, own_base h4 hz, fun i hi => by obtain ⟨u, hu, hl⟩ := h5 i hi; exact ⟨u, hu, hl.base hz⟩, own_base h6 hz⟩

set_option maxHeartbeats 2000000 in
theorem lent_dfa {vp vn vl : Value} {d : Dfa} {w : World} (h : DfaAt w vp vn vl d) (hf : Few d) :
    Calls Try.prog 10 #[.agg #[vp, vn, vl]] w fun e w' => ∃ xp yp xn yn xl yl, e = .returned (.agg #[.slice xp d.P.length yp, .slice xn d.R.length yn, .slice xl d.B.length yl]) ∧ LentD w' w.heap.size (.slice xp d.P.length yp) (.slice xn d.R.length yn) (.slice xl d.B.length yl) d ∧ w.grownBy w' none := by
  have HT : Hid (∀ wx, w.grownBy wx none → Calls Try.prog 34 #[vp] wx fun e w' => ∃ x y, e = .returned (.slice x d.P.length y) ∧ LentTexts w' w.heap.size (.slice x d.P.length y) d.P ∧ wx.grownBy w' none) := Lib.hid fun wx hx => (lent_texts (h.p.kept hx) hf.p).mono fun e w' ⟨v', he, hl, hg⟩ => by
    obtain ⟨a, c, rfl⟩ := lent_slice hl
    exact ⟨a, c, he, hl.base hx.size, hg⟩
  have HN : Hid (∀ wx, w.grownBy wx none → Calls Try.prog 35 #[vn] wx fun e w' => ∃ x y, e = .returned (.slice x d.R.length y) ∧ LentRows w' w.heap.size (.slice x d.R.length y) d.R ∧ wx.grownBy w' none) := Lib.hid fun wx hx => (lent_rows (h.r.kept hx) hf.n hf.r).mono fun e w' ⟨v', he, hl, hg⟩ => by
    obtain ⟨a, c, rfl⟩ := lent_slice2 hl
    exact ⟨a, c, he, hl.base hx.size, hg⟩
  have HL : Hid (∀ wx, w.grownBy wx none → Calls Try.prog 36 #[vl] wx fun e w' => ∃ x y, e = .returned (.slice x d.B.length y) ∧ LentBools w' w.heap.size (.slice x d.B.length y) d.B ∧ wx.grownBy w' none) := Lib.hid fun wx hx => (lent_bools (h.b.kept hx) hf.b).mono fun e w' ⟨v', he, hl, hg⟩ => by
    obtain ⟨a, c, rfl⟩ := lent_slice3 hl
    exact ⟨a, c, he, hl.base hx.size, hg⟩
  have hg0 := World.grownBy_alloc w (.cells #[vp, vn, vl] 27) none
  have hb0 := heap_alloc_new w (.cells #[vp, vn, vl] 27)
  have hg1 := World.grownBy_alloc (w.alloc (.cells #[vp, vn, vl] 27)) (.cells #[.slice none 0 0, .slice none 0 0, .slice none 0 0] 27) none
  have hb1 := heap_alloc_new (w.alloc (.cells #[vp, vn, vl] 27)) (.cells #[.slice none 0 0, .slice none 0 0, .slice none 0 0] 27)
  rw [World.size_alloc] at hb1
  obtain ⟨ap, cp, rfl, -⟩ := h.p
  obtain ⟨an, cn, rfl, -⟩ := h.r
  obtain ⟨al, cl, rfl, -⟩ := h.b
  clear h hf
  have HB_in := Lib.hid (blk_kept hb0 hg1 (by simp))
  have HB_b := Lib.hid hb1
  have HG := Lib.hid (gb_trans hg0 hg1 (Or.inl rfl))
  clear hg0 hg1 hb0 hb1
  go_enter Try.func10, Try.ntmps10
  go_wp2_with fail
  generalize (w.alloc (.cells #[.slice ap d.P.length cp, .slice an d.R.length cn, .slice al d.B.length cl] 27)).alloc (.cells #[.slice none 0 0, .slice none 0 0, .slice none 0 0] 27) = we at HB_in HB_b HG ⊢
  have hgN := gb_drew we none
  replace HB_in := Lib.hid (blk_kept HB_in.out hgN (by simp))
  replace HB_b := Lib.hid (blk_kept HB_b.out hgN (by simp))
  replace HG := Lib.hid (gb_trans HG.out hgN (Or.inl rfl))
  clear hgN
  refine wp_region_held_drew (S := (fun wx => wx.cell? ⟨w.heap.size, 0, none⟩ = some (.slice ap d.P.length cp) ∧ wx.cell? ⟨w.heap.size, 1, none⟩ = some (.slice an d.R.length cn) ∧ wx.cell? ⟨w.heap.size, 2, none⟩ = some (.slice al d.B.length cl))) (by kernel_rfl) (S3 HB_in.out) (fun hHeld => ?_)
  generalize we.drew = wx0 at *
  refine wpAnyH_take (i := 0) (oi := ({ dst := some 3, op := Go.Op.fieldAddr 27 (Go.Operand.tmp 1) 0, type := 0, pos := "lent.go:304", after := #[], guard := none } : Oper)) (v := ?_) rfl (by kernel_rfl) (by kernel_rfl) (by kernel_rfl) (fun _ _ _ h => h) (Or.inl ⟨by rfl, ?_⟩) (by assumption) ?_
  rotate_left
  · (intro wS hSw; (try dsimp only at hSw); go_simp <;> with_reducible rfl)
  try simp only [Act.put, List.setIfInBounds_toArray, List.set_cons_zero, List.set_cons_succ]
  refine wpAnyH_take (i := 1) (oi := ({ dst := some 4, op := Go.Op.load 23 (Go.Operand.tmp 3), type := 23, pos := "lent.go:304", after := #[{ on := 0, ground := Go.Ground.data }], guard := none } : Oper)) (v := ?_) rfl (by kernel_rfl) (by kernel_rfl) (by kernel_rfl) (fun _ _ _ h => h) (Or.inl ⟨by rfl, ?_⟩) (by assumption) ?_
  rotate_left
  · (intro wS hSw; (try dsimp only at hSw); go_simp <;> with_reducible rfl)
  try simp only [Act.put, List.setIfInBounds_toArray, List.set_cons_zero, List.set_cons_succ]
  refine wpAnyH_take (i := 3) (oi := ({ dst := some 6, op := Go.Op.fieldAddr 27 (Go.Operand.tmp 1) 1, type := 0, pos := "lent.go:304", after := #[], guard := none } : Oper)) (v := ?_) rfl (by kernel_rfl) (by kernel_rfl) (by kernel_rfl) (fun _ _ _ h => h) (Or.inl ⟨by rfl, ?_⟩) (by assumption) ?_
  rotate_left
  · (intro wS hSw; (try dsimp only at hSw); go_simp <;> with_reducible rfl)
  try simp only [Act.put, List.setIfInBounds_toArray, List.set_cons_zero, List.set_cons_succ]
  refine wpAnyH_take (i := 4) (oi := ({ dst := some 7, op := Go.Op.load 24 (Go.Operand.tmp 6), type := 24, pos := "lent.go:304", after := #[{ on := 3, ground := Go.Ground.data }], guard := none } : Oper)) (v := ?_) rfl (by kernel_rfl) (by kernel_rfl) (by kernel_rfl) (fun _ _ _ h => h) (Or.inl ⟨by rfl, ?_⟩) (by assumption) ?_
  rotate_left
  · (intro wS hSw; (try dsimp only at hSw); go_simp <;> with_reducible rfl)
  try simp only [Act.put, List.setIfInBounds_toArray, List.set_cons_zero, List.set_cons_succ]
  refine wpAnyH_take (i := 6) (oi := ({ dst := some 9, op := Go.Op.fieldAddr 27 (Go.Operand.tmp 1) 2, type := 0, pos := "lent.go:304", after := #[], guard := none } : Oper)) (v := ?_) rfl (by kernel_rfl) (by kernel_rfl) (by kernel_rfl) (fun _ _ _ h => h) (Or.inl ⟨by rfl, ?_⟩) (by assumption) ?_
  rotate_left
  · (intro wS hSw; (try dsimp only at hSw); go_simp <;> with_reducible rfl)
  try simp only [Act.put, List.setIfInBounds_toArray, List.set_cons_zero, List.set_cons_succ]
  refine wpAnyH_take (i := 7) (oi := ({ dst := some 10, op := Go.Op.load 25 (Go.Operand.tmp 9), type := 25, pos := "lent.go:304", after := #[{ on := 6, ground := Go.Ground.data }], guard := none } : Oper)) (v := ?_) rfl (by kernel_rfl) (by kernel_rfl) (by kernel_rfl) (fun _ _ _ h => h) (Or.inl ⟨by rfl, ?_⟩) (by assumption) ?_
  rotate_left
  · (intro wS hSw; (try dsimp only at hSw); go_simp <;> with_reducible rfl)
  try simp only [Act.put, List.setIfInBounds_toArray, List.set_cons_zero, List.set_cons_succ]
  refine wpAnyH_ready (rs := [2]) (by kernel_rfl) (by simp) ?_
  refine AllReadyH.cons (o := ({ dst := some 5, op := Go.Op.call { callee := Go.Callee.value (Go.Operand.func 34), args := #[Go.Operand.tmp 4], argTypes := #[23] }, type := 23, pos := "lent.go:304", after := #[{ on := 1, ground := Go.Ground.data }], guard := none } : Oper)) rfl (fun K hK => ?_) ?_
  · go_simp
    ((with_reducible refine (HT.out _ HG.out).mono ?_); rintro e wx1 ⟨xp, yp, rfl, hp, hgN⟩)
    have HXp := Lib.hid hp
    clear hp
    replace HB_in := Lib.hid (blk_kept HB_in.out hgN (by simp))
    replace HB_b := Lib.hid (blk_kept HB_b.out hgN (by simp))
    replace HG := Lib.hid (gb_trans HG.out hgN (Or.inl rfl))
    clear hgN
    refine hK.out _ _ (S3 HB_in.out) (fun hHeld => ?_)
    clear hK K
    try simp only [Act.put, List.setIfInBounds_toArray, List.set_cons_zero, List.set_cons_succ]
    refine wpAnyH_ready (rs := [5]) (by kernel_rfl) (by simp) ?_
    refine AllReadyH.cons (o := ({ dst := some 8, op := Go.Op.call { callee := Go.Callee.value (Go.Operand.func 35), args := #[Go.Operand.tmp 7], argTypes := #[24] }, type := 24, pos := "lent.go:304", after := #[{ on := 4, ground := Go.Ground.data }, { on := 2, ground := Go.Ground.chain }], guard := none } : Oper)) rfl (fun K hK => ?_) ?_
    · go_simp
      ((with_reducible refine (HN.out _ HG.out).mono ?_); rintro e wx2 ⟨xn, yn, rfl, hn, hgN⟩)
      have HXn := Lib.hid hn
      clear hn
      replace HB_in := Lib.hid (blk_kept HB_in.out hgN (by simp))
      replace HB_b := Lib.hid (blk_kept HB_b.out hgN (by simp))
      replace HXp := Lib.hid (HXp.out.kept hgN (Classical.em _))
      replace HG := Lib.hid (gb_trans HG.out hgN (Or.inl rfl))
      clear hgN
      refine hK.out _ _ (S3 HB_in.out) (fun hHeld => ?_)
      clear hK K
      try simp only [Act.put, List.setIfInBounds_toArray, List.set_cons_zero, List.set_cons_succ]
      refine wpAnyH_ready (rs := [8]) (by kernel_rfl) (by simp) ?_
      refine AllReadyH.cons (o := ({ dst := some 11, op := Go.Op.call { callee := Go.Callee.value (Go.Operand.func 36), args := #[Go.Operand.tmp 10], argTypes := #[25] }, type := 25, pos := "lent.go:304", after := #[{ on := 7, ground := Go.Ground.data }, { on := 5, ground := Go.Ground.chain }], guard := none } : Oper)) rfl (fun K hK => ?_) ?_
      · go_simp
        ((with_reducible refine (HL.out _ HG.out).mono ?_); rintro e wx3 ⟨xl, yl, rfl, hl, hgN⟩)
        have HXl := Lib.hid hl
        clear hl
        replace HB_in := Lib.hid (blk_kept HB_in.out hgN (by simp))
        replace HB_b := Lib.hid (blk_kept HB_b.out hgN (by simp))
        replace HXp := Lib.hid (HXp.out.kept hgN (Classical.em _))
        replace HXn := Lib.hid (HXn.out.kept hgN)
        replace HG := Lib.hid (gb_trans HG.out hgN (Or.inl rfl))
        clear hgN
        refine hK.out _ _ (S3 HB_in.out) (fun hHeld => ?_)
        clear hK K
        try simp only [Act.put, List.setIfInBounds_toArray, List.set_cons_zero, List.set_cons_succ]
        refine wpAnyH_take (i := 9) (oi := ({ dst := some 12, op := Go.Op.build 27 #[(0, Go.Operand.tmp 5), (1, Go.Operand.tmp 8), (2, Go.Operand.tmp 11)], type := 27, pos := "lent.go:304", after := #[{ on := 2, ground := Go.Ground.data }, { on := 5, ground := Go.Ground.data }, { on := 8, ground := Go.Ground.data }], guard := none } : Oper)) (v := ?_) rfl (by kernel_rfl) (by kernel_rfl) (by kernel_rfl) (fun _ _ _ h => h) (Or.inl ⟨by rfl, ?_⟩) (by assumption) ?_
        rotate_left
        · (intro wS hSw; (try dsimp only at hSw); go_simp <;> with_reducible rfl)
        try simp only [Act.put, List.setIfInBounds_toArray, List.set_cons_zero, List.set_cons_succ]
        refine wpAnyH_ready (rs := [10]) (by kernel_rfl) (by simp) ?_
        refine AllReadyH.cons (o := ({ dst := none, op := Go.Op.store 27 (Go.Operand.tmp 2) (Go.Operand.tmp 12), type := 0, pos := "lent.go:304", after := #[{ on := 9, ground := Go.Ground.data }, { on := 8, ground := Go.Ground.chain }, { on := 0, ground := Go.Ground.phase }, { on := 1, ground := Go.Ground.phase }, { on := 2, ground := Go.Ground.phase }, { on := 3, ground := Go.Ground.phase }, { on := 4, ground := Go.Ground.phase }, { on := 5, ground := Go.Ground.phase }, { on := 6, ground := Go.Ground.phase }, { on := 7, ground := Go.Ground.phase }, { on := 8, ground := Go.Ground.phase }, { on := 9, ground := Go.Ground.phase }], guard := none } : Oper)) rfl (fun K hK => ?_) ?_
        · obtain ⟨c0, c1, c2, cf⟩ := dfa_cells HB_b.out
          have f0 := cf 0
          have f1 := cf 1
          have f2 := cf 2
          clear cf
          go_simp
          obtain ⟨hs3, hg3⟩ := set3 HB_b.out (.slice xp d.P.length yp) (.slice xn d.R.length yn) (.slice xl d.B.length yl)
          have HD := Lib.hid ((LentD.mk HXp.out HXn.out HXl.out : LentD wx3 w.heap.size _ _ _ d).far hg3 HB_b.out)
          replace HG := Lib.hid (gb_trans HG.out hg3 (Or.inr (Or.inr ⟨_, rfl, by omega⟩)))
          replace HB_in := Lib.hid (blk_kept HB_in.out hg3 (by simp))
          clear c0 c1 c2 f0 f1 f2 hg3 HXp HXn HXl
          generalize (((wx3.setCell ⟨w.heap.size + 1, 0, none⟩ (.slice xp d.P.length yp)).setCell ⟨w.heap.size + 1, 1, none⟩ (.slice xn d.R.length yn)).setCell ⟨w.heap.size + 1, 2, none⟩ (.slice xl d.B.length yl)) = wx4 at *
          replace HB_b := Lib.hid hs3
          clear hs3
          refine hK.out _ _ (S3 HB_in.out) (fun hHeld => ?_)
          clear hK K
          try simp only [Act.put, List.setIfInBounds_toArray, List.set_cons_zero, List.set_cons_succ]
          refine wpAnyH_done (by kernel_rfl) ?_ _
          go_wp2_with fail
          exact bodyPost_ret (results_dfa1 rfl _ _ (w.heap.size + 1) _ rfl HB_b.out rfl) rfl ⟨xp, yp, xn, yn, xl, yl, rfl, HD.out, HG.out⟩
        exact AllReadyH.nil
      exact AllReadyH.nil
    exact AllReadyH.nil
  exact AllReadyH.nil
end Go.Proofs.Ytcdepblajobemaa
