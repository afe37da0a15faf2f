/- Dfa: an automaton that is lent. -/
import Derived.Test.YtcdepblajobemaaBuilds15
set_option maxRecDepth 100000
namespace Go.Proofs.Ytcdepblajobemaa
open Go.RowKit

theorem results_dfa1 {fn : Func} {p : Tmp} (h : fn.results = #[.cell p 27]) (tmps : Array Value) (w : World) (g : Nat) (cs : Array Value) (hp : tmps.getD p undef = .pointer (some ⟨g, 0, none⟩)) (hg : w.heap[g]? = some (.cells cs 27 (0, 0))) (hc : cs.size = 3) :
    (results fn tmps).run Try.prog w = .ok (.agg cs) w := by
  have hp' : tmps[p]?.getD undef = .pointer (some ⟨g, 0, none⟩) := by simpa using hp
  have hi : (Try.prog.info? 27).map (·.size) = some cs.size := by rw [hc]; kernel_rfl
  simp [results, h, hp', asAddr, run_loadVar_row w g 27 27 cs (0, 0) _ hg Try.underlying27 rfl hi]
theorem S3 {w : World} {b : Nat} {x0 x1 x2 : Value} (h : w.heap[b]? = some (.cells #[x0, x1, x2] 27 (0, 0))) : w.cell? ⟨b, 0, none⟩ = some x0 ∧ w.cell? ⟨b, 1, none⟩ = some x1 ∧ w.cell? ⟨b, 2, none⟩ = some x2 := ⟨(dfa_cells h).1, (dfa_cells h).2.1, (dfa_cells h).2.2.1⟩
/-- An automaton that is lent. -/
structure LentD (w : World) (Y : Nat) (vp vn vl : Value) (d : Dfa) : Prop where
  p : LentTexts w Y vp d.P
  n : LentRows w Y vn d.R
  b : LentBools w Y vl d.B
theorem LentD.kept {w w' : World} {Y : Nat} {vp vn vl : Value} {d : Dfa} (h : LentD w Y vp vn vl d) (hg : w.grownBy w' none) : LentD w' Y vp vn vl d := ⟨h.p.kept hg (Classical.em _), h.n.kept hg, h.b.kept hg (Classical.em _)⟩
theorem lent_slice {w : World} {Y : Nat} {v : Value} {L : List ByteArray} (h : LentTexts w Y v L) : ∃ a cap, v = .slice a L.length cap := by obtain ⟨g, cap, e, _⟩ := h; exact ⟨_, _, e⟩
theorem lent_slice2 {w : World} {Y : Nat} {v : Value} {L : List (List Int)} (h : LentRows w Y v L) : ∃ a cap, v = .slice a L.length cap := by obtain ⟨g, cap, _, _, e, _⟩ := h; exact ⟨_, _, e⟩
theorem lent_slice3 {w : World} {Y : Nat} {v : Value} {L : List Bool} (h : LentBools w Y v L) : ∃ a cap, v = .slice a L.length cap := by obtain ⟨g, cap, e, _⟩ := h; exact ⟨_, _, e⟩
theorem LentD.at {w : World} {Y : Nat} {vp vn vl : Value} {d : Dfa} (h : LentD w Y vp vn vl d) {wo : World} {up un ul : Value} (hd : DfaAt wo up un ul d) : DfaAt w vp vn vl d := by
  obtain ⟨_, _, _, _, h1, h2, _⟩ := hd.p
  have h3 := rows_wf hd.r
  obtain ⟨_, _, _, _, h4, _⟩ := hd.b
  exact ⟨h.p.at h1 h2, h.n.at h3.1 h3.2, h.b.at h4 (fun _ _ => rfl)⟩
/-- As many as are lent at once. -/
structure Few (d : Dfa) : Prop where
  p : d.P.length ≤ 1000000
  n : d.R.length ≤ 1000000
  r : ∀ i, i < d.R.length → (d.R.getD i []).length ≤ 1000000
  b : d.B.length ≤ 1000000
theorem own_far {w w' : World} {Z e n b : Nat} {v : Value} {xs : List Value} {c : Array Value} {t : TypeId} {fr : Nat × Nat} (h : w.ownsRow Z e 1 v n xs) (hg : w.grownBy w' (some b)) (hb : w.heap[b]? = some (.cells c t fr)) (he : e ≠ t) : w'.ownsRow Z e 1 v n xs := h.kept hg (own_off h hb he)
theorem LentD.far {w w' : World} {Y b : Nat} {vp vn vl : Value} {d : Dfa} {c : Array Value} {fr : Nat × Nat} (h : LentD w Y vp vn vl d) (hg : w.grownBy w' (some b)) (hb : w.heap[b]? = some (.cells c 27 fr)) : LentD w' Y vp vn vl d := by
  obtain ⟨⟨g1, c1, rfl, p1, p2, p3⟩, ⟨g2, c2, vs, t, rfl, q1, q2, q3, q4, q5, q6⟩, ⟨g3, c3, rfl, r1, r2, r3⟩⟩ := h
  refine ⟨⟨g1, c1, rfl, p1, p2, own_far p3 hg hb (by decide)⟩, ⟨g2, c2, vs, t, rfl, q1, q2, q3, own_far q4 hg hb (by decide), fun i hi => ?_, own_far q6 hg hb (by decide)⟩, ⟨g3, c3, rfl, r1, r2, own_far r3 hg hb (by decide)⟩⟩
  obtain ⟨u, hu, g4, c4, rfl, s1, s2, s3⟩ := q5 i hi
  exact ⟨_, hu, g4, c4, rfl, s1, s2, own_far s3 hg hb (by decide)⟩
theorem LentTexts.base {w : World} {Y Z : Nat} {v : Value} {L : List ByteArray} (h : LentTexts w Z v L) (hz : Y ≤ Z) : LentTexts w Y v L := by obtain ⟨g, c, rfl, h1, h2, h3⟩ := h; exact ⟨g, c, rfl, h1, h2, own_base h3 hz⟩
theorem LentInts.base {w : World} {Y Z : Nat} {v : Value} {L : List Int} (h : LentInts w Z v L) (hz : Y ≤ Z) : LentInts w Y v L := by obtain ⟨g, c, rfl, h1, h2, h3⟩ := h; exact ⟨g, c, rfl, h1, h2, own_base h3 hz⟩
theorem LentBools.base {w : World} {Y Z : Nat} {v : Value} {L : List Bool} (h : LentBools w Z v L) (hz : Y ≤ Z) : LentBools w Y v L := by obtain ⟨g, c, rfl, h1, h2, h3⟩ := h; exact ⟨g, c, rfl, h1, h2, own_base h3 hz⟩
theorem LentRows.base {w : World} {Y Z : Nat} {v : Value} {L : List (List Int)} (h : LentRows w Z v L) (hz : Y ≤ Z) : LentRows w Y v L := by
  obtain ⟨g, c, vs, t, rfl, h1, h2, h3, h4, h5, h6⟩ := h
  exact ⟨g, c, vs, t, rfl, h1, h2, h3, own_base h4 hz, fun i hi => by obtain ⟨u, hu, hl⟩ := h5 i hi; exact ⟨u, hu, hl.base hz⟩, own_base h6 hz⟩

set_option maxHeartbeats 2000000 in
theorem lent_dfa {vp vn vl : Value} {d : Dfa} {w : World} (h : DfaAt w vp vn vl d) (hf : Few d) :
    Calls Try.prog 10 #[.agg #[vp, vn, vl]] w fun e w' => ∃ xp yp xn yn xl yl, e = .returned (.agg #[.slice xp d.P.length yp, .slice xn d.R.length yn, .slice xl d.B.length yl]) ∧ LentD w' w.heap.size (.slice xp d.P.length yp) (.slice xn d.R.length yn) (.slice xl d.B.length yl) d ∧ w.grownBy w' none := by
  have HT : Hid (∀ wx, w.grownBy wx none → Calls Try.prog 34 #[vp] wx fun e w' => ∃ x y, e = .returned (.slice x d.P.length y) ∧ LentTexts w' w.heap.size (.slice x d.P.length y) d.P ∧ wx.grownBy w' none) := Lib.hid fun wx hx => (lent_texts (h.p.kept hx) hf.p).mono fun e w' ⟨v', he, hl, hg⟩ => by
    obtain ⟨a, c, rfl⟩ := lent_slice hl
    exact ⟨a, c, he, hl.base hx.size, hg⟩
  have HN : Hid (∀ wx, w.grownBy wx none → Calls Try.prog 35 #[vn] wx fun e w' => ∃ x y, e = .returned (.slice x d.R.length y) ∧ LentRows w' w.heap.size (.slice x d.R.length y) d.R ∧ wx.grownBy w' none) := Lib.hid fun wx hx => (lent_rows (h.r.kept hx) hf.n hf.r).mono fun e w' ⟨v', he, hl, hg⟩ => by
    obtain ⟨a, c, rfl⟩ := lent_slice2 hl
    exact ⟨a, c, he, hl.base hx.size, hg⟩
  have HL : Hid (∀ wx, w.grownBy wx none → Calls Try.prog 36 #[vl] wx fun e w' => ∃ x y, e = .returned (.slice x d.B.length y) ∧ LentBools w' w.heap.size (.slice x d.B.length y) d.B ∧ wx.grownBy w' none) := Lib.hid fun wx hx => (lent_bools (h.b.kept hx) hf.b).mono fun e w' ⟨v', he, hl, hg⟩ => by
    obtain ⟨a, c, rfl⟩ := lent_slice3 hl
    exact ⟨a, c, he, hl.base hx.size, hg⟩
  have hg0 := World.grownBy_alloc w (.cells #[vp, vn, vl] 27) none
  have hb0 := heap_alloc_new w (.cells #[vp, vn, vl] 27)
  have hg1 := World.grownBy_alloc (w.alloc (.cells #[vp, vn, vl] 27)) (.cells #[.slice none 0 0, .slice none 0 0, .slice none 0 0] 27) none
  have hb1 := heap_alloc_new (w.alloc (.cells #[vp, vn, vl] 27)) (.cells #[.slice none 0 0, .slice none 0 0, .slice none 0 0] 27)
  rw [World.size_alloc] at hb1
  obtain ⟨ap, cp, rfl, -⟩ := h.p
  obtain ⟨an, cn, rfl, -⟩ := h.r
  obtain ⟨al, cl, rfl, -⟩ := h.b
  clear h hf
  have HB_in := Lib.hid (blk_kept hb0 hg1 (by simp))
  have HB_b := Lib.hid hb1
  have HG := Lib.hid (gb_trans hg0 hg1 (Or.inl rfl))
  clear hg0 hg1 hb0 hb1
  go_enter Try.func10, Try.ntmps10
  go_wp2_with fail
  generalize (w.alloc (.cells #[.slice ap d.P.length cp, .slice an d.R.length cn, .slice al d.B.length cl] 27)).alloc (.cells #[.slice none 0 0, .slice none 0 0, .slice none 0 0] 27) = we at HB_in HB_b HG ⊢
  have hgN := gb_drew we none
  replace HB_in := Lib.hid (blk_kept HB_in.out hgN (by simp))
  replace HB_b := Lib.hid (blk_kept HB_b.out hgN (by simp))
  replace HG := Lib.hid (gb_trans HG.out hgN (Or.inl rfl))
  clear hgN
  refine wp_region_held_drew (S := (fun wx => wx.cell? ⟨w.heap.size, 0, none⟩ = some (.slice ap d.P.length cp) ∧ wx.cell? ⟨w.heap.size, 1, none⟩ = some (.slice an d.R.length cn) ∧ wx.cell? ⟨w.heap.size, 2, none⟩ = some (.slice al d.B.length cl))) (by kernel_rfl) (S3 HB_in.out) (fun hHeld => ?_)
  generalize we.drew = wx0 at *
  refine wpAnyH_take (i := 0) (oi := ({ dst := some 3, op := Go.Op.fieldAddr 27 (Go.Operand.tmp 1) 0, type := 0, pos := "lent.go:304", after := #[], guard := none } : Oper)) (v := ?_) rfl (by kernel_rfl) (by kernel_rfl) (by kernel_rfl) (fun _ _ _ h => h) (Or.inl ⟨by rfl, ?_⟩) (by assumption) ?_
  rotate_left
  · (intro wS hSw; (try dsimp only at hSw); go_simp <;> with_reducible rfl)
  try simp only [Act.put, List.setIfInBounds_toArray, List.set_cons_zero, List.set_cons_succ]
  refine wpAnyH_take (i := 1) (oi := ({ dst := some 4, op := Go.Op.load 23 (Go.Operand.tmp 3), type := 23, pos := "lent.go:304", after := #[{ on := 0, ground := Go.Ground.data }], guard := none } : Oper)) (v := ?_) rfl (by kernel_rfl) (by kernel_rfl) (by kernel_rfl) (fun _ _ _ h => h) (Or.inl ⟨by rfl, ?_⟩) (by assumption) ?_
  rotate_left
  · (intro wS hSw; (try dsimp only at hSw); go_simp <;> with_reducible rfl)
  try simp only [Act.put, List.setIfInBounds_toArray, List.set_cons_zero, List.set_cons_succ]
  refine wpAnyH_take (i := 3) (oi := ({ dst := some 6, op := Go.Op.fieldAddr 27 (Go.Operand.tmp 1) 1, type := 0, pos := "lent.go:304", after := #[], guard := none } : Oper)) (v := ?_) rfl (by kernel_rfl) (by kernel_rfl) (by kernel_rfl) (fun _ _ _ h => h) (Or.inl ⟨by rfl, ?_⟩) (by assumption) ?_
  rotate_left
  · (intro wS hSw; (try dsimp only at hSw); go_simp <;> with_reducible rfl)
  try simp only [Act.put, List.setIfInBounds_toArray, List.set_cons_zero, List.set_cons_succ]
  refine wpAnyH_take (i := 4) (oi := ({ dst := some 7, op := Go.Op.load 24 (Go.Operand.tmp 6), type := 24, pos := "lent.go:304", after := #[{ on := 3, ground := Go.Ground.data }], guard := none } : Oper)) (v := ?_) rfl (by kernel_rfl) (by kernel_rfl) (by kernel_rfl) (fun _ _ _ h => h) (Or.inl ⟨by rfl, ?_⟩) (by assumption) ?_
  rotate_left
  · (intro wS hSw; (try dsimp only at hSw); go_simp <;> with_reducible rfl)
  try simp only [Act.put, List.setIfInBounds_toArray, List.set_cons_zero, List.set_cons_succ]
  refine wpAnyH_take (i := 6) (oi := ({ dst := some 9, op := Go.Op.fieldAddr 27 (Go.Operand.tmp 1) 2, type := 0, pos := "lent.go:304", after := #[], guard := none } : Oper)) (v := ?_) rfl (by kernel_rfl) (by kernel_rfl) (by kernel_rfl) (fun _ _ _ h => h) (Or.inl ⟨by rfl, ?_⟩) (by assumption) ?_
  rotate_left
  · (intro wS hSw; (try dsimp only at hSw); go_simp <;> with_reducible rfl)
  try simp only [Act.put, List.setIfInBounds_toArray, List.set_cons_zero, List.set_cons_succ]
  refine wpAnyH_take (i := 7) (oi := ({ dst := some 10, op := Go.Op.load 25 (Go.Operand.tmp 9), type := 25, pos := "lent.go:304", after := #[{ on := 6, ground := Go.Ground.data }], guard := none } : Oper)) (v := ?_) rfl (by kernel_rfl) (by kernel_rfl) (by kernel_rfl) (fun _ _ _ h => h) (Or.inl ⟨by rfl, ?_⟩) (by assumption) ?_
  rotate_left
  · (intro wS hSw; (try dsimp only at hSw); go_simp <;> with_reducible rfl)
  try simp only [Act.put, List.setIfInBounds_toArray, List.set_cons_zero, List.set_cons_succ]
  refine wpAnyH_ready (rs := [2]) (by kernel_rfl) (by simp) ?_
  refine AllReadyH.cons (o := ({ dst := some 5, op := Go.Op.call { callee := Go.Callee.value (Go.Operand.func 34), args := #[Go.Operand.tmp 4], argTypes := #[23] }, type := 23, pos := "lent.go:304", after := #[{ on := 1, ground := Go.Ground.data }], guard := none } : Oper)) rfl (fun K hK => ?_) ?_
  · go_simp
    ((with_reducible refine (HT.out _ HG.out).mono ?_); rintro e wx1 ⟨xp, yp, rfl, hp, hgN⟩)
    have HXp := Lib.hid hp
    clear hp
    replace HB_in := Lib.hid (blk_kept HB_in.out hgN (by simp))
    replace HB_b := Lib.hid (blk_kept HB_b.out hgN (by simp))
    replace HG := Lib.hid (gb_trans HG.out hgN (Or.inl rfl))
    clear hgN
    refine hK.out _ _ (S3 HB_in.out) (fun hHeld => ?_)
    clear hK K
    try simp only [Act.put, List.setIfInBounds_toArray, List.set_cons_zero, List.set_cons_succ]
    refine wpAnyH_ready (rs := [5]) (by kernel_rfl) (by simp) ?_
    refine AllReadyH.cons (o := ({ dst := some 8, op := Go.Op.call { callee := Go.Callee.value (Go.Operand.func 35), args := #[Go.Operand.tmp 7], argTypes := #[24] }, type := 24, pos := "lent.go:304", after := #[{ on := 4, ground := Go.Ground.data }, { on := 2, ground := Go.Ground.chain }], guard := none } : Oper)) rfl (fun K hK => ?_) ?_
    · go_simp
      ((with_reducible refine (HN.out _ HG.out).mono ?_); rintro e wx2 ⟨xn, yn, rfl, hn, hgN⟩)
      have HXn := Lib.hid hn
      clear hn
      replace HB_in := Lib.hid (blk_kept HB_in.out hgN (by simp))
      replace HB_b := Lib.hid (blk_kept HB_b.out hgN (by simp))
      replace HXp := Lib.hid (HXp.out.kept hgN (Classical.em _))
      replace HG := Lib.hid (gb_trans HG.out hgN (Or.inl rfl))
      clear hgN
      refine hK.out _ _ (S3 HB_in.out) (fun hHeld => ?_)
      clear hK K
      try simp only [Act.put, List.setIfInBounds_toArray, List.set_cons_zero, List.set_cons_succ]
      refine wpAnyH_ready (rs := [8]) (by kernel_rfl) (by simp) ?_
      refine AllReadyH.cons (o := ({ dst := some 11, op := Go.Op.call { callee := Go.Callee.value (Go.Operand.func 36), args := #[Go.Operand.tmp 10], argTypes := #[25] }, type := 25, pos := "lent.go:304", after := #[{ on := 7, ground := Go.Ground.data }, { on := 5, ground := Go.Ground.chain }], guard := none } : Oper)) rfl (fun K hK => ?_) ?_
      · go_simp
        ((with_reducible refine (HL.out _ HG.out).mono ?_); rintro e wx3 ⟨xl, yl, rfl, hl, hgN⟩)
        have HXl := Lib.hid hl
        clear hl
        replace HB_in := Lib.hid (blk_kept HB_in.out hgN (by simp))
        replace HB_b := Lib.hid (blk_kept HB_b.out hgN (by simp))
        replace HXp := Lib.hid (HXp.out.kept hgN (Classical.em _))
        replace HXn := Lib.hid (HXn.out.kept hgN)
        replace HG := Lib.hid (gb_trans HG.out hgN (Or.inl rfl))
        clear hgN
        refine hK.out _ _ (S3 HB_in.out) (fun hHeld => ?_)
        clear hK K
        try simp only [Act.put, List.setIfInBounds_toArray, List.set_cons_zero, List.set_cons_succ]
        refine wpAnyH_take (i := 9) (oi := ({ dst := some 12, op := Go.Op.build 27 #[(0, Go.Operand.tmp 5), (1, Go.Operand.tmp 8), (2, Go.Operand.tmp 11)], type := 27, pos := "lent.go:304", after := #[{ on := 2, ground := Go.Ground.data }, { on := 5, ground := Go.Ground.data }, { on := 8, ground := Go.Ground.data }], guard := none } : Oper)) (v := ?_) rfl (by kernel_rfl) (by kernel_rfl) (by kernel_rfl) (fun _ _ _ h => h) (Or.inl ⟨by rfl, ?_⟩) (by assumption) ?_
        rotate_left
        · (intro wS hSw; (try dsimp only at hSw); go_simp <;> with_reducible rfl)
        try simp only [Act.put, List.setIfInBounds_toArray, List.set_cons_zero, List.set_cons_succ]
        refine wpAnyH_ready (rs := [10]) (by kernel_rfl) (by simp) ?_
        refine AllReadyH.cons (o := ({ dst := none, op := Go.Op.store 27 (Go.Operand.tmp 2) (Go.Operand.tmp 12), type := 0, pos := "lent.go:304", after := #[{ on := 9, ground := Go.Ground.data }, { on := 8, ground := Go.Ground.chain }, { on := 0, ground := Go.Ground.phase }, { on := 1, ground := Go.Ground.phase }, { on := 2, ground := Go.Ground.phase }, { on := 3, ground := Go.Ground.phase }, { on := 4, ground := Go.Ground.phase }, { on := 5, ground := Go.Ground.phase }, { on := 6, ground := Go.Ground.phase }, { on := 7, ground := Go.Ground.phase }, { on := 8, ground := Go.Ground.phase }, { on := 9, ground := Go.Ground.phase }], guard := none } : Oper)) rfl (fun K hK => ?_) ?_
        · obtain ⟨c0, c1, c2, cf⟩ := dfa_cells HB_b.out
          have f0 := cf 0
          have f1 := cf 1
          have f2 := cf 2
          clear cf
          go_simp
          obtain ⟨hs3, hg3⟩ := set3 HB_b.out (.slice xp d.P.length yp) (.slice xn d.R.length yn) (.slice xl d.B.length yl)
          have HD := Lib.hid ((LentD.mk HXp.out HXn.out HXl.out : LentD wx3 w.heap.size _ _ _ d).far hg3 HB_b.out)
          replace HG := Lib.hid (gb_trans HG.out hg3 (Or.inr (Or.inr ⟨_, rfl, by omega⟩)))
          replace HB_in := Lib.hid (blk_kept HB_in.out hg3 (by simp))
          clear c0 c1 c2 f0 f1 f2 hg3 HXp HXn HXl
          generalize (((wx3.setCell ⟨w.heap.size + 1, 0, none⟩ (.slice xp d.P.length yp)).setCell ⟨w.heap.size + 1, 1, none⟩ (.slice xn d.R.length yn)).setCell ⟨w.heap.size + 1, 2, none⟩ (.slice xl d.B.length yl)) = wx4 at *
          replace HB_b := Lib.hid hs3
          clear hs3
          refine hK.out _ _ (S3 HB_in.out) (fun hHeld => ?_)
          clear hK K
          try simp only [Act.put, List.setIfInBounds_toArray, List.set_cons_zero, List.set_cons_succ]
          refine wpAnyH_done (by kernel_rfl) ?_ _
          go_wp2_with fail
          exact bodyPost_ret (results_dfa1 rfl _ _ (w.heap.size + 1) _ rfl HB_b.out rfl) rfl ⟨xp, yp, xn, yn, xl, yl, rfl, HD.out, HG.out⟩
        exact AllReadyH.nil
      exact AllReadyH.nil
    exact AllReadyH.nil
  exact AllReadyH.nil
end Go.Proofs.Ytcdepblajobemaa
namespace Go.Proofs.Ytcdepblajobemaa
open Go.RowKit

/-- An automaton that is lent. -/
structure LentB (w : World) (Y : Nat) (vp vi ve vf : Value) (a : Aut) : Prop where
  p : LentTexts w Y vp a.P
  i : LentInts w Y vi a.I
  e : LentEdges w Y ve a.E
  f : LentInts w Y vf a.F
theorem LentB.kept {w w' : World} {Y : Nat} {vp vi ve vf : Value} {a : Aut} (h : LentB w Y vp vi ve vf a) (hg : w.grownBy w' none) : LentB w' Y vp vi ve vf a := ⟨h.p.kept hg (Classical.em _), h.i.kept hg (Classical.em _), h.e.kept hg (Classical.em _), h.f.kept hg (Classical.em _)⟩
theorem lent_sliceI {w : World} {Y : Nat} {v : Value} {L : List Int} (h : LentInts w Y v L) : ∃ a cap, v = .slice a L.length cap := by obtain ⟨g, cap, e, _⟩ := h; exact ⟨_, _, e⟩
theorem lent_sliceE {w : World} {Y : Nat} {v : Value} {L : List Edg} (h : LentEdges w Y v L) : ∃ a cap, v = .slice a L.length cap := by obtain ⟨g, cap, e, _⟩ := h; exact ⟨_, _, e⟩
set_option maxHeartbeats 2000000 in
theorem whole_buchi {w : World} {Y : Nat} {xp xi xe xf vp vi ve vf : Value} {a : Aut} (hx : LentB w Y xp xi xe xf a) (hd : AutAt w vp vi ve vf a) :
    Calls Try.prog 26 #[autV xp xi xe xf a.n, autV vp vi ve vf a.n] w fun e w' => e = .returned (.bool true) ∧ w.grownBy w' none := by
  have HT : Hid (∀ wx, w.grownBy wx none → Calls Try.prog 40 #[xp, vp] wx fun e w' => e = .returned (.bool true) ∧ wx.grownBy w' none) := Lib.hid fun wx hg => whole_texts (hx.p.kept hg (Classical.em _)) (hd.p.kept hg)
  have HI : Hid (∀ wx, w.grownBy wx none → Calls Try.prog 61 #[xi, vi] wx fun e w' => e = .returned (.bool true) ∧ wx.grownBy w' none) := Lib.hid fun wx hg => whole_ints (hx.i.kept hg (Classical.em _)) (hd.i.kept hg)
  have HE : Hid (∀ wx, w.grownBy wx none → Calls Try.prog 62 #[xe, ve] wx fun e w' => e = .returned (.bool true) ∧ wx.grownBy w' none) := Lib.hid fun wx hg => whole_edges (hx.e.kept hg (Classical.em _)) (hd.e.kept hg)
  have HF : Hid (∀ wx, w.grownBy wx none → Calls Try.prog 61 #[xf, vf] wx fun e w' => e = .returned (.bool true) ∧ wx.grownBy w' none) := Lib.hid fun wx hg => whole_ints (hx.f.kept hg (Classical.em _)) (hd.f.kept hg)
  obtain ⟨qp, yp, rfl⟩ := lent_slice hx.p
  obtain ⟨qi, yi, rfl⟩ := lent_sliceI hx.i
  obtain ⟨qe, ye, rfl⟩ := lent_sliceE hx.e
  obtain ⟨qf, yf, rfl⟩ := lent_sliceI hx.f
  obtain ⟨ap, cp, rfl, -⟩ := hd.p
  obtain ⟨ai, ci, rfl, -⟩ := hd.i
  obtain ⟨ae, ce, rfl, -⟩ := hd.e
  obtain ⟨af, cf, rfl, -⟩ := hd.f
  clear hx hd
  unfold autV
  have hg0 := World.grownBy_alloc w (.cells #[.slice qp a.P.length yp, .int .i64 a.n, .slice qi a.I.length yi, .slice qe a.E.length ye, .slice qf a.F.length yf] 47) none
  have hb0 := heap_alloc_new w (.cells #[.slice qp a.P.length yp, .int .i64 a.n, .slice qi a.I.length yi, .slice qe a.E.length ye, .slice qf a.F.length yf] 47)
  have hg1 := World.grownBy_alloc (w.alloc (.cells #[.slice qp a.P.length yp, .int .i64 a.n, .slice qi a.I.length yi, .slice qe a.E.length ye, .slice qf a.F.length yf] 47)) (.cells #[.slice ap a.P.length cp, .int .i64 a.n, .slice ai a.I.length ci, .slice ae a.E.length ce, .slice af a.F.length cf] 47) none
  have hb1 := heap_alloc_new (w.alloc (.cells #[.slice qp a.P.length yp, .int .i64 a.n, .slice qi a.I.length yi, .slice qe a.E.length ye, .slice qf a.F.length yf] 47)) (.cells #[.slice ap a.P.length cp, .int .i64 a.n, .slice ai a.I.length ci, .slice ae a.E.length ce, .slice af a.F.length cf] 47)
  rw [World.size_alloc] at hb1
  have HB0 := Lib.hid (blk_kept hb0 hg1 (by simp))
  have HB1 := Lib.hid hb1
  have HG := Lib.hid (gb_trans hg0 hg1 (Or.inl rfl))
  clear hg0 hg1 hb0 hb1
  go_enter Try.func26, Try.ntmps26
  go_wp2_with fail
  generalize (w.alloc (.cells #[.slice qp a.P.length yp, .int .i64 a.n, .slice qi a.I.length yi, .slice qe a.E.length ye, .slice qf a.F.length yf] 47)).alloc (.cells #[.slice ap a.P.length cp, .int .i64 a.n, .slice ai a.I.length ci, .slice ae a.E.length ce, .slice af a.F.length cf] 47) = w0 at HB0 HB1 HG ⊢
  refine (HT.out _ HG.out).mono ?_
  rintro e w1 ⟨rfl, hg1⟩
  replace HB0 := Lib.hid (blk_kept HB0.out hg1 (by simp))
  replace HB1 := Lib.hid (blk_kept HB1.out hg1 (by simp))
  replace HG := Lib.hid (gb_trans HG.out hg1 (Or.inl rfl))
  obtain ⟨b0, b1, b2, b3, b4⟩ := buchi_cells HB0.out
  obtain ⟨d0, d1, d2, d3, d4⟩ := buchi_cells HB1.out
  clear hg1
  go_wp2_with fail
  refine (HI.out _ HG.out).mono ?_
  rintro e w2 ⟨rfl, hg1⟩
  replace HB0 := Lib.hid (blk_kept HB0.out hg1 (by simp))
  replace HB1 := Lib.hid (blk_kept HB1.out hg1 (by simp))
  replace HG := Lib.hid (gb_trans HG.out hg1 (Or.inl rfl))
  obtain ⟨b0, b1, b2, b3, b4⟩ := buchi_cells HB0.out
  obtain ⟨d0, d1, d2, d3, d4⟩ := buchi_cells HB1.out
  clear hg1
  go_wp2_with fail
  refine (HE.out _ HG.out).mono ?_
  rintro e w3 ⟨rfl, hg1⟩
  replace HB0 := Lib.hid (blk_kept HB0.out hg1 (by simp))
  replace HB1 := Lib.hid (blk_kept HB1.out hg1 (by simp))
  replace HG := Lib.hid (gb_trans HG.out hg1 (Or.inl rfl))
  obtain ⟨b0, b1, b2, b3, b4⟩ := buchi_cells HB0.out
  obtain ⟨d0, d1, d2, d3, d4⟩ := buchi_cells HB1.out
  clear hg1
  go_wp2_with fail
  refine (HF.out _ HG.out).mono ?_
  rintro e w4 ⟨rfl, hg1⟩
  go_wp2_with fail
  go_ret
  exact ⟨rfl, gb_trans HG.out hg1 (Or.inl rfl)⟩
end Go.Proofs.Ytcdepblajobemaa
namespace Go.Proofs.Ytcdepblajobemaa
open Go.RowKit

theorem LentEdges.base {w : World} {Y Z : Nat} {v : Value} {L : List Edg} (h : LentEdges w Z v L) (hz : Y ≤ Z) : LentEdges w Y v L := by
  obtain ⟨g, c, rfl, h1, h2, h3⟩ := h
  refine ⟨g, c, rfl, h1, h2, h3.1, ?_⟩
  rcases h3.2 with h | ⟨g', cap, cur, hv, hb, rest⟩
  · exact Or.inl h
  · exact Or.inr ⟨g', cap, cur, hv, by omega, rest⟩
end Go.Proofs.Ytcdepblajobemaa
namespace Go.Proofs.Ytcdepblajobemaa
open Go.RowKit

theorem results_buchi {fn : Func} {p : Tmp} (h : fn.results = #[.cell p 47]) (tmps : Array Value) (w : World) (g : Nat) (cs : Array Value) (hp : tmps.getD p undef = .pointer (some ⟨g, 0, none⟩)) (hg : w.heap[g]? = some (.cells cs 47 (0, 0))) (hc : cs.size = 5) :
    (results fn tmps).run Try.prog w = .ok (.agg cs) w := by
  have hp' : tmps[p]?.getD undef = .pointer (some ⟨g, 0, none⟩) := by simpa using hp
  have hi : (Try.prog.info? 47).map (·.size) = some cs.size := by rw [hc]; kernel_rfl
  simp [results, h, hp', asAddr, run_loadVar_row w g 47 47 cs (0, 0) _ hg Try.underlying47 rfl hi]
theorem buchi_frozen {w : World} {b : Nat} {c : Array Value} {t : TypeId} (h : w.heap[b]? = some (.cells c t (0, 0))) (k : Nat) : w.frozen? ⟨b, k, none⟩ = false := by simp [World.frozen?, h]
theorem set5 {w : World} {b : Nat} {x0 x1 x2 x3 x4 : Value} {t : TypeId} (h : w.heap[b]? = some (.cells #[x0, x1, x2, x3, x4] t (0, 0))) (y0 y1 y2 y3 y4 : Value) :
    (((((w.setCell ⟨b, 0, none⟩ y0).setCell ⟨b, 1, none⟩ y1).setCell ⟨b, 2, none⟩ y2).setCell ⟨b, 3, none⟩ y3).setCell ⟨b, 4, none⟩ y4).heap[b]? = some (.cells #[y0, y1, y2, y3, y4] t (0, 0)) ∧
    w.grownBy (((((w.setCell ⟨b, 0, none⟩ y0).setCell ⟨b, 1, none⟩ y1).setCell ⟨b, 2, none⟩ y2).setCell ⟨b, 3, none⟩ y3).setCell ⟨b, 4, none⟩ y4) (some b) :=
  ⟨heap_setCell_same _ b 4 _ t y4 (heap_setCell_same _ b 3 _ t y3 (heap_setCell_same _ b 2 _ t y2 (heap_setCell_same _ b 1 _ t y1 (heap_setCell_same _ b 0 _ t y0 h)))),
    gb_trans (gb_trans (gb_trans (gb_trans (gb_setAt _ _ _ _) (gb_setAt _ _ _ _) (Or.inr (Or.inl rfl))) (gb_setAt _ _ _ _) (Or.inr (Or.inl rfl))) (gb_setAt _ _ _ _) (Or.inr (Or.inl rfl))) (gb_setAt _ _ _ _) (Or.inr (Or.inl rfl))⟩
/-- A row of whatever width, a block of another kind having turned. -/
theorem own_farS {w w' : World} {Z e z n b : Nat} {v : Value} {xs : List Value} {c : Array Value} {t : TypeId} {fr : Nat × Nat} (h : w.ownsRow Z e z v n xs) (hg : w.grownBy w' (some b)) (hb : w.heap[b]? = some (.cells c t fr)) (he : e ≠ t) : w'.ownsRow Z e z v n xs := by
  refine h.kept hg ?_
  rcases h.2 with ⟨rfl, _⟩ | ⟨g, cap, cur, rfl, _, hb2, _⟩
  · exact Or.inl rfl
  · refine Or.inr (fun e2 => ?_)
    obtain rfl : g = b := Option.some.inj e2
    rw [hb] at hb2
    simp only [Option.some.injEq, Obj.cells.injEq] at hb2
    exact he hb2.2.1.symm
theorem LentB.far {w w' : World} {Y b : Nat} {vp vi ve vf : Value} {a : Aut} {c : Array Value} {fr : Nat × Nat} (h : LentB w Y vp vi ve vf a) (hg : w.grownBy w' (some b)) (hb : w.heap[b]? = some (.cells c 47 fr)) : LentB w' Y vp vi ve vf a := by
  obtain ⟨⟨g1, c1, rfl, p1, p2, p3⟩, ⟨g2, c2, rfl, q1, q2, q3⟩, ⟨g3, c3, rfl, r1, r2, r3⟩, ⟨g4, c4, rfl, s1, s2, s3⟩⟩ := h
  exact ⟨⟨g1, c1, rfl, p1, p2, own_farS p3 hg hb (by decide)⟩, ⟨g2, c2, rfl, q1, q2, own_farS q3 hg hb (by decide)⟩, ⟨g3, c3, rfl, r1, r2, own_farS r3 hg hb (by decide)⟩, ⟨g4, c4, rfl, s1, s2, own_farS s3 hg hb (by decide)⟩⟩
theorem S5 {w : World} {b : Nat} {x0 x1 x2 x3 x4 : Value} (h : w.heap[b]? = some (.cells #[x0, x1, x2, x3, x4] 47 (0, 0))) : w.cell? ⟨b, 0, none⟩ = some x0 ∧ w.cell? ⟨b, 1, none⟩ = some x1 ∧ w.cell? ⟨b, 2, none⟩ = some x2 ∧ w.cell? ⟨b, 3, none⟩ = some x3 ∧ w.cell? ⟨b, 4, none⟩ = some x4 := buchi_cells h
/-- As much as is lent at once. -/
structure FewB (a : Aut) : Prop where
  p : a.P.length ≤ 1000000
  i : a.I.length ≤ 1000000
  e : a.E.length ≤ 1000000
  f : a.F.length ≤ 1000000
set_option maxHeartbeats 4000000 in
theorem lent_buchi {vp vi ve vf : Value} {a : Aut} {w : World} (h : AutAt w vp vi ve vf a) (hf : FewB a) :
    Calls Try.prog 25 #[autV vp vi ve vf a.n] w fun e w' => ∃ xp yp xi yi xe ye xf yf, e = .returned (autV (.slice xp a.P.length yp) (.slice xi a.I.length yi) (.slice xe a.E.length ye) (.slice xf a.F.length yf) a.n) ∧ LentB w' w.heap.size (.slice xp a.P.length yp) (.slice xi a.I.length yi) (.slice xe a.E.length ye) (.slice xf a.F.length yf) a ∧ w.grownBy w' none := by
  have HT : Hid (∀ wx, w.grownBy wx none → Calls Try.prog 34 #[vp] wx fun e w' => ∃ x y, e = .returned (.slice x a.P.length y) ∧ LentTexts w' w.heap.size (.slice x a.P.length y) a.P ∧ wx.grownBy w' none) := Lib.hid fun wx hx => (lent_texts (h.p.kept hx) hf.p).mono fun e w' ⟨v', he, hl, hg⟩ => by
    obtain ⟨a, c, rfl⟩ := lent_slice hl
    exact ⟨a, c, he, hl.base hx.size, hg⟩
  have HI : Hid (∀ wx, w.grownBy wx none → Calls Try.prog 59 #[vi] wx fun e w' => ∃ x y, e = .returned (.slice x a.I.length y) ∧ LentInts w' w.heap.size (.slice x a.I.length y) a.I ∧ wx.grownBy w' none) := Lib.hid fun wx hx => (lent_ints (h.i.kept hx) hf.i).mono fun e w' ⟨v', he, hl, hg⟩ => by
    obtain ⟨a, c, rfl⟩ := lent_sliceI hl
    exact ⟨a, c, he, hl.base hx.size, hg⟩
  have HE : Hid (∀ wx, w.grownBy wx none → Calls Try.prog 60 #[ve] wx fun e w' => ∃ x y, e = .returned (.slice x a.E.length y) ∧ LentEdges w' w.heap.size (.slice x a.E.length y) a.E ∧ wx.grownBy w' none) := Lib.hid fun wx hx => (lent_edges (h.e.kept hx) hf.e).mono fun e w' ⟨v', he, hl, hg⟩ => by
    obtain ⟨a, c, rfl⟩ := lent_sliceE hl
    exact ⟨a, c, he, hl.base hx.size, hg⟩
  have HF : Hid (∀ wx, w.grownBy wx none → Calls Try.prog 59 #[vf] wx fun e w' => ∃ x y, e = .returned (.slice x a.F.length y) ∧ LentInts w' w.heap.size (.slice x a.F.length y) a.F ∧ wx.grownBy w' none) := Lib.hid fun wx hx => (lent_ints (h.f.kept hx) hf.f).mono fun e w' ⟨v', he, hl, hg⟩ => by
    obtain ⟨a, c, rfl⟩ := lent_sliceI hl
    exact ⟨a, c, he, hl.base hx.size, hg⟩
  unfold autV
  have hg0 := World.grownBy_alloc w (.cells #[vp, .int .i64 a.n, vi, ve, vf] 47) none
  have hb0 := heap_alloc_new w (.cells #[vp, .int .i64 a.n, vi, ve, vf] 47)
  have hg1 := World.grownBy_alloc (w.alloc (.cells #[vp, .int .i64 a.n, vi, ve, vf] 47)) (.cells #[.slice none 0 0, .int .i64 0, .slice none 0 0, .slice none 0 0, .slice none 0 0] 47) none
  have hb1 := heap_alloc_new (w.alloc (.cells #[vp, .int .i64 a.n, vi, ve, vf] 47)) (.cells #[.slice none 0 0, .int .i64 0, .slice none 0 0, .slice none 0 0, .slice none 0 0] 47)
  rw [World.size_alloc] at hb1
  obtain ⟨ap, cp, rfl, -⟩ := h.p
  obtain ⟨ai, ci, rfl, -⟩ := h.i
  obtain ⟨ae, ce, rfl, -⟩ := h.e
  obtain ⟨af, cf, rfl, -⟩ := h.f
  clear h hf
  have HB_in := Lib.hid (blk_kept hb0 hg1 (by simp))
  have HB_b := Lib.hid hb1
  have HG := Lib.hid (gb_trans hg0 hg1 (Or.inl rfl))
  clear hg0 hg1 hb0 hb1
  go_enter Try.func25, Try.ntmps25
  go_wp2_with fail
  generalize (w.alloc (.cells #[.slice ap a.P.length cp, .int .i64 a.n, .slice ai a.I.length ci, .slice ae a.E.length ce, .slice af a.F.length cf] 47)).alloc (.cells #[.slice none 0 0, .int .i64 0, .slice none 0 0, .slice none 0 0, .slice none 0 0] 47) = we at HB_in HB_b HG ⊢
  have hgN := gb_drew we none
  replace HB_in := Lib.hid (blk_kept HB_in.out hgN (by simp))
  replace HB_b := Lib.hid (blk_kept HB_b.out hgN (by simp))
  replace HG := Lib.hid (gb_trans HG.out hgN (Or.inl rfl))
  clear hgN
  refine wp_region_held_drew (S := (fun wx => wx.cell? ⟨w.heap.size, 0, none⟩ = some (.slice ap a.P.length cp) ∧ wx.cell? ⟨w.heap.size, 1, none⟩ = some (.int .i64 a.n) ∧ wx.cell? ⟨w.heap.size, 2, none⟩ = some (.slice ai a.I.length ci) ∧ wx.cell? ⟨w.heap.size, 3, none⟩ = some (.slice ae a.E.length ce) ∧ wx.cell? ⟨w.heap.size, 4, none⟩ = some (.slice af a.F.length cf))) (by kernel_rfl) (S5 HB_in.out) (fun hHeld => ?_)
  generalize we.drew = wx0 at *
  refine wpAnyH_take (i := 0) (oi := ({ dst := some 3, op := Go.Op.fieldAddr 47 (Go.Operand.tmp 1) 0, type := 0, pos := "lent.go:288", after := #[], guard := none } : Oper)) (v := ?_) rfl (by kernel_rfl) (by kernel_rfl) (by kernel_rfl) (fun _ _ _ h => h) (Or.inl ⟨by rfl, ?_⟩) (by assumption) ?_
  rotate_left
  · (intro wS hSw; (try dsimp only at hSw); go_simp <;> with_reducible rfl)
  try simp only [Act.put, List.setIfInBounds_toArray, List.set_cons_zero, List.set_cons_succ]
  refine wpAnyH_take (i := 1) (oi := ({ dst := some 4, op := Go.Op.load 23 (Go.Operand.tmp 3), type := 23, pos := "lent.go:288", after := #[{ on := 0, ground := Go.Ground.data }], guard := none } : Oper)) (v := ?_) rfl (by kernel_rfl) (by kernel_rfl) (by kernel_rfl) (fun _ _ _ h => h) (Or.inl ⟨by rfl, ?_⟩) (by assumption) ?_
  rotate_left
  · (intro wS hSw; (try dsimp only at hSw); go_simp <;> with_reducible rfl)
  try simp only [Act.put, List.setIfInBounds_toArray, List.set_cons_zero, List.set_cons_succ]
  refine wpAnyH_take (i := 3) (oi := ({ dst := some 6, op := Go.Op.fieldAddr 47 (Go.Operand.tmp 1) 1, type := 0, pos := "lent.go:288", after := #[], guard := none } : Oper)) (v := ?_) rfl (by kernel_rfl) (by kernel_rfl) (by kernel_rfl) (fun _ _ _ h => h) (Or.inl ⟨by rfl, ?_⟩) (by assumption) ?_
  rotate_left
  · (intro wS hSw; (try dsimp only at hSw); go_simp <;> with_reducible rfl)
  try simp only [Act.put, List.setIfInBounds_toArray, List.set_cons_zero, List.set_cons_succ]
  refine wpAnyH_take (i := 4) (oi := ({ dst := some 7, op := Go.Op.load 3 (Go.Operand.tmp 6), type := 3, pos := "lent.go:288", after := #[{ on := 3, ground := Go.Ground.data }], guard := none } : Oper)) (v := ?_) rfl (by kernel_rfl) (by kernel_rfl) (by kernel_rfl) (fun _ _ _ h => h) (Or.inl ⟨by rfl, ?_⟩) (by assumption) ?_
  rotate_left
  · (intro wS hSw; (try dsimp only at hSw); go_simp <;> with_reducible rfl)
  try simp only [Act.put, List.setIfInBounds_toArray, List.set_cons_zero, List.set_cons_succ]
  refine wpAnyH_take (i := 5) (oi := ({ dst := some 8, op := Go.Op.fieldAddr 47 (Go.Operand.tmp 1) 2, type := 0, pos := "lent.go:288", after := #[], guard := none } : Oper)) (v := ?_) rfl (by kernel_rfl) (by kernel_rfl) (by kernel_rfl) (fun _ _ _ h => h) (Or.inl ⟨by rfl, ?_⟩) (by assumption) ?_
  rotate_left
  · (intro wS hSw; (try dsimp only at hSw); go_simp <;> with_reducible rfl)
  try simp only [Act.put, List.setIfInBounds_toArray, List.set_cons_zero, List.set_cons_succ]
  refine wpAnyH_take (i := 6) (oi := ({ dst := some 9, op := Go.Op.load 43 (Go.Operand.tmp 8), type := 43, pos := "lent.go:288", after := #[{ on := 5, ground := Go.Ground.data }], guard := none } : Oper)) (v := ?_) rfl (by kernel_rfl) (by kernel_rfl) (by kernel_rfl) (fun _ _ _ h => h) (Or.inl ⟨by rfl, ?_⟩) (by assumption) ?_
  rotate_left
  · (intro wS hSw; (try dsimp only at hSw); go_simp <;> with_reducible rfl)
  try simp only [Act.put, List.setIfInBounds_toArray, List.set_cons_zero, List.set_cons_succ]
  refine wpAnyH_take (i := 8) (oi := ({ dst := some 11, op := Go.Op.fieldAddr 47 (Go.Operand.tmp 1) 3, type := 0, pos := "lent.go:288", after := #[], guard := none } : Oper)) (v := ?_) rfl (by kernel_rfl) (by kernel_rfl) (by kernel_rfl) (fun _ _ _ h => h) (Or.inl ⟨by rfl, ?_⟩) (by assumption) ?_
  rotate_left
  · (intro wS hSw; (try dsimp only at hSw); go_simp <;> with_reducible rfl)
  try simp only [Act.put, List.setIfInBounds_toArray, List.set_cons_zero, List.set_cons_succ]
  refine wpAnyH_take (i := 9) (oi := ({ dst := some 12, op := Go.Op.load 45 (Go.Operand.tmp 11), type := 45, pos := "lent.go:288", after := #[{ on := 8, ground := Go.Ground.data }], guard := none } : Oper)) (v := ?_) rfl (by kernel_rfl) (by kernel_rfl) (by kernel_rfl) (fun _ _ _ h => h) (Or.inl ⟨by rfl, ?_⟩) (by assumption) ?_
  rotate_left
  · (intro wS hSw; (try dsimp only at hSw); go_simp <;> with_reducible rfl)
  try simp only [Act.put, List.setIfInBounds_toArray, List.set_cons_zero, List.set_cons_succ]
  refine wpAnyH_take (i := 11) (oi := ({ dst := some 14, op := Go.Op.fieldAddr 47 (Go.Operand.tmp 1) 4, type := 0, pos := "lent.go:288", after := #[], guard := none } : Oper)) (v := ?_) rfl (by kernel_rfl) (by kernel_rfl) (by kernel_rfl) (fun _ _ _ h => h) (Or.inl ⟨by rfl, ?_⟩) (by assumption) ?_
  rotate_left
  · (intro wS hSw; (try dsimp only at hSw); go_simp <;> with_reducible rfl)
  try simp only [Act.put, List.setIfInBounds_toArray, List.set_cons_zero, List.set_cons_succ]
  refine wpAnyH_take (i := 12) (oi := ({ dst := some 15, op := Go.Op.load 43 (Go.Operand.tmp 14), type := 43, pos := "lent.go:288", after := #[{ on := 11, ground := Go.Ground.data }], guard := none } : Oper)) (v := ?_) rfl (by kernel_rfl) (by kernel_rfl) (by kernel_rfl) (fun _ _ _ h => h) (Or.inl ⟨by rfl, ?_⟩) (by assumption) ?_
  rotate_left
  · (intro wS hSw; (try dsimp only at hSw); go_simp <;> with_reducible rfl)
  try simp only [Act.put, List.setIfInBounds_toArray, List.set_cons_zero, List.set_cons_succ]
  refine wpAnyH_ready (rs := [2]) (by kernel_rfl) (by simp) ?_
  refine AllReadyH.cons (o := ({ dst := some 5, op := Go.Op.call { callee := Go.Callee.value (Go.Operand.func 34), args := #[Go.Operand.tmp 4], argTypes := #[23] }, type := 23, pos := "lent.go:288", after := #[{ on := 1, ground := Go.Ground.data }], guard := none } : Oper)) rfl (fun K hK => ?_) ?_
  · go_simp
    ((with_reducible refine (HT.out _ HG.out).mono ?_); rintro e wx1 ⟨xp, yp, rfl, hp, hgN⟩)
    have HXp := Lib.hid hp
    clear hp
    replace HB_in := Lib.hid (blk_kept HB_in.out hgN (by simp))
    replace HB_b := Lib.hid (blk_kept HB_b.out hgN (by simp))
    replace HG := Lib.hid (gb_trans HG.out hgN (Or.inl rfl))
    clear hgN
    refine hK.out _ _ (S5 HB_in.out) (fun hHeld => ?_)
    clear hK K
    try simp only [Act.put, List.setIfInBounds_toArray, List.set_cons_zero, List.set_cons_succ]
    refine wpAnyH_ready (rs := [7]) (by kernel_rfl) (by simp) ?_
    refine AllReadyH.cons (o := ({ dst := some 10, op := Go.Op.call { callee := Go.Callee.value (Go.Operand.func 59), args := #[Go.Operand.tmp 9], argTypes := #[43] }, type := 43, pos := "lent.go:288", after := #[{ on := 6, ground := Go.Ground.data }, { on := 2, ground := Go.Ground.chain }], guard := none } : Oper)) rfl (fun K hK => ?_) ?_
    · go_simp
      ((with_reducible refine (HI.out _ HG.out).mono ?_); rintro e wx2 ⟨xi, yi, rfl, hi, hgN⟩)
      have HXi := Lib.hid hi
      clear hi
      replace HB_in := Lib.hid (blk_kept HB_in.out hgN (by simp))
      replace HB_b := Lib.hid (blk_kept HB_b.out hgN (by simp))
      replace HXp := Lib.hid (HXp.out.kept hgN (Classical.em _))
      replace HG := Lib.hid (gb_trans HG.out hgN (Or.inl rfl))
      clear hgN
      refine hK.out _ _ (S5 HB_in.out) (fun hHeld => ?_)
      clear hK K
      try simp only [Act.put, List.setIfInBounds_toArray, List.set_cons_zero, List.set_cons_succ]
      refine wpAnyH_ready (rs := [10]) (by kernel_rfl) (by simp) ?_
      refine AllReadyH.cons (o := ({ dst := some 13, op := Go.Op.call { callee := Go.Callee.value (Go.Operand.func 60), args := #[Go.Operand.tmp 12], argTypes := #[45] }, type := 45, pos := "lent.go:288", after := #[{ on := 9, ground := Go.Ground.data }, { on := 7, ground := Go.Ground.chain }], guard := none } : Oper)) rfl (fun K hK => ?_) ?_
      · go_simp
        ((with_reducible refine (HE.out _ HG.out).mono ?_); rintro e wx3 ⟨xe, ye, rfl, he, hgN⟩)
        have HXe := Lib.hid he
        clear he
        replace HB_in := Lib.hid (blk_kept HB_in.out hgN (by simp))
        replace HB_b := Lib.hid (blk_kept HB_b.out hgN (by simp))
        replace HXp := Lib.hid (HXp.out.kept hgN (Classical.em _))
        replace HXi := Lib.hid (HXi.out.kept hgN (Classical.em _))
        replace HG := Lib.hid (gb_trans HG.out hgN (Or.inl rfl))
        clear hgN
        refine hK.out _ _ (S5 HB_in.out) (fun hHeld => ?_)
        clear hK K
        try simp only [Act.put, List.setIfInBounds_toArray, List.set_cons_zero, List.set_cons_succ]
        refine wpAnyH_ready (rs := [13]) (by kernel_rfl) (by simp) ?_
        refine AllReadyH.cons (o := ({ dst := some 16, op := Go.Op.call { callee := Go.Callee.value (Go.Operand.func 59), args := #[Go.Operand.tmp 15], argTypes := #[43] }, type := 43, pos := "lent.go:288", after := #[{ on := 12, ground := Go.Ground.data }, { on := 10, ground := Go.Ground.chain }], guard := none } : Oper)) rfl (fun K hK => ?_) ?_
        · go_simp
          ((with_reducible refine (HF.out _ HG.out).mono ?_); rintro e wx4 ⟨xf, yf, rfl, hf, hgN⟩)
          have HXf := Lib.hid hf
          clear hf
          replace HB_in := Lib.hid (blk_kept HB_in.out hgN (by simp))
          replace HB_b := Lib.hid (blk_kept HB_b.out hgN (by simp))
          replace HXp := Lib.hid (HXp.out.kept hgN (Classical.em _))
          replace HXi := Lib.hid (HXi.out.kept hgN (Classical.em _))
          replace HXe := Lib.hid (HXe.out.kept hgN (Classical.em _))
          replace HG := Lib.hid (gb_trans HG.out hgN (Or.inl rfl))
          clear hgN
          refine hK.out _ _ (S5 HB_in.out) (fun hHeld => ?_)
          clear hK K
          try simp only [Act.put, List.setIfInBounds_toArray, List.set_cons_zero, List.set_cons_succ]
          refine wpAnyH_take (i := 14) (oi := ({ dst := some 17, op := Go.Op.build 47 #[(0, Go.Operand.tmp 5), (1, Go.Operand.tmp 7), (2, Go.Operand.tmp 10), (3, Go.Operand.tmp 13), (4, Go.Operand.tmp 16)], type := 47, pos := "lent.go:288", after := #[{ on := 2, ground := Go.Ground.data }, { on := 4, ground := Go.Ground.data }, { on := 7, ground := Go.Ground.data }, { on := 10, ground := Go.Ground.data }, { on := 13, ground := Go.Ground.data }], guard := none } : Oper)) (v := ?_) rfl (by kernel_rfl) (by kernel_rfl) (by kernel_rfl) (fun _ _ _ h => h) (Or.inl ⟨by rfl, ?_⟩) (by assumption) ?_
          rotate_left
          · (intro wS hSw; (try dsimp only at hSw); go_simp <;> with_reducible rfl)
          try simp only [Act.put, List.setIfInBounds_toArray, List.set_cons_zero, List.set_cons_succ]
          refine wpAnyH_ready (rs := [15]) (by kernel_rfl) (by simp) ?_
          refine AllReadyH.cons (o := ({ dst := none, op := Go.Op.store 47 (Go.Operand.tmp 2) (Go.Operand.tmp 17), type := 0, pos := "lent.go:288", after := #[{ on := 14, ground := Go.Ground.data }, { on := 13, ground := Go.Ground.chain }, { on := 0, ground := Go.Ground.phase }, { on := 1, ground := Go.Ground.phase }, { on := 2, ground := Go.Ground.phase }, { on := 3, ground := Go.Ground.phase }, { on := 4, ground := Go.Ground.phase }, { on := 5, ground := Go.Ground.phase }, { on := 6, ground := Go.Ground.phase }, { on := 7, ground := Go.Ground.phase }, { on := 8, ground := Go.Ground.phase }, { on := 9, ground := Go.Ground.phase }, { on := 10, ground := Go.Ground.phase }, { on := 11, ground := Go.Ground.phase }, { on := 12, ground := Go.Ground.phase }, { on := 13, ground := Go.Ground.phase }, { on := 14, ground := Go.Ground.phase }], guard := none } : Oper)) rfl (fun K hK => ?_) ?_
          · obtain ⟨c0, c1, c2, c3, c4⟩ := buchi_cells HB_b.out
            have f0 := buchi_frozen HB_b.out 0
            have f1 := buchi_frozen HB_b.out 1
            have f2 := buchi_frozen HB_b.out 2
            have f3 := buchi_frozen HB_b.out 3
            have f4 := buchi_frozen HB_b.out 4
            go_simp
            obtain ⟨hs3, hg3⟩ := set5 HB_b.out (.slice xp a.P.length yp) (.int .i64 a.n) (.slice xi a.I.length yi) (.slice xe a.E.length ye) (.slice xf a.F.length yf)
            have HD := Lib.hid ((LentB.mk HXp.out HXi.out HXe.out HXf.out : LentB wx4 w.heap.size _ _ _ _ a).far hg3 HB_b.out)
            replace HG := Lib.hid (gb_trans HG.out hg3 (Or.inr (Or.inr ⟨_, rfl, by omega⟩)))
            replace HB_in := Lib.hid (blk_kept HB_in.out hg3 (by simp))
            clear c0 c1 c2 c3 c4 f0 f1 f2 f3 f4 hg3 HXp HXi HXe HXf
            generalize (((((wx4.setCell ⟨w.heap.size + 1, 0, none⟩ (.slice xp a.P.length yp)).setCell ⟨w.heap.size + 1, 1, none⟩ (.int .i64 a.n)).setCell ⟨w.heap.size + 1, 2, none⟩ (.slice xi a.I.length yi)).setCell ⟨w.heap.size + 1, 3, none⟩ (.slice xe a.E.length ye)).setCell ⟨w.heap.size + 1, 4, none⟩ (.slice xf a.F.length yf)) = wx5 at *
            replace HB_b := Lib.hid hs3
            clear hs3
            refine hK.out _ _ (S5 HB_in.out) (fun hHeld => ?_)
            clear hK K
            try simp only [Act.put, List.setIfInBounds_toArray, List.set_cons_zero, List.set_cons_succ]
            refine wpAnyH_done (by kernel_rfl) ?_ _
            go_wp2_with fail
            exact bodyPost_ret (results_buchi rfl _ _ (w.heap.size + 1) _ rfl HB_b.out rfl) rfl ⟨xp, yp, xi, yi, xe, ye, xf, yf, rfl, HD.out, HG.out⟩
          exact AllReadyH.nil
        exact AllReadyH.nil
      exact AllReadyH.nil
    exact AllReadyH.nil
  exact AllReadyH.nil
end Go.Proofs.Ytcdepblajobemaa
namespace Go.Proofs.Ytcdepblajobemaa
open Go.RowKit

/-- What lies below Y, or from Z on, is as it was. -/
structure Spared (Y Z : Nat) (w w' : World) : Prop where
  os : w'.os = w.os
  tape : w'.tape = w.tape
  output : w'.output = w.output
  size : w.heap.size ≤ w'.heap.size
  block : ∀ k, k < w.heap.size → (k < Y ∨ Z ≤ k) → w'.heap[k]? = w.heap[k]?
theorem Spared.refl (Y Z : Nat) (w : World) : Spared Y Z w w := ⟨rfl, rfl, rfl, Nat.le_refl _, fun _ _ _ => rfl⟩
theorem Spared.trans {Y Z : Nat} {a b c : World} (h : Spared Y Z a b) (k : Spared Y Z b c) : Spared Y Z a c :=
  ⟨k.os.trans h.os, k.tape.trans h.tape, k.output.trans h.output, Nat.le_trans h.size k.size, fun i hi ho => (k.block i (Nat.lt_of_lt_of_le hi h.size) ho).trans (h.block i hi ho)⟩
theorem Spared.of {Y Z : Nat} {a b : World} {r : Option Nat} (h : a.grownBy b r) (hr : ∀ g, r = some g → Y ≤ g ∧ g < Z) : Spared Y Z a b :=
  ⟨h.os, h.tape, h.output, h.size, fun i hi ho => h.block i hi (fun e => by have := hr i e.symm; omega)⟩
/-- A list's block, its room and all. -/
def Roomy (w : World) (e z : Nat) (v : Value) (Y Z : Nat) : Prop :=
  ∃ g n cap cur, v = .slice (some ⟨g, 0, none⟩) n cap ∧ w.heap[g]? = some (.cells cur e (0, 0)) ∧ cur.size = cap * z ∧ n ≤ cap ∧ cap ≤ maxLen ∧ Y ≤ g ∧ g < Z
theorem Roomy.after {w w' : World} {e e' z z' cap' : Nat} {v : Value} {Y Z g : Nat} {c c' : Array Value} (h : Roomy w e z v Y Z) (hg : w.grownBy w' (some g)) (hb : w.heap[g]? = some (.cells c e' (0, 0))) (hb' : w'.heap[g]? = some (.cells c' e' (0, 0))) (hs : c.size = cap' * z') (hs' : c'.size = cap' * z') : Roomy w' e z v Y Z := by
  obtain ⟨b, n, cap, cur, rfl, h1, h2, h3, h4, h5, h6⟩ := h
  by_cases e2 : b = g
  · subst e2
    rw [hb] at h1
    simp only [Option.some.injEq, Obj.cells.injEq] at h1
    obtain ⟨rfl, rfl, _⟩ := h1
    exact ⟨b, n, cap, c', rfl, hb', by omega, h3, h4, h5, h6⟩
  · exact ⟨b, n, cap, cur, rfl, (hg.block b (Array.getElem?_eq_some_iff.1 h1).1 (by simpa using e2)).trans h1, h2, h3, h4, h5, h6⟩
theorem Roomy.kept {w w' : World} {e z : Nat} {v : Value} {Y Z : Nat} (h : Roomy w e z v Y Z) (hg : w.grownBy w' none) : Roomy w' e z v Y Z := by
  obtain ⟨b, n, cap, cur, rfl, h1, h2, h3, h4, h5, h6⟩ := h
  exact ⟨b, n, cap, cur, rfl, (hg.block b (Array.getElem?_eq_some_iff.1 h1).1 (by simp)).trans h1, h2, h3, h4, h5, h6⟩
/-- What was lent between Y and Z. -/
structure RoomB (w : World) (Y Z : Nat) (vp vi ve vf : Value) : Prop where
  p : Roomy w 9 1 vp Y Z
  i : Roomy w 3 1 vi Y Z
  e : Roomy w 61 4 ve Y Z
  f : Roomy w 3 1 vf Y Z
theorem LentB.room {w : World} {Y : Nat} {vp vi ve vf : Value} {a : Aut} (h : LentB w Y vp vi ve vf a) : RoomB w Y w.heap.size vp vi ve vf := by
  obtain ⟨g1, c1, x1, rfl, p1, p2, p3, p4, p5, p6⟩ := h.p.room
  obtain ⟨g2, c2, x2, rfl, q1, q2, q3, q4, q5, q6⟩ := h.i.room
  obtain ⟨g3, c3, x3, rfl, r1, r2, r3, r4, r5, r6⟩ := h.e.room
  obtain ⟨g4, c4, x4, rfl, s1, s2, s3, s4, s5, s6⟩ := h.f.room
  exact ⟨⟨_, _, _, _, rfl, p1, by omega, p3, p4, p5, p6⟩, ⟨_, _, _, _, rfl, q1, by omega, q3, q4, q5, q6⟩, ⟨_, _, _, _, rfl, r1, r2, r3, r4, r5, r6⟩, ⟨_, _, _, _, rfl, s1, by omega, s3, s4, s5, s6⟩⟩
set_option maxHeartbeats 2000000 in
theorem spoil_buchi {w : World} {Y Z : Nat} {xp xi xe xf : Value} (n : Int) (hx : RoomB w Y Z xp xi xe xf) (hZ : Z ≤ w.heap.size) :
    Calls Try.prog 31 #[autV xp xi xe xf n] w fun e w' => e = .returned (.tuple #[]) ∧ Spared Y Z w w' := by
  unfold autV
  have hg0 := World.grownBy_alloc w (.cells #[xp, .int .i64 n, xi, xe, xf] 47) none
  have HB0 := Lib.hid (heap_alloc_new w (.cells #[xp, .int .i64 n, xi, xe, xf] 47))
  have hRp := hx.p.kept hg0
  have HRi := Lib.hid (hx.i.kept hg0)
  have HRe := Lib.hid (hx.e.kept hg0)
  have HRf := Lib.hid (hx.f.kept hg0)
  have HS := Lib.hid (Spared.of (Y := Y) (Z := Z) hg0 (fun g e => by cases e))
  obtain ⟨g1, n1, c1, x1, rfl, p1, p2, p3, p4, p5, p6⟩ := hRp
  obtain ⟨gi, ni, ci, xi', rfl, _⟩ := hx.i
  obtain ⟨ge, ne, ce, xe', rfl, _⟩ := hx.e
  obtain ⟨gf, nf, cf, xf', rfl, _⟩ := hx.f
  clear hx
  have HP := Lib.hid (And.intro p1 p2)
  clear p1 p2 hg0
  go_enter Try.func31, Try.ntmps31
  go_wp2_with fail
  generalize w.alloc (.cells #[.slice (some ⟨g1, 0, none⟩) n1 c1, .int .i64 n, .slice (some ⟨gi, 0, none⟩) ni ci, .slice (some ⟨ge, 0, none⟩) ne ce, .slice (some ⟨gf, 0, none⟩) nf cf] 47) = w0 at HB0 HRi HRe HRf HS HP ⊢
  refine (spoil_texts HP.out.1 (by have := HP.out.2; omega) p3 p4).mono ?_
  rintro e w1 ⟨rfl, hg1, ⟨y1, hb1, hs1⟩, -⟩
  replace HRi := Lib.hid (HRi.out.after hg1 HP.out.1 hb1 HP.out.2 (by omega))
  replace HRe := Lib.hid (HRe.out.after hg1 HP.out.1 hb1 HP.out.2 (by omega))
  replace HRf := Lib.hid (HRf.out.after hg1 HP.out.1 hb1 HP.out.2 (by omega))
  replace HB0 := Lib.hid (blk_kept HB0.out hg1 (by simp; omega))
  replace HS := Lib.hid (HS.out.trans (Spared.of hg1 (fun g e => by cases e; exact ⟨p5, p6⟩)))
  obtain ⟨b0, b1, b2, b3, b4⟩ := buchi_cells HB0.out
  clear hg1 hb1 hs1 HP p3 p4 p5 p6
  obtain ⟨_, _, _, x2, e2, q1, q2, q3, q4, q5, q6⟩ := HRi.out
  cases e2
  have HP := Lib.hid (And.intro q1 q2)
  clear q1 q2
  go_wp2_with fail
  refine (spoil_ints HP.out.1 (by have := HP.out.2; omega) q3 q4).mono ?_
  rintro e w2 ⟨rfl, hg1, ⟨y2, hb1, hs1⟩, -⟩
  replace HRe := Lib.hid (HRe.out.after hg1 HP.out.1 hb1 HP.out.2 (by omega))
  replace HRf := Lib.hid (HRf.out.after hg1 HP.out.1 hb1 HP.out.2 (by omega))
  replace HB0 := Lib.hid (blk_kept HB0.out hg1 (by simp; omega))
  replace HS := Lib.hid (HS.out.trans (Spared.of hg1 (fun g e => by cases e; exact ⟨q5, q6⟩)))
  obtain ⟨b0, b1, b2, b3, b4⟩ := buchi_cells HB0.out
  clear hg1 hb1 hs1 HP q3 q4 q5 q6 HRi
  obtain ⟨_, _, _, x3, e3, r1, r2, r3, r4, r5, r6⟩ := HRe.out
  cases e3
  have HP := Lib.hid (And.intro r1 r2)
  clear r1 r2
  go_wp2_with fail
  refine (spoil_edges HP.out.1 HP.out.2 r3 r4).mono ?_
  rintro e w3 ⟨rfl, hg1, y3, hb1, hs1⟩
  replace HRf := Lib.hid (HRf.out.after hg1 HP.out.1 hb1 HP.out.2 hs1)
  replace HB0 := Lib.hid (blk_kept HB0.out hg1 (by simp; omega))
  replace HS := Lib.hid (HS.out.trans (Spared.of hg1 (fun g e => by cases e; exact ⟨r5, r6⟩)))
  obtain ⟨b0, b1, b2, b3, b4⟩ := buchi_cells HB0.out
  clear hg1 hb1 hs1 HP r3 r4 r5 r6 HRe
  obtain ⟨_, _, _, x4, e4, s1, s2, s3, s4, s5, s6⟩ := HRf.out
  cases e4
  have HP := Lib.hid (And.intro s1 s2)
  clear s1 s2
  go_wp2_with fail
  refine (spoil_ints HP.out.1 (by have := HP.out.2; omega) s3 s4).mono ?_
  rintro e w4 ⟨rfl, hg1, -, -⟩
  have HS2 := Lib.hid (HS.out.trans (Spared.of hg1 (fun g e => by cases e; exact ⟨s5, s6⟩)))
  go_wp2_with fail
  go_end0
  exact ⟨rfl, HS2.out⟩
end Go.Proofs.Ytcdepblajobemaa
namespace Go.Proofs.Ytcdepblajobemaa
open Go.RowKit

section
variable {a : Aut} {n : Nat} {V : List Nat}
theorem live_row (hn : n ≤ 64) {i : Nat} (h : i < (allB a n V).length) : i < (growB a n V i).length := by
  rcases Nat.lt_or_ge i (growB a n V i).length with h1 | h1
  · exact h1
  · have e := growB_end hn h1
    rw [e] at h1
    omega
/-- One number more. -/
theorem goes_num (hn : n ≤ 64) {i l : Nat} (h : i < (growB a n V i).length) (hl : l < 2 ^ a.P.length) :
    ∃ t : Nat, (numsB a n V i).getD l 0 = (t : Int) ∧ t ≤ (growL a n V i l).length ∧ t < (allB a n V).length ∧ (growL a n V i (l + 1)).length = max ((growL a n V i l).length) (t + 1) := by
  have h1 := nums_one (V := V) hn h hl
  have h2 := growL_succ (a := a) (n := n) (V := V) i l
  have h3 := (growL_all (V := V) hn h (show l + 1 ≤ 2 ^ a.P.length from hl)).length_le
  refine ⟨_, h1, ?_, ?_, ?_⟩
  all_goals split
  · rename_i hm
    exact Nat.le_of_lt (List.idxOf_lt_length_of_mem hm)
  · exact Nat.le_refl _
  · rename_i hm
    have := List.idxOf_lt_length_of_mem hm
    have h4 := (growL_all (V := V) hn h (show l ≤ 2 ^ a.P.length from Nat.le_of_lt hl)).length_le
    omega
  · rename_i hm
    rw [h2] at h3
    unfold addR at h3
    rw [if_neg hm] at h3
    simp only [List.length_append, List.length_singleton] at h3
    omega
  · rename_i hm
    have := List.idxOf_lt_length_of_mem hm
    rw [h2]
    unfold addR
    rw [if_pos hm]
    omega
  · rename_i hm
    rw [h2]
    unfold addR
    rw [if_neg hm]
    simp
theorem row_end (hn : n ≤ 64) (i : Nat) : ¬ ((growB a n V (i + 1)).length < i + 2 ∧ i + 1 < (allB a n V).length) := by
  rintro ⟨h1, h2⟩
  have := live_row hn h2
  omega
theorem live_end (hn : n ≤ 64) {N : Nat} (hN : (allB a n V).length = N) : (growB a n V N).length = N := by
  have h1 := (growB_all (a := a) (V := V) hn N).length_le
  rcases Nat.lt_or_ge N (growB a n V N).length with h2 | h2
  · omega
  · rw [growB_end hn h2, hN]
theorem live_zero : (growB a n V 0).length = 1 := by
  unfold growB
  simp [growN]
theorem bldR_len : (bldD a n V).R.length = (allB a n V).length := by simp [bldD]
theorem bldR_row {k : Nat} (h : k < (allB a n V).length) : (bldD a n V).R.getD k [] = numsB a n V k := by
  unfold bldD
  rw [List.getD_eq_getElem?_getD, List.getElem?_map, List.getElem?_range h]
  rfl
theorem allB_le (hn : n ≤ 14) : (allB a n V).length ≤ 16384 := by
  have h1 : (allB a n V).length ≤ 2 ^ n := growB_le (by omega) _
  have h2 : 2 ^ n ≤ 2 ^ 14 := Nat.pow_le_pow_right (by decide) hn
  omega
/-- What Build makes is right. -/
theorem bld_right (hn : n ≤ 14) (hok : chkA a = 0) : dErr (bldD a n V) = 0 := by
  have hnm : namesF a.P = true := by
    unfold chkA chkG rightF at hok
    split at hok
    · rename_i h1
      simp only [Bool.and_eq_true, decide_eq_true_eq] at h1
      exact h1.1
    · cases hok
  unfold dErr
  rw [if_pos]
  unfold dOk
  simp only [Bool.and_eq_true, decide_eq_true_eq, List.all_eq_true, List.mem_range]
  have hpos : 0 < (allB a n V).length := growB_pos _
  refine ⟨hnm, by rw [bldR_len]; omega, by rw [bldR_len]; simp [bldD], fun k hk => ?_⟩
  rw [bldR_len] at hk ⊢
  rw [bldR_row hk]
  unfold rowB
  have hlen := numsB_len a n V k
  have hp : 0 < (numsB a n V k).length := by rw [hlen]; exact Nat.pow_pos (by decide)
  have hr := live_row (V := V) (by omega) hk
  obtain ⟨⟨j1, hj1, e1⟩, -⟩ := minF_le (A := numsB a n V k) (Nat.le_refl _) hp
  obtain ⟨⟨j2, hj2, e2⟩, -⟩ := maxF_le (A := numsB a n V k) (Nat.le_refl _) hp
  rw [hlen] at hj1 hj2
  obtain ⟨t1, f1, -, g1, -⟩ := goes_num (V := V) (by omega) hr hj1
  obtain ⟨t2, f2, -, g2, -⟩ := goes_num (V := V) (by omega) hr hj2
  simp only [Bool.and_eq_true, decide_eq_true_eq]
  refine ⟨hlen, by rw [e1, f1]; omega, by rw [e2, f2]; omega⟩
end
/-- Run goes through when the letters are small. -/
theorem runD_some {d : Dfa} (h : Right d) {U : List Nat} (hU : ∀ k, k < U.length → U.getD k 0 < 2 ^ d.P.length) : ∀ k, k ≤ U.length → ∃ s, runD d (U.take k) = some s ∧ s < d.R.length
  | 0, _ => ⟨0, rfl, by have := h.pos; omega⟩
  | k + 1, hk => by
    obtain ⟨s, h1, h2⟩ := runD_some h hU k (by omega)
    obtain ⟨t, h3, h4⟩ := h.num s h2 _ (hU k (by omega))
    refine ⟨t, ?_, h3⟩
    rw [runD_take (by omega), h1]
    unfold stepD
    simp only []
    rw [if_pos (hU k (by omega)), h4]
    rfl
/-- One step of Run. -/
theorem run_goes {d : Dfa} (h : dErr d = 0) {U : List Nat} (hU : ∀ k, k < U.length → U.getD k 0 < 2 ^ d.P.length) {k : Nat} (hk : k < U.length) :
    runC d (U.take k) = 0 ∧ runC d (U.take (k + 1)) = 0 ∧ runS d (U.take k) < d.R.length ∧ (d.R.getD (runS d (U.take k)) []).getD (U.getD k 0) 0 = (runS d (U.take (k + 1)) : Int) := by
  have hr := right_of h
  obtain ⟨s, h1, h2⟩ := runD_some hr hU k (by omega)
  obtain ⟨t, h3, h4⟩ := runD_some hr hU (k + 1) hk
  obtain ⟨t', h5, h6⟩ := hr.num s h2 _ (hU k hk)
  have h7 := h3
  rw [runD_take hk, h1] at h7
  unfold stepD at h7
  simp only [] at h7
  rw [if_pos (hU k hk), h6] at h7
  unfold runC runS
  rw [if_pos h, if_pos h, if_pos h, if_pos h, h1, h3]
  refine ⟨rfl, rfl, h2, ?_⟩
  show (d.R.getD s []).getD (U.getD k 0) 0 = (t : Int)
  rw [h6]
  injection h7 with h7
  omega
end Go.Proofs.Ytcdepblajobemaa
