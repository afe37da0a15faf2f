/- Dfa: Build refuses (its walk). -/
import Derived.Test.YtcdepblajobemaaDfaBuild0
import Derived.WalkMore
set_option maxRecDepth 100000
namespace Go.Proofs.Ytcdepblajobemaa
open Go.RowKit

/-- The cells of a Buchi's box. -/
theorem buchi_cells {w : World} {b : Nat} {x0 x1 x2 x3 x4 : Value} (h : w.heap[b]? = some (.cells #[x0, x1, x2, x3, x4] 47 (0, 0))) :
    w.cell? ⟨b, 0, none⟩ = some x0 ∧ w.cell? ⟨b, 1, none⟩ = some x1 ∧ w.cell? ⟨b, 2, none⟩ = some x2 ∧ w.cell? ⟨b, 3, none⟩ = some x3 ∧ w.cell? ⟨b, 4, none⟩ = some x4 := by
  refine ⟨?_, ?_, ?_, ?_, ?_⟩ <;> simp [World.cell?, h]
theorem dfa_cells {w : World} {b : Nat} {x0 x1 x2 : Value} (h : w.heap[b]? = some (.cells #[x0, x1, x2] 27 (0, 0))) :
    w.cell? ⟨b, 0, none⟩ = some x0 ∧ w.cell? ⟨b, 1, none⟩ = some x1 ∧ w.cell? ⟨b, 2, none⟩ = some x2 ∧ ∀ k, w.frozen? ⟨b, k, none⟩ = false := by
  refine ⟨?_, ?_, ?_, fun k => ?_⟩ <;> simp [World.cell?, World.frozen?, h]
theorem gb_setAt (w : World) (b i : Nat) (v : Value) : w.grownBy (w.setCell ⟨b, i, none⟩ v) (some b) :=
  ⟨rfl, rfl, rfl, by simp [World.setCell], fun k _ hk => heap_setCell_other _ _ _ _ (fun e => hk (by simp [e]))⟩
theorem set3 {w : World} {b : Nat} {x0 x1 x2 : Value} {t : TypeId} (h : w.heap[b]? = some (.cells #[x0, x1, x2] t (0, 0))) (y0 y1 y2 : Value) :
    (((w.setCell ⟨b, 0, none⟩ y0).setCell ⟨b, 1, none⟩ y1).setCell ⟨b, 2, none⟩ y2).heap[b]? = some (.cells #[y0, y1, y2] t (0, 0)) ∧
    w.grownBy (((w.setCell ⟨b, 0, none⟩ y0).setCell ⟨b, 1, none⟩ y1).setCell ⟨b, 2, none⟩ y2) (some b) :=
  ⟨heap_setCell_same _ b 2 _ t y2 (heap_setCell_same _ b 1 _ t y1 (heap_setCell_same _ b 0 _ t y0 h)), gb_trans (gb_trans (gb_setAt _ _ _ _) (gb_setAt _ _ _ _) (Or.inr (Or.inl rfl))) (gb_setAt _ _ _ _) (Or.inr (Or.inl rfl))⟩
theorem chkA_or (a : Aut) : chkA a = 0 ∨ chkA a = 100 := by
  unfold chkA chkG
  split
  · exact Or.inl rfl
  · exact Or.inr rfl
set_option maxHeartbeats 4000000 in
theorem bld_no (vp vi ve vf : Value) (a : Aut) (q g cap nw : Nat) (V : List Nat) (most : Int) (w : World) (h : AutAt w vp vi ve vf a) (hs : SetAt w q g cap nw V) (hbad : chkA a ≠ 0 ∨ (nw : Int) ≠ a.n) :
    Calls Try.prog 23 #[autV vp vi ve vf a.n, .pointer (some ⟨q, 0, none⟩), .int .i64 most] w fun e w' => e = .returned (.tuple #[.agg #[.slice none 0 0, .slice none 0 0, .slice none 0 0], .int .i64 130]) ∧ w.grownBy w' none := by
  have HA := Lib.hid h
  have HS := Lib.hid hs
  obtain ⟨ap, cp, rfl, _⟩ := h.p
  obtain ⟨ai, ci, rfl, _⟩ := h.i
  obtain ⟨ae, ce, rfl, _⟩ := h.e
  obtain ⟨af, cf, rfl, _⟩ := h.f
  clear h hs
  have hga := World.grownBy_alloc w (.cells #[.slice ap a.P.length cp, .int .i64 a.n, .slice ai a.I.length ci, .slice ae a.E.length ce, .slice af a.F.length cf] 47) none
  have hba := heap_alloc_new w (.cells #[.slice ap a.P.length cp, .int .i64 a.n, .slice ai a.I.length ci, .slice ae a.E.length ce, .slice af a.F.length cf] 47)
  have hgb := World.grownBy_alloc (w.alloc (.cells #[.slice ap a.P.length cp, .int .i64 a.n, .slice ai a.I.length ci, .slice ae a.E.length ce, .slice af a.F.length cf] 47)) (.cells #[.slice none 0 0, .slice none 0 0, .slice none 0 0] 27) none
  have hbd := heap_alloc_new (w.alloc (.cells #[.slice ap a.P.length cp, .int .i64 a.n, .slice ai a.I.length ci, .slice ae a.E.length ce, .slice af a.F.length cf] 47)) (.cells #[.slice none 0 0, .slice none 0 0, .slice none 0 0] 27)
  have hbx := hgb.block w.heap.size (by simp [World.size_alloc]) (by simp) |>.trans hba
  rw [World.size_alloc] at hbd
  have HC : Hid (∀ wx, w.grownBy wx none → Calls Try.prog 49 #[autV (.slice ap a.P.length cp) (.slice ai a.I.length ci) (.slice ae a.E.length ce) (.slice af a.F.length cf) a.n] wx fun e w' => e = .returned (.int .i64 (chkA a)) ∧ wx.grownBy w' none) := Lib.hid fun wx hx => check_any _ _ _ _ a wx (HA.out.kept hx)
  have HW : Hid (∀ wx, w.grownBy wx none → Calls Try.prog 50 #[.pointer (some ⟨q, 0, none⟩)] wx fun e w' => e = .returned (.int .i64 (nw : Int)) ∧ wx = w') := Lib.hid fun wx hx => wid_any _ _ _ _ _ wx (HS.out.kept hx (by simp) (by simp))
  unfold autV at HC ⊢
  go_enter Try.func23, Try.ntmps23
  go_wp2_with fail
  go_step3
  go_wp2
  have HGD := Lib.hid (gb_trans hga hgb (Or.inl rfl))
  have HBX := Lib.hid hbx
  have HSZ := Lib.hid (show ((w.alloc (.cells #[.slice ap a.P.length cp, .int .i64 a.n, .slice ai a.I.length ci, .slice ae a.E.length ce, .slice af a.F.length cf] 47)).alloc (.cells #[.slice none 0 0, .slice none 0 0, .slice none 0 0] 27)).heap.size = w.heap.size + 1 + 1 by rw [World.size_alloc, World.size_alloc])
  have HBD := Lib.hid hbd
  clear hga hgb hba hbx hbd
  generalize ((w.alloc (.cells #[.slice ap a.P.length cp, .int .i64 a.n, .slice ai a.I.length ci, .slice ae a.E.length ce, .slice af a.F.length cf] 47)).alloc (.cells #[.slice none 0 0, .slice none 0 0, .slice none 0 0] 27)) = w0 at HGD HBX HBD HSZ ⊢
  have HSS : Hid (∀ wx, w0.grownBy wx none → w0.grownBy wx none ∧ wx.cell? ⟨w.heap.size, 0, none⟩ = some (.slice ap a.P.length cp) ∧ wx.cell? ⟨w.heap.size, 1, none⟩ = some (.int .i64 a.n) ∧ wx.cell? ⟨w.heap.size, 2, none⟩ = some (.slice ai a.I.length ci) ∧ wx.cell? ⟨w.heap.size, 3, none⟩ = some (.slice ae a.E.length ce) ∧ wx.cell? ⟨w.heap.size, 4, none⟩ = some (.slice af a.F.length cf)) := Lib.hid fun wx hx => by
    obtain ⟨b0, b1, b2, b3, b4⟩ := buchi_cells HBX.out
    exact ⟨hx, hx.cell b0 (by simp), hx.cell b1 (by simp), hx.cell b2 (by simp), hx.cell b3 (by simp), hx.cell b4 (by simp)⟩
  have hS0 := HSS.out _ (gb_drew w0 none)
  by_cases hc : chkA a = 0
  case neg =>
    rw [(chkA_or a).resolve_left hc] at HC
    clear hc hbad
    refine wp_region_held_drew (S := (fun wx => w0.grownBy wx none ∧ wx.cell? ⟨w.heap.size, 0, none⟩ = some (.slice ap a.P.length cp) ∧ wx.cell? ⟨w.heap.size, 1, none⟩ = some (.int .i64 a.n) ∧ wx.cell? ⟨w.heap.size, 2, none⟩ = some (.slice ai a.I.length ci) ∧ wx.cell? ⟨w.heap.size, 3, none⟩ = some (.slice ae a.E.length ce) ∧ wx.cell? ⟨w.heap.size, 4, none⟩ = some (.slice af a.F.length cf))) (by kernel_rfl) (by exact hS0) (fun hHeld => ?_)
    refine wpAnyH_take (i := 0) (oi := ({ dst := some 19, op := Go.Op.load 47 (Go.Operand.tmp 3), type := 47, pos := "dfa.go:48", after := #[], guard := none } : Oper)) (v := ?_) rfl (by kernel_rfl) (by kernel_rfl) (by kernel_rfl) (fun _ _ _ h => h) (Or.inl ⟨by rfl, ?_⟩) (by assumption) ?_
    rotate_left
    · (intro wS hSw; (try dsimp only at hSw); go_simp <;> with_reducible rfl)
    try simp only [Act.put, List.setIfInBounds_toArray, List.set_cons_zero, List.set_cons_succ]
    refine wpAnyH_ready (rs := [1]) (by kernel_rfl) (by simp) ?_
    refine AllReadyH.cons (o := ({ dst := some 20, op := Go.Op.call { callee := Go.Callee.value (Go.Operand.func 49), args := #[Go.Operand.tmp 19], argTypes := #[47] }, type := 33, pos := "dfa.go:48", after := #[{ on := 0, ground := Go.Ground.data }], guard := none } : Oper)) rfl (fun K hK => ?_) AllReadyH.nil
    go_simp
    ((with_reducible refine (HC.out _ (gb_trans HGD.out (And.left (by assumption)) (Or.inl rfl))).mono ?_); rintro e w1 ⟨rfl, hg1⟩; have hS1 := HSS.out _ (gb_trans (And.left (by assumption)) hg1 (Or.inl rfl)))
    refine hK.out _ _ (by exact hS1) (fun hHeld => ?_)
    clear hK K
    try simp only [Act.put, List.setIfInBounds_toArray, List.set_cons_zero, List.set_cons_succ]
    refine wpAnyH_take (i := 2) (oi := ({ dst := some 21, op := Go.Op.binOp Go.BinOp.neq 33 (Go.Operand.tmp 20) (Go.Operand.const (Go.Value.int Go.IntKind.i64 0)) 33, type := 4, pos := "dfa.go:48", after := #[{ on := 1, ground := Go.Ground.data }], guard := none } : Oper)) (v := ?_) rfl (by kernel_rfl) (by kernel_rfl) (by kernel_rfl) (fun _ _ _ h => h) (Or.inl ⟨by rfl, ?_⟩) (by assumption) ?_
    rotate_left
    · (intro wS hSw; (try dsimp only at hSw); go_simp <;> with_reducible rfl)
    try simp only [Act.put, List.setIfInBounds_toArray, List.set_cons_zero, List.set_cons_succ]
    refine wpAnyH_take (i := 3) (oi := ({ dst := some 22, op := Go.Op.move (Go.Operand.tmp 21), type := 4, pos := "dfa.go:48", after := #[{ on := 2, ground := Go.Ground.data }, { on := 1, ground := Go.Ground.chain }], guard := none } : Oper)) (v := ?_) rfl (by kernel_rfl) (by kernel_rfl) (by kernel_rfl) (fun _ _ _ h => h) (Or.inl ⟨by rfl, ?_⟩) (by assumption) ?_
    rotate_left
    · (intro wS hSw; (try dsimp only at hSw); go_simp <;> with_reducible rfl)
    try simp only [Act.put, List.setIfInBounds_toArray, List.set_cons_zero, List.set_cons_succ]
    refine wpAnyH_take (i := 4) (oi := ({ dst := some 23, op := Go.Op.move (Go.Operand.tmp 1), type := 50, pos := "dfa.go:48", after := #[{ on := 3, ground := Go.Ground.guard }], guard := some (3, false) } : Oper)) (v := undef) rfl (by kernel_rfl) (by kernel_rfl) (by kernel_rfl) (fun _ _ _ h => h) (Or.inr ⟨by rfl, rfl⟩) (by assumption) ?_
    try simp only [Act.put, List.setIfInBounds_toArray, List.set_cons_zero, List.set_cons_succ]
    refine wpAnyH_take (i := 5) (oi := ({ dst := some 24, op := Go.Op.call { callee := Go.Callee.value (Go.Operand.func 50), args := #[Go.Operand.tmp 23], argTypes := #[50] }, type := 3, pos := "dfa.go:48", after := #[{ on := 4, ground := Go.Ground.data }, { on := 3, ground := Go.Ground.chain }, { on := 3, ground := Go.Ground.guard }], guard := some (3, false) } : Oper)) (v := undef) rfl (by kernel_rfl) (by kernel_rfl) (by kernel_rfl) (fun _ _ _ h => h) (Or.inr ⟨by rfl, rfl⟩) (by assumption) ?_
    try simp only [Act.put, List.setIfInBounds_toArray, List.set_cons_zero, List.set_cons_succ]
    refine wpAnyH_take (i := 6) (oi := ({ dst := some 25, op := Go.Op.fieldAddr 47 (Go.Operand.tmp 3) 1, type := 0, pos := "dfa.go:48", after := #[{ on := 3, ground := Go.Ground.guard }], guard := some (3, false) } : Oper)) (v := undef) rfl (by kernel_rfl) (by kernel_rfl) (by kernel_rfl) (fun _ _ _ h => h) (Or.inr ⟨by rfl, rfl⟩) (by assumption) ?_
    try simp only [Act.put, List.setIfInBounds_toArray, List.set_cons_zero, List.set_cons_succ]
    refine wpAnyH_take (i := 7) (oi := ({ dst := some 26, op := Go.Op.load 3 (Go.Operand.tmp 25), type := 3, pos := "dfa.go:48", after := #[{ on := 6, ground := Go.Ground.data }, { on := 3, ground := Go.Ground.guard }], guard := some (3, false) } : Oper)) (v := undef) rfl (by kernel_rfl) (by kernel_rfl) (by kernel_rfl) (fun _ _ _ h => h) (Or.inr ⟨by rfl, rfl⟩) (by assumption) ?_
    try simp only [Act.put, List.setIfInBounds_toArray, List.set_cons_zero, List.set_cons_succ]
    refine wpAnyH_take (i := 8) (oi := ({ dst := some 27, op := Go.Op.binOp Go.BinOp.neq 3 (Go.Operand.tmp 24) (Go.Operand.tmp 26) 3, type := 4, pos := "dfa.go:48", after := #[{ on := 5, ground := Go.Ground.data }, { on := 7, ground := Go.Ground.data }, { on := 3, ground := Go.Ground.guard }], guard := some (3, false) } : Oper)) (v := undef) rfl (by kernel_rfl) (by kernel_rfl) (by kernel_rfl) (fun _ _ _ h => h) (Or.inr ⟨by rfl, rfl⟩) (by assumption) ?_
    try simp only [Act.put, List.setIfInBounds_toArray, List.set_cons_zero, List.set_cons_succ]
    refine wpAnyH_take (i := 9) (oi := ({ dst := some 28, op := Go.Op.pick (Go.Operand.tmp 22) (Go.Operand.const (Go.Value.bool true)) (Go.Operand.tmp 27), type := 4, pos := "dfa.go:48", after := #[{ on := 3, ground := Go.Ground.data }, { on := 8, ground := Go.Ground.data }], guard := none } : Oper)) (v := ?_) rfl (by kernel_rfl) (by kernel_rfl) (by kernel_rfl) (fun _ _ _ h => h) (Or.inl ⟨by rfl, ?_⟩) (by assumption) ?_
    rotate_left
    · (intro wS hSw; (try dsimp only at hSw); go_simp <;> with_reducible rfl)
    try simp only [Act.put, List.setIfInBounds_toArray, List.set_cons_zero, List.set_cons_succ]
    refine wpAnyH_done (by kernel_rfl) ?_ _
    obtain ⟨hw1, _⟩ := hHeld
    have hd1 := (hw1.block _ (by rw [HSZ.out]; omega) (by simp)).trans HBD.out
    have HG1 := Lib.hid hw1
    obtain ⟨c0, c1, c2, f0⟩ := dfa_cells hd1
    have f1 := f0 1
    have f2 := f0 2
    have f0 := f0 0
    have HD1 := Lib.hid hd1
    clear hw1 hd1
    go_wp2
    rw [Exit.noGoto_ret]
    obtain ⟨hs3, hg3⟩ := set3 HD1.out (.slice none 0 0) (.slice none 0 0) (.slice none 0 0)
    exact bodyPost_ret (results_dfa rfl _ _ (w.heap.size + 1) _ rfl hs3 rfl) rfl ⟨rfl, gb_trans (gb_trans HGD.out HG1.out (Or.inl rfl)) hg3 (Or.inr (Or.inr ⟨_, rfl, by omega⟩))⟩
  have hne : (((nw : Int) != a.n) = true) := by
    rw [bne_iff_ne]
    rcases hbad with h | h
    · exact absurd hc h
    · exact h
  rw [hc] at HC
  clear hc hbad
  refine wp_region_held_drew (S := (fun wx => w0.grownBy wx none ∧ wx.cell? ⟨w.heap.size, 0, none⟩ = some (.slice ap a.P.length cp) ∧ wx.cell? ⟨w.heap.size, 1, none⟩ = some (.int .i64 a.n) ∧ wx.cell? ⟨w.heap.size, 2, none⟩ = some (.slice ai a.I.length ci) ∧ wx.cell? ⟨w.heap.size, 3, none⟩ = some (.slice ae a.E.length ce) ∧ wx.cell? ⟨w.heap.size, 4, none⟩ = some (.slice af a.F.length cf))) (by kernel_rfl) (by exact hS0) (fun hHeld => ?_)
  refine wpAnyH_take (i := 0) (oi := ({ dst := some 19, op := Go.Op.load 47 (Go.Operand.tmp 3), type := 47, pos := "dfa.go:48", after := #[], guard := none } : Oper)) (v := ?_) rfl (by kernel_rfl) (by kernel_rfl) (by kernel_rfl) (fun _ _ _ h => h) (Or.inl ⟨by rfl, ?_⟩) (by assumption) ?_
  rotate_left
  · (intro wS hSw; (try dsimp only at hSw); go_simp <;> with_reducible rfl)
  try simp only [Act.put, List.setIfInBounds_toArray, List.set_cons_zero, List.set_cons_succ]
  refine wpAnyH_ready (rs := [1]) (by kernel_rfl) (by simp) ?_
  refine AllReadyH.cons (o := ({ dst := some 20, op := Go.Op.call { callee := Go.Callee.value (Go.Operand.func 49), args := #[Go.Operand.tmp 19], argTypes := #[47] }, type := 33, pos := "dfa.go:48", after := #[{ on := 0, ground := Go.Ground.data }], guard := none } : Oper)) rfl (fun K hK => ?_) AllReadyH.nil
  go_simp
  ((with_reducible refine (HC.out _ (gb_trans HGD.out (And.left (by assumption)) (Or.inl rfl))).mono ?_); rintro e w1 ⟨rfl, hg1⟩; have hS1 := HSS.out _ (gb_trans (And.left (by assumption)) hg1 (Or.inl rfl)))
  refine hK.out _ _ (by exact hS1) (fun hHeld => ?_)
  clear hK K
  try simp only [Act.put, List.setIfInBounds_toArray, List.set_cons_zero, List.set_cons_succ]
  refine wpAnyH_take (i := 2) (oi := ({ dst := some 21, op := Go.Op.binOp Go.BinOp.neq 33 (Go.Operand.tmp 20) (Go.Operand.const (Go.Value.int Go.IntKind.i64 0)) 33, type := 4, pos := "dfa.go:48", after := #[{ on := 1, ground := Go.Ground.data }], guard := none } : Oper)) (v := ?_) rfl (by kernel_rfl) (by kernel_rfl) (by kernel_rfl) (fun _ _ _ h => h) (Or.inl ⟨by rfl, ?_⟩) (by assumption) ?_
  rotate_left
  · (intro wS hSw; (try dsimp only at hSw); go_simp <;> with_reducible rfl)
  try simp only [Act.put, List.setIfInBounds_toArray, List.set_cons_zero, List.set_cons_succ]
  refine wpAnyH_take (i := 3) (oi := ({ dst := some 22, op := Go.Op.move (Go.Operand.tmp 21), type := 4, pos := "dfa.go:48", after := #[{ on := 2, ground := Go.Ground.data }, { on := 1, ground := Go.Ground.chain }], guard := none } : Oper)) (v := ?_) rfl (by kernel_rfl) (by kernel_rfl) (by kernel_rfl) (fun _ _ _ h => h) (Or.inl ⟨by rfl, ?_⟩) (by assumption) ?_
  rotate_left
  · (intro wS hSw; (try dsimp only at hSw); go_simp <;> with_reducible rfl)
  try simp only [Act.put, List.setIfInBounds_toArray, List.set_cons_zero, List.set_cons_succ]
  refine wpAnyH_take (i := 4) (oi := ({ dst := some 23, op := Go.Op.move (Go.Operand.tmp 1), type := 50, pos := "dfa.go:48", after := #[{ on := 3, ground := Go.Ground.guard }], guard := some (3, false) } : Oper)) (v := ?_) rfl (by kernel_rfl) (by kernel_rfl) (by kernel_rfl) (fun _ _ _ h => h) (Or.inl ⟨by rfl, ?_⟩) (by assumption) ?_
  rotate_left
  · (intro wS hSw; (try dsimp only at hSw); go_simp <;> with_reducible rfl)
  try simp only [Act.put, List.setIfInBounds_toArray, List.set_cons_zero, List.set_cons_succ]
  refine wpAnyH_take (i := 6) (oi := ({ dst := some 25, op := Go.Op.fieldAddr 47 (Go.Operand.tmp 3) 1, type := 0, pos := "dfa.go:48", after := #[{ on := 3, ground := Go.Ground.guard }], guard := some (3, false) } : Oper)) (v := ?_) rfl (by kernel_rfl) (by kernel_rfl) (by kernel_rfl) (fun _ _ _ h => h) (Or.inl ⟨by rfl, ?_⟩) (by assumption) ?_
  rotate_left
  · (intro wS hSw; (try dsimp only at hSw); go_simp <;> with_reducible rfl)
  try simp only [Act.put, List.setIfInBounds_toArray, List.set_cons_zero, List.set_cons_succ]
  refine wpAnyH_take (i := 7) (oi := ({ dst := some 26, op := Go.Op.load 3 (Go.Operand.tmp 25), type := 3, pos := "dfa.go:48", after := #[{ on := 6, ground := Go.Ground.data }, { on := 3, ground := Go.Ground.guard }], guard := some (3, false) } : Oper)) (v := ?_) rfl (by kernel_rfl) (by kernel_rfl) (by kernel_rfl) (fun _ _ _ h => h) (Or.inl ⟨by rfl, ?_⟩) (by assumption) ?_
  rotate_left
  · (intro wS hSw; (try dsimp only at hSw); go_simp <;> with_reducible rfl)
  try simp only [Act.put, List.setIfInBounds_toArray, List.set_cons_zero, List.set_cons_succ]
  refine wpAnyH_ready (rs := [5]) (by kernel_rfl) (by simp) ?_
  refine AllReadyH.cons (o := ({ dst := some 24, op := Go.Op.call { callee := Go.Callee.value (Go.Operand.func 50), args := #[Go.Operand.tmp 23], argTypes := #[50] }, type := 3, pos := "dfa.go:48", after := #[{ on := 4, ground := Go.Ground.data }, { on := 3, ground := Go.Ground.chain }, { on := 3, ground := Go.Ground.guard }], guard := some (3, false) } : Oper)) rfl (fun K hK => ?_) AllReadyH.nil
  go_simp
  ((with_reducible refine (HW.out _ (gb_trans HGD.out (And.left (by assumption)) (Or.inl rfl))).mono ?_); rintro e w2 ⟨rfl, rfl⟩)
  refine hK.out _ _ (by assumption) (fun hHeld => ?_)
  clear hK K
  try simp only [Act.put, List.setIfInBounds_toArray, List.set_cons_zero, List.set_cons_succ]
  refine wpAnyH_take (i := 8) (oi := ({ dst := some 27, op := Go.Op.binOp Go.BinOp.neq 3 (Go.Operand.tmp 24) (Go.Operand.tmp 26) 3, type := 4, pos := "dfa.go:48", after := #[{ on := 5, ground := Go.Ground.data }, { on := 7, ground := Go.Ground.data }, { on := 3, ground := Go.Ground.guard }], guard := some (3, false) } : Oper)) (v := ?_) rfl (by kernel_rfl) (by kernel_rfl) (by kernel_rfl) (fun _ _ _ h => h) (Or.inl ⟨by rfl, ?_⟩) (by assumption) ?_
  rotate_left
  · (intro wS hSw; (try dsimp only at hSw); go_simp <;> with_reducible rfl)
  try simp only [Act.put, List.setIfInBounds_toArray, List.set_cons_zero, List.set_cons_succ]
  refine wpAnyH_take (i := 9) (oi := ({ dst := some 28, op := Go.Op.pick (Go.Operand.tmp 22) (Go.Operand.const (Go.Value.bool true)) (Go.Operand.tmp 27), type := 4, pos := "dfa.go:48", after := #[{ on := 3, ground := Go.Ground.data }, { on := 8, ground := Go.Ground.data }], guard := none } : Oper)) (v := ?_) rfl (by kernel_rfl) (by kernel_rfl) (by kernel_rfl) (fun _ _ _ h => h) (Or.inl ⟨by rfl, ?_⟩) (by assumption) ?_
  rotate_left
  · (intro wS hSw; (try dsimp only at hSw); go_simp <;> with_reducible rfl)
  try simp only [Act.put, List.setIfInBounds_toArray, List.set_cons_zero, List.set_cons_succ]
  refine wpAnyH_done (by kernel_rfl) ?_ _
  obtain ⟨hw1, _⟩ := hHeld
  have hd1 := (hw1.block _ (by rw [HSZ.out]; omega) (by simp)).trans HBD.out
  have HG1 := Lib.hid hw1
  obtain ⟨c0, c1, c2, f0⟩ := dfa_cells hd1
  have f1 := f0 1
  have f2 := f0 2
  have f0 := f0 0
  have HD1 := Lib.hid hd1
  clear hw1 hd1
  go_wp2
  rw [Exit.noGoto_ret]
  obtain ⟨hs3, hg3⟩ := set3 HD1.out (.slice none 0 0) (.slice none 0 0) (.slice none 0 0)
  exact bodyPost_ret (results_dfa rfl _ _ (w.heap.size + 1) _ rfl hs3 rfl) rfl ⟨rfl, gb_trans (gb_trans HGD.out HG1.out (Or.inl rfl)) hg3 (Or.inr (Or.inr ⟨_, rfl, by omega⟩))⟩
end Go.Proofs.Ytcdepblajobemaa
