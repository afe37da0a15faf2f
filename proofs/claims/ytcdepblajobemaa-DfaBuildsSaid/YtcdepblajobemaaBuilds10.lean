/- Dfa: the example holds. -/
import Derived.Test.YtcdepblajobemaaBuilds09
import Derived.Outline
set_option maxRecDepth 100000
namespace Go.Proofs.Ytcdepblajobemaa
open Go.RowKit

set_option maxHeartbeats 4000000 in
theorem known_any (w : World) : Calls Try.prog 7 #[] w fun e w' => e = .returned (.bool true) ∧ w.grownBy w' none := by
  have HOf : Hid (∀ (wx : World) (v : Value), IntsAt wx v [0] → Calls Try.prog 22 #[.int .i64 1, v] wx (MadeH wx 1 (ofL 1 [0]))) := Lib.hid fun wx v h => of_h 1 v [0] wx (by decide) h
  go_enter Try.func7, Try.ntmps7
  go_wp2_with fail
  obtain ⟨hg0, h0, h1, h2, h3, h4⟩ := alloc5 w (.cells #[.string ⟨#[97]⟩] 9) (.cells #[.int .i64 0] 3) (.cells #[.int .i64 0, .int .i64 0, .int .u16 1, .int .u16 0] 61) (.cells #[.int .i64 0] 3) (.cells #[.slice (some ⟨w.heap.size, 0, none⟩) 1 1, .int .i64 1, .slice (some ⟨w.heap.size + 1, 0, none⟩) 1 1, .slice (some ⟨w.heap.size + 1 + 1, 0, none⟩) 1 1, .slice (some ⟨w.heap.size + 1 + 1 + 1, 0, none⟩) 1 1] 47)
  generalize (((((w.alloc (.cells #[.string ⟨#[97]⟩] 9)).alloc (.cells #[.int .i64 0] 3)).alloc (.cells #[.int .i64 0, .int .i64 0, .int .u16 1, .int .u16 0] 61)).alloc (.cells #[.int .i64 0] 3)).alloc (.cells #[.slice (some ⟨w.heap.size, 0, none⟩) 1 1, .int .i64 1, .slice (some ⟨w.heap.size + 1, 0, none⟩) 1 1, .slice (some ⟨w.heap.size + 1 + 1, 0, none⟩) 1 1, .slice (some ⟨w.heap.size + 1 + 1 + 1, 0, none⟩) 1 1] 47)) = we at hg0 h0 h1 h2 h3 h4 ⊢
  have HA := Lib.hid (k_aut h0 h1 h2 h3)
  have HBX := Lib.hid h4
  have HG0 := Lib.hid hg0
  clear h0 h1 h2 h3 h4 hg0
  have HSS : Hid (∀ wx, we.grownBy wx none → we.grownBy wx none ∧ wx.cell? ⟨w.heap.size + 1 + 1 + 1 + 1, 0, none⟩ = some (.slice (some ⟨w.heap.size, 0, none⟩) 1 1) ∧ wx.cell? ⟨w.heap.size + 1 + 1 + 1 + 1, 1, none⟩ = some (.int .i64 1) ∧ wx.cell? ⟨w.heap.size + 1 + 1 + 1 + 1, 2, none⟩ = some (.slice (some ⟨w.heap.size + 1, 0, none⟩) 1 1) ∧ wx.cell? ⟨w.heap.size + 1 + 1 + 1 + 1, 3, none⟩ = some (.slice (some ⟨w.heap.size + 1 + 1, 0, none⟩) 1 1) ∧ wx.cell? ⟨w.heap.size + 1 + 1 + 1 + 1, 4, none⟩ = some (.slice (some ⟨w.heap.size + 1 + 1 + 1, 0, none⟩) 1 1)) := Lib.hid fun wx hx => by
    obtain ⟨b0, b1, b2, b3, b4⟩ := buchi_cells HBX.out
    exact ⟨hx, hx.cell b0 (by simp), hx.cell b1 (by simp), hx.cell b2 (by simp), hx.cell b3 (by simp), hx.cell b4 (by simp)⟩
  have HBl2 : Hid (∀ (wx : World) (q g cap : Nat), we.grownBy wx none → SetAt wx q g cap 1 (ofL 1 [0]) → Calls Try.prog 23 #[.agg #[.slice (some ⟨w.heap.size, 0, none⟩) 1 1, .int .i64 1, .slice (some ⟨w.heap.size + 1, 0, none⟩) 1 1, .slice (some ⟨w.heap.size + 1 + 1, 0, none⟩) 1 1, .slice (some ⟨w.heap.size + 1 + 1 + 1, 0, none⟩) 1 1], .pointer (some ⟨q, 0, none⟩), .int .i64 2] wx fun e w' => ∃ xp yp xn yn xl yl us, e = .returned (.tuple #[.agg #[.slice xp 1 yp, .slice xn 2 yn, .slice xl 2 yl], .int .i64 0]) ∧ BuiltAt wx.heap.size w' (.slice xp 1 yp) (.slice xn 2 yn) (.slice xl 2 yl) us [kName] kR kB ∧ wx.grownBy w' none) :=
    Lib.hid fun wx q g cap hx hs => k_bld2 _ _ _ _ q g cap wx (HA.out.kept hx) hs
  have HBl1 : Hid (∀ (wx : World) (q g cap : Nat), we.grownBy wx none → SetAt wx q g cap 1 (ofL 1 [0]) → Calls Try.prog 23 #[.agg #[.slice (some ⟨w.heap.size, 0, none⟩) 1 1, .int .i64 1, .slice (some ⟨w.heap.size + 1, 0, none⟩) 1 1, .slice (some ⟨w.heap.size + 1 + 1, 0, none⟩) 1 1, .slice (some ⟨w.heap.size + 1 + 1 + 1, 0, none⟩) 1 1], .pointer (some ⟨q, 0, none⟩), .int .i64 1] wx fun e w' => e = .returned (.tuple #[.agg #[.slice none 0 0, .slice none 0 0, .slice none 0 0], .int .i64 131]) ∧ wx.grownBy w' none) :=
    Lib.hid fun wx q g cap hx hs => k_bld1 _ _ _ _ q g cap wx (HA.out.kept hx) hs
  go_cut [2, 3] (fun s2 s3 wx => ∃ (bd : Nat) (xp : Option Addr) (yp : Nat) (xn : Option Addr) (yn : Nat) (xl : Option Addr) (yl : Nat) (us : List Value), s2 = .pointer (some ⟨bd, 0, none⟩) ∧ s3 = .int .i64 0 ∧ Hid (wx.heap[bd]? = some (.cells #[.slice xp 1 yp, .slice xn 2 yn, .slice xl 2 yl] 27 (0, 0))) ∧ (∃ Z, Hid (BuiltAt Z wx (.slice xp 1 yp) (.slice xn 2 yn) (.slice xl 2 yl) us [kName] kR kB)) ∧ Hid (we.grownBy wx none))
  case first =>
    refine wp_region_held_drew (S := (fun wx => we.grownBy wx none ∧ wx.cell? ⟨w.heap.size + 1 + 1 + 1 + 1, 0, none⟩ = some (.slice (some ⟨w.heap.size, 0, none⟩) 1 1) ∧ wx.cell? ⟨w.heap.size + 1 + 1 + 1 + 1, 1, none⟩ = some (.int .i64 1) ∧ wx.cell? ⟨w.heap.size + 1 + 1 + 1 + 1, 2, none⟩ = some (.slice (some ⟨w.heap.size + 1, 0, none⟩) 1 1) ∧ wx.cell? ⟨w.heap.size + 1 + 1 + 1 + 1, 3, none⟩ = some (.slice (some ⟨w.heap.size + 1 + 1, 0, none⟩) 1 1) ∧ wx.cell? ⟨w.heap.size + 1 + 1 + 1 + 1, 4, none⟩ = some (.slice (some ⟨w.heap.size + 1 + 1 + 1, 0, none⟩) 1 1))) (by kernel_rfl) (HSS.out _ (gb_drew _ none)) (fun hHeld => ?_)
    have HG := Lib.hid (gb_drew we none)
    generalize we.drew = wx0 at hHeld HG ⊢
    refine wpAnyH_take (i := 0) (oi := ({ dst := some 17, op := Go.Op.load 47 (Go.Operand.tmp 1), type := 47, pos := "law.go:23", after := #[], guard := none } : Oper)) (v := ?_) rfl (by kernel_rfl) (by kernel_rfl) (by kernel_rfl) (fun _ _ _ h => h) (Or.inl ⟨by rfl, ?_⟩) (by assumption) ?_
    rotate_left
    · (intro wS hSw; (try dsimp only at hSw); go_simp <;> with_reducible rfl)
    try simp only [Act.put, List.setIfInBounds_toArray, List.set_cons_zero, List.set_cons_succ]
    refine wpAnyH_ready (rs := [1, 7]) (by kernel_rfl) (by simp) ?_
    refine AllReadyH.cons (o := ({ dst := some 18, op := Go.Op.buildSlice 43 1 #[(0, Go.Operand.const (Go.Value.int Go.IntKind.i64 0))], type := 43, pos := "law.go:23", after := #[], guard := none } : Oper)) rfl (fun K hK => ?_) ?_
    · go_simp
      have hgN := World.grownBy_alloc wx0 (.cells #[.int .i64 0] 3) none
      have hbN := Lib.hid (heap_alloc_new wx0 (.cells #[.int .i64 0] 3))
      have hlN := Lib.hid (Nat.le_refl wx0.heap.size)
      generalize wx0.alloc (.cells #[.int .i64 0] 3) = wx1 at hgN hbN ⊢
      obtain ⟨bs, hb_bs⟩ : ∃ b : Nat, b = wx0.heap.size := ⟨_, rfl⟩
      rw [← hb_bs] at hbN ⊢
      have HB_bs := hbN
      have HL_bs := Lib.hid (Nat.le_trans HG.out.size (Nat.le_of_eq hb_bs.symm))
      clear hbN hlN hb_bs
      replace HG := Lib.hid (gb_trans HG.out hgN (Or.inl rfl))
      clear hgN
      refine hK.out _ _ (HSS.out _ HG.out) (fun hHeld => ?_)
      clear hK K
      try simp only [Act.put, List.setIfInBounds_toArray, List.set_cons_zero, List.set_cons_succ]
      refine wpAnyH_ready (rs := [2, 7]) (by kernel_rfl) (by simp) ?_
      refine AllReadyH.cons (o := ({ dst := some 19, op := Go.Op.call { callee := Go.Callee.value (Go.Operand.func 22), args := #[Go.Operand.const (Go.Value.int Go.IntKind.i64 1), Go.Operand.tmp 18], argTypes := #[3, 43] }, type := 50, pos := "law.go:23", after := #[{ on := 1, ground := Go.Ground.data }], guard := none } : Oper)) rfl (fun K hK => ?_) ?_
      · go_simp
        ((with_reducible refine (HOf.out _ _ (ints_blk HB_bs.out (by decide))).mono ?_); rintro e wx2 ⟨q, gq, cq, M, rfl, hq1, hq2, hsq, hMq, hgN⟩)
        have HSq := Lib.hid hsq
        rw [hMq.out] at HSq
        clear hsq hq1 hq2 hMq
        replace HB_bs := Lib.hid (blk_kept HB_bs.out hgN (by simp))
        replace HG := Lib.hid (gb_trans HG.out hgN (Or.inl rfl))
        clear hgN
        refine hK.out _ _ (HSS.out _ HG.out) (fun hHeld => ?_)
        clear hK K
        try simp only [Act.put, List.setIfInBounds_toArray, List.set_cons_zero, List.set_cons_succ]
        refine wpAnyH_ready (rs := [3, 7]) (by kernel_rfl) (by simp) ?_
        refine AllReadyH.cons (o := ({ dst := some 20, op := Go.Op.call { callee := Go.Callee.value (Go.Operand.func 23), args := #[Go.Operand.tmp 17, Go.Operand.tmp 19, Go.Operand.const (Go.Value.int Go.IntKind.i64 2)], argTypes := #[47, 50, 3] }, type := 52, pos := "law.go:23", after := #[{ on := 0, ground := Go.Ground.data }, { on := 2, ground := Go.Ground.data }, { on := 2, ground := Go.Ground.chain }], guard := none } : Oper)) rfl (fun K hK => ?_) ?_
        · go_simp
          ((with_reducible refine (HBl2.out _ _ _ _ HG.out HSq.out).mono ?_); rintro e wx3 ⟨xp, yp, xn, yn, xl, yl, us, rfl, hbt, hgN⟩)
          have HBT := Lib.hid hbt
          clear hbt
          replace HB_bs := Lib.hid (blk_kept HB_bs.out hgN (by simp))
          replace HSq := Lib.hid (HSq.out.kept hgN (by simp) (by simp))
          replace HG := Lib.hid (gb_trans HG.out hgN (Or.inl rfl))
          clear hgN
          refine hK.out _ _ (HSS.out _ HG.out) (fun hHeld => ?_)
          clear hK K
          try simp only [Act.put, List.setIfInBounds_toArray, List.set_cons_zero, List.set_cons_succ]
          refine wpAnyH_take (i := 4) (oi := ({ dst := some 16, op := Go.Op.move (Go.Operand.tmp 20), type := 52, pos := "law.go:23", after := #[{ on := 3, ground := Go.Ground.data }], guard := none } : Oper)) (v := ?_) rfl (by kernel_rfl) (by kernel_rfl) (by kernel_rfl) (fun _ _ _ h => h) (Or.inl ⟨by rfl, ?_⟩) (by assumption) ?_
          rotate_left
          · (intro wS hSw; (try dsimp only at hSw); go_simp <;> with_reducible rfl)
          try simp only [Act.put, List.setIfInBounds_toArray, List.set_cons_zero, List.set_cons_succ]
          refine wpAnyH_take (i := 5) (oi := ({ dst := some 21, op := Go.Op.extract (Go.Operand.tmp 16) 0, type := 27, pos := "law.go:23", after := #[{ on := 4, ground := Go.Ground.data }], guard := none } : Oper)) (v := ?_) rfl (by kernel_rfl) (by kernel_rfl) (by kernel_rfl) (fun _ _ _ h => h) (Or.inl ⟨by rfl, ?_⟩) (by assumption) ?_
          rotate_left
          · (intro wS hSw; (try dsimp only at hSw); go_simp <;> with_reducible rfl)
          try simp only [Act.put, List.setIfInBounds_toArray, List.set_cons_zero, List.set_cons_succ]
          refine wpAnyH_take (i := 6) (oi := ({ dst := some 22, op := Go.Op.extract (Go.Operand.tmp 16) 1, type := 33, pos := "law.go:23", after := #[{ on := 4, ground := Go.Ground.data }, { on := 8, ground := Go.Ground.gcOnly Go.Departure.lateStores }], guard := none } : Oper)) (v := ?_) rfl (by kernel_rfl) (by kernel_rfl) (by kernel_rfl) (fun _ _ _ h => h) (Or.inl ⟨by rfl, ?_⟩) (by assumption) ?_
          rotate_left
          · (intro wS hSw; (try dsimp only at hSw); go_simp <;> with_reducible rfl)
          try simp only [Act.put, List.setIfInBounds_toArray, List.set_cons_zero, List.set_cons_succ]
          refine wpAnyH_ready (rs := [7]) (by kernel_rfl) (by simp) ?_
          refine AllReadyH.cons (o := ({ dst := some 2, op := Go.Op.alloc 27, type := 0, pos := "law.go:23", after := #[], guard := none } : Oper)) rfl (fun K hK => ?_) ?_
          · go_simp
            have hgN := World.grownBy_alloc wx3 (.cells #[.slice none 0 0, .slice none 0 0, .slice none 0 0] 27) none
            have hbN := Lib.hid (heap_alloc_new wx3 (.cells #[.slice none 0 0, .slice none 0 0, .slice none 0 0] 27))
            have hlN := Lib.hid (Nat.le_refl wx3.heap.size)
            generalize wx3.alloc (.cells #[.slice none 0 0, .slice none 0 0, .slice none 0 0] 27) = wx4 at hgN hbN ⊢
            obtain ⟨bd, hb_bd⟩ : ∃ b : Nat, b = wx3.heap.size := ⟨_, rfl⟩
            rw [← hb_bd] at hbN ⊢
            have HB_bd := hbN
            have HL_bd := Lib.hid (Nat.le_trans HG.out.size (Nat.le_of_eq hb_bd.symm))
            clear hbN hlN hb_bd
            replace HB_bs := Lib.hid (blk_kept HB_bs.out hgN (by simp))
            replace HSq := Lib.hid (HSq.out.kept hgN (by simp) (by simp))
            replace HBT := Lib.hid (HBT.out.kept hgN)
            replace HG := Lib.hid (gb_trans HG.out hgN (Or.inl rfl))
            clear hgN
            refine hK.out _ _ (HSS.out _ HG.out) (fun hHeld => ?_)
            clear hK K
            try simp only [Act.put, List.setIfInBounds_toArray, List.set_cons_zero, List.set_cons_succ]
            refine wpAnyH_ready (rs := [8]) (by kernel_rfl) (by simp) ?_
            refine AllReadyH.cons (o := ({ dst := none, op := Go.Op.store 27 (Go.Operand.tmp 2) (Go.Operand.tmp 21), type := 0, pos := "law.go:23", after := #[{ on := 7, ground := Go.Ground.data }, { on := 5, ground := Go.Ground.data }, { on := 3, ground := Go.Ground.chain }, { on := 0, ground := Go.Ground.phase }, { on := 1, ground := Go.Ground.phase }, { on := 2, ground := Go.Ground.phase }, { on := 3, ground := Go.Ground.phase }, { on := 4, ground := Go.Ground.phase }, { on := 5, ground := Go.Ground.phase }, { on := 6, ground := Go.Ground.textOnly Go.Departure.lateStores }, { on := 7, ground := Go.Ground.phase }], guard := none } : Oper)) rfl (fun K hK => ?_) ?_
            · obtain ⟨c0, c1, c2, cf⟩ := dfa_cells HB_bd.out
              have f0 := cf 0
              have f1 := cf 1
              have f2 := cf 2
              clear cf
              go_simp
              obtain ⟨hs3, hg3⟩ := set3 HB_bd.out (.slice xp 1 yp) (.slice xn 2 yn) (.slice xl 2 yl)
              replace HG := Lib.hid (gb_trans HG.out hg3 (Or.inr (Or.inr ⟨_, rfl, HL_bd.out⟩)))
              replace HBT := Lib.hid (HBT.out.zero hg3 HB_bd.out)
              clear c0 c1 c2 f0 f1 f2 hg3
              generalize (((wx4.setCell ⟨bd, 0, none⟩ (.slice xp 1 yp)).setCell ⟨bd, 1, none⟩ (.slice xn 2 yn)).setCell ⟨bd, 2, none⟩ (.slice xl 2 yl)) = wx5 at *
              replace HB_bd := Lib.hid hs3
              clear hs3
              refine hK.out _ _ (HSS.out _ HG.out) (fun hHeld => ?_)
              clear hK K
              try simp only [Act.put, List.setIfInBounds_toArray, List.set_cons_zero, List.set_cons_succ]
              refine wpAnyH_take (i := 9) (oi := ({ dst := some 3, op := Go.Op.assign (Go.Operand.tmp 22), type := 33, pos := "law.go:23", after := #[{ on := 6, ground := Go.Ground.data }, { on := 8, ground := Go.Ground.chain }, { on := 0, ground := Go.Ground.phase }, { on := 1, ground := Go.Ground.phase }, { on := 2, ground := Go.Ground.phase }, { on := 3, ground := Go.Ground.phase }, { on := 4, ground := Go.Ground.phase }, { on := 5, ground := Go.Ground.phase }, { on := 6, ground := Go.Ground.phase }, { on := 7, ground := Go.Ground.phase }, { on := 8, ground := Go.Ground.phase }], guard := none } : Oper)) (v := ?_) rfl (by kernel_rfl) (by kernel_rfl) (by kernel_rfl) (fun _ _ _ h => h) (Or.inl ⟨by rfl, ?_⟩) (by assumption) ?_
              rotate_left
              · (intro wS hSw; (try dsimp only at hSw); go_simp <;> with_reducible rfl)
              try simp only [Act.put, List.setIfInBounds_toArray, List.set_cons_zero, List.set_cons_succ]
              refine wpAnyH_done (by kernel_rfl) ?_ _
              go_wp2_with fail
              go_meet
              exact ⟨_, _, _, _, _, _, _, us, rfl, rfl, HB_bd, ⟨_, HBT⟩, HG⟩
            exact AllReadyH.nil
          exact AllReadyH.nil
        refine AllReadyH.cons (o := ({ dst := some 2, op := Go.Op.alloc 27, type := 0, pos := "law.go:23", after := #[], guard := none } : Oper)) rfl (fun K hK => ?_) ?_
        · go_simp
          have hgN := World.grownBy_alloc wx2 (.cells #[.slice none 0 0, .slice none 0 0, .slice none 0 0] 27) none
          have hbN := Lib.hid (heap_alloc_new wx2 (.cells #[.slice none 0 0, .slice none 0 0, .slice none 0 0] 27))
          have hlN := Lib.hid (Nat.le_refl wx2.heap.size)
          generalize wx2.alloc (.cells #[.slice none 0 0, .slice none 0 0, .slice none 0 0] 27) = wx6 at hgN hbN ⊢
          obtain ⟨bd, hb_bd⟩ : ∃ b : Nat, b = wx2.heap.size := ⟨_, rfl⟩
          rw [← hb_bd] at hbN ⊢
          have HB_bd := hbN
          have HL_bd := Lib.hid (Nat.le_trans HG.out.size (Nat.le_of_eq hb_bd.symm))
          clear hbN hlN hb_bd
          replace HB_bs := Lib.hid (blk_kept HB_bs.out hgN (by simp))
          replace HSq := Lib.hid (HSq.out.kept hgN (by simp) (by simp))
          replace HG := Lib.hid (gb_trans HG.out hgN (Or.inl rfl))
          clear hgN
          refine hK.out _ _ (HSS.out _ HG.out) (fun hHeld => ?_)
          clear hK K
          try simp only [Act.put, List.setIfInBounds_toArray, List.set_cons_zero, List.set_cons_succ]
          refine wpAnyH_ready (rs := [3]) (by kernel_rfl) (by simp) ?_
          refine AllReadyH.cons (o := ({ dst := some 20, op := Go.Op.call { callee := Go.Callee.value (Go.Operand.func 23), args := #[Go.Operand.tmp 17, Go.Operand.tmp 19, Go.Operand.const (Go.Value.int Go.IntKind.i64 2)], argTypes := #[47, 50, 3] }, type := 52, pos := "law.go:23", after := #[{ on := 0, ground := Go.Ground.data }, { on := 2, ground := Go.Ground.data }, { on := 2, ground := Go.Ground.chain }], guard := none } : Oper)) rfl (fun K hK => ?_) ?_
          · go_simp
            ((with_reducible refine (HBl2.out _ _ _ _ HG.out HSq.out).mono ?_); rintro e wx7 ⟨xp, yp, xn, yn, xl, yl, us, rfl, hbt, hgN⟩)
            have HBT := Lib.hid hbt
            clear hbt
            replace HB_bs := Lib.hid (blk_kept HB_bs.out hgN (by simp))
            replace HSq := Lib.hid (HSq.out.kept hgN (by simp) (by simp))
            replace HB_bd := Lib.hid (blk_kept HB_bd.out hgN (by simp))
            replace HG := Lib.hid (gb_trans HG.out hgN (Or.inl rfl))
            clear hgN
            refine hK.out _ _ (HSS.out _ HG.out) (fun hHeld => ?_)
            clear hK K
            try simp only [Act.put, List.setIfInBounds_toArray, List.set_cons_zero, List.set_cons_succ]
            refine wpAnyH_take (i := 4) (oi := ({ dst := some 16, op := Go.Op.move (Go.Operand.tmp 20), type := 52, pos := "law.go:23", after := #[{ on := 3, ground := Go.Ground.data }], guard := none } : Oper)) (v := ?_) rfl (by kernel_rfl) (by kernel_rfl) (by kernel_rfl) (fun _ _ _ h => h) (Or.inl ⟨by rfl, ?_⟩) (by assumption) ?_
            rotate_left
            · (intro wS hSw; (try dsimp only at hSw); go_simp <;> with_reducible rfl)
            try simp only [Act.put, List.setIfInBounds_toArray, List.set_cons_zero, List.set_cons_succ]
            refine wpAnyH_take (i := 5) (oi := ({ dst := some 21, op := Go.Op.extract (Go.Operand.tmp 16) 0, type := 27, pos := "law.go:23", after := #[{ on := 4, ground := Go.Ground.data }], guard := none } : Oper)) (v := ?_) rfl (by kernel_rfl) (by kernel_rfl) (by kernel_rfl) (fun _ _ _ h => h) (Or.inl ⟨by rfl, ?_⟩) (by assumption) ?_
            rotate_left
            · (intro wS hSw; (try dsimp only at hSw); go_simp <;> with_reducible rfl)
            try simp only [Act.put, List.setIfInBounds_toArray, List.set_cons_zero, List.set_cons_succ]
            refine wpAnyH_take (i := 6) (oi := ({ dst := some 22, op := Go.Op.extract (Go.Operand.tmp 16) 1, type := 33, pos := "law.go:23", after := #[{ on := 4, ground := Go.Ground.data }, { on := 8, ground := Go.Ground.gcOnly Go.Departure.lateStores }], guard := none } : Oper)) (v := ?_) rfl (by kernel_rfl) (by kernel_rfl) (by kernel_rfl) (fun _ _ _ h => h) (Or.inl ⟨by rfl, ?_⟩) (by assumption) ?_
            rotate_left
            · (intro wS hSw; (try dsimp only at hSw); go_simp <;> with_reducible rfl)
            try simp only [Act.put, List.setIfInBounds_toArray, List.set_cons_zero, List.set_cons_succ]
            refine wpAnyH_ready (rs := [8]) (by kernel_rfl) (by simp) ?_
            refine AllReadyH.cons (o := ({ dst := none, op := Go.Op.store 27 (Go.Operand.tmp 2) (Go.Operand.tmp 21), type := 0, pos := "law.go:23", after := #[{ on := 7, ground := Go.Ground.data }, { on := 5, ground := Go.Ground.data }, { on := 3, ground := Go.Ground.chain }, { on := 0, ground := Go.Ground.phase }, { on := 1, ground := Go.Ground.phase }, { on := 2, ground := Go.Ground.phase }, { on := 3, ground := Go.Ground.phase }, { on := 4, ground := Go.Ground.phase }, { on := 5, ground := Go.Ground.phase }, { on := 6, ground := Go.Ground.textOnly Go.Departure.lateStores }, { on := 7, ground := Go.Ground.phase }], guard := none } : Oper)) rfl (fun K hK => ?_) ?_
            · obtain ⟨c0, c1, c2, cf⟩ := dfa_cells HB_bd.out
              have f0 := cf 0
              have f1 := cf 1
              have f2 := cf 2
              clear cf
              go_simp
              obtain ⟨hs3, hg3⟩ := set3 HB_bd.out (.slice xp 1 yp) (.slice xn 2 yn) (.slice xl 2 yl)
              replace HG := Lib.hid (gb_trans HG.out hg3 (Or.inr (Or.inr ⟨_, rfl, HL_bd.out⟩)))
              replace HBT := Lib.hid (HBT.out.zero hg3 HB_bd.out)
              clear c0 c1 c2 f0 f1 f2 hg3
              generalize (((wx7.setCell ⟨bd, 0, none⟩ (.slice xp 1 yp)).setCell ⟨bd, 1, none⟩ (.slice xn 2 yn)).setCell ⟨bd, 2, none⟩ (.slice xl 2 yl)) = wx8 at *
              replace HB_bd := Lib.hid hs3
              clear hs3
              refine hK.out _ _ (HSS.out _ HG.out) (fun hHeld => ?_)
              clear hK K
              try simp only [Act.put, List.setIfInBounds_toArray, List.set_cons_zero, List.set_cons_succ]
              refine wpAnyH_take (i := 9) (oi := ({ dst := some 3, op := Go.Op.assign (Go.Operand.tmp 22), type := 33, pos := "law.go:23", after := #[{ on := 6, ground := Go.Ground.data }, { on := 8, ground := Go.Ground.chain }, { on := 0, ground := Go.Ground.phase }, { on := 1, ground := Go.Ground.phase }, { on := 2, ground := Go.Ground.phase }, { on := 3, ground := Go.Ground.phase }, { on := 4, ground := Go.Ground.phase }, { on := 5, ground := Go.Ground.phase }, { on := 6, ground := Go.Ground.phase }, { on := 7, ground := Go.Ground.phase }, { on := 8, ground := Go.Ground.phase }], guard := none } : Oper)) (v := ?_) rfl (by kernel_rfl) (by kernel_rfl) (by kernel_rfl) (fun _ _ _ h => h) (Or.inl ⟨by rfl, ?_⟩) (by assumption) ?_
              rotate_left
              · (intro wS hSw; (try dsimp only at hSw); go_simp <;> with_reducible rfl)
              try simp only [Act.put, List.setIfInBounds_toArray, List.set_cons_zero, List.set_cons_succ]
              refine wpAnyH_done (by kernel_rfl) ?_ _
              go_wp2_with fail
              go_meet
              exact ⟨_, _, _, _, _, _, _, us, rfl, rfl, HB_bd, ⟨_, HBT⟩, HG⟩
            exact AllReadyH.nil
          exact AllReadyH.nil
        exact AllReadyH.nil
      refine AllReadyH.cons (o := ({ dst := some 2, op := Go.Op.alloc 27, type := 0, pos := "law.go:23", after := #[], guard := none } : Oper)) rfl (fun K hK => ?_) ?_
      · go_simp
        have hgN := World.grownBy_alloc wx1 (.cells #[.slice none 0 0, .slice none 0 0, .slice none 0 0] 27) none
        have hbN := Lib.hid (heap_alloc_new wx1 (.cells #[.slice none 0 0, .slice none 0 0, .slice none 0 0] 27))
        have hlN := Lib.hid (Nat.le_refl wx1.heap.size)
        generalize wx1.alloc (.cells #[.slice none 0 0, .slice none 0 0, .slice none 0 0] 27) = wx9 at hgN hbN ⊢
        obtain ⟨bd, hb_bd⟩ : ∃ b : Nat, b = wx1.heap.size := ⟨_, rfl⟩
        rw [← hb_bd] at hbN ⊢
        have HB_bd := hbN
        have HL_bd := Lib.hid (Nat.le_trans HG.out.size (Nat.le_of_eq hb_bd.symm))
        clear hbN hlN hb_bd
        replace HB_bs := Lib.hid (blk_kept HB_bs.out hgN (by simp))
        replace HG := Lib.hid (gb_trans HG.out hgN (Or.inl rfl))
        clear hgN
        refine hK.out _ _ (HSS.out _ HG.out) (fun hHeld => ?_)
        clear hK K
        try simp only [Act.put, List.setIfInBounds_toArray, List.set_cons_zero, List.set_cons_succ]
        refine wpAnyH_ready (rs := [2]) (by kernel_rfl) (by simp) ?_
        refine AllReadyH.cons (o := ({ dst := some 19, op := Go.Op.call { callee := Go.Callee.value (Go.Operand.func 22), args := #[Go.Operand.const (Go.Value.int Go.IntKind.i64 1), Go.Operand.tmp 18], argTypes := #[3, 43] }, type := 50, pos := "law.go:23", after := #[{ on := 1, ground := Go.Ground.data }], guard := none } : Oper)) rfl (fun K hK => ?_) ?_
        · go_simp
          ((with_reducible refine (HOf.out _ _ (ints_blk HB_bs.out (by decide))).mono ?_); rintro e wx10 ⟨q, gq, cq, M, rfl, hq1, hq2, hsq, hMq, hgN⟩)
          have HSq := Lib.hid hsq
          rw [hMq.out] at HSq
          clear hsq hq1 hq2 hMq
          replace HB_bs := Lib.hid (blk_kept HB_bs.out hgN (by simp))
          replace HB_bd := Lib.hid (blk_kept HB_bd.out hgN (by simp))
          replace HG := Lib.hid (gb_trans HG.out hgN (Or.inl rfl))
          clear hgN
          refine hK.out _ _ (HSS.out _ HG.out) (fun hHeld => ?_)
          clear hK K
          try simp only [Act.put, List.setIfInBounds_toArray, List.set_cons_zero, List.set_cons_succ]
          refine wpAnyH_ready (rs := [3]) (by kernel_rfl) (by simp) ?_
          refine AllReadyH.cons (o := ({ dst := some 20, op := Go.Op.call { callee := Go.Callee.value (Go.Operand.func 23), args := #[Go.Operand.tmp 17, Go.Operand.tmp 19, Go.Operand.const (Go.Value.int Go.IntKind.i64 2)], argTypes := #[47, 50, 3] }, type := 52, pos := "law.go:23", after := #[{ on := 0, ground := Go.Ground.data }, { on := 2, ground := Go.Ground.data }, { on := 2, ground := Go.Ground.chain }], guard := none } : Oper)) rfl (fun K hK => ?_) ?_
          · go_simp
            ((with_reducible refine (HBl2.out _ _ _ _ HG.out HSq.out).mono ?_); rintro e wx11 ⟨xp, yp, xn, yn, xl, yl, us, rfl, hbt, hgN⟩)
            have HBT := Lib.hid hbt
            clear hbt
            replace HB_bs := Lib.hid (blk_kept HB_bs.out hgN (by simp))
            replace HB_bd := Lib.hid (blk_kept HB_bd.out hgN (by simp))
            replace HSq := Lib.hid (HSq.out.kept hgN (by simp) (by simp))
            replace HG := Lib.hid (gb_trans HG.out hgN (Or.inl rfl))
            clear hgN
            refine hK.out _ _ (HSS.out _ HG.out) (fun hHeld => ?_)
            clear hK K
            try simp only [Act.put, List.setIfInBounds_toArray, List.set_cons_zero, List.set_cons_succ]
            refine wpAnyH_take (i := 4) (oi := ({ dst := some 16, op := Go.Op.move (Go.Operand.tmp 20), type := 52, pos := "law.go:23", after := #[{ on := 3, ground := Go.Ground.data }], guard := none } : Oper)) (v := ?_) rfl (by kernel_rfl) (by kernel_rfl) (by kernel_rfl) (fun _ _ _ h => h) (Or.inl ⟨by rfl, ?_⟩) (by assumption) ?_
            rotate_left
            · (intro wS hSw; (try dsimp only at hSw); go_simp <;> with_reducible rfl)
            try simp only [Act.put, List.setIfInBounds_toArray, List.set_cons_zero, List.set_cons_succ]
            refine wpAnyH_take (i := 5) (oi := ({ dst := some 21, op := Go.Op.extract (Go.Operand.tmp 16) 0, type := 27, pos := "law.go:23", after := #[{ on := 4, ground := Go.Ground.data }], guard := none } : Oper)) (v := ?_) rfl (by kernel_rfl) (by kernel_rfl) (by kernel_rfl) (fun _ _ _ h => h) (Or.inl ⟨by rfl, ?_⟩) (by assumption) ?_
            rotate_left
            · (intro wS hSw; (try dsimp only at hSw); go_simp <;> with_reducible rfl)
            try simp only [Act.put, List.setIfInBounds_toArray, List.set_cons_zero, List.set_cons_succ]
            refine wpAnyH_take (i := 6) (oi := ({ dst := some 22, op := Go.Op.extract (Go.Operand.tmp 16) 1, type := 33, pos := "law.go:23", after := #[{ on := 4, ground := Go.Ground.data }, { on := 8, ground := Go.Ground.gcOnly Go.Departure.lateStores }], guard := none } : Oper)) (v := ?_) rfl (by kernel_rfl) (by kernel_rfl) (by kernel_rfl) (fun _ _ _ h => h) (Or.inl ⟨by rfl, ?_⟩) (by assumption) ?_
            rotate_left
            · (intro wS hSw; (try dsimp only at hSw); go_simp <;> with_reducible rfl)
            try simp only [Act.put, List.setIfInBounds_toArray, List.set_cons_zero, List.set_cons_succ]
            refine wpAnyH_ready (rs := [8]) (by kernel_rfl) (by simp) ?_
            refine AllReadyH.cons (o := ({ dst := none, op := Go.Op.store 27 (Go.Operand.tmp 2) (Go.Operand.tmp 21), type := 0, pos := "law.go:23", after := #[{ on := 7, ground := Go.Ground.data }, { on := 5, ground := Go.Ground.data }, { on := 3, ground := Go.Ground.chain }, { on := 0, ground := Go.Ground.phase }, { on := 1, ground := Go.Ground.phase }, { on := 2, ground := Go.Ground.phase }, { on := 3, ground := Go.Ground.phase }, { on := 4, ground := Go.Ground.phase }, { on := 5, ground := Go.Ground.phase }, { on := 6, ground := Go.Ground.textOnly Go.Departure.lateStores }, { on := 7, ground := Go.Ground.phase }], guard := none } : Oper)) rfl (fun K hK => ?_) ?_
            · obtain ⟨c0, c1, c2, cf⟩ := dfa_cells HB_bd.out
              have f0 := cf 0
              have f1 := cf 1
              have f2 := cf 2
              clear cf
              go_simp
              obtain ⟨hs3, hg3⟩ := set3 HB_bd.out (.slice xp 1 yp) (.slice xn 2 yn) (.slice xl 2 yl)
              replace HG := Lib.hid (gb_trans HG.out hg3 (Or.inr (Or.inr ⟨_, rfl, HL_bd.out⟩)))
              replace HBT := Lib.hid (HBT.out.zero hg3 HB_bd.out)
              clear c0 c1 c2 f0 f1 f2 hg3
              generalize (((wx11.setCell ⟨bd, 0, none⟩ (.slice xp 1 yp)).setCell ⟨bd, 1, none⟩ (.slice xn 2 yn)).setCell ⟨bd, 2, none⟩ (.slice xl 2 yl)) = wx12 at *
              replace HB_bd := Lib.hid hs3
              clear hs3
              refine hK.out _ _ (HSS.out _ HG.out) (fun hHeld => ?_)
              clear hK K
              try simp only [Act.put, List.setIfInBounds_toArray, List.set_cons_zero, List.set_cons_succ]
              refine wpAnyH_take (i := 9) (oi := ({ dst := some 3, op := Go.Op.assign (Go.Operand.tmp 22), type := 33, pos := "law.go:23", after := #[{ on := 6, ground := Go.Ground.data }, { on := 8, ground := Go.Ground.chain }, { on := 0, ground := Go.Ground.phase }, { on := 1, ground := Go.Ground.phase }, { on := 2, ground := Go.Ground.phase }, { on := 3, ground := Go.Ground.phase }, { on := 4, ground := Go.Ground.phase }, { on := 5, ground := Go.Ground.phase }, { on := 6, ground := Go.Ground.phase }, { on := 7, ground := Go.Ground.phase }, { on := 8, ground := Go.Ground.phase }], guard := none } : Oper)) (v := ?_) rfl (by kernel_rfl) (by kernel_rfl) (by kernel_rfl) (fun _ _ _ h => h) (Or.inl ⟨by rfl, ?_⟩) (by assumption) ?_
              rotate_left
              · (intro wS hSw; (try dsimp only at hSw); go_simp <;> with_reducible rfl)
              try simp only [Act.put, List.setIfInBounds_toArray, List.set_cons_zero, List.set_cons_succ]
              refine wpAnyH_done (by kernel_rfl) ?_ _
              go_wp2_with fail
              go_meet
              exact ⟨_, _, _, _, _, _, _, us, rfl, rfl, HB_bd, ⟨_, HBT⟩, HG⟩
            exact AllReadyH.nil
          exact AllReadyH.nil
        exact AllReadyH.nil
      exact AllReadyH.nil
    refine AllReadyH.cons (o := ({ dst := some 2, op := Go.Op.alloc 27, type := 0, pos := "law.go:23", after := #[], guard := none } : Oper)) rfl (fun K hK => ?_) ?_
    · go_simp
      have hgN := World.grownBy_alloc wx0 (.cells #[.slice none 0 0, .slice none 0 0, .slice none 0 0] 27) none
      have hbN := Lib.hid (heap_alloc_new wx0 (.cells #[.slice none 0 0, .slice none 0 0, .slice none 0 0] 27))
      have hlN := Lib.hid (Nat.le_refl wx0.heap.size)
      generalize wx0.alloc (.cells #[.slice none 0 0, .slice none 0 0, .slice none 0 0] 27) = wx13 at hgN hbN ⊢
      obtain ⟨bd, hb_bd⟩ : ∃ b : Nat, b = wx0.heap.size := ⟨_, rfl⟩
      rw [← hb_bd] at hbN ⊢
      have HB_bd := hbN
      have HL_bd := Lib.hid (Nat.le_trans HG.out.size (Nat.le_of_eq hb_bd.symm))
      clear hbN hlN hb_bd
      replace HG := Lib.hid (gb_trans HG.out hgN (Or.inl rfl))
      clear hgN
      refine hK.out _ _ (HSS.out _ HG.out) (fun hHeld => ?_)
      clear hK K
      try simp only [Act.put, List.setIfInBounds_toArray, List.set_cons_zero, List.set_cons_succ]
      refine wpAnyH_ready (rs := [1]) (by kernel_rfl) (by simp) ?_
      refine AllReadyH.cons (o := ({ dst := some 18, op := Go.Op.buildSlice 43 1 #[(0, Go.Operand.const (Go.Value.int Go.IntKind.i64 0))], type := 43, pos := "law.go:23", after := #[], guard := none } : Oper)) rfl (fun K hK => ?_) ?_
      · go_simp
        have hgN := World.grownBy_alloc wx13 (.cells #[.int .i64 0] 3) none
        have hbN := Lib.hid (heap_alloc_new wx13 (.cells #[.int .i64 0] 3))
        have hlN := Lib.hid (Nat.le_refl wx13.heap.size)
        generalize wx13.alloc (.cells #[.int .i64 0] 3) = wx14 at hgN hbN ⊢
        obtain ⟨bs, hb_bs⟩ : ∃ b : Nat, b = wx13.heap.size := ⟨_, rfl⟩
        rw [← hb_bs] at hbN ⊢
        have HB_bs := hbN
        have HL_bs := Lib.hid (Nat.le_trans HG.out.size (Nat.le_of_eq hb_bs.symm))
        clear hbN hlN hb_bs
        replace HB_bd := Lib.hid (blk_kept HB_bd.out hgN (by simp))
        replace HG := Lib.hid (gb_trans HG.out hgN (Or.inl rfl))
        clear hgN
        refine hK.out _ _ (HSS.out _ HG.out) (fun hHeld => ?_)
        clear hK K
        try simp only [Act.put, List.setIfInBounds_toArray, List.set_cons_zero, List.set_cons_succ]
        refine wpAnyH_ready (rs := [2]) (by kernel_rfl) (by simp) ?_
        refine AllReadyH.cons (o := ({ dst := some 19, op := Go.Op.call { callee := Go.Callee.value (Go.Operand.func 22), args := #[Go.Operand.const (Go.Value.int Go.IntKind.i64 1), Go.Operand.tmp 18], argTypes := #[3, 43] }, type := 50, pos := "law.go:23", after := #[{ on := 1, ground := Go.Ground.data }], guard := none } : Oper)) rfl (fun K hK => ?_) ?_
        · go_simp
          ((with_reducible refine (HOf.out _ _ (ints_blk HB_bs.out (by decide))).mono ?_); rintro e wx15 ⟨q, gq, cq, M, rfl, hq1, hq2, hsq, hMq, hgN⟩)
          have HSq := Lib.hid hsq
          rw [hMq.out] at HSq
          clear hsq hq1 hq2 hMq
          replace HB_bd := Lib.hid (blk_kept HB_bd.out hgN (by simp))
          replace HB_bs := Lib.hid (blk_kept HB_bs.out hgN (by simp))
          replace HG := Lib.hid (gb_trans HG.out hgN (Or.inl rfl))
          clear hgN
          refine hK.out _ _ (HSS.out _ HG.out) (fun hHeld => ?_)
          clear hK K
          try simp only [Act.put, List.setIfInBounds_toArray, List.set_cons_zero, List.set_cons_succ]
          refine wpAnyH_ready (rs := [3]) (by kernel_rfl) (by simp) ?_
          refine AllReadyH.cons (o := ({ dst := some 20, op := Go.Op.call { callee := Go.Callee.value (Go.Operand.func 23), args := #[Go.Operand.tmp 17, Go.Operand.tmp 19, Go.Operand.const (Go.Value.int Go.IntKind.i64 2)], argTypes := #[47, 50, 3] }, type := 52, pos := "law.go:23", after := #[{ on := 0, ground := Go.Ground.data }, { on := 2, ground := Go.Ground.data }, { on := 2, ground := Go.Ground.chain }], guard := none } : Oper)) rfl (fun K hK => ?_) ?_
          · go_simp
            ((with_reducible refine (HBl2.out _ _ _ _ HG.out HSq.out).mono ?_); rintro e wx16 ⟨xp, yp, xn, yn, xl, yl, us, rfl, hbt, hgN⟩)
            have HBT := Lib.hid hbt
            clear hbt
            replace HB_bd := Lib.hid (blk_kept HB_bd.out hgN (by simp))
            replace HB_bs := Lib.hid (blk_kept HB_bs.out hgN (by simp))
            replace HSq := Lib.hid (HSq.out.kept hgN (by simp) (by simp))
            replace HG := Lib.hid (gb_trans HG.out hgN (Or.inl rfl))
            clear hgN
            refine hK.out _ _ (HSS.out _ HG.out) (fun hHeld => ?_)
            clear hK K
            try simp only [Act.put, List.setIfInBounds_toArray, List.set_cons_zero, List.set_cons_succ]
            refine wpAnyH_take (i := 4) (oi := ({ dst := some 16, op := Go.Op.move (Go.Operand.tmp 20), type := 52, pos := "law.go:23", after := #[{ on := 3, ground := Go.Ground.data }], guard := none } : Oper)) (v := ?_) rfl (by kernel_rfl) (by kernel_rfl) (by kernel_rfl) (fun _ _ _ h => h) (Or.inl ⟨by rfl, ?_⟩) (by assumption) ?_
            rotate_left
            · (intro wS hSw; (try dsimp only at hSw); go_simp <;> with_reducible rfl)
            try simp only [Act.put, List.setIfInBounds_toArray, List.set_cons_zero, List.set_cons_succ]
            refine wpAnyH_take (i := 5) (oi := ({ dst := some 21, op := Go.Op.extract (Go.Operand.tmp 16) 0, type := 27, pos := "law.go:23", after := #[{ on := 4, ground := Go.Ground.data }], guard := none } : Oper)) (v := ?_) rfl (by kernel_rfl) (by kernel_rfl) (by kernel_rfl) (fun _ _ _ h => h) (Or.inl ⟨by rfl, ?_⟩) (by assumption) ?_
            rotate_left
            · (intro wS hSw; (try dsimp only at hSw); go_simp <;> with_reducible rfl)
            try simp only [Act.put, List.setIfInBounds_toArray, List.set_cons_zero, List.set_cons_succ]
            refine wpAnyH_take (i := 6) (oi := ({ dst := some 22, op := Go.Op.extract (Go.Operand.tmp 16) 1, type := 33, pos := "law.go:23", after := #[{ on := 4, ground := Go.Ground.data }, { on := 8, ground := Go.Ground.gcOnly Go.Departure.lateStores }], guard := none } : Oper)) (v := ?_) rfl (by kernel_rfl) (by kernel_rfl) (by kernel_rfl) (fun _ _ _ h => h) (Or.inl ⟨by rfl, ?_⟩) (by assumption) ?_
            rotate_left
            · (intro wS hSw; (try dsimp only at hSw); go_simp <;> with_reducible rfl)
            try simp only [Act.put, List.setIfInBounds_toArray, List.set_cons_zero, List.set_cons_succ]
            refine wpAnyH_ready (rs := [8]) (by kernel_rfl) (by simp) ?_
            refine AllReadyH.cons (o := ({ dst := none, op := Go.Op.store 27 (Go.Operand.tmp 2) (Go.Operand.tmp 21), type := 0, pos := "law.go:23", after := #[{ on := 7, ground := Go.Ground.data }, { on := 5, ground := Go.Ground.data }, { on := 3, ground := Go.Ground.chain }, { on := 0, ground := Go.Ground.phase }, { on := 1, ground := Go.Ground.phase }, { on := 2, ground := Go.Ground.phase }, { on := 3, ground := Go.Ground.phase }, { on := 4, ground := Go.Ground.phase }, { on := 5, ground := Go.Ground.phase }, { on := 6, ground := Go.Ground.textOnly Go.Departure.lateStores }, { on := 7, ground := Go.Ground.phase }], guard := none } : Oper)) rfl (fun K hK => ?_) ?_
            · obtain ⟨c0, c1, c2, cf⟩ := dfa_cells HB_bd.out
              have f0 := cf 0
              have f1 := cf 1
              have f2 := cf 2
              clear cf
              go_simp
              obtain ⟨hs3, hg3⟩ := set3 HB_bd.out (.slice xp 1 yp) (.slice xn 2 yn) (.slice xl 2 yl)
              replace HG := Lib.hid (gb_trans HG.out hg3 (Or.inr (Or.inr ⟨_, rfl, HL_bd.out⟩)))
              replace HBT := Lib.hid (HBT.out.zero hg3 HB_bd.out)
              clear c0 c1 c2 f0 f1 f2 hg3
              generalize (((wx16.setCell ⟨bd, 0, none⟩ (.slice xp 1 yp)).setCell ⟨bd, 1, none⟩ (.slice xn 2 yn)).setCell ⟨bd, 2, none⟩ (.slice xl 2 yl)) = wx17 at *
              replace HB_bd := Lib.hid hs3
              clear hs3
              refine hK.out _ _ (HSS.out _ HG.out) (fun hHeld => ?_)
              clear hK K
              try simp only [Act.put, List.setIfInBounds_toArray, List.set_cons_zero, List.set_cons_succ]
              refine wpAnyH_take (i := 9) (oi := ({ dst := some 3, op := Go.Op.assign (Go.Operand.tmp 22), type := 33, pos := "law.go:23", after := #[{ on := 6, ground := Go.Ground.data }, { on := 8, ground := Go.Ground.chain }, { on := 0, ground := Go.Ground.phase }, { on := 1, ground := Go.Ground.phase }, { on := 2, ground := Go.Ground.phase }, { on := 3, ground := Go.Ground.phase }, { on := 4, ground := Go.Ground.phase }, { on := 5, ground := Go.Ground.phase }, { on := 6, ground := Go.Ground.phase }, { on := 7, ground := Go.Ground.phase }, { on := 8, ground := Go.Ground.phase }], guard := none } : Oper)) (v := ?_) rfl (by kernel_rfl) (by kernel_rfl) (by kernel_rfl) (fun _ _ _ h => h) (Or.inl ⟨by rfl, ?_⟩) (by assumption) ?_
              rotate_left
              · (intro wS hSw; (try dsimp only at hSw); go_simp <;> with_reducible rfl)
              try simp only [Act.put, List.setIfInBounds_toArray, List.set_cons_zero, List.set_cons_succ]
              refine wpAnyH_done (by kernel_rfl) ?_ _
              go_wp2_with fail
              go_meet
              exact ⟨_, _, _, _, _, _, _, us, rfl, rfl, HB_bd, ⟨_, HBT⟩, HG⟩
            exact AllReadyH.nil
          exact AllReadyH.nil
        exact AllReadyH.nil
      exact AllReadyH.nil
    exact AllReadyH.nil
  case rest =>
    obtain ⟨bd, xp, yp, xn, yn, xl, yl, us, rfl, rfl, HD, ⟨Z, HT⟩, HG⟩ := hcut
    have HDf := Lib.hid (k_dfa HT.out)
    clear HT
    go_wp2_with fail
    obtain ⟨wd, rfl⟩ : ∃ wd : World, wd = wc := ⟨_, rfl⟩
    have HBl1c : Hid (∀ (wx : World) (q g cap : Nat), wd.grownBy wx none → SetAt wx q g cap 1 (ofL 1 [0]) → Calls Try.prog 23 #[.agg #[.slice (some ⟨w.heap.size, 0, none⟩) 1 1, .int .i64 1, .slice (some ⟨w.heap.size + 1, 0, none⟩) 1 1, .slice (some ⟨w.heap.size + 1 + 1, 0, none⟩) 1 1, .slice (some ⟨w.heap.size + 1 + 1 + 1, 0, none⟩) 1 1], .pointer (some ⟨q, 0, none⟩), .int .i64 1] wx fun e w' => e = .returned (.tuple #[.agg #[.slice none 0 0, .slice none 0 0, .slice none 0 0], .int .i64 131]) ∧ wx.grownBy w' none) := Lib.hid fun wx q g cap hx hs => HBl1.out wx q g cap (gb_trans HG.out hx (Or.inl rfl)) hs
    clear HSS HBl1 HBl2
    have HSS : Hid (∀ wx, wd.grownBy wx none → wd.grownBy wx none ∧ wx.cell? ⟨w.heap.size + 1 + 1 + 1 + 1, 0, none⟩ = some (.slice (some ⟨w.heap.size, 0, none⟩) 1 1) ∧ wx.cell? ⟨w.heap.size + 1 + 1 + 1 + 1, 1, none⟩ = some (.int .i64 1) ∧ wx.cell? ⟨w.heap.size + 1 + 1 + 1 + 1, 2, none⟩ = some (.slice (some ⟨w.heap.size + 1, 0, none⟩) 1 1) ∧ wx.cell? ⟨w.heap.size + 1 + 1 + 1 + 1, 3, none⟩ = some (.slice (some ⟨w.heap.size + 1 + 1, 0, none⟩) 1 1) ∧ wx.cell? ⟨w.heap.size + 1 + 1 + 1 + 1, 4, none⟩ = some (.slice (some ⟨w.heap.size + 1 + 1 + 1, 0, none⟩) 1 1)) := Lib.hid fun wx hx => by
      have h1 := gb_trans HG.out hx (Or.inl rfl)
      obtain ⟨b0, b1, b2, b3, b4⟩ := buchi_cells HBX.out
      exact ⟨hx, h1.cell b0 (by simp), h1.cell b1 (by simp), h1.cell b2 (by simp), h1.cell b3 (by simp), h1.cell b4 (by simp)⟩
    have HGd := Lib.hid (gb_trans HG0.out HG.out (Or.inl rfl))
    clear HG
    go_cut [5] (fun s5 wx => s5 = .int .i64 131 ∧ Hid (wd.grownBy wx none))
    case first =>
      refine wp_region_held_drew (S := (fun wx => wd.grownBy wx none ∧ wx.cell? ⟨w.heap.size + 1 + 1 + 1 + 1, 0, none⟩ = some (.slice (some ⟨w.heap.size, 0, none⟩) 1 1) ∧ wx.cell? ⟨w.heap.size + 1 + 1 + 1 + 1, 1, none⟩ = some (.int .i64 1) ∧ wx.cell? ⟨w.heap.size + 1 + 1 + 1 + 1, 2, none⟩ = some (.slice (some ⟨w.heap.size + 1, 0, none⟩) 1 1) ∧ wx.cell? ⟨w.heap.size + 1 + 1 + 1 + 1, 3, none⟩ = some (.slice (some ⟨w.heap.size + 1 + 1, 0, none⟩) 1 1) ∧ wx.cell? ⟨w.heap.size + 1 + 1 + 1 + 1, 4, none⟩ = some (.slice (some ⟨w.heap.size + 1 + 1 + 1, 0, none⟩) 1 1))) (by kernel_rfl) (HSS.out _ (gb_drew _ none)) (fun hHeld => ?_)
      have HG := Lib.hid (gb_drew wd none)
      generalize wd.drew = wy0 at hHeld HG ⊢
      refine wpAnyH_take (i := 0) (oi := ({ dst := some 24, op := Go.Op.load 47 (Go.Operand.tmp 1), type := 47, pos := "law.go:24", after := #[], guard := none } : Oper)) (v := ?_) rfl (by kernel_rfl) (by kernel_rfl) (by kernel_rfl) (fun _ _ _ h => h) (Or.inl ⟨by rfl, ?_⟩) (by assumption) ?_
      rotate_left
      · (intro wS hSw; (try dsimp only at hSw); go_simp <;> with_reducible rfl)
      try simp only [Act.put, List.setIfInBounds_toArray, List.set_cons_zero, List.set_cons_succ]
      refine wpAnyH_ready (rs := [1, 7]) (by kernel_rfl) (by simp) ?_
      refine AllReadyH.cons (o := ({ dst := some 25, op := Go.Op.buildSlice 43 1 #[(0, Go.Operand.const (Go.Value.int Go.IntKind.i64 0))], type := 43, pos := "law.go:24", after := #[], guard := none } : Oper)) rfl (fun K hK => ?_) ?_
      · go_simp
        have hgN := World.grownBy_alloc wy0 (.cells #[.int .i64 0] 3) none
        have hbN := Lib.hid (heap_alloc_new wy0 (.cells #[.int .i64 0] 3))
        have hlN := Lib.hid (Nat.le_refl wy0.heap.size)
        generalize wy0.alloc (.cells #[.int .i64 0] 3) = wy1 at hgN hbN ⊢
        obtain ⟨bs, hb_bs⟩ : ∃ b : Nat, b = wy0.heap.size := ⟨_, rfl⟩
        rw [← hb_bs] at hbN ⊢
        have HB_bs := hbN
        have HL_bs := Lib.hid (Nat.le_trans HG.out.size (Nat.le_of_eq hb_bs.symm))
        clear hbN hlN hb_bs
        replace HG := Lib.hid (gb_trans HG.out hgN (Or.inl rfl))
        clear hgN
        refine hK.out _ _ (HSS.out _ HG.out) (fun hHeld => ?_)
        clear hK K
        try simp only [Act.put, List.setIfInBounds_toArray, List.set_cons_zero, List.set_cons_succ]
        refine wpAnyH_ready (rs := [2, 7]) (by kernel_rfl) (by simp) ?_
        refine AllReadyH.cons (o := ({ dst := some 26, op := Go.Op.call { callee := Go.Callee.value (Go.Operand.func 22), args := #[Go.Operand.const (Go.Value.int Go.IntKind.i64 1), Go.Operand.tmp 25], argTypes := #[3, 43] }, type := 50, pos := "law.go:24", after := #[{ on := 1, ground := Go.Ground.data }], guard := none } : Oper)) rfl (fun K hK => ?_) ?_
        · go_simp
          ((with_reducible refine (HOf.out _ _ (ints_blk HB_bs.out (by decide))).mono ?_); rintro e wy2 ⟨q, gq, cq, M, rfl, hq1, hq2, hsq, hMq, hgN⟩)
          have HSq := Lib.hid hsq
          rw [hMq.out] at HSq
          clear hsq hq1 hq2 hMq
          replace HB_bs := Lib.hid (blk_kept HB_bs.out hgN (by simp))
          replace HG := Lib.hid (gb_trans HG.out hgN (Or.inl rfl))
          clear hgN
          refine hK.out _ _ (HSS.out _ HG.out) (fun hHeld => ?_)
          clear hK K
          try simp only [Act.put, List.setIfInBounds_toArray, List.set_cons_zero, List.set_cons_succ]
          refine wpAnyH_ready (rs := [3, 7]) (by kernel_rfl) (by simp) ?_
          refine AllReadyH.cons (o := ({ dst := some 27, op := Go.Op.call { callee := Go.Callee.value (Go.Operand.func 23), args := #[Go.Operand.tmp 24, Go.Operand.tmp 26, Go.Operand.const (Go.Value.int Go.IntKind.i64 1)], argTypes := #[47, 50, 3] }, type := 52, pos := "law.go:24", after := #[{ on := 0, ground := Go.Ground.data }, { on := 2, ground := Go.Ground.data }, { on := 2, ground := Go.Ground.chain }], guard := none } : Oper)) rfl (fun K hK => ?_) ?_
          · go_simp
            ((with_reducible refine (HBl1c.out _ _ _ _ HG.out HSq.out).mono ?_); rintro e wy3 ⟨rfl, hgN⟩)
            replace HB_bs := Lib.hid (blk_kept HB_bs.out hgN (by simp))
            replace HSq := Lib.hid (HSq.out.kept hgN (by simp) (by simp))
            replace HG := Lib.hid (gb_trans HG.out hgN (Or.inl rfl))
            clear hgN
            refine hK.out _ _ (HSS.out _ HG.out) (fun hHeld => ?_)
            clear hK K
            try simp only [Act.put, List.setIfInBounds_toArray, List.set_cons_zero, List.set_cons_succ]
            refine wpAnyH_take (i := 4) (oi := ({ dst := some 23, op := Go.Op.move (Go.Operand.tmp 27), type := 52, pos := "law.go:24", after := #[{ on := 3, ground := Go.Ground.data }], guard := none } : Oper)) (v := ?_) rfl (by kernel_rfl) (by kernel_rfl) (by kernel_rfl) (fun _ _ _ h => h) (Or.inl ⟨by rfl, ?_⟩) (by assumption) ?_
            rotate_left
            · (intro wS hSw; (try dsimp only at hSw); go_simp <;> with_reducible rfl)
            try simp only [Act.put, List.setIfInBounds_toArray, List.set_cons_zero, List.set_cons_succ]
            refine wpAnyH_take (i := 5) (oi := ({ dst := some 28, op := Go.Op.extract (Go.Operand.tmp 23) 0, type := 27, pos := "law.go:24", after := #[{ on := 4, ground := Go.Ground.data }], guard := none } : Oper)) (v := ?_) rfl (by kernel_rfl) (by kernel_rfl) (by kernel_rfl) (fun _ _ _ h => h) (Or.inl ⟨by rfl, ?_⟩) (by assumption) ?_
            rotate_left
            · (intro wS hSw; (try dsimp only at hSw); go_simp <;> with_reducible rfl)
            try simp only [Act.put, List.setIfInBounds_toArray, List.set_cons_zero, List.set_cons_succ]
            refine wpAnyH_take (i := 6) (oi := ({ dst := some 29, op := Go.Op.extract (Go.Operand.tmp 23) 1, type := 33, pos := "law.go:24", after := #[{ on := 4, ground := Go.Ground.data }, { on := 8, ground := Go.Ground.gcOnly Go.Departure.lateStores }], guard := none } : Oper)) (v := ?_) rfl (by kernel_rfl) (by kernel_rfl) (by kernel_rfl) (fun _ _ _ h => h) (Or.inl ⟨by rfl, ?_⟩) (by assumption) ?_
            rotate_left
            · (intro wS hSw; (try dsimp only at hSw); go_simp <;> with_reducible rfl)
            try simp only [Act.put, List.setIfInBounds_toArray, List.set_cons_zero, List.set_cons_succ]
            refine wpAnyH_ready (rs := [7]) (by kernel_rfl) (by simp) ?_
            refine AllReadyH.cons (o := ({ dst := some 4, op := Go.Op.alloc 27, type := 0, pos := "law.go:24", after := #[], guard := none } : Oper)) rfl (fun K hK => ?_) ?_
            · go_simp
              have hgN := World.grownBy_alloc wy3 (.cells #[.slice none 0 0, .slice none 0 0, .slice none 0 0] 27) none
              have hbN := Lib.hid (heap_alloc_new wy3 (.cells #[.slice none 0 0, .slice none 0 0, .slice none 0 0] 27))
              have hlN := Lib.hid (Nat.le_refl wy3.heap.size)
              generalize wy3.alloc (.cells #[.slice none 0 0, .slice none 0 0, .slice none 0 0] 27) = wy4 at hgN hbN ⊢
              obtain ⟨be, hb_be⟩ : ∃ b : Nat, b = wy3.heap.size := ⟨_, rfl⟩
              rw [← hb_be] at hbN ⊢
              have HB_be := hbN
              have HL_be := Lib.hid (Nat.le_trans HG.out.size (Nat.le_of_eq hb_be.symm))
              clear hbN hlN hb_be
              replace HB_bs := Lib.hid (blk_kept HB_bs.out hgN (by simp))
              replace HSq := Lib.hid (HSq.out.kept hgN (by simp) (by simp))
              replace HG := Lib.hid (gb_trans HG.out hgN (Or.inl rfl))
              clear hgN
              refine hK.out _ _ (HSS.out _ HG.out) (fun hHeld => ?_)
              clear hK K
              try simp only [Act.put, List.setIfInBounds_toArray, List.set_cons_zero, List.set_cons_succ]
              refine wpAnyH_ready (rs := [8]) (by kernel_rfl) (by simp) ?_
              refine AllReadyH.cons (o := ({ dst := none, op := Go.Op.store 27 (Go.Operand.tmp 4) (Go.Operand.tmp 28), type := 0, pos := "law.go:24", after := #[{ on := 7, ground := Go.Ground.data }, { on := 5, ground := Go.Ground.data }, { on := 3, ground := Go.Ground.chain }, { on := 0, ground := Go.Ground.phase }, { on := 1, ground := Go.Ground.phase }, { on := 2, ground := Go.Ground.phase }, { on := 3, ground := Go.Ground.phase }, { on := 4, ground := Go.Ground.phase }, { on := 5, ground := Go.Ground.phase }, { on := 6, ground := Go.Ground.textOnly Go.Departure.lateStores }, { on := 7, ground := Go.Ground.phase }], guard := none } : Oper)) rfl (fun K hK => ?_) ?_
              · obtain ⟨c0, c1, c2, cf⟩ := dfa_cells HB_be.out
                have f0 := cf 0
                have f1 := cf 1
                have f2 := cf 2
                clear cf
                go_simp
                obtain ⟨hs3, hg3⟩ := set3 HB_be.out (.slice none 0 0) (.slice none 0 0) (.slice none 0 0)
                replace HG := Lib.hid (gb_trans HG.out hg3 (Or.inr (Or.inr ⟨_, rfl, HL_be.out⟩)))
                clear c0 c1 c2 f0 f1 f2 hg3
                generalize (((wy4.setCell ⟨be, 0, none⟩ (.slice none 0 0)).setCell ⟨be, 1, none⟩ (.slice none 0 0)).setCell ⟨be, 2, none⟩ (.slice none 0 0)) = wy5 at *
                replace HB_be := Lib.hid hs3
                clear hs3
                refine hK.out _ _ (HSS.out _ HG.out) (fun hHeld => ?_)
                clear hK K
                try simp only [Act.put, List.setIfInBounds_toArray, List.set_cons_zero, List.set_cons_succ]
                refine wpAnyH_take (i := 9) (oi := ({ dst := some 5, op := Go.Op.assign (Go.Operand.tmp 29), type := 33, pos := "law.go:24", after := #[{ on := 6, ground := Go.Ground.data }, { on := 8, ground := Go.Ground.chain }, { on := 0, ground := Go.Ground.phase }, { on := 1, ground := Go.Ground.phase }, { on := 2, ground := Go.Ground.phase }, { on := 3, ground := Go.Ground.phase }, { on := 4, ground := Go.Ground.phase }, { on := 5, ground := Go.Ground.phase }, { on := 6, ground := Go.Ground.phase }, { on := 7, ground := Go.Ground.phase }, { on := 8, ground := Go.Ground.phase }], guard := none } : Oper)) (v := ?_) rfl (by kernel_rfl) (by kernel_rfl) (by kernel_rfl) (fun _ _ _ h => h) (Or.inl ⟨by rfl, ?_⟩) (by assumption) ?_
                rotate_left
                · (intro wS hSw; (try dsimp only at hSw); go_simp <;> with_reducible rfl)
                try simp only [Act.put, List.setIfInBounds_toArray, List.set_cons_zero, List.set_cons_succ]
                refine wpAnyH_done (by kernel_rfl) ?_ _
                go_wp2_with fail
                go_meet
                exact ⟨rfl, HG⟩
              exact AllReadyH.nil
            exact AllReadyH.nil
          refine AllReadyH.cons (o := ({ dst := some 4, op := Go.Op.alloc 27, type := 0, pos := "law.go:24", after := #[], guard := none } : Oper)) rfl (fun K hK => ?_) ?_
          · go_simp
            have hgN := World.grownBy_alloc wy2 (.cells #[.slice none 0 0, .slice none 0 0, .slice none 0 0] 27) none
            have hbN := Lib.hid (heap_alloc_new wy2 (.cells #[.slice none 0 0, .slice none 0 0, .slice none 0 0] 27))
            have hlN := Lib.hid (Nat.le_refl wy2.heap.size)
            generalize wy2.alloc (.cells #[.slice none 0 0, .slice none 0 0, .slice none 0 0] 27) = wy6 at hgN hbN ⊢
            obtain ⟨be, hb_be⟩ : ∃ b : Nat, b = wy2.heap.size := ⟨_, rfl⟩
            rw [← hb_be] at hbN ⊢
            have HB_be := hbN
            have HL_be := Lib.hid (Nat.le_trans HG.out.size (Nat.le_of_eq hb_be.symm))
            clear hbN hlN hb_be
            replace HB_bs := Lib.hid (blk_kept HB_bs.out hgN (by simp))
            replace HSq := Lib.hid (HSq.out.kept hgN (by simp) (by simp))
            replace HG := Lib.hid (gb_trans HG.out hgN (Or.inl rfl))
            clear hgN
            refine hK.out _ _ (HSS.out _ HG.out) (fun hHeld => ?_)
            clear hK K
            try simp only [Act.put, List.setIfInBounds_toArray, List.set_cons_zero, List.set_cons_succ]
            refine wpAnyH_ready (rs := [3]) (by kernel_rfl) (by simp) ?_
            refine AllReadyH.cons (o := ({ dst := some 27, op := Go.Op.call { callee := Go.Callee.value (Go.Operand.func 23), args := #[Go.Operand.tmp 24, Go.Operand.tmp 26, Go.Operand.const (Go.Value.int Go.IntKind.i64 1)], argTypes := #[47, 50, 3] }, type := 52, pos := "law.go:24", after := #[{ on := 0, ground := Go.Ground.data }, { on := 2, ground := Go.Ground.data }, { on := 2, ground := Go.Ground.chain }], guard := none } : Oper)) rfl (fun K hK => ?_) ?_
            · go_simp
              ((with_reducible refine (HBl1c.out _ _ _ _ HG.out HSq.out).mono ?_); rintro e wy7 ⟨rfl, hgN⟩)
              replace HB_bs := Lib.hid (blk_kept HB_bs.out hgN (by simp))
              replace HSq := Lib.hid (HSq.out.kept hgN (by simp) (by simp))
              replace HB_be := Lib.hid (blk_kept HB_be.out hgN (by simp))
              replace HG := Lib.hid (gb_trans HG.out hgN (Or.inl rfl))
              clear hgN
              refine hK.out _ _ (HSS.out _ HG.out) (fun hHeld => ?_)
              clear hK K
              try simp only [Act.put, List.setIfInBounds_toArray, List.set_cons_zero, List.set_cons_succ]
              refine wpAnyH_take (i := 4) (oi := ({ dst := some 23, op := Go.Op.move (Go.Operand.tmp 27), type := 52, pos := "law.go:24", after := #[{ on := 3, ground := Go.Ground.data }], guard := none } : Oper)) (v := ?_) rfl (by kernel_rfl) (by kernel_rfl) (by kernel_rfl) (fun _ _ _ h => h) (Or.inl ⟨by rfl, ?_⟩) (by assumption) ?_
              rotate_left
              · (intro wS hSw; (try dsimp only at hSw); go_simp <;> with_reducible rfl)
              try simp only [Act.put, List.setIfInBounds_toArray, List.set_cons_zero, List.set_cons_succ]
              refine wpAnyH_take (i := 5) (oi := ({ dst := some 28, op := Go.Op.extract (Go.Operand.tmp 23) 0, type := 27, pos := "law.go:24", after := #[{ on := 4, ground := Go.Ground.data }], guard := none } : Oper)) (v := ?_) rfl (by kernel_rfl) (by kernel_rfl) (by kernel_rfl) (fun _ _ _ h => h) (Or.inl ⟨by rfl, ?_⟩) (by assumption) ?_
              rotate_left
              · (intro wS hSw; (try dsimp only at hSw); go_simp <;> with_reducible rfl)
              try simp only [Act.put, List.setIfInBounds_toArray, List.set_cons_zero, List.set_cons_succ]
              refine wpAnyH_take (i := 6) (oi := ({ dst := some 29, op := Go.Op.extract (Go.Operand.tmp 23) 1, type := 33, pos := "law.go:24", after := #[{ on := 4, ground := Go.Ground.data }, { on := 8, ground := Go.Ground.gcOnly Go.Departure.lateStores }], guard := none } : Oper)) (v := ?_) rfl (by kernel_rfl) (by kernel_rfl) (by kernel_rfl) (fun _ _ _ h => h) (Or.inl ⟨by rfl, ?_⟩) (by assumption) ?_
              rotate_left
              · (intro wS hSw; (try dsimp only at hSw); go_simp <;> with_reducible rfl)
              try simp only [Act.put, List.setIfInBounds_toArray, List.set_cons_zero, List.set_cons_succ]
              refine wpAnyH_ready (rs := [8]) (by kernel_rfl) (by simp) ?_
              refine AllReadyH.cons (o := ({ dst := none, op := Go.Op.store 27 (Go.Operand.tmp 4) (Go.Operand.tmp 28), type := 0, pos := "law.go:24", after := #[{ on := 7, ground := Go.Ground.data }, { on := 5, ground := Go.Ground.data }, { on := 3, ground := Go.Ground.chain }, { on := 0, ground := Go.Ground.phase }, { on := 1, ground := Go.Ground.phase }, { on := 2, ground := Go.Ground.phase }, { on := 3, ground := Go.Ground.phase }, { on := 4, ground := Go.Ground.phase }, { on := 5, ground := Go.Ground.phase }, { on := 6, ground := Go.Ground.textOnly Go.Departure.lateStores }, { on := 7, ground := Go.Ground.phase }], guard := none } : Oper)) rfl (fun K hK => ?_) ?_
              · obtain ⟨c0, c1, c2, cf⟩ := dfa_cells HB_be.out
                have f0 := cf 0
                have f1 := cf 1
                have f2 := cf 2
                clear cf
                go_simp
                obtain ⟨hs3, hg3⟩ := set3 HB_be.out (.slice none 0 0) (.slice none 0 0) (.slice none 0 0)
                replace HG := Lib.hid (gb_trans HG.out hg3 (Or.inr (Or.inr ⟨_, rfl, HL_be.out⟩)))
                clear c0 c1 c2 f0 f1 f2 hg3
                generalize (((wy7.setCell ⟨be, 0, none⟩ (.slice none 0 0)).setCell ⟨be, 1, none⟩ (.slice none 0 0)).setCell ⟨be, 2, none⟩ (.slice none 0 0)) = wy8 at *
                replace HB_be := Lib.hid hs3
                clear hs3
                refine hK.out _ _ (HSS.out _ HG.out) (fun hHeld => ?_)
                clear hK K
                try simp only [Act.put, List.setIfInBounds_toArray, List.set_cons_zero, List.set_cons_succ]
                refine wpAnyH_take (i := 9) (oi := ({ dst := some 5, op := Go.Op.assign (Go.Operand.tmp 29), type := 33, pos := "law.go:24", after := #[{ on := 6, ground := Go.Ground.data }, { on := 8, ground := Go.Ground.chain }, { on := 0, ground := Go.Ground.phase }, { on := 1, ground := Go.Ground.phase }, { on := 2, ground := Go.Ground.phase }, { on := 3, ground := Go.Ground.phase }, { on := 4, ground := Go.Ground.phase }, { on := 5, ground := Go.Ground.phase }, { on := 6, ground := Go.Ground.phase }, { on := 7, ground := Go.Ground.phase }, { on := 8, ground := Go.Ground.phase }], guard := none } : Oper)) (v := ?_) rfl (by kernel_rfl) (by kernel_rfl) (by kernel_rfl) (fun _ _ _ h => h) (Or.inl ⟨by rfl, ?_⟩) (by assumption) ?_
                rotate_left
                · (intro wS hSw; (try dsimp only at hSw); go_simp <;> with_reducible rfl)
                try simp only [Act.put, List.setIfInBounds_toArray, List.set_cons_zero, List.set_cons_succ]
                refine wpAnyH_done (by kernel_rfl) ?_ _
                go_wp2_with fail
                go_meet
                exact ⟨rfl, HG⟩
              exact AllReadyH.nil
            exact AllReadyH.nil
          exact AllReadyH.nil
        refine AllReadyH.cons (o := ({ dst := some 4, op := Go.Op.alloc 27, type := 0, pos := "law.go:24", after := #[], guard := none } : Oper)) rfl (fun K hK => ?_) ?_
        · go_simp
          have hgN := World.grownBy_alloc wy1 (.cells #[.slice none 0 0, .slice none 0 0, .slice none 0 0] 27) none
          have hbN := Lib.hid (heap_alloc_new wy1 (.cells #[.slice none 0 0, .slice none 0 0, .slice none 0 0] 27))
          have hlN := Lib.hid (Nat.le_refl wy1.heap.size)
          generalize wy1.alloc (.cells #[.slice none 0 0, .slice none 0 0, .slice none 0 0] 27) = wy9 at hgN hbN ⊢
          obtain ⟨be, hb_be⟩ : ∃ b : Nat, b = wy1.heap.size := ⟨_, rfl⟩
          rw [← hb_be] at hbN ⊢
          have HB_be := hbN
          have HL_be := Lib.hid (Nat.le_trans HG.out.size (Nat.le_of_eq hb_be.symm))
          clear hbN hlN hb_be
          replace HB_bs := Lib.hid (blk_kept HB_bs.out hgN (by simp))
          replace HG := Lib.hid (gb_trans HG.out hgN (Or.inl rfl))
          clear hgN
          refine hK.out _ _ (HSS.out _ HG.out) (fun hHeld => ?_)
          clear hK K
          try simp only [Act.put, List.setIfInBounds_toArray, List.set_cons_zero, List.set_cons_succ]
          refine wpAnyH_ready (rs := [2]) (by kernel_rfl) (by simp) ?_
          refine AllReadyH.cons (o := ({ dst := some 26, op := Go.Op.call { callee := Go.Callee.value (Go.Operand.func 22), args := #[Go.Operand.const (Go.Value.int Go.IntKind.i64 1), Go.Operand.tmp 25], argTypes := #[3, 43] }, type := 50, pos := "law.go:24", after := #[{ on := 1, ground := Go.Ground.data }], guard := none } : Oper)) rfl (fun K hK => ?_) ?_
          · go_simp
            ((with_reducible refine (HOf.out _ _ (ints_blk HB_bs.out (by decide))).mono ?_); rintro e wy10 ⟨q, gq, cq, M, rfl, hq1, hq2, hsq, hMq, hgN⟩)
            have HSq := Lib.hid hsq
            rw [hMq.out] at HSq
            clear hsq hq1 hq2 hMq
            replace HB_bs := Lib.hid (blk_kept HB_bs.out hgN (by simp))
            replace HB_be := Lib.hid (blk_kept HB_be.out hgN (by simp))
            replace HG := Lib.hid (gb_trans HG.out hgN (Or.inl rfl))
            clear hgN
            refine hK.out _ _ (HSS.out _ HG.out) (fun hHeld => ?_)
            clear hK K
            try simp only [Act.put, List.setIfInBounds_toArray, List.set_cons_zero, List.set_cons_succ]
            refine wpAnyH_ready (rs := [3]) (by kernel_rfl) (by simp) ?_
            refine AllReadyH.cons (o := ({ dst := some 27, op := Go.Op.call { callee := Go.Callee.value (Go.Operand.func 23), args := #[Go.Operand.tmp 24, Go.Operand.tmp 26, Go.Operand.const (Go.Value.int Go.IntKind.i64 1)], argTypes := #[47, 50, 3] }, type := 52, pos := "law.go:24", after := #[{ on := 0, ground := Go.Ground.data }, { on := 2, ground := Go.Ground.data }, { on := 2, ground := Go.Ground.chain }], guard := none } : Oper)) rfl (fun K hK => ?_) ?_
            · go_simp
              ((with_reducible refine (HBl1c.out _ _ _ _ HG.out HSq.out).mono ?_); rintro e wy11 ⟨rfl, hgN⟩)
              replace HB_bs := Lib.hid (blk_kept HB_bs.out hgN (by simp))
              replace HB_be := Lib.hid (blk_kept HB_be.out hgN (by simp))
              replace HSq := Lib.hid (HSq.out.kept hgN (by simp) (by simp))
              replace HG := Lib.hid (gb_trans HG.out hgN (Or.inl rfl))
              clear hgN
              refine hK.out _ _ (HSS.out _ HG.out) (fun hHeld => ?_)
              clear hK K
              try simp only [Act.put, List.setIfInBounds_toArray, List.set_cons_zero, List.set_cons_succ]
              refine wpAnyH_take (i := 4) (oi := ({ dst := some 23, op := Go.Op.move (Go.Operand.tmp 27), type := 52, pos := "law.go:24", after := #[{ on := 3, ground := Go.Ground.data }], guard := none } : Oper)) (v := ?_) rfl (by kernel_rfl) (by kernel_rfl) (by kernel_rfl) (fun _ _ _ h => h) (Or.inl ⟨by rfl, ?_⟩) (by assumption) ?_
              rotate_left
              · (intro wS hSw; (try dsimp only at hSw); go_simp <;> with_reducible rfl)
              try simp only [Act.put, List.setIfInBounds_toArray, List.set_cons_zero, List.set_cons_succ]
              refine wpAnyH_take (i := 5) (oi := ({ dst := some 28, op := Go.Op.extract (Go.Operand.tmp 23) 0, type := 27, pos := "law.go:24", after := #[{ on := 4, ground := Go.Ground.data }], guard := none } : Oper)) (v := ?_) rfl (by kernel_rfl) (by kernel_rfl) (by kernel_rfl) (fun _ _ _ h => h) (Or.inl ⟨by rfl, ?_⟩) (by assumption) ?_
              rotate_left
              · (intro wS hSw; (try dsimp only at hSw); go_simp <;> with_reducible rfl)
              try simp only [Act.put, List.setIfInBounds_toArray, List.set_cons_zero, List.set_cons_succ]
              refine wpAnyH_take (i := 6) (oi := ({ dst := some 29, op := Go.Op.extract (Go.Operand.tmp 23) 1, type := 33, pos := "law.go:24", after := #[{ on := 4, ground := Go.Ground.data }, { on := 8, ground := Go.Ground.gcOnly Go.Departure.lateStores }], guard := none } : Oper)) (v := ?_) rfl (by kernel_rfl) (by kernel_rfl) (by kernel_rfl) (fun _ _ _ h => h) (Or.inl ⟨by rfl, ?_⟩) (by assumption) ?_
              rotate_left
              · (intro wS hSw; (try dsimp only at hSw); go_simp <;> with_reducible rfl)
              try simp only [Act.put, List.setIfInBounds_toArray, List.set_cons_zero, List.set_cons_succ]
              refine wpAnyH_ready (rs := [8]) (by kernel_rfl) (by simp) ?_
              refine AllReadyH.cons (o := ({ dst := none, op := Go.Op.store 27 (Go.Operand.tmp 4) (Go.Operand.tmp 28), type := 0, pos := "law.go:24", after := #[{ on := 7, ground := Go.Ground.data }, { on := 5, ground := Go.Ground.data }, { on := 3, ground := Go.Ground.chain }, { on := 0, ground := Go.Ground.phase }, { on := 1, ground := Go.Ground.phase }, { on := 2, ground := Go.Ground.phase }, { on := 3, ground := Go.Ground.phase }, { on := 4, ground := Go.Ground.phase }, { on := 5, ground := Go.Ground.phase }, { on := 6, ground := Go.Ground.textOnly Go.Departure.lateStores }, { on := 7, ground := Go.Ground.phase }], guard := none } : Oper)) rfl (fun K hK => ?_) ?_
              · obtain ⟨c0, c1, c2, cf⟩ := dfa_cells HB_be.out
                have f0 := cf 0
                have f1 := cf 1
                have f2 := cf 2
                clear cf
                go_simp
                obtain ⟨hs3, hg3⟩ := set3 HB_be.out (.slice none 0 0) (.slice none 0 0) (.slice none 0 0)
                replace HG := Lib.hid (gb_trans HG.out hg3 (Or.inr (Or.inr ⟨_, rfl, HL_be.out⟩)))
                clear c0 c1 c2 f0 f1 f2 hg3
                generalize (((wy11.setCell ⟨be, 0, none⟩ (.slice none 0 0)).setCell ⟨be, 1, none⟩ (.slice none 0 0)).setCell ⟨be, 2, none⟩ (.slice none 0 0)) = wy12 at *
                replace HB_be := Lib.hid hs3
                clear hs3
                refine hK.out _ _ (HSS.out _ HG.out) (fun hHeld => ?_)
                clear hK K
                try simp only [Act.put, List.setIfInBounds_toArray, List.set_cons_zero, List.set_cons_succ]
                refine wpAnyH_take (i := 9) (oi := ({ dst := some 5, op := Go.Op.assign (Go.Operand.tmp 29), type := 33, pos := "law.go:24", after := #[{ on := 6, ground := Go.Ground.data }, { on := 8, ground := Go.Ground.chain }, { on := 0, ground := Go.Ground.phase }, { on := 1, ground := Go.Ground.phase }, { on := 2, ground := Go.Ground.phase }, { on := 3, ground := Go.Ground.phase }, { on := 4, ground := Go.Ground.phase }, { on := 5, ground := Go.Ground.phase }, { on := 6, ground := Go.Ground.phase }, { on := 7, ground := Go.Ground.phase }, { on := 8, ground := Go.Ground.phase }], guard := none } : Oper)) (v := ?_) rfl (by kernel_rfl) (by kernel_rfl) (by kernel_rfl) (fun _ _ _ h => h) (Or.inl ⟨by rfl, ?_⟩) (by assumption) ?_
                rotate_left
                · (intro wS hSw; (try dsimp only at hSw); go_simp <;> with_reducible rfl)
                try simp only [Act.put, List.setIfInBounds_toArray, List.set_cons_zero, List.set_cons_succ]
                refine wpAnyH_done (by kernel_rfl) ?_ _
                go_wp2_with fail
                go_meet
                exact ⟨rfl, HG⟩
              exact AllReadyH.nil
            exact AllReadyH.nil
          exact AllReadyH.nil
        exact AllReadyH.nil
      refine AllReadyH.cons (o := ({ dst := some 4, op := Go.Op.alloc 27, type := 0, pos := "law.go:24", after := #[], guard := none } : Oper)) rfl (fun K hK => ?_) ?_
      · go_simp
        have hgN := World.grownBy_alloc wy0 (.cells #[.slice none 0 0, .slice none 0 0, .slice none 0 0] 27) none
        have hbN := Lib.hid (heap_alloc_new wy0 (.cells #[.slice none 0 0, .slice none 0 0, .slice none 0 0] 27))
        have hlN := Lib.hid (Nat.le_refl wy0.heap.size)
        generalize wy0.alloc (.cells #[.slice none 0 0, .slice none 0 0, .slice none 0 0] 27) = wy13 at hgN hbN ⊢
        obtain ⟨be, hb_be⟩ : ∃ b : Nat, b = wy0.heap.size := ⟨_, rfl⟩
        rw [← hb_be] at hbN ⊢
        have HB_be := hbN
        have HL_be := Lib.hid (Nat.le_trans HG.out.size (Nat.le_of_eq hb_be.symm))
        clear hbN hlN hb_be
        replace HG := Lib.hid (gb_trans HG.out hgN (Or.inl rfl))
        clear hgN
        refine hK.out _ _ (HSS.out _ HG.out) (fun hHeld => ?_)
        clear hK K
        try simp only [Act.put, List.setIfInBounds_toArray, List.set_cons_zero, List.set_cons_succ]
        refine wpAnyH_ready (rs := [1]) (by kernel_rfl) (by simp) ?_
        refine AllReadyH.cons (o := ({ dst := some 25, op := Go.Op.buildSlice 43 1 #[(0, Go.Operand.const (Go.Value.int Go.IntKind.i64 0))], type := 43, pos := "law.go:24", after := #[], guard := none } : Oper)) rfl (fun K hK => ?_) ?_
        · go_simp
          have hgN := World.grownBy_alloc wy13 (.cells #[.int .i64 0] 3) none
          have hbN := Lib.hid (heap_alloc_new wy13 (.cells #[.int .i64 0] 3))
          have hlN := Lib.hid (Nat.le_refl wy13.heap.size)
          generalize wy13.alloc (.cells #[.int .i64 0] 3) = wy14 at hgN hbN ⊢
          obtain ⟨bs, hb_bs⟩ : ∃ b : Nat, b = wy13.heap.size := ⟨_, rfl⟩
          rw [← hb_bs] at hbN ⊢
          have HB_bs := hbN
          have HL_bs := Lib.hid (Nat.le_trans HG.out.size (Nat.le_of_eq hb_bs.symm))
          clear hbN hlN hb_bs
          replace HB_be := Lib.hid (blk_kept HB_be.out hgN (by simp))
          replace HG := Lib.hid (gb_trans HG.out hgN (Or.inl rfl))
          clear hgN
          refine hK.out _ _ (HSS.out _ HG.out) (fun hHeld => ?_)
          clear hK K
          try simp only [Act.put, List.setIfInBounds_toArray, List.set_cons_zero, List.set_cons_succ]
          refine wpAnyH_ready (rs := [2]) (by kernel_rfl) (by simp) ?_
          refine AllReadyH.cons (o := ({ dst := some 26, op := Go.Op.call { callee := Go.Callee.value (Go.Operand.func 22), args := #[Go.Operand.const (Go.Value.int Go.IntKind.i64 1), Go.Operand.tmp 25], argTypes := #[3, 43] }, type := 50, pos := "law.go:24", after := #[{ on := 1, ground := Go.Ground.data }], guard := none } : Oper)) rfl (fun K hK => ?_) ?_
          · go_simp
            ((with_reducible refine (HOf.out _ _ (ints_blk HB_bs.out (by decide))).mono ?_); rintro e wy15 ⟨q, gq, cq, M, rfl, hq1, hq2, hsq, hMq, hgN⟩)
            have HSq := Lib.hid hsq
            rw [hMq.out] at HSq
            clear hsq hq1 hq2 hMq
            replace HB_be := Lib.hid (blk_kept HB_be.out hgN (by simp))
            replace HB_bs := Lib.hid (blk_kept HB_bs.out hgN (by simp))
            replace HG := Lib.hid (gb_trans HG.out hgN (Or.inl rfl))
            clear hgN
            refine hK.out _ _ (HSS.out _ HG.out) (fun hHeld => ?_)
            clear hK K
            try simp only [Act.put, List.setIfInBounds_toArray, List.set_cons_zero, List.set_cons_succ]
            refine wpAnyH_ready (rs := [3]) (by kernel_rfl) (by simp) ?_
            refine AllReadyH.cons (o := ({ dst := some 27, op := Go.Op.call { callee := Go.Callee.value (Go.Operand.func 23), args := #[Go.Operand.tmp 24, Go.Operand.tmp 26, Go.Operand.const (Go.Value.int Go.IntKind.i64 1)], argTypes := #[47, 50, 3] }, type := 52, pos := "law.go:24", after := #[{ on := 0, ground := Go.Ground.data }, { on := 2, ground := Go.Ground.data }, { on := 2, ground := Go.Ground.chain }], guard := none } : Oper)) rfl (fun K hK => ?_) ?_
            · go_simp
              ((with_reducible refine (HBl1c.out _ _ _ _ HG.out HSq.out).mono ?_); rintro e wy16 ⟨rfl, hgN⟩)
              replace HB_be := Lib.hid (blk_kept HB_be.out hgN (by simp))
              replace HB_bs := Lib.hid (blk_kept HB_bs.out hgN (by simp))
              replace HSq := Lib.hid (HSq.out.kept hgN (by simp) (by simp))
              replace HG := Lib.hid (gb_trans HG.out hgN (Or.inl rfl))
              clear hgN
              refine hK.out _ _ (HSS.out _ HG.out) (fun hHeld => ?_)
              clear hK K
              try simp only [Act.put, List.setIfInBounds_toArray, List.set_cons_zero, List.set_cons_succ]
              refine wpAnyH_take (i := 4) (oi := ({ dst := some 23, op := Go.Op.move (Go.Operand.tmp 27), type := 52, pos := "law.go:24", after := #[{ on := 3, ground := Go.Ground.data }], guard := none } : Oper)) (v := ?_) rfl (by kernel_rfl) (by kernel_rfl) (by kernel_rfl) (fun _ _ _ h => h) (Or.inl ⟨by rfl, ?_⟩) (by assumption) ?_
              rotate_left
              · (intro wS hSw; (try dsimp only at hSw); go_simp <;> with_reducible rfl)
              try simp only [Act.put, List.setIfInBounds_toArray, List.set_cons_zero, List.set_cons_succ]
              refine wpAnyH_take (i := 5) (oi := ({ dst := some 28, op := Go.Op.extract (Go.Operand.tmp 23) 0, type := 27, pos := "law.go:24", after := #[{ on := 4, ground := Go.Ground.data }], guard := none } : Oper)) (v := ?_) rfl (by kernel_rfl) (by kernel_rfl) (by kernel_rfl) (fun _ _ _ h => h) (Or.inl ⟨by rfl, ?_⟩) (by assumption) ?_
              rotate_left
              · (intro wS hSw; (try dsimp only at hSw); go_simp <;> with_reducible rfl)
              try simp only [Act.put, List.setIfInBounds_toArray, List.set_cons_zero, List.set_cons_succ]
              refine wpAnyH_take (i := 6) (oi := ({ dst := some 29, op := Go.Op.extract (Go.Operand.tmp 23) 1, type := 33, pos := "law.go:24", after := #[{ on := 4, ground := Go.Ground.data }, { on := 8, ground := Go.Ground.gcOnly Go.Departure.lateStores }], guard := none } : Oper)) (v := ?_) rfl (by kernel_rfl) (by kernel_rfl) (by kernel_rfl) (fun _ _ _ h => h) (Or.inl ⟨by rfl, ?_⟩) (by assumption) ?_
              rotate_left
              · (intro wS hSw; (try dsimp only at hSw); go_simp <;> with_reducible rfl)
              try simp only [Act.put, List.setIfInBounds_toArray, List.set_cons_zero, List.set_cons_succ]
              refine wpAnyH_ready (rs := [8]) (by kernel_rfl) (by simp) ?_
              refine AllReadyH.cons (o := ({ dst := none, op := Go.Op.store 27 (Go.Operand.tmp 4) (Go.Operand.tmp 28), type := 0, pos := "law.go:24", after := #[{ on := 7, ground := Go.Ground.data }, { on := 5, ground := Go.Ground.data }, { on := 3, ground := Go.Ground.chain }, { on := 0, ground := Go.Ground.phase }, { on := 1, ground := Go.Ground.phase }, { on := 2, ground := Go.Ground.phase }, { on := 3, ground := Go.Ground.phase }, { on := 4, ground := Go.Ground.phase }, { on := 5, ground := Go.Ground.phase }, { on := 6, ground := Go.Ground.textOnly Go.Departure.lateStores }, { on := 7, ground := Go.Ground.phase }], guard := none } : Oper)) rfl (fun K hK => ?_) ?_
              · obtain ⟨c0, c1, c2, cf⟩ := dfa_cells HB_be.out
                have f0 := cf 0
                have f1 := cf 1
                have f2 := cf 2
                clear cf
                go_simp
                obtain ⟨hs3, hg3⟩ := set3 HB_be.out (.slice none 0 0) (.slice none 0 0) (.slice none 0 0)
                replace HG := Lib.hid (gb_trans HG.out hg3 (Or.inr (Or.inr ⟨_, rfl, HL_be.out⟩)))
                clear c0 c1 c2 f0 f1 f2 hg3
                generalize (((wy16.setCell ⟨be, 0, none⟩ (.slice none 0 0)).setCell ⟨be, 1, none⟩ (.slice none 0 0)).setCell ⟨be, 2, none⟩ (.slice none 0 0)) = wy17 at *
                replace HB_be := Lib.hid hs3
                clear hs3
                refine hK.out _ _ (HSS.out _ HG.out) (fun hHeld => ?_)
                clear hK K
                try simp only [Act.put, List.setIfInBounds_toArray, List.set_cons_zero, List.set_cons_succ]
                refine wpAnyH_take (i := 9) (oi := ({ dst := some 5, op := Go.Op.assign (Go.Operand.tmp 29), type := 33, pos := "law.go:24", after := #[{ on := 6, ground := Go.Ground.data }, { on := 8, ground := Go.Ground.chain }, { on := 0, ground := Go.Ground.phase }, { on := 1, ground := Go.Ground.phase }, { on := 2, ground := Go.Ground.phase }, { on := 3, ground := Go.Ground.phase }, { on := 4, ground := Go.Ground.phase }, { on := 5, ground := Go.Ground.phase }, { on := 6, ground := Go.Ground.phase }, { on := 7, ground := Go.Ground.phase }, { on := 8, ground := Go.Ground.phase }], guard := none } : Oper)) (v := ?_) rfl (by kernel_rfl) (by kernel_rfl) (by kernel_rfl) (fun _ _ _ h => h) (Or.inl ⟨by rfl, ?_⟩) (by assumption) ?_
                rotate_left
                · (intro wS hSw; (try dsimp only at hSw); go_simp <;> with_reducible rfl)
                try simp only [Act.put, List.setIfInBounds_toArray, List.set_cons_zero, List.set_cons_succ]
                refine wpAnyH_done (by kernel_rfl) ?_ _
                go_wp2_with fail
                go_meet
                exact ⟨rfl, HG⟩
              exact AllReadyH.nil
            exact AllReadyH.nil
          exact AllReadyH.nil
        exact AllReadyH.nil
      exact AllReadyH.nil
    case rest =>
      obtain ⟨rfl, HG⟩ := hcut
      have HG3 := Lib.hid (gb_trans HGd.out HG.out (Or.inl rfl))
      have hd := blk_kept HD.out HG.out (by simp)
      have HDf3 := Lib.hid (HDf.out.kept HG.out)
      have HDd := Lib.hid hd
      obtain ⟨d0, d1, d2, _⟩ := dfa_cells hd
      obtain ⟨_, _, e1, _, _, hb3⟩ := HDf3.out.b
      cases e1
      rcases hb3 with hb3 | ⟨bl, offl, rfl, hb3⟩
      · cases hb3
      have l0 : wc.cell? ⟨bl, offl, none⟩ = some (.bool true) := hb3 0 (by decide)
      have l1 : wc.cell? ⟨bl, offl + 1, none⟩ = some (.bool false) := hb3 1 (by decide)
      have HH1 : Hid (∀ (wx : World) (vu : Value), wc.grownBy wx none → LettersAt wx vu [1, 1] → Calls Try.prog 13 #[.agg #[.slice xp 1 yp, .slice xn 2 yn, .slice (some ⟨bl, offl, none⟩) 2 yl], vu] wx fun e w' => e = .returned (.tuple #[.bool true, .int .i64 0]) ∧ wx.grownBy w' none) := Lib.hid fun wx vu hx hu => by
        have := dhas_any _ _ _ vu kD [1, 1] wx (HDf3.out.kept hx) hu
        rw [k_yes, k_c1] at this
        exact this
      have HH2 : Hid (∀ (wx : World) (vu : Value), wc.grownBy wx none → LettersAt wx vu [1, 0] → Calls Try.prog 13 #[.agg #[.slice xp 1 yp, .slice xn 2 yn, .slice (some ⟨bl, offl, none⟩) 2 yl], vu] wx fun e w' => e = .returned (.tuple #[.bool false, .int .i64 0]) ∧ wx.grownBy w' none) := Lib.hid fun wx vu hx hu => by
        have := dhas_any _ _ _ vu kD [1, 0] wx (HDf3.out.kept hx) hu
        rw [k_no, k_c2] at this
        exact this
      have HCk : Hid (∀ (wx : World), wc.grownBy wx none → Calls Try.prog 14 #[.agg #[.slice xp 1 yp, .slice xn 2 yn, .slice (some ⟨bl, offl, none⟩) 2 yl]] wx fun e w' => e = .returned (.int .i64 0) ∧ wx.grownBy w' none) := Lib.hid fun wx hx => by
        have := right_any _ _ _ kD wx (HDf3.out.kept hx)
        rw [k_err] at this
        exact this
      clear hd hb3 HDf HDf3 HD HGd HBl1c HSS HG HA HBX
      go_wp2_with fail
      have hga := World.grownBy_alloc wc (.cells #[.int .u16 1, .int .u16 1] 55) none
      refine (HH1.out _ _ hga (letters_blk (x := 1) (y := 1) (heap_alloc_new _ _) (by decide) (by decide))).mono ?_
      rintro e w5 ⟨rfl, hg5⟩
      have HG5 := Lib.hid (gb_trans hga hg5 (Or.inl rfl))
      obtain ⟨d0, d1, d2, _⟩ := dfa_cells (blk_kept HDd.out HG5.out (by simp))
      clear hga hg5
      go_wp2_with fail
      have hga := World.grownBy_alloc w5 (.cells #[.int .u16 1, .int .u16 0] 55) none
      refine (HH2.out _ _ (gb_trans HG5.out hga (Or.inl rfl)) (letters_blk (x := 1) (y := 0) (heap_alloc_new _ _) (by decide) (by decide))).mono ?_
      rintro e w6 ⟨rfl, hg6⟩
      have HG6 := Lib.hid (gb_trans HG5.out (gb_trans hga hg6 (Or.inl rfl)) (Or.inl rfl))
      obtain ⟨d0, d1, d2, _⟩ := dfa_cells (blk_kept HDd.out HG6.out (by simp))
      clear hga hg6
      go_wp2_with fail
      refine (HCk.out _ HG6.out).mono ?_
      rintro e w7 ⟨rfl, hg7⟩
      go_wp2_with fail
      go_ret
      exact ⟨rfl, gb_trans HG3.out (gb_trans HG6.out hg7 (Or.inl rfl)) (Or.inl rfl)⟩
end Go.Proofs.Ytcdepblajobemaa
