/- Dfa: the document's answer: is an automaton right? -/
import Derived.Test.YtcdepblajobemaaBuilds12
import Derived.Outline
set_option maxRecDepth 100000
namespace Go.Proofs.Ytcdepblajobemaa
open Go.RowKit

theorem all16 : ∀ m : Nat, m ≤ 8 → IntKind.u16.wrap (IntKind.u16.wrap ((2 : Int) ^ m) - 1) = ((2 ^ m - 1 : Nat) : Int) := by decide +kernel
set_option maxHeartbeats 8000000 in
theorem refcheckg_any (vp vi ve vs : Value) (P : List ByteArray) (n : Int) (I : List Int) (E : List Edg) (S : List (List Int)) (w : World) (hP : TextsAt w vp P) (hI : IntsAt w vi I) (hE : EdgesAt w ve E) (hS : RowsAt2 w vs S) :
    Calls Try.prog 45 #[.agg #[vp, .int .i64 n, vi, ve, vs]] w fun e w' => e = .returned (.int .i64 (chkG P n I E S)) ∧ w.grownBy w' none := by
  have HP := Lib.hid hP
  have HI := Lib.hid hI
  have HE := Lib.hid hE
  have HS := Lib.hid hS
  obtain ⟨ap, cp, rfl, -⟩ := hP
  obtain ⟨ai, ci, rfl, -⟩ := hI
  obtain ⟨ae, ce, rfl, hce, hbe, hle, -⟩ := hE
  obtain ⟨az, cs, rfl, hcs, hls, -⟩ := hS
  have HBe := Lib.hid hbe
  clear hbe
  have HR : Hid (rightF P n I E S = (namesF P && (decide (0 ≤ n) && (decide (n ≤ 65536) && (risingF I n && ((List.range E.length).all (edgeB P.length n E) && (List.range S.length).all fun k => risingF (S.getD k []) n)))))) := Lib.hid rfl
  have HNo := Lib.hid (chk_no (P := P) (n := n) (I := I) (E := E) (S := S))
  have HYe : Hid (rightF P n I E S = true → chkG P n I E S = 0) := Lib.hid fun h => by unfold chkG; rw [h]; rfl
  have hb0 := heap_alloc_new w (.cells #[.slice ap P.length cp, .int .i64 n, .slice ai I.length ci, .slice ae E.length ce, .slice az S.length cs] 87)
  have HG0 := Lib.hid (World.grownBy_alloc w (.cells #[.slice ap P.length cp, .int .i64 n, .slice ai I.length ci, .slice ae E.length ce, .slice az S.length cs] 87) none)
  generalize rightF P n I E S = rf at HR HNo HYe
  generalize chkG P n I E S = cg at HNo HYe
  go_enter Try.func45, Try.ntmps45
  go_wp2_with fail
  generalize w.alloc (.cells #[.slice ap P.length cp, .int .i64 n, .slice ai I.length ci, .slice ae E.length ce, .slice az S.length cs] 87) = w0 at hb0 HG0 ⊢
  have HB0 := Lib.hid hb0
  have HRw : Hid (∀ wx, w0.grownBy wx none → Calls Try.prog 95 #[.slice ai I.length ci, .int .i64 n] wx fun e w' => e = .returned (.bool (risingF I n)) ∧ wx.grownBy w' none) := Lib.hid fun wx h => (refrising_any _ I n wx ((HI.out.kept HG0.out).kept h)).mono fun e w' ⟨he, q, hq⟩ => ⟨he, by rw [hq]; exact gb_drewN wx q none⟩
  refine (refnames10 _ P w0 (HP.out.kept HG0.out)).mono ?_
  rintro e w1 ⟨rfl, hg1⟩
  have HG1 := Lib.hid hg1
  obtain ⟨g0, g1, g2, g3, g4⟩ := gen_cells (blk_kept HB0.out hg1 (by simp))
  clear hb0 hg1
  cases hN : namesF P
  · rw [hN] at HR
    have HV := Lib.hid (HNo.out (by rw [HR.out]; rfl))
    clear HNo HYe HR HRw hN
    go_wp2_with fail
    go_ret
    exact ⟨by rw [HV.out]; rfl, gb_trans HG0.out HG1.out (Or.inl rfl)⟩
  have hm8 := names_len hN
  rw [hN, Bool.true_and] at HR
  clear hN
  by_cases hn0I : n < 0
  · have HV := Lib.hid (HNo.out (by rw [HR.out, decide_eq_false (by omega)]; rfl))
    clear HNo HYe HR HRw
    go_wp2_with fail
    go_ret
    exact ⟨by rw [HV.out]; rfl, gb_trans HG0.out HG1.out (Or.inl rfl)⟩
  rw [decide_eq_true (show 0 ≤ n by omega), Bool.true_and] at HR
  by_cases hn1I : n > 65536
  · have HV := Lib.hid (HNo.out (by rw [HR.out, decide_eq_false (by omega)]; rfl))
    clear HNo HYe HR HRw
    go_wp2_with fail
    go_ret
    exact ⟨by rw [HV.out]; rfl, gb_trans HG0.out HG1.out (Or.inl rfl)⟩
  rw [decide_eq_true (show n ≤ 65536 by omega), Bool.true_and] at HR
  go_wp2_with fail
  refine (HRw.out _ HG1.out).mono ?_
  rintro e w2 ⟨rfl, hg2⟩
  have HG2 := Lib.hid (gb_trans HG1.out hg2 (Or.inl rfl))
  obtain ⟨g0, g1, g2, g3, g4⟩ := gen_cells (blk_kept HB0.out HG2.out (by simp))
  clear hg2 HRw
  cases hI : risingF I n
  · rw [hI] at HR
    have HV := Lib.hid (HNo.out (by rw [HR.out]; rfl))
    clear HNo HYe HR hI
    go_wp2_with fail
    go_ret
    exact ⟨by rw [HV.out]; rfl, gb_trans HG0.out HG2.out (Or.inl rfl)⟩
  rw [hI, Bool.true_and] at HR
  clear hI
  have hmI : (P.length : Int) < 64 := by omega
  go_wp2_with fail
  rw [all16 _ hm8]
  have hM0 : 1 ≤ 2 ^ P.length := Nat.one_le_two_pow
  have hM1 := pow_le hm8
  have HB : Hid (∀ k, edgeB P.length n E k = (decide (0 ≤ (E.getD k edg0).fr) && (decide ((E.getD k edg0).fr < n) && (decide (0 ≤ (E.getD k edg0).tt) && (decide ((E.getD k edg0).tt < n) && (decide ((E.getD k edg0).mu < 2 ^ P.length) && (decide ((E.getD k edg0).no < 2 ^ P.length) && (decide ((E.getD k edg0).mu &&& (E.getD k edg0).no = 0) && (decide (k = 0) || decide (ordF (E.getD (k - 1) edg0) (E.getD k edg0) < 0)))))))))) := Lib.hid fun k => rfl
  obtain ⟨N1, hN1⟩ : ∃ N1 : Nat, 2 ^ P.length = N1 + 1 := ⟨2 ^ P.length - 1, by omega⟩
  rw [hN1] at HB hM1 ⊢
  rw [Nat.add_sub_cancel]
  clear hM0 hN1
  have HE2 := Lib.hid ((HE.out.kept HG0.out).kept HG2.out)
  have HS2 := Lib.hid ((HS.out.kept HG0.out).kept HG2.out)
  have HGw := Lib.hid (gb_trans HG0.out HG2.out (Or.inl rfl))
  have HB2 := Lib.hid (blk_kept HB0.out HG2.out (by simp))
  clear g0 g1 g2 g3 g4 HG1 HG2 HE HS HB0 HI HP
  go_loopw [5] (fun i wr => ∃ k : Nat, k ≤ E.length ∧ i = .int .i64 (k : Int) ∧ Hid (∀ j, j < k → edgeB P.length n E j = true) ∧ Hid (w2.grownBy wr none)) (fun i _ => E.length - (intOf i).toNat)
  case atStart => exact ⟨0, Nat.zero_le _, rfl, Lib.hid fun j h => absurd h (Nat.not_lt_zero _), Lib.hid (gb_refl _ _)⟩
  case round =>
    obtain ⟨k, hk, rfl, H0, HG⟩ := hrel
    obtain ⟨g0, g1, g2, g3, g4⟩ := gen_cells (blk_kept HB2.out HG.out (by simp))
    by_cases hlt : k < E.length
    · have hkI : (k : Int) < (E.length : Int) := by omega
      obtain ⟨_, _, e1, -, -, -, hc⟩ := HE2.out.kept HG.out
      cases e1
      rcases hc with rfl | ⟨b, off, rfl, hc⟩
      · exact absurd hlt (by simp)
      obtain ⟨c0, c1, c2, c3⟩ := hc k hlt
      have HPv : Hid (0 < k → wr.cell? ⟨b, off + (k - 1) * 4, none⟩ = some (.int .i64 (E.getD (k - 1) edg0).fr) ∧ wr.cell? ⟨b, off + (k - 1) * 4 + 1, none⟩ = some (.int .i64 (E.getD (k - 1) edg0).tt) ∧ wr.cell? ⟨b, off + (k - 1) * 4 + 2, none⟩ = some (.int .u16 ((E.getD (k - 1) edg0).mu : Int)) ∧ wr.cell? ⟨b, off + (k - 1) * 4 + 3, none⟩ = some (.int .u16 ((E.getD (k - 1) edg0).no : Int))) := Lib.hid fun h => hc (k - 1) (by omega)
      obtain ⟨⟨r1, r2⟩, ⟨r3, r4⟩, r5, r6⟩ := HBe.out k hlt
      have HBk := Lib.hid (HB.out k)
      have HNk : Hid (edgeB P.length n E k = false → cg = 100) := Lib.hid fun h => HNo.out (by rw [HR.out, all_not h hlt, Bool.false_and])
      have HYk : Hid (edgeB P.length n E k = true → ∀ j, j < k + 1 → edgeB P.length n E j = true) := Lib.hid fun h j hj => by
        by_cases e : j < k
        · exact H0.out j e
        · obtain rfl : j = k := by omega
          exact h
      clear hc
      generalize E.getD k edg0 = x at c0 c1 c2 c3 r1 r2 r3 r4 r5 r6 HBk
      generalize E.getD (k - 1) edg0 = y at HPv HBk
      have hbx := heap_alloc_new wr (.cells #[.int .i64 x.fr, .int .i64 x.tt, .int .u16 (x.mu : Int), .int .u16 (x.no : Int)] 61)
      have hgx := World.grownBy_alloc wr (.cells #[.int .i64 x.fr, .int .i64 x.tt, .int .u16 (x.mu : Int), .int .u16 (x.no : Int)] 61) none
      have HGx := Lib.hid (gb_trans (gb_trans HGw.out HG.out (Or.inl rfl)) hgx (Or.inl rfl))
      have g1x := hgx.cell g1 (by simp)
      by_cases a1 : x.fr < 0
      · have HV := Lib.hid (HNk.out (by rw [HBk.out, decide_eq_false (by omega), Bool.false_and]))
        clear HNk HYk HBk HPv hbx hgx
        go_wp2_with fail
        go_ret
        exact ⟨by rw [HV.out]; rfl, HGx.out⟩
      rw [decide_eq_true (show 0 ≤ x.fr by omega), Bool.true_and] at HBk
      by_cases a2 : n ≤ x.fr
      · have HV := Lib.hid (HNk.out (by rw [HBk.out, decide_eq_false (by omega), Bool.false_and]))
        clear HNk HYk HBk HPv hbx hgx
        go_wp2_with fail
        go_ret
        exact ⟨by rw [HV.out]; rfl, HGx.out⟩
      rw [decide_eq_true (show x.fr < n by omega), Bool.true_and] at HBk
      by_cases a3 : x.tt < 0
      · have HV := Lib.hid (HNk.out (by rw [HBk.out, decide_eq_false (by omega), Bool.false_and]))
        clear HNk HYk HBk HPv hbx hgx
        go_wp2_with fail
        go_ret
        exact ⟨by rw [HV.out]; rfl, HGx.out⟩
      rw [decide_eq_true (show 0 ≤ x.tt by omega), Bool.true_and] at HBk
      by_cases a4 : n ≤ x.tt
      · have HV := Lib.hid (HNk.out (by rw [HBk.out, decide_eq_false (by omega), Bool.false_and]))
        clear HNk HYk HBk HPv hbx hgx
        go_wp2_with fail
        go_ret
        exact ⟨by rw [HV.out]; rfl, HGx.out⟩
      rw [decide_eq_true (show x.tt < n by omega), Bool.true_and] at HBk
      go_wp2_with fail
      generalize wr.alloc (.cells #[.int .i64 x.fr, .int .i64 x.tt, .int .u16 (x.mu : Int), .int .u16 (x.no : Int)] 61) = we at hbx hgx HGx ⊢
      obtain ⟨b0, b1, b2, b3⟩ := edge_cells hbx
      have HGe := Lib.hid (gb_trans HG.out hgx (Or.inl rfl))
      have HSS4 : Hid (∀ wx, we.grownBy wx none → we.grownBy wx none ∧ wx.cell? ⟨wr.heap.size, 0, none⟩ = some (.int .i64 x.fr) ∧ wx.cell? ⟨wr.heap.size, 1, none⟩ = some (.int .i64 x.tt) ∧ wx.cell? ⟨wr.heap.size, 2, none⟩ = some (.int .u16 (x.mu : Int)) ∧ wx.cell? ⟨wr.heap.size, 3, none⟩ = some (.int .u16 (x.no : Int))) := Lib.hid fun wx h => ⟨h, h.cell b0 (by simp), h.cell b1 (by simp), h.cell b2 (by simp), h.cell b3 (by simp)⟩
      have z3 : bits .and .u16 (x.mu : Int) (x.no : Int) = ((x.mu &&& x.no : Nat) : Int) := u16_and_nat _ _ (by omega) (by omega)
      have p3 := hgx.cell g3 (by simp)
      clear c0 c1 c2 c3 hbx a1 a2 a3 a4 g0 g1 g2 g3 g4
      by_cases h3 : N1 < x.mu
      · have t3 : decide (N1 < x.mu) = true := decide_eq_true h3
        have HV := Lib.hid (HNk.out (by rw [HBk.out, decide_eq_false (show ¬ x.mu < N1 + 1 by omega), Bool.false_and]))
        clear z3 HNk HYk HBk HPv h3
        have hS0 := HSS4.out _ (gb_drew we none)
        refine wp_region_held_drew (S := (fun wx => we.grownBy wx none ∧ wx.cell? ⟨wr.heap.size, 0, none⟩ = some (.int .i64 x.fr) ∧ wx.cell? ⟨wr.heap.size, 1, none⟩ = some (.int .i64 x.tt) ∧ wx.cell? ⟨wr.heap.size, 2, none⟩ = some (.int .u16 (x.mu : Int)) ∧ wx.cell? ⟨wr.heap.size, 3, none⟩ = some (.int .u16 (x.no : Int)))) (by kernel_rfl) (by assumption) (fun hHeld => ?_)
        refine wpAnyH_take (i := 0) (oi := ({ dst := some 70, op := Go.Op.fieldAddr 61 (Go.Operand.tmp 6) 2, type := 0, pos := "ref.go:65", after := #[], guard := none } : Oper)) (v := ?_) rfl (by kernel_rfl) (by kernel_rfl) (by kernel_rfl) (fun _ _ _ h => h) (Or.inl ⟨by rfl, ?_⟩) (by assumption) ?_
        rotate_left
        · (intro wS hSw; (try dsimp only at hSw); go_simp <;> with_reducible rfl)
        try simp only [Act.put, List.setIfInBounds_toArray, List.set_cons_zero, List.set_cons_succ]
        refine wpAnyH_take (i := 1) (oi := ({ dst := some 71, op := Go.Op.load 55 (Go.Operand.tmp 70), type := 55, pos := "ref.go:65", after := #[{ on := 0, ground := Go.Ground.data }], guard := none } : Oper)) (v := ?_) rfl (by kernel_rfl) (by kernel_rfl) (by kernel_rfl) (fun _ _ _ h => h) (Or.inl ⟨by rfl, ?_⟩) (by assumption) ?_
        rotate_left
        · (intro wS hSw; (try dsimp only at hSw); go_simp <;> with_reducible rfl)
        try simp only [Act.put, List.setIfInBounds_toArray, List.set_cons_zero, List.set_cons_succ]
        refine wpAnyH_take (i := 2) (oi := ({ dst := some 72, op := Go.Op.move (Go.Operand.tmp 4), type := 55, pos := "ref.go:65", after := #[], guard := none } : Oper)) (v := ?_) rfl (by kernel_rfl) (by kernel_rfl) (by kernel_rfl) (fun _ _ _ h => h) (Or.inl ⟨by rfl, ?_⟩) (by assumption) ?_
        rotate_left
        · (intro wS hSw; (try dsimp only at hSw); go_simp <;> with_reducible rfl)
        try simp only [Act.put, List.setIfInBounds_toArray, List.set_cons_zero, List.set_cons_succ]
        refine wpAnyH_take (i := 3) (oi := ({ dst := some 73, op := Go.Op.binOp Go.BinOp.gtr 55 (Go.Operand.tmp 71) (Go.Operand.tmp 72) 55, type := 4, pos := "ref.go:65", after := #[{ on := 1, ground := Go.Ground.data }, { on := 2, ground := Go.Ground.data }], guard := none } : Oper)) (v := ?_) rfl (by kernel_rfl) (by kernel_rfl) (by kernel_rfl) (fun _ _ _ h => h) (Or.inl ⟨by rfl, ?_⟩) (by assumption) ?_
        rotate_left
        · (intro wS hSw; (try dsimp only at hSw); go_simp <;> with_reducible rfl)
        try simp only [Act.put, List.setIfInBounds_toArray, List.set_cons_zero, List.set_cons_succ]
        refine wpAnyH_take (i := 4) (oi := ({ dst := some 74, op := Go.Op.move (Go.Operand.tmp 73), type := 4, pos := "ref.go:65", after := #[{ on := 3, ground := Go.Ground.data }], guard := none } : Oper)) (v := ?_) rfl (by kernel_rfl) (by kernel_rfl) (by kernel_rfl) (fun _ _ _ h => h) (Or.inl ⟨by rfl, ?_⟩) (by assumption) ?_
        rotate_left
        · (intro wS hSw; (try dsimp only at hSw); go_simp <;> with_reducible rfl)
        try simp only [Act.put, List.setIfInBounds_toArray, List.set_cons_zero, List.set_cons_succ]
        refine wpAnyH_take (i := 5) (oi := ({ dst := some 75, op := Go.Op.fieldAddr 61 (Go.Operand.tmp 6) 3, type := 0, pos := "ref.go:65", after := #[{ on := 4, ground := Go.Ground.guard }], guard := some (4, false) } : Oper)) (v := undef) rfl (by kernel_rfl) (by kernel_rfl) (by kernel_rfl) (fun _ _ _ h => h) (Or.inr ⟨by rfl, rfl⟩) (by assumption) ?_
        try simp only [Act.put, List.setIfInBounds_toArray, List.set_cons_zero, List.set_cons_succ]
        refine wpAnyH_take (i := 6) (oi := ({ dst := some 76, op := Go.Op.load 55 (Go.Operand.tmp 75), type := 55, pos := "ref.go:65", after := #[{ on := 5, ground := Go.Ground.data }, { on := 4, ground := Go.Ground.guard }], guard := some (4, false) } : Oper)) (v := undef) rfl (by kernel_rfl) (by kernel_rfl) (by kernel_rfl) (fun _ _ _ h => h) (Or.inr ⟨by rfl, rfl⟩) (by assumption) ?_
        try simp only [Act.put, List.setIfInBounds_toArray, List.set_cons_zero, List.set_cons_succ]
        refine wpAnyH_take (i := 7) (oi := ({ dst := some 77, op := Go.Op.move (Go.Operand.tmp 4), type := 55, pos := "ref.go:65", after := #[{ on := 4, ground := Go.Ground.guard }], guard := some (4, false) } : Oper)) (v := undef) rfl (by kernel_rfl) (by kernel_rfl) (by kernel_rfl) (fun _ _ _ h => h) (Or.inr ⟨by rfl, rfl⟩) (by assumption) ?_
        try simp only [Act.put, List.setIfInBounds_toArray, List.set_cons_zero, List.set_cons_succ]
        refine wpAnyH_take (i := 8) (oi := ({ dst := some 78, op := Go.Op.binOp Go.BinOp.gtr 55 (Go.Operand.tmp 76) (Go.Operand.tmp 77) 55, type := 4, pos := "ref.go:65", after := #[{ on := 6, ground := Go.Ground.data }, { on := 7, ground := Go.Ground.data }, { on := 4, ground := Go.Ground.guard }], guard := some (4, false) } : Oper)) (v := undef) rfl (by kernel_rfl) (by kernel_rfl) (by kernel_rfl) (fun _ _ _ h => h) (Or.inr ⟨by rfl, rfl⟩) (by assumption) ?_
        try simp only [Act.put, List.setIfInBounds_toArray, List.set_cons_zero, List.set_cons_succ]
        refine wpAnyH_take (i := 9) (oi := ({ dst := some 79, op := Go.Op.pick (Go.Operand.tmp 74) (Go.Operand.const (Go.Value.bool true)) (Go.Operand.tmp 78), type := 4, pos := "ref.go:65", after := #[{ on := 4, ground := Go.Ground.data }, { on := 8, ground := Go.Ground.data }], guard := none } : Oper)) (v := ?_) rfl (by kernel_rfl) (by kernel_rfl) (by kernel_rfl) (fun _ _ _ h => h) (Or.inl ⟨by rfl, ?_⟩) (by assumption) ?_
        rotate_left
        · (intro wS hSw; (try dsimp only at hSw); go_simp <;> with_reducible rfl)
        try simp only [Act.put, List.setIfInBounds_toArray, List.set_cons_zero, List.set_cons_succ]
        refine wpAnyH_take (i := 10) (oi := ({ dst := some 80, op := Go.Op.move (Go.Operand.tmp 79), type := 4, pos := "ref.go:65", after := #[{ on := 9, ground := Go.Ground.data }, { on := 4, ground := Go.Ground.chain }], guard := none } : Oper)) (v := ?_) rfl (by kernel_rfl) (by kernel_rfl) (by kernel_rfl) (fun _ _ _ h => h) (Or.inl ⟨by rfl, ?_⟩) (by assumption) ?_
        rotate_left
        · (intro wS hSw; (try dsimp only at hSw); go_simp <;> with_reducible rfl)
        try simp only [Act.put, List.setIfInBounds_toArray, List.set_cons_zero, List.set_cons_succ]
        refine wpAnyH_take (i := 11) (oi := ({ dst := some 81, op := Go.Op.fieldAddr 61 (Go.Operand.tmp 6) 2, type := 0, pos := "ref.go:65", after := #[{ on := 10, ground := Go.Ground.guard }], guard := some (10, false) } : Oper)) (v := undef) rfl (by kernel_rfl) (by kernel_rfl) (by kernel_rfl) (fun _ _ _ h => h) (Or.inr ⟨by rfl, rfl⟩) (by assumption) ?_
        try simp only [Act.put, List.setIfInBounds_toArray, List.set_cons_zero, List.set_cons_succ]
        refine wpAnyH_take (i := 12) (oi := ({ dst := some 82, op := Go.Op.load 55 (Go.Operand.tmp 81), type := 55, pos := "ref.go:65", after := #[{ on := 11, ground := Go.Ground.data }, { on := 10, ground := Go.Ground.guard }], guard := some (10, false) } : Oper)) (v := undef) rfl (by kernel_rfl) (by kernel_rfl) (by kernel_rfl) (fun _ _ _ h => h) (Or.inr ⟨by rfl, rfl⟩) (by assumption) ?_
        try simp only [Act.put, List.setIfInBounds_toArray, List.set_cons_zero, List.set_cons_succ]
        refine wpAnyH_take (i := 13) (oi := ({ dst := some 83, op := Go.Op.fieldAddr 61 (Go.Operand.tmp 6) 3, type := 0, pos := "ref.go:65", after := #[{ on := 10, ground := Go.Ground.guard }], guard := some (10, false) } : Oper)) (v := undef) rfl (by kernel_rfl) (by kernel_rfl) (by kernel_rfl) (fun _ _ _ h => h) (Or.inr ⟨by rfl, rfl⟩) (by assumption) ?_
        try simp only [Act.put, List.setIfInBounds_toArray, List.set_cons_zero, List.set_cons_succ]
        refine wpAnyH_take (i := 14) (oi := ({ dst := some 84, op := Go.Op.load 55 (Go.Operand.tmp 83), type := 55, pos := "ref.go:65", after := #[{ on := 13, ground := Go.Ground.data }, { on := 10, ground := Go.Ground.guard }], guard := some (10, false) } : Oper)) (v := undef) rfl (by kernel_rfl) (by kernel_rfl) (by kernel_rfl) (fun _ _ _ h => h) (Or.inr ⟨by rfl, rfl⟩) (by assumption) ?_
        try simp only [Act.put, List.setIfInBounds_toArray, List.set_cons_zero, List.set_cons_succ]
        refine wpAnyH_take (i := 15) (oi := ({ dst := some 85, op := Go.Op.binOp Go.BinOp.and 55 (Go.Operand.tmp 82) (Go.Operand.tmp 84) 55, type := 55, pos := "ref.go:65", after := #[{ on := 12, ground := Go.Ground.data }, { on := 14, ground := Go.Ground.data }, { on := 10, ground := Go.Ground.guard }], guard := some (10, false) } : Oper)) (v := undef) rfl (by kernel_rfl) (by kernel_rfl) (by kernel_rfl) (fun _ _ _ h => h) (Or.inr ⟨by rfl, rfl⟩) (by assumption) ?_
        try simp only [Act.put, List.setIfInBounds_toArray, List.set_cons_zero, List.set_cons_succ]
        refine wpAnyH_take (i := 16) (oi := ({ dst := some 86, op := Go.Op.binOp Go.BinOp.neq 55 (Go.Operand.tmp 85) (Go.Operand.const (Go.Value.int Go.IntKind.u16 0)) 55, type := 4, pos := "ref.go:65", after := #[{ on := 15, ground := Go.Ground.data }, { on := 10, ground := Go.Ground.guard }], guard := some (10, false) } : Oper)) (v := undef) rfl (by kernel_rfl) (by kernel_rfl) (by kernel_rfl) (fun _ _ _ h => h) (Or.inr ⟨by rfl, rfl⟩) (by assumption) ?_
        try simp only [Act.put, List.setIfInBounds_toArray, List.set_cons_zero, List.set_cons_succ]
        refine wpAnyH_take (i := 17) (oi := ({ dst := some 87, op := Go.Op.pick (Go.Operand.tmp 80) (Go.Operand.const (Go.Value.bool true)) (Go.Operand.tmp 86), type := 4, pos := "ref.go:65", after := #[{ on := 10, ground := Go.Ground.data }, { on := 16, ground := Go.Ground.data }], guard := none } : Oper)) (v := ?_) rfl (by kernel_rfl) (by kernel_rfl) (by kernel_rfl) (fun _ _ _ h => h) (Or.inl ⟨by rfl, ?_⟩) (by assumption) ?_
        rotate_left
        · (intro wS hSw; (try dsimp only at hSw); go_simp <;> with_reducible rfl)
        try simp only [Act.put, List.setIfInBounds_toArray, List.set_cons_zero, List.set_cons_succ]
        refine wpAnyH_take (i := 18) (oi := ({ dst := some 88, op := Go.Op.move (Go.Operand.tmp 87), type := 4, pos := "ref.go:65", after := #[{ on := 17, ground := Go.Ground.data }, { on := 10, ground := Go.Ground.chain }], guard := none } : Oper)) (v := ?_) rfl (by kernel_rfl) (by kernel_rfl) (by kernel_rfl) (fun _ _ _ h => h) (Or.inl ⟨by rfl, ?_⟩) (by assumption) ?_
        rotate_left
        · (intro wS hSw; (try dsimp only at hSw); go_simp <;> with_reducible rfl)
        try simp only [Act.put, List.setIfInBounds_toArray, List.set_cons_zero, List.set_cons_succ]
        refine wpAnyH_take (i := 19) (oi := ({ dst := some 89, op := Go.Op.move (Go.Operand.tmp 5), type := 3, pos := "ref.go:65", after := #[{ on := 18, ground := Go.Ground.guard }], guard := some (18, false) } : Oper)) (v := undef) rfl (by kernel_rfl) (by kernel_rfl) (by kernel_rfl) (fun _ _ _ h => h) (Or.inr ⟨by rfl, rfl⟩) (by assumption) ?_
        try simp only [Act.put, List.setIfInBounds_toArray, List.set_cons_zero, List.set_cons_succ]
        refine wpAnyH_take (i := 20) (oi := ({ dst := some 90, op := Go.Op.binOp Go.BinOp.gtr 3 (Go.Operand.tmp 89) (Go.Operand.const (Go.Value.int Go.IntKind.i64 0)) 3, type := 4, pos := "ref.go:65", after := #[{ on := 19, ground := Go.Ground.data }, { on := 18, ground := Go.Ground.guard }], guard := some (18, false) } : Oper)) (v := undef) rfl (by kernel_rfl) (by kernel_rfl) (by kernel_rfl) (fun _ _ _ h => h) (Or.inr ⟨by rfl, rfl⟩) (by assumption) ?_
        try simp only [Act.put, List.setIfInBounds_toArray, List.set_cons_zero, List.set_cons_succ]
        refine wpAnyH_take (i := 21) (oi := ({ dst := some 91, op := Go.Op.move (Go.Operand.tmp 90), type := 4, pos := "ref.go:65", after := #[{ on := 20, ground := Go.Ground.data }, { on := 18, ground := Go.Ground.chain }, { on := 18, ground := Go.Ground.guard }], guard := some (18, false) } : Oper)) (v := undef) rfl (by kernel_rfl) (by kernel_rfl) (by kernel_rfl) (fun _ _ _ h => h) (Or.inr ⟨by rfl, rfl⟩) (by assumption) ?_
        try simp only [Act.put, List.setIfInBounds_toArray, List.set_cons_zero, List.set_cons_succ]
        refine wpAnyH_take (i := 22) (oi := ({ dst := some 92, op := Go.Op.fieldAddr 87 (Go.Operand.tmp 1) 3, type := 0, pos := "ref.go:65", after := #[{ on := 21, ground := Go.Ground.guard }], guard := some (21, true) } : Oper)) (v := undef) rfl (by kernel_rfl) (by kernel_rfl) (by kernel_rfl) (fun _ _ _ h => h) (Or.inr ⟨by rfl, rfl⟩) (by assumption) ?_
        try simp only [Act.put, List.setIfInBounds_toArray, List.set_cons_zero, List.set_cons_succ]
        refine wpAnyH_take (i := 23) (oi := ({ dst := some 93, op := Go.Op.load 45 (Go.Operand.tmp 92), type := 45, pos := "ref.go:65", after := #[{ on := 22, ground := Go.Ground.data }, { on := 21, ground := Go.Ground.guard }], guard := some (21, true) } : Oper)) (v := undef) rfl (by kernel_rfl) (by kernel_rfl) (by kernel_rfl) (fun _ _ _ h => h) (Or.inr ⟨by rfl, rfl⟩) (by assumption) ?_
        try simp only [Act.put, List.setIfInBounds_toArray, List.set_cons_zero, List.set_cons_succ]
        refine wpAnyH_take (i := 24) (oi := ({ dst := some 94, op := Go.Op.move (Go.Operand.tmp 5), type := 3, pos := "ref.go:65", after := #[{ on := 21, ground := Go.Ground.guard }], guard := some (21, true) } : Oper)) (v := undef) rfl (by kernel_rfl) (by kernel_rfl) (by kernel_rfl) (fun _ _ _ h => h) (Or.inr ⟨by rfl, rfl⟩) (by assumption) ?_
        try simp only [Act.put, List.setIfInBounds_toArray, List.set_cons_zero, List.set_cons_succ]
        refine wpAnyH_take (i := 25) (oi := ({ dst := some 95, op := Go.Op.binOp Go.BinOp.sub 3 (Go.Operand.tmp 94) (Go.Operand.const (Go.Value.int Go.IntKind.i64 1)) 3, type := 3, pos := "ref.go:65", after := #[{ on := 24, ground := Go.Ground.data }, { on := 21, ground := Go.Ground.guard }], guard := some (21, true) } : Oper)) (v := undef) rfl (by kernel_rfl) (by kernel_rfl) (by kernel_rfl) (fun _ _ _ h => h) (Or.inr ⟨by rfl, rfl⟩) (by assumption) ?_
        try simp only [Act.put, List.setIfInBounds_toArray, List.set_cons_zero, List.set_cons_succ]
        refine wpAnyH_take (i := 26) (oi := ({ dst := some 96, op := Go.Op.indexAddr 45 (Go.Operand.tmp 93) (Go.Operand.tmp 95), type := 0, pos := "ref.go:65", after := #[{ on := 23, ground := Go.Ground.data }, { on := 25, ground := Go.Ground.data }, { on := 21, ground := Go.Ground.guard }], guard := some (21, true) } : Oper)) (v := undef) rfl (by kernel_rfl) (by kernel_rfl) (by kernel_rfl) (fun _ _ _ h => h) (Or.inr ⟨by rfl, rfl⟩) (by assumption) ?_
        try simp only [Act.put, List.setIfInBounds_toArray, List.set_cons_zero, List.set_cons_succ]
        refine wpAnyH_take (i := 27) (oi := ({ dst := some 97, op := Go.Op.load 61 (Go.Operand.tmp 96), type := 61, pos := "ref.go:65", after := #[{ on := 26, ground := Go.Ground.data }, { on := 21, ground := Go.Ground.guard }], guard := some (21, true) } : Oper)) (v := undef) rfl (by kernel_rfl) (by kernel_rfl) (by kernel_rfl) (fun _ _ _ h => h) (Or.inr ⟨by rfl, rfl⟩) (by assumption) ?_
        try simp only [Act.put, List.setIfInBounds_toArray, List.set_cons_zero, List.set_cons_succ]
        refine wpAnyH_take (i := 28) (oi := ({ dst := some 98, op := Go.Op.load 61 (Go.Operand.tmp 6), type := 61, pos := "ref.go:65", after := #[{ on := 21, ground := Go.Ground.guard }], guard := some (21, true) } : Oper)) (v := undef) rfl (by kernel_rfl) (by kernel_rfl) (by kernel_rfl) (fun _ _ _ h => h) (Or.inr ⟨by rfl, rfl⟩) (by assumption) ?_
        try simp only [Act.put, List.setIfInBounds_toArray, List.set_cons_zero, List.set_cons_succ]
        refine wpAnyH_take (i := 29) (oi := ({ dst := some 99, op := Go.Op.call { callee := Go.Callee.value (Go.Operand.func 96), args := #[Go.Operand.tmp 97, Go.Operand.tmp 98], argTypes := #[61, 61] }, type := 4, pos := "ref.go:65", after := #[{ on := 27, ground := Go.Ground.data }, { on := 28, ground := Go.Ground.data }, { on := 21, ground := Go.Ground.chain }, { on := 21, ground := Go.Ground.guard }], guard := some (21, true) } : Oper)) (v := undef) rfl (by kernel_rfl) (by kernel_rfl) (by kernel_rfl) (fun _ _ _ h => h) (Or.inr ⟨by rfl, rfl⟩) (by assumption) ?_
        try simp only [Act.put, List.setIfInBounds_toArray, List.set_cons_zero, List.set_cons_succ]
        refine wpAnyH_take (i := 30) (oi := ({ dst := some 100, op := Go.Op.unOp Go.UnOp.not 4 (Go.Operand.tmp 99), type := 4, pos := "ref.go:65", after := #[{ on := 29, ground := Go.Ground.data }, { on := 21, ground := Go.Ground.guard }], guard := some (21, true) } : Oper)) (v := undef) rfl (by kernel_rfl) (by kernel_rfl) (by kernel_rfl) (fun _ _ _ h => h) (Or.inr ⟨by rfl, rfl⟩) (by assumption) ?_
        try simp only [Act.put, List.setIfInBounds_toArray, List.set_cons_zero, List.set_cons_succ]
        refine wpAnyH_take (i := 31) (oi := ({ dst := some 101, op := Go.Op.pick (Go.Operand.tmp 91) (Go.Operand.tmp 100) (Go.Operand.const (Go.Value.bool false)), type := 4, pos := "ref.go:65", after := #[{ on := 21, ground := Go.Ground.data }, { on := 30, ground := Go.Ground.data }, { on := 18, ground := Go.Ground.guard }], guard := some (18, false) } : Oper)) (v := undef) rfl (by kernel_rfl) (by kernel_rfl) (by kernel_rfl) (fun _ _ _ h => h) (Or.inr ⟨by rfl, rfl⟩) (by assumption) ?_
        try simp only [Act.put, List.setIfInBounds_toArray, List.set_cons_zero, List.set_cons_succ]
        refine wpAnyH_take (i := 32) (oi := ({ dst := some 102, op := Go.Op.pick (Go.Operand.tmp 88) (Go.Operand.const (Go.Value.bool true)) (Go.Operand.tmp 101), type := 4, pos := "ref.go:65", after := #[{ on := 18, ground := Go.Ground.data }, { on := 31, ground := Go.Ground.data }], guard := none } : Oper)) (v := ?_) rfl (by kernel_rfl) (by kernel_rfl) (by kernel_rfl) (fun _ _ _ h => h) (Or.inl ⟨by rfl, ?_⟩) (by assumption) ?_
        rotate_left
        · (intro wS hSw; (try dsimp only at hSw); go_simp <;> with_reducible rfl)
        try simp only [Act.put, List.setIfInBounds_toArray, List.set_cons_zero, List.set_cons_succ]
        refine wpAnyH_done (by kernel_rfl) ?_ _
        have HGn := Lib.hid hHeld.1
        go_wp2_with fail
        go_ret
        exact ⟨by rw [HV.out]; rfl, gb_trans HGx.out HGn.out (Or.inl rfl)⟩
      have t3 : decide (N1 < x.mu) = false := decide_eq_false h3
      rw [decide_eq_true (show x.mu < N1 + 1 by omega), Bool.true_and] at HBk
      by_cases h4 : N1 < x.no
      · have t4 : decide (N1 < x.no) = true := decide_eq_true h4
        have HV := Lib.hid (HNk.out (by rw [HBk.out, decide_eq_false (show ¬ x.no < N1 + 1 by omega), Bool.false_and]))
        clear z3 HNk HYk HBk HPv h3 h4
        have hS0 := HSS4.out _ (gb_drew we none)
        refine wp_region_held_drew (S := (fun wx => we.grownBy wx none ∧ wx.cell? ⟨wr.heap.size, 0, none⟩ = some (.int .i64 x.fr) ∧ wx.cell? ⟨wr.heap.size, 1, none⟩ = some (.int .i64 x.tt) ∧ wx.cell? ⟨wr.heap.size, 2, none⟩ = some (.int .u16 (x.mu : Int)) ∧ wx.cell? ⟨wr.heap.size, 3, none⟩ = some (.int .u16 (x.no : Int)))) (by kernel_rfl) (by assumption) (fun hHeld => ?_)
        refine wpAnyH_take (i := 0) (oi := ({ dst := some 70, op := Go.Op.fieldAddr 61 (Go.Operand.tmp 6) 2, type := 0, pos := "ref.go:65", after := #[], guard := none } : Oper)) (v := ?_) rfl (by kernel_rfl) (by kernel_rfl) (by kernel_rfl) (fun _ _ _ h => h) (Or.inl ⟨by rfl, ?_⟩) (by assumption) ?_
        rotate_left
        · (intro wS hSw; (try dsimp only at hSw); go_simp <;> with_reducible rfl)
        try simp only [Act.put, List.setIfInBounds_toArray, List.set_cons_zero, List.set_cons_succ]
        refine wpAnyH_take (i := 1) (oi := ({ dst := some 71, op := Go.Op.load 55 (Go.Operand.tmp 70), type := 55, pos := "ref.go:65", after := #[{ on := 0, ground := Go.Ground.data }], guard := none } : Oper)) (v := ?_) rfl (by kernel_rfl) (by kernel_rfl) (by kernel_rfl) (fun _ _ _ h => h) (Or.inl ⟨by rfl, ?_⟩) (by assumption) ?_
        rotate_left
        · (intro wS hSw; (try dsimp only at hSw); go_simp <;> with_reducible rfl)
        try simp only [Act.put, List.setIfInBounds_toArray, List.set_cons_zero, List.set_cons_succ]
        refine wpAnyH_take (i := 2) (oi := ({ dst := some 72, op := Go.Op.move (Go.Operand.tmp 4), type := 55, pos := "ref.go:65", after := #[], guard := none } : Oper)) (v := ?_) rfl (by kernel_rfl) (by kernel_rfl) (by kernel_rfl) (fun _ _ _ h => h) (Or.inl ⟨by rfl, ?_⟩) (by assumption) ?_
        rotate_left
        · (intro wS hSw; (try dsimp only at hSw); go_simp <;> with_reducible rfl)
        try simp only [Act.put, List.setIfInBounds_toArray, List.set_cons_zero, List.set_cons_succ]
        refine wpAnyH_take (i := 3) (oi := ({ dst := some 73, op := Go.Op.binOp Go.BinOp.gtr 55 (Go.Operand.tmp 71) (Go.Operand.tmp 72) 55, type := 4, pos := "ref.go:65", after := #[{ on := 1, ground := Go.Ground.data }, { on := 2, ground := Go.Ground.data }], guard := none } : Oper)) (v := ?_) rfl (by kernel_rfl) (by kernel_rfl) (by kernel_rfl) (fun _ _ _ h => h) (Or.inl ⟨by rfl, ?_⟩) (by assumption) ?_
        rotate_left
        · (intro wS hSw; (try dsimp only at hSw); go_simp <;> with_reducible rfl)
        try simp only [Act.put, List.setIfInBounds_toArray, List.set_cons_zero, List.set_cons_succ]
        refine wpAnyH_take (i := 4) (oi := ({ dst := some 74, op := Go.Op.move (Go.Operand.tmp 73), type := 4, pos := "ref.go:65", after := #[{ on := 3, ground := Go.Ground.data }], guard := none } : Oper)) (v := ?_) rfl (by kernel_rfl) (by kernel_rfl) (by kernel_rfl) (fun _ _ _ h => h) (Or.inl ⟨by rfl, ?_⟩) (by assumption) ?_
        rotate_left
        · (intro wS hSw; (try dsimp only at hSw); go_simp <;> with_reducible rfl)
        try simp only [Act.put, List.setIfInBounds_toArray, List.set_cons_zero, List.set_cons_succ]
        refine wpAnyH_take (i := 5) (oi := ({ dst := some 75, op := Go.Op.fieldAddr 61 (Go.Operand.tmp 6) 3, type := 0, pos := "ref.go:65", after := #[{ on := 4, ground := Go.Ground.guard }], guard := some (4, false) } : Oper)) (v := ?_) rfl (by kernel_rfl) (by kernel_rfl) (by kernel_rfl) (fun _ _ _ h => h) (Or.inl ⟨by rfl, ?_⟩) (by assumption) ?_
        rotate_left
        · (intro wS hSw; (try dsimp only at hSw); go_simp <;> with_reducible rfl)
        try simp only [Act.put, List.setIfInBounds_toArray, List.set_cons_zero, List.set_cons_succ]
        refine wpAnyH_take (i := 6) (oi := ({ dst := some 76, op := Go.Op.load 55 (Go.Operand.tmp 75), type := 55, pos := "ref.go:65", after := #[{ on := 5, ground := Go.Ground.data }, { on := 4, ground := Go.Ground.guard }], guard := some (4, false) } : Oper)) (v := ?_) rfl (by kernel_rfl) (by kernel_rfl) (by kernel_rfl) (fun _ _ _ h => h) (Or.inl ⟨by rfl, ?_⟩) (by assumption) ?_
        rotate_left
        · (intro wS hSw; (try dsimp only at hSw); go_simp <;> with_reducible rfl)
        try simp only [Act.put, List.setIfInBounds_toArray, List.set_cons_zero, List.set_cons_succ]
        refine wpAnyH_take (i := 7) (oi := ({ dst := some 77, op := Go.Op.move (Go.Operand.tmp 4), type := 55, pos := "ref.go:65", after := #[{ on := 4, ground := Go.Ground.guard }], guard := some (4, false) } : Oper)) (v := ?_) rfl (by kernel_rfl) (by kernel_rfl) (by kernel_rfl) (fun _ _ _ h => h) (Or.inl ⟨by rfl, ?_⟩) (by assumption) ?_
        rotate_left
        · (intro wS hSw; (try dsimp only at hSw); go_simp <;> with_reducible rfl)
        try simp only [Act.put, List.setIfInBounds_toArray, List.set_cons_zero, List.set_cons_succ]
        refine wpAnyH_take (i := 8) (oi := ({ dst := some 78, op := Go.Op.binOp Go.BinOp.gtr 55 (Go.Operand.tmp 76) (Go.Operand.tmp 77) 55, type := 4, pos := "ref.go:65", after := #[{ on := 6, ground := Go.Ground.data }, { on := 7, ground := Go.Ground.data }, { on := 4, ground := Go.Ground.guard }], guard := some (4, false) } : Oper)) (v := ?_) rfl (by kernel_rfl) (by kernel_rfl) (by kernel_rfl) (fun _ _ _ h => h) (Or.inl ⟨by rfl, ?_⟩) (by assumption) ?_
        rotate_left
        · (intro wS hSw; (try dsimp only at hSw); go_simp <;> with_reducible rfl)
        try simp only [Act.put, List.setIfInBounds_toArray, List.set_cons_zero, List.set_cons_succ]
        refine wpAnyH_take (i := 9) (oi := ({ dst := some 79, op := Go.Op.pick (Go.Operand.tmp 74) (Go.Operand.const (Go.Value.bool true)) (Go.Operand.tmp 78), type := 4, pos := "ref.go:65", after := #[{ on := 4, ground := Go.Ground.data }, { on := 8, ground := Go.Ground.data }], guard := none } : Oper)) (v := ?_) rfl (by kernel_rfl) (by kernel_rfl) (by kernel_rfl) (fun _ _ _ h => h) (Or.inl ⟨by rfl, ?_⟩) (by assumption) ?_
        rotate_left
        · (intro wS hSw; (try dsimp only at hSw); go_simp <;> with_reducible rfl)
        try simp only [Act.put, List.setIfInBounds_toArray, List.set_cons_zero, List.set_cons_succ]
        refine wpAnyH_take (i := 10) (oi := ({ dst := some 80, op := Go.Op.move (Go.Operand.tmp 79), type := 4, pos := "ref.go:65", after := #[{ on := 9, ground := Go.Ground.data }, { on := 4, ground := Go.Ground.chain }], guard := none } : Oper)) (v := ?_) rfl (by kernel_rfl) (by kernel_rfl) (by kernel_rfl) (fun _ _ _ h => h) (Or.inl ⟨by rfl, ?_⟩) (by assumption) ?_
        rotate_left
        · (intro wS hSw; (try dsimp only at hSw); go_simp <;> with_reducible rfl)
        try simp only [Act.put, List.setIfInBounds_toArray, List.set_cons_zero, List.set_cons_succ]
        refine wpAnyH_take (i := 11) (oi := ({ dst := some 81, op := Go.Op.fieldAddr 61 (Go.Operand.tmp 6) 2, type := 0, pos := "ref.go:65", after := #[{ on := 10, ground := Go.Ground.guard }], guard := some (10, false) } : Oper)) (v := undef) rfl (by kernel_rfl) (by kernel_rfl) (by kernel_rfl) (fun _ _ _ h => h) (Or.inr ⟨by rfl, rfl⟩) (by assumption) ?_
        try simp only [Act.put, List.setIfInBounds_toArray, List.set_cons_zero, List.set_cons_succ]
        refine wpAnyH_take (i := 12) (oi := ({ dst := some 82, op := Go.Op.load 55 (Go.Operand.tmp 81), type := 55, pos := "ref.go:65", after := #[{ on := 11, ground := Go.Ground.data }, { on := 10, ground := Go.Ground.guard }], guard := some (10, false) } : Oper)) (v := undef) rfl (by kernel_rfl) (by kernel_rfl) (by kernel_rfl) (fun _ _ _ h => h) (Or.inr ⟨by rfl, rfl⟩) (by assumption) ?_
        try simp only [Act.put, List.setIfInBounds_toArray, List.set_cons_zero, List.set_cons_succ]
        refine wpAnyH_take (i := 13) (oi := ({ dst := some 83, op := Go.Op.fieldAddr 61 (Go.Operand.tmp 6) 3, type := 0, pos := "ref.go:65", after := #[{ on := 10, ground := Go.Ground.guard }], guard := some (10, false) } : Oper)) (v := undef) rfl (by kernel_rfl) (by kernel_rfl) (by kernel_rfl) (fun _ _ _ h => h) (Or.inr ⟨by rfl, rfl⟩) (by assumption) ?_
        try simp only [Act.put, List.setIfInBounds_toArray, List.set_cons_zero, List.set_cons_succ]
        refine wpAnyH_take (i := 14) (oi := ({ dst := some 84, op := Go.Op.load 55 (Go.Operand.tmp 83), type := 55, pos := "ref.go:65", after := #[{ on := 13, ground := Go.Ground.data }, { on := 10, ground := Go.Ground.guard }], guard := some (10, false) } : Oper)) (v := undef) rfl (by kernel_rfl) (by kernel_rfl) (by kernel_rfl) (fun _ _ _ h => h) (Or.inr ⟨by rfl, rfl⟩) (by assumption) ?_
        try simp only [Act.put, List.setIfInBounds_toArray, List.set_cons_zero, List.set_cons_succ]
        refine wpAnyH_take (i := 15) (oi := ({ dst := some 85, op := Go.Op.binOp Go.BinOp.and 55 (Go.Operand.tmp 82) (Go.Operand.tmp 84) 55, type := 55, pos := "ref.go:65", after := #[{ on := 12, ground := Go.Ground.data }, { on := 14, ground := Go.Ground.data }, { on := 10, ground := Go.Ground.guard }], guard := some (10, false) } : Oper)) (v := undef) rfl (by kernel_rfl) (by kernel_rfl) (by kernel_rfl) (fun _ _ _ h => h) (Or.inr ⟨by rfl, rfl⟩) (by assumption) ?_
        try simp only [Act.put, List.setIfInBounds_toArray, List.set_cons_zero, List.set_cons_succ]
        refine wpAnyH_take (i := 16) (oi := ({ dst := some 86, op := Go.Op.binOp Go.BinOp.neq 55 (Go.Operand.tmp 85) (Go.Operand.const (Go.Value.int Go.IntKind.u16 0)) 55, type := 4, pos := "ref.go:65", after := #[{ on := 15, ground := Go.Ground.data }, { on := 10, ground := Go.Ground.guard }], guard := some (10, false) } : Oper)) (v := undef) rfl (by kernel_rfl) (by kernel_rfl) (by kernel_rfl) (fun _ _ _ h => h) (Or.inr ⟨by rfl, rfl⟩) (by assumption) ?_
        try simp only [Act.put, List.setIfInBounds_toArray, List.set_cons_zero, List.set_cons_succ]
        refine wpAnyH_take (i := 17) (oi := ({ dst := some 87, op := Go.Op.pick (Go.Operand.tmp 80) (Go.Operand.const (Go.Value.bool true)) (Go.Operand.tmp 86), type := 4, pos := "ref.go:65", after := #[{ on := 10, ground := Go.Ground.data }, { on := 16, ground := Go.Ground.data }], guard := none } : Oper)) (v := ?_) rfl (by kernel_rfl) (by kernel_rfl) (by kernel_rfl) (fun _ _ _ h => h) (Or.inl ⟨by rfl, ?_⟩) (by assumption) ?_
        rotate_left
        · (intro wS hSw; (try dsimp only at hSw); go_simp <;> with_reducible rfl)
        try simp only [Act.put, List.setIfInBounds_toArray, List.set_cons_zero, List.set_cons_succ]
        refine wpAnyH_take (i := 18) (oi := ({ dst := some 88, op := Go.Op.move (Go.Operand.tmp 87), type := 4, pos := "ref.go:65", after := #[{ on := 17, ground := Go.Ground.data }, { on := 10, ground := Go.Ground.chain }], guard := none } : Oper)) (v := ?_) rfl (by kernel_rfl) (by kernel_rfl) (by kernel_rfl) (fun _ _ _ h => h) (Or.inl ⟨by rfl, ?_⟩) (by assumption) ?_
        rotate_left
        · (intro wS hSw; (try dsimp only at hSw); go_simp <;> with_reducible rfl)
        try simp only [Act.put, List.setIfInBounds_toArray, List.set_cons_zero, List.set_cons_succ]
        refine wpAnyH_take (i := 19) (oi := ({ dst := some 89, op := Go.Op.move (Go.Operand.tmp 5), type := 3, pos := "ref.go:65", after := #[{ on := 18, ground := Go.Ground.guard }], guard := some (18, false) } : Oper)) (v := undef) rfl (by kernel_rfl) (by kernel_rfl) (by kernel_rfl) (fun _ _ _ h => h) (Or.inr ⟨by rfl, rfl⟩) (by assumption) ?_
        try simp only [Act.put, List.setIfInBounds_toArray, List.set_cons_zero, List.set_cons_succ]
        refine wpAnyH_take (i := 20) (oi := ({ dst := some 90, op := Go.Op.binOp Go.BinOp.gtr 3 (Go.Operand.tmp 89) (Go.Operand.const (Go.Value.int Go.IntKind.i64 0)) 3, type := 4, pos := "ref.go:65", after := #[{ on := 19, ground := Go.Ground.data }, { on := 18, ground := Go.Ground.guard }], guard := some (18, false) } : Oper)) (v := undef) rfl (by kernel_rfl) (by kernel_rfl) (by kernel_rfl) (fun _ _ _ h => h) (Or.inr ⟨by rfl, rfl⟩) (by assumption) ?_
        try simp only [Act.put, List.setIfInBounds_toArray, List.set_cons_zero, List.set_cons_succ]
        refine wpAnyH_take (i := 21) (oi := ({ dst := some 91, op := Go.Op.move (Go.Operand.tmp 90), type := 4, pos := "ref.go:65", after := #[{ on := 20, ground := Go.Ground.data }, { on := 18, ground := Go.Ground.chain }, { on := 18, ground := Go.Ground.guard }], guard := some (18, false) } : Oper)) (v := undef) rfl (by kernel_rfl) (by kernel_rfl) (by kernel_rfl) (fun _ _ _ h => h) (Or.inr ⟨by rfl, rfl⟩) (by assumption) ?_
        try simp only [Act.put, List.setIfInBounds_toArray, List.set_cons_zero, List.set_cons_succ]
        refine wpAnyH_take (i := 22) (oi := ({ dst := some 92, op := Go.Op.fieldAddr 87 (Go.Operand.tmp 1) 3, type := 0, pos := "ref.go:65", after := #[{ on := 21, ground := Go.Ground.guard }], guard := some (21, true) } : Oper)) (v := undef) rfl (by kernel_rfl) (by kernel_rfl) (by kernel_rfl) (fun _ _ _ h => h) (Or.inr ⟨by rfl, rfl⟩) (by assumption) ?_
        try simp only [Act.put, List.setIfInBounds_toArray, List.set_cons_zero, List.set_cons_succ]
        refine wpAnyH_take (i := 23) (oi := ({ dst := some 93, op := Go.Op.load 45 (Go.Operand.tmp 92), type := 45, pos := "ref.go:65", after := #[{ on := 22, ground := Go.Ground.data }, { on := 21, ground := Go.Ground.guard }], guard := some (21, true) } : Oper)) (v := undef) rfl (by kernel_rfl) (by kernel_rfl) (by kernel_rfl) (fun _ _ _ h => h) (Or.inr ⟨by rfl, rfl⟩) (by assumption) ?_
        try simp only [Act.put, List.setIfInBounds_toArray, List.set_cons_zero, List.set_cons_succ]
        refine wpAnyH_take (i := 24) (oi := ({ dst := some 94, op := Go.Op.move (Go.Operand.tmp 5), type := 3, pos := "ref.go:65", after := #[{ on := 21, ground := Go.Ground.guard }], guard := some (21, true) } : Oper)) (v := undef) rfl (by kernel_rfl) (by kernel_rfl) (by kernel_rfl) (fun _ _ _ h => h) (Or.inr ⟨by rfl, rfl⟩) (by assumption) ?_
        try simp only [Act.put, List.setIfInBounds_toArray, List.set_cons_zero, List.set_cons_succ]
        refine wpAnyH_take (i := 25) (oi := ({ dst := some 95, op := Go.Op.binOp Go.BinOp.sub 3 (Go.Operand.tmp 94) (Go.Operand.const (Go.Value.int Go.IntKind.i64 1)) 3, type := 3, pos := "ref.go:65", after := #[{ on := 24, ground := Go.Ground.data }, { on := 21, ground := Go.Ground.guard }], guard := some (21, true) } : Oper)) (v := undef) rfl (by kernel_rfl) (by kernel_rfl) (by kernel_rfl) (fun _ _ _ h => h) (Or.inr ⟨by rfl, rfl⟩) (by assumption) ?_
        try simp only [Act.put, List.setIfInBounds_toArray, List.set_cons_zero, List.set_cons_succ]
        refine wpAnyH_take (i := 26) (oi := ({ dst := some 96, op := Go.Op.indexAddr 45 (Go.Operand.tmp 93) (Go.Operand.tmp 95), type := 0, pos := "ref.go:65", after := #[{ on := 23, ground := Go.Ground.data }, { on := 25, ground := Go.Ground.data }, { on := 21, ground := Go.Ground.guard }], guard := some (21, true) } : Oper)) (v := undef) rfl (by kernel_rfl) (by kernel_rfl) (by kernel_rfl) (fun _ _ _ h => h) (Or.inr ⟨by rfl, rfl⟩) (by assumption) ?_
        try simp only [Act.put, List.setIfInBounds_toArray, List.set_cons_zero, List.set_cons_succ]
        refine wpAnyH_take (i := 27) (oi := ({ dst := some 97, op := Go.Op.load 61 (Go.Operand.tmp 96), type := 61, pos := "ref.go:65", after := #[{ on := 26, ground := Go.Ground.data }, { on := 21, ground := Go.Ground.guard }], guard := some (21, true) } : Oper)) (v := undef) rfl (by kernel_rfl) (by kernel_rfl) (by kernel_rfl) (fun _ _ _ h => h) (Or.inr ⟨by rfl, rfl⟩) (by assumption) ?_
        try simp only [Act.put, List.setIfInBounds_toArray, List.set_cons_zero, List.set_cons_succ]
        refine wpAnyH_take (i := 28) (oi := ({ dst := some 98, op := Go.Op.load 61 (Go.Operand.tmp 6), type := 61, pos := "ref.go:65", after := #[{ on := 21, ground := Go.Ground.guard }], guard := some (21, true) } : Oper)) (v := undef) rfl (by kernel_rfl) (by kernel_rfl) (by kernel_rfl) (fun _ _ _ h => h) (Or.inr ⟨by rfl, rfl⟩) (by assumption) ?_
        try simp only [Act.put, List.setIfInBounds_toArray, List.set_cons_zero, List.set_cons_succ]
        refine wpAnyH_take (i := 29) (oi := ({ dst := some 99, op := Go.Op.call { callee := Go.Callee.value (Go.Operand.func 96), args := #[Go.Operand.tmp 97, Go.Operand.tmp 98], argTypes := #[61, 61] }, type := 4, pos := "ref.go:65", after := #[{ on := 27, ground := Go.Ground.data }, { on := 28, ground := Go.Ground.data }, { on := 21, ground := Go.Ground.chain }, { on := 21, ground := Go.Ground.guard }], guard := some (21, true) } : Oper)) (v := undef) rfl (by kernel_rfl) (by kernel_rfl) (by kernel_rfl) (fun _ _ _ h => h) (Or.inr ⟨by rfl, rfl⟩) (by assumption) ?_
        try simp only [Act.put, List.setIfInBounds_toArray, List.set_cons_zero, List.set_cons_succ]
        refine wpAnyH_take (i := 30) (oi := ({ dst := some 100, op := Go.Op.unOp Go.UnOp.not 4 (Go.Operand.tmp 99), type := 4, pos := "ref.go:65", after := #[{ on := 29, ground := Go.Ground.data }, { on := 21, ground := Go.Ground.guard }], guard := some (21, true) } : Oper)) (v := undef) rfl (by kernel_rfl) (by kernel_rfl) (by kernel_rfl) (fun _ _ _ h => h) (Or.inr ⟨by rfl, rfl⟩) (by assumption) ?_
        try simp only [Act.put, List.setIfInBounds_toArray, List.set_cons_zero, List.set_cons_succ]
        refine wpAnyH_take (i := 31) (oi := ({ dst := some 101, op := Go.Op.pick (Go.Operand.tmp 91) (Go.Operand.tmp 100) (Go.Operand.const (Go.Value.bool false)), type := 4, pos := "ref.go:65", after := #[{ on := 21, ground := Go.Ground.data }, { on := 30, ground := Go.Ground.data }, { on := 18, ground := Go.Ground.guard }], guard := some (18, false) } : Oper)) (v := undef) rfl (by kernel_rfl) (by kernel_rfl) (by kernel_rfl) (fun _ _ _ h => h) (Or.inr ⟨by rfl, rfl⟩) (by assumption) ?_
        try simp only [Act.put, List.setIfInBounds_toArray, List.set_cons_zero, List.set_cons_succ]
        refine wpAnyH_take (i := 32) (oi := ({ dst := some 102, op := Go.Op.pick (Go.Operand.tmp 88) (Go.Operand.const (Go.Value.bool true)) (Go.Operand.tmp 101), type := 4, pos := "ref.go:65", after := #[{ on := 18, ground := Go.Ground.data }, { on := 31, ground := Go.Ground.data }], guard := none } : Oper)) (v := ?_) rfl (by kernel_rfl) (by kernel_rfl) (by kernel_rfl) (fun _ _ _ h => h) (Or.inl ⟨by rfl, ?_⟩) (by assumption) ?_
        rotate_left
        · (intro wS hSw; (try dsimp only at hSw); go_simp <;> with_reducible rfl)
        try simp only [Act.put, List.setIfInBounds_toArray, List.set_cons_zero, List.set_cons_succ]
        refine wpAnyH_done (by kernel_rfl) ?_ _
        have HGn := Lib.hid hHeld.1
        go_wp2_with fail
        go_ret
        exact ⟨by rw [HV.out]; rfl, gb_trans HGx.out HGn.out (Or.inl rfl)⟩
      have t4 : decide (N1 < x.no) = false := decide_eq_false h4
      rw [decide_eq_true (show x.no < N1 + 1 by omega), Bool.true_and] at HBk
      by_cases h5 : x.mu &&& x.no = 0
      case neg =>
        have HV := Lib.hid (HNk.out (by rw [HBk.out, decide_eq_false h5, Bool.false_and]))
        have t5 : ((((x.mu &&& x.no : Nat) : Int)) != 0) = true := by simpa using h5
        rw [← z3] at t5
        clear z3 h5 HNk HYk HBk HPv
        have hS0 := HSS4.out _ (gb_drew we none)
        refine wp_region_held_drew (S := (fun wx => we.grownBy wx none ∧ wx.cell? ⟨wr.heap.size, 0, none⟩ = some (.int .i64 x.fr) ∧ wx.cell? ⟨wr.heap.size, 1, none⟩ = some (.int .i64 x.tt) ∧ wx.cell? ⟨wr.heap.size, 2, none⟩ = some (.int .u16 (x.mu : Int)) ∧ wx.cell? ⟨wr.heap.size, 3, none⟩ = some (.int .u16 (x.no : Int)))) (by kernel_rfl) (by assumption) (fun hHeld => ?_)
        refine wpAnyH_take (i := 0) (oi := ({ dst := some 70, op := Go.Op.fieldAddr 61 (Go.Operand.tmp 6) 2, type := 0, pos := "ref.go:65", after := #[], guard := none } : Oper)) (v := ?_) rfl (by kernel_rfl) (by kernel_rfl) (by kernel_rfl) (fun _ _ _ h => h) (Or.inl ⟨by rfl, ?_⟩) (by assumption) ?_
        rotate_left
        · (intro wS hSw; (try dsimp only at hSw); go_simp <;> with_reducible rfl)
        try simp only [Act.put, List.setIfInBounds_toArray, List.set_cons_zero, List.set_cons_succ]
        refine wpAnyH_take (i := 1) (oi := ({ dst := some 71, op := Go.Op.load 55 (Go.Operand.tmp 70), type := 55, pos := "ref.go:65", after := #[{ on := 0, ground := Go.Ground.data }], guard := none } : Oper)) (v := ?_) rfl (by kernel_rfl) (by kernel_rfl) (by kernel_rfl) (fun _ _ _ h => h) (Or.inl ⟨by rfl, ?_⟩) (by assumption) ?_
        rotate_left
        · (intro wS hSw; (try dsimp only at hSw); go_simp <;> with_reducible rfl)
        try simp only [Act.put, List.setIfInBounds_toArray, List.set_cons_zero, List.set_cons_succ]
        refine wpAnyH_take (i := 2) (oi := ({ dst := some 72, op := Go.Op.move (Go.Operand.tmp 4), type := 55, pos := "ref.go:65", after := #[], guard := none } : Oper)) (v := ?_) rfl (by kernel_rfl) (by kernel_rfl) (by kernel_rfl) (fun _ _ _ h => h) (Or.inl ⟨by rfl, ?_⟩) (by assumption) ?_
        rotate_left
        · (intro wS hSw; (try dsimp only at hSw); go_simp <;> with_reducible rfl)
        try simp only [Act.put, List.setIfInBounds_toArray, List.set_cons_zero, List.set_cons_succ]
        refine wpAnyH_take (i := 3) (oi := ({ dst := some 73, op := Go.Op.binOp Go.BinOp.gtr 55 (Go.Operand.tmp 71) (Go.Operand.tmp 72) 55, type := 4, pos := "ref.go:65", after := #[{ on := 1, ground := Go.Ground.data }, { on := 2, ground := Go.Ground.data }], guard := none } : Oper)) (v := ?_) rfl (by kernel_rfl) (by kernel_rfl) (by kernel_rfl) (fun _ _ _ h => h) (Or.inl ⟨by rfl, ?_⟩) (by assumption) ?_
        rotate_left
        · (intro wS hSw; (try dsimp only at hSw); go_simp <;> with_reducible rfl)
        try simp only [Act.put, List.setIfInBounds_toArray, List.set_cons_zero, List.set_cons_succ]
        refine wpAnyH_take (i := 4) (oi := ({ dst := some 74, op := Go.Op.move (Go.Operand.tmp 73), type := 4, pos := "ref.go:65", after := #[{ on := 3, ground := Go.Ground.data }], guard := none } : Oper)) (v := ?_) rfl (by kernel_rfl) (by kernel_rfl) (by kernel_rfl) (fun _ _ _ h => h) (Or.inl ⟨by rfl, ?_⟩) (by assumption) ?_
        rotate_left
        · (intro wS hSw; (try dsimp only at hSw); go_simp <;> with_reducible rfl)
        try simp only [Act.put, List.setIfInBounds_toArray, List.set_cons_zero, List.set_cons_succ]
        refine wpAnyH_take (i := 5) (oi := ({ dst := some 75, op := Go.Op.fieldAddr 61 (Go.Operand.tmp 6) 3, type := 0, pos := "ref.go:65", after := #[{ on := 4, ground := Go.Ground.guard }], guard := some (4, false) } : Oper)) (v := ?_) rfl (by kernel_rfl) (by kernel_rfl) (by kernel_rfl) (fun _ _ _ h => h) (Or.inl ⟨by rfl, ?_⟩) (by assumption) ?_
        rotate_left
        · (intro wS hSw; (try dsimp only at hSw); go_simp <;> with_reducible rfl)
        try simp only [Act.put, List.setIfInBounds_toArray, List.set_cons_zero, List.set_cons_succ]
        refine wpAnyH_take (i := 6) (oi := ({ dst := some 76, op := Go.Op.load 55 (Go.Operand.tmp 75), type := 55, pos := "ref.go:65", after := #[{ on := 5, ground := Go.Ground.data }, { on := 4, ground := Go.Ground.guard }], guard := some (4, false) } : Oper)) (v := ?_) rfl (by kernel_rfl) (by kernel_rfl) (by kernel_rfl) (fun _ _ _ h => h) (Or.inl ⟨by rfl, ?_⟩) (by assumption) ?_
        rotate_left
        · (intro wS hSw; (try dsimp only at hSw); go_simp <;> with_reducible rfl)
        try simp only [Act.put, List.setIfInBounds_toArray, List.set_cons_zero, List.set_cons_succ]
        refine wpAnyH_take (i := 7) (oi := ({ dst := some 77, op := Go.Op.move (Go.Operand.tmp 4), type := 55, pos := "ref.go:65", after := #[{ on := 4, ground := Go.Ground.guard }], guard := some (4, false) } : Oper)) (v := ?_) rfl (by kernel_rfl) (by kernel_rfl) (by kernel_rfl) (fun _ _ _ h => h) (Or.inl ⟨by rfl, ?_⟩) (by assumption) ?_
        rotate_left
        · (intro wS hSw; (try dsimp only at hSw); go_simp <;> with_reducible rfl)
        try simp only [Act.put, List.setIfInBounds_toArray, List.set_cons_zero, List.set_cons_succ]
        refine wpAnyH_take (i := 8) (oi := ({ dst := some 78, op := Go.Op.binOp Go.BinOp.gtr 55 (Go.Operand.tmp 76) (Go.Operand.tmp 77) 55, type := 4, pos := "ref.go:65", after := #[{ on := 6, ground := Go.Ground.data }, { on := 7, ground := Go.Ground.data }, { on := 4, ground := Go.Ground.guard }], guard := some (4, false) } : Oper)) (v := ?_) rfl (by kernel_rfl) (by kernel_rfl) (by kernel_rfl) (fun _ _ _ h => h) (Or.inl ⟨by rfl, ?_⟩) (by assumption) ?_
        rotate_left
        · (intro wS hSw; (try dsimp only at hSw); go_simp <;> with_reducible rfl)
        try simp only [Act.put, List.setIfInBounds_toArray, List.set_cons_zero, List.set_cons_succ]
        refine wpAnyH_take (i := 9) (oi := ({ dst := some 79, op := Go.Op.pick (Go.Operand.tmp 74) (Go.Operand.const (Go.Value.bool true)) (Go.Operand.tmp 78), type := 4, pos := "ref.go:65", after := #[{ on := 4, ground := Go.Ground.data }, { on := 8, ground := Go.Ground.data }], guard := none } : Oper)) (v := ?_) rfl (by kernel_rfl) (by kernel_rfl) (by kernel_rfl) (fun _ _ _ h => h) (Or.inl ⟨by rfl, ?_⟩) (by assumption) ?_
        rotate_left
        · (intro wS hSw; (try dsimp only at hSw); go_simp <;> with_reducible rfl)
        try simp only [Act.put, List.setIfInBounds_toArray, List.set_cons_zero, List.set_cons_succ]
        refine wpAnyH_take (i := 10) (oi := ({ dst := some 80, op := Go.Op.move (Go.Operand.tmp 79), type := 4, pos := "ref.go:65", after := #[{ on := 9, ground := Go.Ground.data }, { on := 4, ground := Go.Ground.chain }], guard := none } : Oper)) (v := ?_) rfl (by kernel_rfl) (by kernel_rfl) (by kernel_rfl) (fun _ _ _ h => h) (Or.inl ⟨by rfl, ?_⟩) (by assumption) ?_
        rotate_left
        · (intro wS hSw; (try dsimp only at hSw); go_simp <;> with_reducible rfl)
        try simp only [Act.put, List.setIfInBounds_toArray, List.set_cons_zero, List.set_cons_succ]
        refine wpAnyH_take (i := 11) (oi := ({ dst := some 81, op := Go.Op.fieldAddr 61 (Go.Operand.tmp 6) 2, type := 0, pos := "ref.go:65", after := #[{ on := 10, ground := Go.Ground.guard }], guard := some (10, false) } : Oper)) (v := ?_) rfl (by kernel_rfl) (by kernel_rfl) (by kernel_rfl) (fun _ _ _ h => h) (Or.inl ⟨by rfl, ?_⟩) (by assumption) ?_
        rotate_left
        · (intro wS hSw; (try dsimp only at hSw); go_simp <;> with_reducible rfl)
        try simp only [Act.put, List.setIfInBounds_toArray, List.set_cons_zero, List.set_cons_succ]
        refine wpAnyH_take (i := 12) (oi := ({ dst := some 82, op := Go.Op.load 55 (Go.Operand.tmp 81), type := 55, pos := "ref.go:65", after := #[{ on := 11, ground := Go.Ground.data }, { on := 10, ground := Go.Ground.guard }], guard := some (10, false) } : Oper)) (v := ?_) rfl (by kernel_rfl) (by kernel_rfl) (by kernel_rfl) (fun _ _ _ h => h) (Or.inl ⟨by rfl, ?_⟩) (by assumption) ?_
        rotate_left
        · (intro wS hSw; (try dsimp only at hSw); go_simp <;> with_reducible rfl)
        try simp only [Act.put, List.setIfInBounds_toArray, List.set_cons_zero, List.set_cons_succ]
        refine wpAnyH_take (i := 13) (oi := ({ dst := some 83, op := Go.Op.fieldAddr 61 (Go.Operand.tmp 6) 3, type := 0, pos := "ref.go:65", after := #[{ on := 10, ground := Go.Ground.guard }], guard := some (10, false) } : Oper)) (v := ?_) rfl (by kernel_rfl) (by kernel_rfl) (by kernel_rfl) (fun _ _ _ h => h) (Or.inl ⟨by rfl, ?_⟩) (by assumption) ?_
        rotate_left
        · (intro wS hSw; (try dsimp only at hSw); go_simp <;> with_reducible rfl)
        try simp only [Act.put, List.setIfInBounds_toArray, List.set_cons_zero, List.set_cons_succ]
        refine wpAnyH_take (i := 14) (oi := ({ dst := some 84, op := Go.Op.load 55 (Go.Operand.tmp 83), type := 55, pos := "ref.go:65", after := #[{ on := 13, ground := Go.Ground.data }, { on := 10, ground := Go.Ground.guard }], guard := some (10, false) } : Oper)) (v := ?_) rfl (by kernel_rfl) (by kernel_rfl) (by kernel_rfl) (fun _ _ _ h => h) (Or.inl ⟨by rfl, ?_⟩) (by assumption) ?_
        rotate_left
        · (intro wS hSw; (try dsimp only at hSw); go_simp <;> with_reducible rfl)
        try simp only [Act.put, List.setIfInBounds_toArray, List.set_cons_zero, List.set_cons_succ]
        refine wpAnyH_take (i := 15) (oi := ({ dst := some 85, op := Go.Op.binOp Go.BinOp.and 55 (Go.Operand.tmp 82) (Go.Operand.tmp 84) 55, type := 55, pos := "ref.go:65", after := #[{ on := 12, ground := Go.Ground.data }, { on := 14, ground := Go.Ground.data }, { on := 10, ground := Go.Ground.guard }], guard := some (10, false) } : Oper)) (v := ?_) rfl (by kernel_rfl) (by kernel_rfl) (by kernel_rfl) (fun _ _ _ h => h) (Or.inl ⟨by rfl, ?_⟩) (by assumption) ?_
        rotate_left
        · (intro wS hSw; (try dsimp only at hSw); go_simp <;> with_reducible rfl)
        try simp only [Act.put, List.setIfInBounds_toArray, List.set_cons_zero, List.set_cons_succ]
        refine wpAnyH_take (i := 16) (oi := ({ dst := some 86, op := Go.Op.binOp Go.BinOp.neq 55 (Go.Operand.tmp 85) (Go.Operand.const (Go.Value.int Go.IntKind.u16 0)) 55, type := 4, pos := "ref.go:65", after := #[{ on := 15, ground := Go.Ground.data }, { on := 10, ground := Go.Ground.guard }], guard := some (10, false) } : Oper)) (v := ?_) rfl (by kernel_rfl) (by kernel_rfl) (by kernel_rfl) (fun _ _ _ h => h) (Or.inl ⟨by rfl, ?_⟩) (by assumption) ?_
        rotate_left
        · (intro wS hSw; (try dsimp only at hSw); go_simp <;> with_reducible rfl)
        try simp only [Act.put, List.setIfInBounds_toArray, List.set_cons_zero, List.set_cons_succ]
        refine wpAnyH_take (i := 17) (oi := ({ dst := some 87, op := Go.Op.pick (Go.Operand.tmp 80) (Go.Operand.const (Go.Value.bool true)) (Go.Operand.tmp 86), type := 4, pos := "ref.go:65", after := #[{ on := 10, ground := Go.Ground.data }, { on := 16, ground := Go.Ground.data }], guard := none } : Oper)) (v := ?_) rfl (by kernel_rfl) (by kernel_rfl) (by kernel_rfl) (fun _ _ _ h => h) (Or.inl ⟨by rfl, ?_⟩) (by assumption) ?_
        rotate_left
        · (intro wS hSw; (try dsimp only at hSw); go_simp <;> with_reducible rfl)
        try simp only [Act.put, List.setIfInBounds_toArray, List.set_cons_zero, List.set_cons_succ]
        refine wpAnyH_take (i := 18) (oi := ({ dst := some 88, op := Go.Op.move (Go.Operand.tmp 87), type := 4, pos := "ref.go:65", after := #[{ on := 17, ground := Go.Ground.data }, { on := 10, ground := Go.Ground.chain }], guard := none } : Oper)) (v := ?_) rfl (by kernel_rfl) (by kernel_rfl) (by kernel_rfl) (fun _ _ _ h => h) (Or.inl ⟨by rfl, ?_⟩) (by assumption) ?_
        rotate_left
        · (intro wS hSw; (try dsimp only at hSw); go_simp <;> with_reducible rfl)
        try simp only [Act.put, List.setIfInBounds_toArray, List.set_cons_zero, List.set_cons_succ]
        refine wpAnyH_take (i := 19) (oi := ({ dst := some 89, op := Go.Op.move (Go.Operand.tmp 5), type := 3, pos := "ref.go:65", after := #[{ on := 18, ground := Go.Ground.guard }], guard := some (18, false) } : Oper)) (v := undef) rfl (by kernel_rfl) (by kernel_rfl) (by kernel_rfl) (fun _ _ _ h => h) (Or.inr ⟨by rfl, rfl⟩) (by assumption) ?_
        try simp only [Act.put, List.setIfInBounds_toArray, List.set_cons_zero, List.set_cons_succ]
        refine wpAnyH_take (i := 20) (oi := ({ dst := some 90, op := Go.Op.binOp Go.BinOp.gtr 3 (Go.Operand.tmp 89) (Go.Operand.const (Go.Value.int Go.IntKind.i64 0)) 3, type := 4, pos := "ref.go:65", after := #[{ on := 19, ground := Go.Ground.data }, { on := 18, ground := Go.Ground.guard }], guard := some (18, false) } : Oper)) (v := undef) rfl (by kernel_rfl) (by kernel_rfl) (by kernel_rfl) (fun _ _ _ h => h) (Or.inr ⟨by rfl, rfl⟩) (by assumption) ?_
        try simp only [Act.put, List.setIfInBounds_toArray, List.set_cons_zero, List.set_cons_succ]
        refine wpAnyH_take (i := 21) (oi := ({ dst := some 91, op := Go.Op.move (Go.Operand.tmp 90), type := 4, pos := "ref.go:65", after := #[{ on := 20, ground := Go.Ground.data }, { on := 18, ground := Go.Ground.chain }, { on := 18, ground := Go.Ground.guard }], guard := some (18, false) } : Oper)) (v := undef) rfl (by kernel_rfl) (by kernel_rfl) (by kernel_rfl) (fun _ _ _ h => h) (Or.inr ⟨by rfl, rfl⟩) (by assumption) ?_
        try simp only [Act.put, List.setIfInBounds_toArray, List.set_cons_zero, List.set_cons_succ]
        refine wpAnyH_take (i := 22) (oi := ({ dst := some 92, op := Go.Op.fieldAddr 87 (Go.Operand.tmp 1) 3, type := 0, pos := "ref.go:65", after := #[{ on := 21, ground := Go.Ground.guard }], guard := some (21, true) } : Oper)) (v := undef) rfl (by kernel_rfl) (by kernel_rfl) (by kernel_rfl) (fun _ _ _ h => h) (Or.inr ⟨by rfl, rfl⟩) (by assumption) ?_
        try simp only [Act.put, List.setIfInBounds_toArray, List.set_cons_zero, List.set_cons_succ]
        refine wpAnyH_take (i := 23) (oi := ({ dst := some 93, op := Go.Op.load 45 (Go.Operand.tmp 92), type := 45, pos := "ref.go:65", after := #[{ on := 22, ground := Go.Ground.data }, { on := 21, ground := Go.Ground.guard }], guard := some (21, true) } : Oper)) (v := undef) rfl (by kernel_rfl) (by kernel_rfl) (by kernel_rfl) (fun _ _ _ h => h) (Or.inr ⟨by rfl, rfl⟩) (by assumption) ?_
        try simp only [Act.put, List.setIfInBounds_toArray, List.set_cons_zero, List.set_cons_succ]
        refine wpAnyH_take (i := 24) (oi := ({ dst := some 94, op := Go.Op.move (Go.Operand.tmp 5), type := 3, pos := "ref.go:65", after := #[{ on := 21, ground := Go.Ground.guard }], guard := some (21, true) } : Oper)) (v := undef) rfl (by kernel_rfl) (by kernel_rfl) (by kernel_rfl) (fun _ _ _ h => h) (Or.inr ⟨by rfl, rfl⟩) (by assumption) ?_
        try simp only [Act.put, List.setIfInBounds_toArray, List.set_cons_zero, List.set_cons_succ]
        refine wpAnyH_take (i := 25) (oi := ({ dst := some 95, op := Go.Op.binOp Go.BinOp.sub 3 (Go.Operand.tmp 94) (Go.Operand.const (Go.Value.int Go.IntKind.i64 1)) 3, type := 3, pos := "ref.go:65", after := #[{ on := 24, ground := Go.Ground.data }, { on := 21, ground := Go.Ground.guard }], guard := some (21, true) } : Oper)) (v := undef) rfl (by kernel_rfl) (by kernel_rfl) (by kernel_rfl) (fun _ _ _ h => h) (Or.inr ⟨by rfl, rfl⟩) (by assumption) ?_
        try simp only [Act.put, List.setIfInBounds_toArray, List.set_cons_zero, List.set_cons_succ]
        refine wpAnyH_take (i := 26) (oi := ({ dst := some 96, op := Go.Op.indexAddr 45 (Go.Operand.tmp 93) (Go.Operand.tmp 95), type := 0, pos := "ref.go:65", after := #[{ on := 23, ground := Go.Ground.data }, { on := 25, ground := Go.Ground.data }, { on := 21, ground := Go.Ground.guard }], guard := some (21, true) } : Oper)) (v := undef) rfl (by kernel_rfl) (by kernel_rfl) (by kernel_rfl) (fun _ _ _ h => h) (Or.inr ⟨by rfl, rfl⟩) (by assumption) ?_
        try simp only [Act.put, List.setIfInBounds_toArray, List.set_cons_zero, List.set_cons_succ]
        refine wpAnyH_take (i := 27) (oi := ({ dst := some 97, op := Go.Op.load 61 (Go.Operand.tmp 96), type := 61, pos := "ref.go:65", after := #[{ on := 26, ground := Go.Ground.data }, { on := 21, ground := Go.Ground.guard }], guard := some (21, true) } : Oper)) (v := undef) rfl (by kernel_rfl) (by kernel_rfl) (by kernel_rfl) (fun _ _ _ h => h) (Or.inr ⟨by rfl, rfl⟩) (by assumption) ?_
        try simp only [Act.put, List.setIfInBounds_toArray, List.set_cons_zero, List.set_cons_succ]
        refine wpAnyH_take (i := 28) (oi := ({ dst := some 98, op := Go.Op.load 61 (Go.Operand.tmp 6), type := 61, pos := "ref.go:65", after := #[{ on := 21, ground := Go.Ground.guard }], guard := some (21, true) } : Oper)) (v := undef) rfl (by kernel_rfl) (by kernel_rfl) (by kernel_rfl) (fun _ _ _ h => h) (Or.inr ⟨by rfl, rfl⟩) (by assumption) ?_
        try simp only [Act.put, List.setIfInBounds_toArray, List.set_cons_zero, List.set_cons_succ]
        refine wpAnyH_take (i := 29) (oi := ({ dst := some 99, op := Go.Op.call { callee := Go.Callee.value (Go.Operand.func 96), args := #[Go.Operand.tmp 97, Go.Operand.tmp 98], argTypes := #[61, 61] }, type := 4, pos := "ref.go:65", after := #[{ on := 27, ground := Go.Ground.data }, { on := 28, ground := Go.Ground.data }, { on := 21, ground := Go.Ground.chain }, { on := 21, ground := Go.Ground.guard }], guard := some (21, true) } : Oper)) (v := undef) rfl (by kernel_rfl) (by kernel_rfl) (by kernel_rfl) (fun _ _ _ h => h) (Or.inr ⟨by rfl, rfl⟩) (by assumption) ?_
        try simp only [Act.put, List.setIfInBounds_toArray, List.set_cons_zero, List.set_cons_succ]
        refine wpAnyH_take (i := 30) (oi := ({ dst := some 100, op := Go.Op.unOp Go.UnOp.not 4 (Go.Operand.tmp 99), type := 4, pos := "ref.go:65", after := #[{ on := 29, ground := Go.Ground.data }, { on := 21, ground := Go.Ground.guard }], guard := some (21, true) } : Oper)) (v := undef) rfl (by kernel_rfl) (by kernel_rfl) (by kernel_rfl) (fun _ _ _ h => h) (Or.inr ⟨by rfl, rfl⟩) (by assumption) ?_
        try simp only [Act.put, List.setIfInBounds_toArray, List.set_cons_zero, List.set_cons_succ]
        refine wpAnyH_take (i := 31) (oi := ({ dst := some 101, op := Go.Op.pick (Go.Operand.tmp 91) (Go.Operand.tmp 100) (Go.Operand.const (Go.Value.bool false)), type := 4, pos := "ref.go:65", after := #[{ on := 21, ground := Go.Ground.data }, { on := 30, ground := Go.Ground.data }, { on := 18, ground := Go.Ground.guard }], guard := some (18, false) } : Oper)) (v := undef) rfl (by kernel_rfl) (by kernel_rfl) (by kernel_rfl) (fun _ _ _ h => h) (Or.inr ⟨by rfl, rfl⟩) (by assumption) ?_
        try simp only [Act.put, List.setIfInBounds_toArray, List.set_cons_zero, List.set_cons_succ]
        refine wpAnyH_take (i := 32) (oi := ({ dst := some 102, op := Go.Op.pick (Go.Operand.tmp 88) (Go.Operand.const (Go.Value.bool true)) (Go.Operand.tmp 101), type := 4, pos := "ref.go:65", after := #[{ on := 18, ground := Go.Ground.data }, { on := 31, ground := Go.Ground.data }], guard := none } : Oper)) (v := ?_) rfl (by kernel_rfl) (by kernel_rfl) (by kernel_rfl) (fun _ _ _ h => h) (Or.inl ⟨by rfl, ?_⟩) (by assumption) ?_
        rotate_left
        · (intro wS hSw; (try dsimp only at hSw); go_simp <;> with_reducible rfl)
        try simp only [Act.put, List.setIfInBounds_toArray, List.set_cons_zero, List.set_cons_succ]
        refine wpAnyH_done (by kernel_rfl) ?_ _
        have HGn := Lib.hid hHeld.1
        go_wp2_with fail
        go_ret
        exact ⟨by rw [HV.out]; rfl, gb_trans HGx.out HGn.out (Or.inl rfl)⟩
      rw [h5] at z3
      rw [decide_eq_true h5, Bool.true_and] at HBk
      have t5 : bits .and .u16 (x.mu : Int) (x.no : Int) = 0 := z3
      clear z3 h5
      by_cases hk0 : 0 < k
      · obtain ⟨v0, v1, v2, v3⟩ := HPv.out hk0
        have u0 := hgx.cell v0 (by simp)
        have u1 := hgx.cell v1 (by simp)
        have u2 := hgx.cell v2 (by simp)
        have u3 := hgx.cell v3 (by simp)
        have htn : ((k : Int) - 1).toNat = k - 1 := by omega
        have hkJ : (0 : Int) < (k : Int) := by omega
        clear v0 v1 v2 v3 HPv
        have HSS : Hid (∀ wx, we.grownBy wx none → we.grownBy wx none ∧ wx.cell? ⟨wr.heap.size, 0, none⟩ = some (.int .i64 x.fr) ∧ wx.cell? ⟨wr.heap.size, 1, none⟩ = some (.int .i64 x.tt) ∧ wx.cell? ⟨wr.heap.size, 2, none⟩ = some (.int .u16 (x.mu : Int)) ∧ wx.cell? ⟨wr.heap.size, 3, none⟩ = some (.int .u16 (x.no : Int)) ∧ wx.cell? ⟨w.heap.size, 3, none⟩ = some (.slice (some ⟨b, off, none⟩) E.length ce) ∧ wx.cell? ⟨b, off + (k - 1) * 4, none⟩ = some (.int .i64 y.fr) ∧ wx.cell? ⟨b, off + (k - 1) * 4 + 1, none⟩ = some (.int .i64 y.tt) ∧ wx.cell? ⟨b, off + (k - 1) * 4 + 2, none⟩ = some (.int .u16 (y.mu : Int)) ∧ wx.cell? ⟨b, off + (k - 1) * 4 + 3, none⟩ = some (.int .u16 (y.no : Int))) := Lib.hid fun wx h => ⟨h, h.cell b0 (by simp), h.cell b1 (by simp), h.cell b2 (by simp), h.cell b3 (by simp), h.cell p3 (by simp), h.cell u0 (by simp), h.cell u1 (by simp), h.cell u2 (by simp), h.cell u3 (by simp)⟩
        have hS0 := HSS.out _ (gb_drew we none)
        have HAh := Lib.hid (fun wx => refahead_any y x wx)
        unfold edgeV at HAh
        rw [ahead_ord] at HAh
        rw [decide_eq_false (show ¬ k = 0 by omega), Bool.false_or] at HBk
        generalize decide (ordF y x < 0) = oo at HAh HBk
        have ho1 := HAh.out
        have z5 : (0 : Int) ≤ (k : Int) - 1 := by omega
        have z6 : (1 : Int) ≤ (k : Int) := by omega
        have z7 : (k : Int) - 1 < (E.length : Int) := by omega
        have z8 : decide (0 < k) = true := by simpa using hk0
        have z4 : IntKind.i64.wrap ((k : Int) - 1) = (k : Int) - 1 := IntWalk.i64_in _ (by omega)
        clear HAh
        refine wp_region_held_drew (S := (fun wx => we.grownBy wx none ∧ wx.cell? ⟨wr.heap.size, 0, none⟩ = some (.int .i64 x.fr) ∧ wx.cell? ⟨wr.heap.size, 1, none⟩ = some (.int .i64 x.tt) ∧ wx.cell? ⟨wr.heap.size, 2, none⟩ = some (.int .u16 (x.mu : Int)) ∧ wx.cell? ⟨wr.heap.size, 3, none⟩ = some (.int .u16 (x.no : Int)) ∧ wx.cell? ⟨w.heap.size, 3, none⟩ = some (.slice (some ⟨b, off, none⟩) E.length ce) ∧ wx.cell? ⟨b, off + (k - 1) * 4, none⟩ = some (.int .i64 y.fr) ∧ wx.cell? ⟨b, off + (k - 1) * 4 + 1, none⟩ = some (.int .i64 y.tt) ∧ wx.cell? ⟨b, off + (k - 1) * 4 + 2, none⟩ = some (.int .u16 (y.mu : Int)) ∧ wx.cell? ⟨b, off + (k - 1) * 4 + 3, none⟩ = some (.int .u16 (y.no : Int)))) (by kernel_rfl) (by assumption) (fun hHeld => ?_)
        refine wpAnyH_take (i := 0) (oi := ({ dst := some 70, op := Go.Op.fieldAddr 61 (Go.Operand.tmp 6) 2, type := 0, pos := "ref.go:65", after := #[], guard := none } : Oper)) (v := ?_) rfl (by kernel_rfl) (by kernel_rfl) (by kernel_rfl) (fun _ _ _ h => h) (Or.inl ⟨by rfl, ?_⟩) (by assumption) ?_
        rotate_left
        · (intro wS hSw; (try dsimp only at hSw); go_simp <;> with_reducible rfl)
        try simp only [Act.put, List.setIfInBounds_toArray, List.set_cons_zero, List.set_cons_succ]
        refine wpAnyH_take (i := 1) (oi := ({ dst := some 71, op := Go.Op.load 55 (Go.Operand.tmp 70), type := 55, pos := "ref.go:65", after := #[{ on := 0, ground := Go.Ground.data }], guard := none } : Oper)) (v := ?_) rfl (by kernel_rfl) (by kernel_rfl) (by kernel_rfl) (fun _ _ _ h => h) (Or.inl ⟨by rfl, ?_⟩) (by assumption) ?_
        rotate_left
        · (intro wS hSw; (try dsimp only at hSw); go_simp <;> with_reducible rfl)
        try simp only [Act.put, List.setIfInBounds_toArray, List.set_cons_zero, List.set_cons_succ]
        refine wpAnyH_take (i := 2) (oi := ({ dst := some 72, op := Go.Op.move (Go.Operand.tmp 4), type := 55, pos := "ref.go:65", after := #[], guard := none } : Oper)) (v := ?_) rfl (by kernel_rfl) (by kernel_rfl) (by kernel_rfl) (fun _ _ _ h => h) (Or.inl ⟨by rfl, ?_⟩) (by assumption) ?_
        rotate_left
        · (intro wS hSw; (try dsimp only at hSw); go_simp <;> with_reducible rfl)
        try simp only [Act.put, List.setIfInBounds_toArray, List.set_cons_zero, List.set_cons_succ]
        refine wpAnyH_take (i := 3) (oi := ({ dst := some 73, op := Go.Op.binOp Go.BinOp.gtr 55 (Go.Operand.tmp 71) (Go.Operand.tmp 72) 55, type := 4, pos := "ref.go:65", after := #[{ on := 1, ground := Go.Ground.data }, { on := 2, ground := Go.Ground.data }], guard := none } : Oper)) (v := ?_) rfl (by kernel_rfl) (by kernel_rfl) (by kernel_rfl) (fun _ _ _ h => h) (Or.inl ⟨by rfl, ?_⟩) (by assumption) ?_
        rotate_left
        · (intro wS hSw; (try dsimp only at hSw); go_simp <;> with_reducible rfl)
        try simp only [Act.put, List.setIfInBounds_toArray, List.set_cons_zero, List.set_cons_succ]
        refine wpAnyH_take (i := 4) (oi := ({ dst := some 74, op := Go.Op.move (Go.Operand.tmp 73), type := 4, pos := "ref.go:65", after := #[{ on := 3, ground := Go.Ground.data }], guard := none } : Oper)) (v := ?_) rfl (by kernel_rfl) (by kernel_rfl) (by kernel_rfl) (fun _ _ _ h => h) (Or.inl ⟨by rfl, ?_⟩) (by assumption) ?_
        rotate_left
        · (intro wS hSw; (try dsimp only at hSw); go_simp <;> with_reducible rfl)
        try simp only [Act.put, List.setIfInBounds_toArray, List.set_cons_zero, List.set_cons_succ]
        refine wpAnyH_take (i := 5) (oi := ({ dst := some 75, op := Go.Op.fieldAddr 61 (Go.Operand.tmp 6) 3, type := 0, pos := "ref.go:65", after := #[{ on := 4, ground := Go.Ground.guard }], guard := some (4, false) } : Oper)) (v := ?_) rfl (by kernel_rfl) (by kernel_rfl) (by kernel_rfl) (fun _ _ _ h => h) (Or.inl ⟨by rfl, ?_⟩) (by assumption) ?_
        rotate_left
        · (intro wS hSw; (try dsimp only at hSw); go_simp <;> with_reducible rfl)
        try simp only [Act.put, List.setIfInBounds_toArray, List.set_cons_zero, List.set_cons_succ]
        refine wpAnyH_take (i := 6) (oi := ({ dst := some 76, op := Go.Op.load 55 (Go.Operand.tmp 75), type := 55, pos := "ref.go:65", after := #[{ on := 5, ground := Go.Ground.data }, { on := 4, ground := Go.Ground.guard }], guard := some (4, false) } : Oper)) (v := ?_) rfl (by kernel_rfl) (by kernel_rfl) (by kernel_rfl) (fun _ _ _ h => h) (Or.inl ⟨by rfl, ?_⟩) (by assumption) ?_
        rotate_left
        · (intro wS hSw; (try dsimp only at hSw); go_simp <;> with_reducible rfl)
        try simp only [Act.put, List.setIfInBounds_toArray, List.set_cons_zero, List.set_cons_succ]
        refine wpAnyH_take (i := 7) (oi := ({ dst := some 77, op := Go.Op.move (Go.Operand.tmp 4), type := 55, pos := "ref.go:65", after := #[{ on := 4, ground := Go.Ground.guard }], guard := some (4, false) } : Oper)) (v := ?_) rfl (by kernel_rfl) (by kernel_rfl) (by kernel_rfl) (fun _ _ _ h => h) (Or.inl ⟨by rfl, ?_⟩) (by assumption) ?_
        rotate_left
        · (intro wS hSw; (try dsimp only at hSw); go_simp <;> with_reducible rfl)
        try simp only [Act.put, List.setIfInBounds_toArray, List.set_cons_zero, List.set_cons_succ]
        refine wpAnyH_take (i := 8) (oi := ({ dst := some 78, op := Go.Op.binOp Go.BinOp.gtr 55 (Go.Operand.tmp 76) (Go.Operand.tmp 77) 55, type := 4, pos := "ref.go:65", after := #[{ on := 6, ground := Go.Ground.data }, { on := 7, ground := Go.Ground.data }, { on := 4, ground := Go.Ground.guard }], guard := some (4, false) } : Oper)) (v := ?_) rfl (by kernel_rfl) (by kernel_rfl) (by kernel_rfl) (fun _ _ _ h => h) (Or.inl ⟨by rfl, ?_⟩) (by assumption) ?_
        rotate_left
        · (intro wS hSw; (try dsimp only at hSw); go_simp <;> with_reducible rfl)
        try simp only [Act.put, List.setIfInBounds_toArray, List.set_cons_zero, List.set_cons_succ]
        refine wpAnyH_take (i := 9) (oi := ({ dst := some 79, op := Go.Op.pick (Go.Operand.tmp 74) (Go.Operand.const (Go.Value.bool true)) (Go.Operand.tmp 78), type := 4, pos := "ref.go:65", after := #[{ on := 4, ground := Go.Ground.data }, { on := 8, ground := Go.Ground.data }], guard := none } : Oper)) (v := ?_) rfl (by kernel_rfl) (by kernel_rfl) (by kernel_rfl) (fun _ _ _ h => h) (Or.inl ⟨by rfl, ?_⟩) (by assumption) ?_
        rotate_left
        · (intro wS hSw; (try dsimp only at hSw); go_simp <;> with_reducible rfl)
        try simp only [Act.put, List.setIfInBounds_toArray, List.set_cons_zero, List.set_cons_succ]
        refine wpAnyH_take (i := 10) (oi := ({ dst := some 80, op := Go.Op.move (Go.Operand.tmp 79), type := 4, pos := "ref.go:65", after := #[{ on := 9, ground := Go.Ground.data }, { on := 4, ground := Go.Ground.chain }], guard := none } : Oper)) (v := ?_) rfl (by kernel_rfl) (by kernel_rfl) (by kernel_rfl) (fun _ _ _ h => h) (Or.inl ⟨by rfl, ?_⟩) (by assumption) ?_
        rotate_left
        · (intro wS hSw; (try dsimp only at hSw); go_simp <;> with_reducible rfl)
        try simp only [Act.put, List.setIfInBounds_toArray, List.set_cons_zero, List.set_cons_succ]
        refine wpAnyH_take (i := 11) (oi := ({ dst := some 81, op := Go.Op.fieldAddr 61 (Go.Operand.tmp 6) 2, type := 0, pos := "ref.go:65", after := #[{ on := 10, ground := Go.Ground.guard }], guard := some (10, false) } : Oper)) (v := ?_) rfl (by kernel_rfl) (by kernel_rfl) (by kernel_rfl) (fun _ _ _ h => h) (Or.inl ⟨by rfl, ?_⟩) (by assumption) ?_
        rotate_left
        · (intro wS hSw; (try dsimp only at hSw); go_simp <;> with_reducible rfl)
        try simp only [Act.put, List.setIfInBounds_toArray, List.set_cons_zero, List.set_cons_succ]
        refine wpAnyH_take (i := 12) (oi := ({ dst := some 82, op := Go.Op.load 55 (Go.Operand.tmp 81), type := 55, pos := "ref.go:65", after := #[{ on := 11, ground := Go.Ground.data }, { on := 10, ground := Go.Ground.guard }], guard := some (10, false) } : Oper)) (v := ?_) rfl (by kernel_rfl) (by kernel_rfl) (by kernel_rfl) (fun _ _ _ h => h) (Or.inl ⟨by rfl, ?_⟩) (by assumption) ?_
        rotate_left
        · (intro wS hSw; (try dsimp only at hSw); go_simp <;> with_reducible rfl)
        try simp only [Act.put, List.setIfInBounds_toArray, List.set_cons_zero, List.set_cons_succ]
        refine wpAnyH_take (i := 13) (oi := ({ dst := some 83, op := Go.Op.fieldAddr 61 (Go.Operand.tmp 6) 3, type := 0, pos := "ref.go:65", after := #[{ on := 10, ground := Go.Ground.guard }], guard := some (10, false) } : Oper)) (v := ?_) rfl (by kernel_rfl) (by kernel_rfl) (by kernel_rfl) (fun _ _ _ h => h) (Or.inl ⟨by rfl, ?_⟩) (by assumption) ?_
        rotate_left
        · (intro wS hSw; (try dsimp only at hSw); go_simp <;> with_reducible rfl)
        try simp only [Act.put, List.setIfInBounds_toArray, List.set_cons_zero, List.set_cons_succ]
        refine wpAnyH_take (i := 14) (oi := ({ dst := some 84, op := Go.Op.load 55 (Go.Operand.tmp 83), type := 55, pos := "ref.go:65", after := #[{ on := 13, ground := Go.Ground.data }, { on := 10, ground := Go.Ground.guard }], guard := some (10, false) } : Oper)) (v := ?_) rfl (by kernel_rfl) (by kernel_rfl) (by kernel_rfl) (fun _ _ _ h => h) (Or.inl ⟨by rfl, ?_⟩) (by assumption) ?_
        rotate_left
        · (intro wS hSw; (try dsimp only at hSw); go_simp <;> with_reducible rfl)
        try simp only [Act.put, List.setIfInBounds_toArray, List.set_cons_zero, List.set_cons_succ]
        refine wpAnyH_take (i := 15) (oi := ({ dst := some 85, op := Go.Op.binOp Go.BinOp.and 55 (Go.Operand.tmp 82) (Go.Operand.tmp 84) 55, type := 55, pos := "ref.go:65", after := #[{ on := 12, ground := Go.Ground.data }, { on := 14, ground := Go.Ground.data }, { on := 10, ground := Go.Ground.guard }], guard := some (10, false) } : Oper)) (v := ?_) rfl (by kernel_rfl) (by kernel_rfl) (by kernel_rfl) (fun _ _ _ h => h) (Or.inl ⟨by rfl, ?_⟩) (by assumption) ?_
        rotate_left
        · (intro wS hSw; (try dsimp only at hSw); go_simp <;> with_reducible rfl)
        try simp only [Act.put, List.setIfInBounds_toArray, List.set_cons_zero, List.set_cons_succ]
        refine wpAnyH_take (i := 16) (oi := ({ dst := some 86, op := Go.Op.binOp Go.BinOp.neq 55 (Go.Operand.tmp 85) (Go.Operand.const (Go.Value.int Go.IntKind.u16 0)) 55, type := 4, pos := "ref.go:65", after := #[{ on := 15, ground := Go.Ground.data }, { on := 10, ground := Go.Ground.guard }], guard := some (10, false) } : Oper)) (v := ?_) rfl (by kernel_rfl) (by kernel_rfl) (by kernel_rfl) (fun _ _ _ h => h) (Or.inl ⟨by rfl, ?_⟩) (by assumption) ?_
        rotate_left
        · (intro wS hSw; (try dsimp only at hSw); go_simp <;> with_reducible rfl)
        try simp only [Act.put, List.setIfInBounds_toArray, List.set_cons_zero, List.set_cons_succ]
        refine wpAnyH_take (i := 17) (oi := ({ dst := some 87, op := Go.Op.pick (Go.Operand.tmp 80) (Go.Operand.const (Go.Value.bool true)) (Go.Operand.tmp 86), type := 4, pos := "ref.go:65", after := #[{ on := 10, ground := Go.Ground.data }, { on := 16, ground := Go.Ground.data }], guard := none } : Oper)) (v := ?_) rfl (by kernel_rfl) (by kernel_rfl) (by kernel_rfl) (fun _ _ _ h => h) (Or.inl ⟨by rfl, ?_⟩) (by assumption) ?_
        rotate_left
        · (intro wS hSw; (try dsimp only at hSw); go_simp <;> with_reducible rfl)
        try simp only [Act.put, List.setIfInBounds_toArray, List.set_cons_zero, List.set_cons_succ]
        refine wpAnyH_take (i := 18) (oi := ({ dst := some 88, op := Go.Op.move (Go.Operand.tmp 87), type := 4, pos := "ref.go:65", after := #[{ on := 17, ground := Go.Ground.data }, { on := 10, ground := Go.Ground.chain }], guard := none } : Oper)) (v := ?_) rfl (by kernel_rfl) (by kernel_rfl) (by kernel_rfl) (fun _ _ _ h => h) (Or.inl ⟨by rfl, ?_⟩) (by assumption) ?_
        rotate_left
        · (intro wS hSw; (try dsimp only at hSw); go_simp <;> with_reducible rfl)
        try simp only [Act.put, List.setIfInBounds_toArray, List.set_cons_zero, List.set_cons_succ]
        refine wpAnyH_take (i := 19) (oi := ({ dst := some 89, op := Go.Op.move (Go.Operand.tmp 5), type := 3, pos := "ref.go:65", after := #[{ on := 18, ground := Go.Ground.guard }], guard := some (18, false) } : Oper)) (v := ?_) rfl (by kernel_rfl) (by kernel_rfl) (by kernel_rfl) (fun _ _ _ h => h) (Or.inl ⟨by rfl, ?_⟩) (by assumption) ?_
        rotate_left
        · (intro wS hSw; (try dsimp only at hSw); go_simp <;> with_reducible rfl)
        try simp only [Act.put, List.setIfInBounds_toArray, List.set_cons_zero, List.set_cons_succ]
        refine wpAnyH_take (i := 20) (oi := ({ dst := some 90, op := Go.Op.binOp Go.BinOp.gtr 3 (Go.Operand.tmp 89) (Go.Operand.const (Go.Value.int Go.IntKind.i64 0)) 3, type := 4, pos := "ref.go:65", after := #[{ on := 19, ground := Go.Ground.data }, { on := 18, ground := Go.Ground.guard }], guard := some (18, false) } : Oper)) (v := ?_) rfl (by kernel_rfl) (by kernel_rfl) (by kernel_rfl) (fun _ _ _ h => h) (Or.inl ⟨by rfl, ?_⟩) (by assumption) ?_
        rotate_left
        · (intro wS hSw; (try dsimp only at hSw); go_simp <;> with_reducible rfl)
        try simp only [Act.put, List.setIfInBounds_toArray, List.set_cons_zero, List.set_cons_succ]
        refine wpAnyH_take (i := 21) (oi := ({ dst := some 91, op := Go.Op.move (Go.Operand.tmp 90), type := 4, pos := "ref.go:65", after := #[{ on := 20, ground := Go.Ground.data }, { on := 18, ground := Go.Ground.chain }, { on := 18, ground := Go.Ground.guard }], guard := some (18, false) } : Oper)) (v := ?_) rfl (by kernel_rfl) (by kernel_rfl) (by kernel_rfl) (fun _ _ _ h => h) (Or.inl ⟨by rfl, ?_⟩) (by assumption) ?_
        rotate_left
        · (intro wS hSw; (try dsimp only at hSw); go_simp <;> with_reducible rfl)
        try simp only [Act.put, List.setIfInBounds_toArray, List.set_cons_zero, List.set_cons_succ]
        refine wpAnyH_take (i := 22) (oi := ({ dst := some 92, op := Go.Op.fieldAddr 87 (Go.Operand.tmp 1) 3, type := 0, pos := "ref.go:65", after := #[{ on := 21, ground := Go.Ground.guard }], guard := some (21, true) } : Oper)) (v := ?_) rfl (by kernel_rfl) (by kernel_rfl) (by kernel_rfl) (fun _ _ _ h => h) (Or.inl ⟨by rfl, ?_⟩) (by assumption) ?_
        rotate_left
        · (intro wS hSw; (try dsimp only at hSw); go_simp <;> with_reducible rfl)
        try simp only [Act.put, List.setIfInBounds_toArray, List.set_cons_zero, List.set_cons_succ]
        refine wpAnyH_take (i := 23) (oi := ({ dst := some 93, op := Go.Op.load 45 (Go.Operand.tmp 92), type := 45, pos := "ref.go:65", after := #[{ on := 22, ground := Go.Ground.data }, { on := 21, ground := Go.Ground.guard }], guard := some (21, true) } : Oper)) (v := ?_) rfl (by kernel_rfl) (by kernel_rfl) (by kernel_rfl) (fun _ _ _ h => h) (Or.inl ⟨by rfl, ?_⟩) (by assumption) ?_
        rotate_left
        · (intro wS hSw; (try dsimp only at hSw); go_simp <;> with_reducible rfl)
        try simp only [Act.put, List.setIfInBounds_toArray, List.set_cons_zero, List.set_cons_succ]
        refine wpAnyH_take (i := 24) (oi := ({ dst := some 94, op := Go.Op.move (Go.Operand.tmp 5), type := 3, pos := "ref.go:65", after := #[{ on := 21, ground := Go.Ground.guard }], guard := some (21, true) } : Oper)) (v := ?_) rfl (by kernel_rfl) (by kernel_rfl) (by kernel_rfl) (fun _ _ _ h => h) (Or.inl ⟨by rfl, ?_⟩) (by assumption) ?_
        rotate_left
        · (intro wS hSw; (try dsimp only at hSw); go_simp <;> with_reducible rfl)
        try simp only [Act.put, List.setIfInBounds_toArray, List.set_cons_zero, List.set_cons_succ]
        refine wpAnyH_take (i := 25) (oi := ({ dst := some 95, op := Go.Op.binOp Go.BinOp.sub 3 (Go.Operand.tmp 94) (Go.Operand.const (Go.Value.int Go.IntKind.i64 1)) 3, type := 3, pos := "ref.go:65", after := #[{ on := 24, ground := Go.Ground.data }, { on := 21, ground := Go.Ground.guard }], guard := some (21, true) } : Oper)) (v := ?_) rfl (by kernel_rfl) (by kernel_rfl) (by kernel_rfl) (fun _ _ _ h => h) (Or.inl ⟨by rfl, ?_⟩) (by assumption) ?_
        rotate_left
        · (intro wS hSw; (try dsimp only at hSw); go_simp <;> with_reducible rfl)
        try simp only [Act.put, List.setIfInBounds_toArray, List.set_cons_zero, List.set_cons_succ]
        refine wpAnyH_take (i := 26) (oi := ({ dst := some 96, op := Go.Op.indexAddr 45 (Go.Operand.tmp 93) (Go.Operand.tmp 95), type := 0, pos := "ref.go:65", after := #[{ on := 23, ground := Go.Ground.data }, { on := 25, ground := Go.Ground.data }, { on := 21, ground := Go.Ground.guard }], guard := some (21, true) } : Oper)) (v := ?_) rfl (by kernel_rfl) (by kernel_rfl) (by kernel_rfl) (fun _ _ _ h => h) (Or.inl ⟨by rfl, ?_⟩) (by assumption) ?_
        rotate_left
        · (intro wS hSw; (try dsimp only at hSw); go_simp <;> with_reducible rfl)
        try simp only [Act.put, List.setIfInBounds_toArray, List.set_cons_zero, List.set_cons_succ]
        refine wpAnyH_take (i := 27) (oi := ({ dst := some 97, op := Go.Op.load 61 (Go.Operand.tmp 96), type := 61, pos := "ref.go:65", after := #[{ on := 26, ground := Go.Ground.data }, { on := 21, ground := Go.Ground.guard }], guard := some (21, true) } : Oper)) (v := ?_) rfl (by kernel_rfl) (by kernel_rfl) (by kernel_rfl) (fun _ _ _ h => h) (Or.inl ⟨by rfl, ?_⟩) (by assumption) ?_
        rotate_left
        · (intro wS hSw; (try dsimp only at hSw); go_simp <;> with_reducible rfl)
        try simp only [Act.put, List.setIfInBounds_toArray, List.set_cons_zero, List.set_cons_succ]
        refine wpAnyH_take (i := 28) (oi := ({ dst := some 98, op := Go.Op.load 61 (Go.Operand.tmp 6), type := 61, pos := "ref.go:65", after := #[{ on := 21, ground := Go.Ground.guard }], guard := some (21, true) } : Oper)) (v := ?_) rfl (by kernel_rfl) (by kernel_rfl) (by kernel_rfl) (fun _ _ _ h => h) (Or.inl ⟨by rfl, ?_⟩) (by assumption) ?_
        rotate_left
        · (intro wS hSw; (try dsimp only at hSw); go_simp <;> with_reducible rfl)
        try simp only [Act.put, List.setIfInBounds_toArray, List.set_cons_zero, List.set_cons_succ]
        refine wpAnyH_ready (rs := [29]) (by kernel_rfl) (by simp) ?_
        refine AllReadyH.cons (o := ({ dst := some 99, op := Go.Op.call { callee := Go.Callee.value (Go.Operand.func 96), args := #[Go.Operand.tmp 97, Go.Operand.tmp 98], argTypes := #[61, 61] }, type := 4, pos := "ref.go:65", after := #[{ on := 27, ground := Go.Ground.data }, { on := 28, ground := Go.Ground.data }, { on := 21, ground := Go.Ground.chain }, { on := 21, ground := Go.Ground.guard }], guard := some (21, true) } : Oper)) rfl (fun K hK => ?_) AllReadyH.nil
        go_simp
        ((refine (ho1 _).mono ?_); rintro e wn ⟨rfl, hgn⟩; have hSn := HSS.out _ (gb_trans (And.left (by assumption)) hgn (Or.inl rfl)))
        refine hK.out _ _ (by exact hSn) (fun hHeld => ?_)
        clear hK K
        try simp only [Act.put, List.setIfInBounds_toArray, List.set_cons_zero, List.set_cons_succ]
        refine wpAnyH_take (i := 30) (oi := ({ dst := some 100, op := Go.Op.unOp Go.UnOp.not 4 (Go.Operand.tmp 99), type := 4, pos := "ref.go:65", after := #[{ on := 29, ground := Go.Ground.data }, { on := 21, ground := Go.Ground.guard }], guard := some (21, true) } : Oper)) (v := ?_) rfl (by kernel_rfl) (by kernel_rfl) (by kernel_rfl) (fun _ _ _ h => h) (Or.inl ⟨by rfl, ?_⟩) (by assumption) ?_
        rotate_left
        · (intro wS hSw; (try dsimp only at hSw); go_simp <;> with_reducible rfl)
        try simp only [Act.put, List.setIfInBounds_toArray, List.set_cons_zero, List.set_cons_succ]
        refine wpAnyH_take (i := 31) (oi := ({ dst := some 101, op := Go.Op.pick (Go.Operand.tmp 91) (Go.Operand.tmp 100) (Go.Operand.const (Go.Value.bool false)), type := 4, pos := "ref.go:65", after := #[{ on := 21, ground := Go.Ground.data }, { on := 30, ground := Go.Ground.data }, { on := 18, ground := Go.Ground.guard }], guard := some (18, false) } : Oper)) (v := ?_) rfl (by kernel_rfl) (by kernel_rfl) (by kernel_rfl) (fun _ _ _ h => h) (Or.inl ⟨by rfl, ?_⟩) (by assumption) ?_
        rotate_left
        · (intro wS hSw; (try dsimp only at hSw); go_simp <;> with_reducible rfl)
        try simp only [Act.put, List.setIfInBounds_toArray, List.set_cons_zero, List.set_cons_succ]
        refine wpAnyH_take (i := 32) (oi := ({ dst := some 102, op := Go.Op.pick (Go.Operand.tmp 88) (Go.Operand.const (Go.Value.bool true)) (Go.Operand.tmp 101), type := 4, pos := "ref.go:65", after := #[{ on := 18, ground := Go.Ground.data }, { on := 31, ground := Go.Ground.data }], guard := none } : Oper)) (v := ?_) rfl (by kernel_rfl) (by kernel_rfl) (by kernel_rfl) (fun _ _ _ h => h) (Or.inl ⟨by rfl, ?_⟩) (by assumption) ?_
        rotate_left
        · (intro wS hSw; (try dsimp only at hSw); go_simp <;> with_reducible rfl)
        try simp only [Act.put, List.setIfInBounds_toArray, List.set_cons_zero, List.set_cons_succ]
        refine wpAnyH_done (by kernel_rfl) ?_ _
        have HGn := Lib.hid (gb_trans HGe.out hSn.1 (Or.inl rfl))
        have HGm := Lib.hid (gb_trans HGx.out hSn.1 (Or.inl rfl))
        clear z4 z5 z6 z7 z8 t3 t4 t5 hS0 hSn hgn ho1
        cases oo
        · have HV := Lib.hid (HNk.out HBk.out)
          clear HYk HNk HBk
          go_wp2_with fail
          go_ret
          exact ⟨by rw [HV.out]; rfl, HGm.out⟩
        · have HYn := Lib.hid (HYk.out HBk.out)
          clear HYk HNk HBk
          go_wp2_with fail
          exact ⟨⟨k + 1, by omega, by go_num, HYn, HGn⟩, by simp [intOf]; omega⟩
      · obtain rfl : k = 0 := by omega
        have HYn := Lib.hid (HYk.out (by rw [HBk.out]; rfl))
        clear HYk HNk HBk HPv
        have hS0 := HSS4.out _ (gb_drew we none)
        refine wp_region_held_drew (S := (fun wx => we.grownBy wx none ∧ wx.cell? ⟨wr.heap.size, 0, none⟩ = some (.int .i64 x.fr) ∧ wx.cell? ⟨wr.heap.size, 1, none⟩ = some (.int .i64 x.tt) ∧ wx.cell? ⟨wr.heap.size, 2, none⟩ = some (.int .u16 (x.mu : Int)) ∧ wx.cell? ⟨wr.heap.size, 3, none⟩ = some (.int .u16 (x.no : Int)))) (by kernel_rfl) (by assumption) (fun hHeld => ?_)
        refine wpAnyH_take (i := 0) (oi := ({ dst := some 70, op := Go.Op.fieldAddr 61 (Go.Operand.tmp 6) 2, type := 0, pos := "ref.go:65", after := #[], guard := none } : Oper)) (v := ?_) rfl (by kernel_rfl) (by kernel_rfl) (by kernel_rfl) (fun _ _ _ h => h) (Or.inl ⟨by rfl, ?_⟩) (by assumption) ?_
        rotate_left
        · (intro wS hSw; (try dsimp only at hSw); go_simp <;> with_reducible rfl)
        try simp only [Act.put, List.setIfInBounds_toArray, List.set_cons_zero, List.set_cons_succ]
        refine wpAnyH_take (i := 1) (oi := ({ dst := some 71, op := Go.Op.load 55 (Go.Operand.tmp 70), type := 55, pos := "ref.go:65", after := #[{ on := 0, ground := Go.Ground.data }], guard := none } : Oper)) (v := ?_) rfl (by kernel_rfl) (by kernel_rfl) (by kernel_rfl) (fun _ _ _ h => h) (Or.inl ⟨by rfl, ?_⟩) (by assumption) ?_
        rotate_left
        · (intro wS hSw; (try dsimp only at hSw); go_simp <;> with_reducible rfl)
        try simp only [Act.put, List.setIfInBounds_toArray, List.set_cons_zero, List.set_cons_succ]
        refine wpAnyH_take (i := 2) (oi := ({ dst := some 72, op := Go.Op.move (Go.Operand.tmp 4), type := 55, pos := "ref.go:65", after := #[], guard := none } : Oper)) (v := ?_) rfl (by kernel_rfl) (by kernel_rfl) (by kernel_rfl) (fun _ _ _ h => h) (Or.inl ⟨by rfl, ?_⟩) (by assumption) ?_
        rotate_left
        · (intro wS hSw; (try dsimp only at hSw); go_simp <;> with_reducible rfl)
        try simp only [Act.put, List.setIfInBounds_toArray, List.set_cons_zero, List.set_cons_succ]
        refine wpAnyH_take (i := 3) (oi := ({ dst := some 73, op := Go.Op.binOp Go.BinOp.gtr 55 (Go.Operand.tmp 71) (Go.Operand.tmp 72) 55, type := 4, pos := "ref.go:65", after := #[{ on := 1, ground := Go.Ground.data }, { on := 2, ground := Go.Ground.data }], guard := none } : Oper)) (v := ?_) rfl (by kernel_rfl) (by kernel_rfl) (by kernel_rfl) (fun _ _ _ h => h) (Or.inl ⟨by rfl, ?_⟩) (by assumption) ?_
        rotate_left
        · (intro wS hSw; (try dsimp only at hSw); go_simp <;> with_reducible rfl)
        try simp only [Act.put, List.setIfInBounds_toArray, List.set_cons_zero, List.set_cons_succ]
        refine wpAnyH_take (i := 4) (oi := ({ dst := some 74, op := Go.Op.move (Go.Operand.tmp 73), type := 4, pos := "ref.go:65", after := #[{ on := 3, ground := Go.Ground.data }], guard := none } : Oper)) (v := ?_) rfl (by kernel_rfl) (by kernel_rfl) (by kernel_rfl) (fun _ _ _ h => h) (Or.inl ⟨by rfl, ?_⟩) (by assumption) ?_
        rotate_left
        · (intro wS hSw; (try dsimp only at hSw); go_simp <;> with_reducible rfl)
        try simp only [Act.put, List.setIfInBounds_toArray, List.set_cons_zero, List.set_cons_succ]
        refine wpAnyH_take (i := 5) (oi := ({ dst := some 75, op := Go.Op.fieldAddr 61 (Go.Operand.tmp 6) 3, type := 0, pos := "ref.go:65", after := #[{ on := 4, ground := Go.Ground.guard }], guard := some (4, false) } : Oper)) (v := ?_) rfl (by kernel_rfl) (by kernel_rfl) (by kernel_rfl) (fun _ _ _ h => h) (Or.inl ⟨by rfl, ?_⟩) (by assumption) ?_
        rotate_left
        · (intro wS hSw; (try dsimp only at hSw); go_simp <;> with_reducible rfl)
        try simp only [Act.put, List.setIfInBounds_toArray, List.set_cons_zero, List.set_cons_succ]
        refine wpAnyH_take (i := 6) (oi := ({ dst := some 76, op := Go.Op.load 55 (Go.Operand.tmp 75), type := 55, pos := "ref.go:65", after := #[{ on := 5, ground := Go.Ground.data }, { on := 4, ground := Go.Ground.guard }], guard := some (4, false) } : Oper)) (v := ?_) rfl (by kernel_rfl) (by kernel_rfl) (by kernel_rfl) (fun _ _ _ h => h) (Or.inl ⟨by rfl, ?_⟩) (by assumption) ?_
        rotate_left
        · (intro wS hSw; (try dsimp only at hSw); go_simp <;> with_reducible rfl)
        try simp only [Act.put, List.setIfInBounds_toArray, List.set_cons_zero, List.set_cons_succ]
        refine wpAnyH_take (i := 7) (oi := ({ dst := some 77, op := Go.Op.move (Go.Operand.tmp 4), type := 55, pos := "ref.go:65", after := #[{ on := 4, ground := Go.Ground.guard }], guard := some (4, false) } : Oper)) (v := ?_) rfl (by kernel_rfl) (by kernel_rfl) (by kernel_rfl) (fun _ _ _ h => h) (Or.inl ⟨by rfl, ?_⟩) (by assumption) ?_
        rotate_left
        · (intro wS hSw; (try dsimp only at hSw); go_simp <;> with_reducible rfl)
        try simp only [Act.put, List.setIfInBounds_toArray, List.set_cons_zero, List.set_cons_succ]
        refine wpAnyH_take (i := 8) (oi := ({ dst := some 78, op := Go.Op.binOp Go.BinOp.gtr 55 (Go.Operand.tmp 76) (Go.Operand.tmp 77) 55, type := 4, pos := "ref.go:65", after := #[{ on := 6, ground := Go.Ground.data }, { on := 7, ground := Go.Ground.data }, { on := 4, ground := Go.Ground.guard }], guard := some (4, false) } : Oper)) (v := ?_) rfl (by kernel_rfl) (by kernel_rfl) (by kernel_rfl) (fun _ _ _ h => h) (Or.inl ⟨by rfl, ?_⟩) (by assumption) ?_
        rotate_left
        · (intro wS hSw; (try dsimp only at hSw); go_simp <;> with_reducible rfl)
        try simp only [Act.put, List.setIfInBounds_toArray, List.set_cons_zero, List.set_cons_succ]
        refine wpAnyH_take (i := 9) (oi := ({ dst := some 79, op := Go.Op.pick (Go.Operand.tmp 74) (Go.Operand.const (Go.Value.bool true)) (Go.Operand.tmp 78), type := 4, pos := "ref.go:65", after := #[{ on := 4, ground := Go.Ground.data }, { on := 8, ground := Go.Ground.data }], guard := none } : Oper)) (v := ?_) rfl (by kernel_rfl) (by kernel_rfl) (by kernel_rfl) (fun _ _ _ h => h) (Or.inl ⟨by rfl, ?_⟩) (by assumption) ?_
        rotate_left
        · (intro wS hSw; (try dsimp only at hSw); go_simp <;> with_reducible rfl)
        try simp only [Act.put, List.setIfInBounds_toArray, List.set_cons_zero, List.set_cons_succ]
        refine wpAnyH_take (i := 10) (oi := ({ dst := some 80, op := Go.Op.move (Go.Operand.tmp 79), type := 4, pos := "ref.go:65", after := #[{ on := 9, ground := Go.Ground.data }, { on := 4, ground := Go.Ground.chain }], guard := none } : Oper)) (v := ?_) rfl (by kernel_rfl) (by kernel_rfl) (by kernel_rfl) (fun _ _ _ h => h) (Or.inl ⟨by rfl, ?_⟩) (by assumption) ?_
        rotate_left
        · (intro wS hSw; (try dsimp only at hSw); go_simp <;> with_reducible rfl)
        try simp only [Act.put, List.setIfInBounds_toArray, List.set_cons_zero, List.set_cons_succ]
        refine wpAnyH_take (i := 11) (oi := ({ dst := some 81, op := Go.Op.fieldAddr 61 (Go.Operand.tmp 6) 2, type := 0, pos := "ref.go:65", after := #[{ on := 10, ground := Go.Ground.guard }], guard := some (10, false) } : Oper)) (v := ?_) rfl (by kernel_rfl) (by kernel_rfl) (by kernel_rfl) (fun _ _ _ h => h) (Or.inl ⟨by rfl, ?_⟩) (by assumption) ?_
        rotate_left
        · (intro wS hSw; (try dsimp only at hSw); go_simp <;> with_reducible rfl)
        try simp only [Act.put, List.setIfInBounds_toArray, List.set_cons_zero, List.set_cons_succ]
        refine wpAnyH_take (i := 12) (oi := ({ dst := some 82, op := Go.Op.load 55 (Go.Operand.tmp 81), type := 55, pos := "ref.go:65", after := #[{ on := 11, ground := Go.Ground.data }, { on := 10, ground := Go.Ground.guard }], guard := some (10, false) } : Oper)) (v := ?_) rfl (by kernel_rfl) (by kernel_rfl) (by kernel_rfl) (fun _ _ _ h => h) (Or.inl ⟨by rfl, ?_⟩) (by assumption) ?_
        rotate_left
        · (intro wS hSw; (try dsimp only at hSw); go_simp <;> with_reducible rfl)
        try simp only [Act.put, List.setIfInBounds_toArray, List.set_cons_zero, List.set_cons_succ]
        refine wpAnyH_take (i := 13) (oi := ({ dst := some 83, op := Go.Op.fieldAddr 61 (Go.Operand.tmp 6) 3, type := 0, pos := "ref.go:65", after := #[{ on := 10, ground := Go.Ground.guard }], guard := some (10, false) } : Oper)) (v := ?_) rfl (by kernel_rfl) (by kernel_rfl) (by kernel_rfl) (fun _ _ _ h => h) (Or.inl ⟨by rfl, ?_⟩) (by assumption) ?_
        rotate_left
        · (intro wS hSw; (try dsimp only at hSw); go_simp <;> with_reducible rfl)
        try simp only [Act.put, List.setIfInBounds_toArray, List.set_cons_zero, List.set_cons_succ]
        refine wpAnyH_take (i := 14) (oi := ({ dst := some 84, op := Go.Op.load 55 (Go.Operand.tmp 83), type := 55, pos := "ref.go:65", after := #[{ on := 13, ground := Go.Ground.data }, { on := 10, ground := Go.Ground.guard }], guard := some (10, false) } : Oper)) (v := ?_) rfl (by kernel_rfl) (by kernel_rfl) (by kernel_rfl) (fun _ _ _ h => h) (Or.inl ⟨by rfl, ?_⟩) (by assumption) ?_
        rotate_left
        · (intro wS hSw; (try dsimp only at hSw); go_simp <;> with_reducible rfl)
        try simp only [Act.put, List.setIfInBounds_toArray, List.set_cons_zero, List.set_cons_succ]
        refine wpAnyH_take (i := 15) (oi := ({ dst := some 85, op := Go.Op.binOp Go.BinOp.and 55 (Go.Operand.tmp 82) (Go.Operand.tmp 84) 55, type := 55, pos := "ref.go:65", after := #[{ on := 12, ground := Go.Ground.data }, { on := 14, ground := Go.Ground.data }, { on := 10, ground := Go.Ground.guard }], guard := some (10, false) } : Oper)) (v := ?_) rfl (by kernel_rfl) (by kernel_rfl) (by kernel_rfl) (fun _ _ _ h => h) (Or.inl ⟨by rfl, ?_⟩) (by assumption) ?_
        rotate_left
        · (intro wS hSw; (try dsimp only at hSw); go_simp <;> with_reducible rfl)
        try simp only [Act.put, List.setIfInBounds_toArray, List.set_cons_zero, List.set_cons_succ]
        refine wpAnyH_take (i := 16) (oi := ({ dst := some 86, op := Go.Op.binOp Go.BinOp.neq 55 (Go.Operand.tmp 85) (Go.Operand.const (Go.Value.int Go.IntKind.u16 0)) 55, type := 4, pos := "ref.go:65", after := #[{ on := 15, ground := Go.Ground.data }, { on := 10, ground := Go.Ground.guard }], guard := some (10, false) } : Oper)) (v := ?_) rfl (by kernel_rfl) (by kernel_rfl) (by kernel_rfl) (fun _ _ _ h => h) (Or.inl ⟨by rfl, ?_⟩) (by assumption) ?_
        rotate_left
        · (intro wS hSw; (try dsimp only at hSw); go_simp <;> with_reducible rfl)
        try simp only [Act.put, List.setIfInBounds_toArray, List.set_cons_zero, List.set_cons_succ]
        refine wpAnyH_take (i := 17) (oi := ({ dst := some 87, op := Go.Op.pick (Go.Operand.tmp 80) (Go.Operand.const (Go.Value.bool true)) (Go.Operand.tmp 86), type := 4, pos := "ref.go:65", after := #[{ on := 10, ground := Go.Ground.data }, { on := 16, ground := Go.Ground.data }], guard := none } : Oper)) (v := ?_) rfl (by kernel_rfl) (by kernel_rfl) (by kernel_rfl) (fun _ _ _ h => h) (Or.inl ⟨by rfl, ?_⟩) (by assumption) ?_
        rotate_left
        · (intro wS hSw; (try dsimp only at hSw); go_simp <;> with_reducible rfl)
        try simp only [Act.put, List.setIfInBounds_toArray, List.set_cons_zero, List.set_cons_succ]
        refine wpAnyH_take (i := 18) (oi := ({ dst := some 88, op := Go.Op.move (Go.Operand.tmp 87), type := 4, pos := "ref.go:65", after := #[{ on := 17, ground := Go.Ground.data }, { on := 10, ground := Go.Ground.chain }], guard := none } : Oper)) (v := ?_) rfl (by kernel_rfl) (by kernel_rfl) (by kernel_rfl) (fun _ _ _ h => h) (Or.inl ⟨by rfl, ?_⟩) (by assumption) ?_
        rotate_left
        · (intro wS hSw; (try dsimp only at hSw); go_simp <;> with_reducible rfl)
        try simp only [Act.put, List.setIfInBounds_toArray, List.set_cons_zero, List.set_cons_succ]
        refine wpAnyH_take (i := 19) (oi := ({ dst := some 89, op := Go.Op.move (Go.Operand.tmp 5), type := 3, pos := "ref.go:65", after := #[{ on := 18, ground := Go.Ground.guard }], guard := some (18, false) } : Oper)) (v := ?_) rfl (by kernel_rfl) (by kernel_rfl) (by kernel_rfl) (fun _ _ _ h => h) (Or.inl ⟨by rfl, ?_⟩) (by assumption) ?_
        rotate_left
        · (intro wS hSw; (try dsimp only at hSw); go_simp <;> with_reducible rfl)
        try simp only [Act.put, List.setIfInBounds_toArray, List.set_cons_zero, List.set_cons_succ]
        refine wpAnyH_take (i := 20) (oi := ({ dst := some 90, op := Go.Op.binOp Go.BinOp.gtr 3 (Go.Operand.tmp 89) (Go.Operand.const (Go.Value.int Go.IntKind.i64 0)) 3, type := 4, pos := "ref.go:65", after := #[{ on := 19, ground := Go.Ground.data }, { on := 18, ground := Go.Ground.guard }], guard := some (18, false) } : Oper)) (v := ?_) rfl (by kernel_rfl) (by kernel_rfl) (by kernel_rfl) (fun _ _ _ h => h) (Or.inl ⟨by rfl, ?_⟩) (by assumption) ?_
        rotate_left
        · (intro wS hSw; (try dsimp only at hSw); go_simp <;> with_reducible rfl)
        try simp only [Act.put, List.setIfInBounds_toArray, List.set_cons_zero, List.set_cons_succ]
        refine wpAnyH_take (i := 21) (oi := ({ dst := some 91, op := Go.Op.move (Go.Operand.tmp 90), type := 4, pos := "ref.go:65", after := #[{ on := 20, ground := Go.Ground.data }, { on := 18, ground := Go.Ground.chain }, { on := 18, ground := Go.Ground.guard }], guard := some (18, false) } : Oper)) (v := ?_) rfl (by kernel_rfl) (by kernel_rfl) (by kernel_rfl) (fun _ _ _ h => h) (Or.inl ⟨by rfl, ?_⟩) (by assumption) ?_
        rotate_left
        · (intro wS hSw; (try dsimp only at hSw); go_simp <;> with_reducible rfl)
        try simp only [Act.put, List.setIfInBounds_toArray, List.set_cons_zero, List.set_cons_succ]
        refine wpAnyH_take (i := 22) (oi := ({ dst := some 92, op := Go.Op.fieldAddr 87 (Go.Operand.tmp 1) 3, type := 0, pos := "ref.go:65", after := #[{ on := 21, ground := Go.Ground.guard }], guard := some (21, true) } : Oper)) (v := undef) rfl (by kernel_rfl) (by kernel_rfl) (by kernel_rfl) (fun _ _ _ h => h) (Or.inr ⟨by rfl, rfl⟩) (by assumption) ?_
        try simp only [Act.put, List.setIfInBounds_toArray, List.set_cons_zero, List.set_cons_succ]
        refine wpAnyH_take (i := 23) (oi := ({ dst := some 93, op := Go.Op.load 45 (Go.Operand.tmp 92), type := 45, pos := "ref.go:65", after := #[{ on := 22, ground := Go.Ground.data }, { on := 21, ground := Go.Ground.guard }], guard := some (21, true) } : Oper)) (v := undef) rfl (by kernel_rfl) (by kernel_rfl) (by kernel_rfl) (fun _ _ _ h => h) (Or.inr ⟨by rfl, rfl⟩) (by assumption) ?_
        try simp only [Act.put, List.setIfInBounds_toArray, List.set_cons_zero, List.set_cons_succ]
        refine wpAnyH_take (i := 24) (oi := ({ dst := some 94, op := Go.Op.move (Go.Operand.tmp 5), type := 3, pos := "ref.go:65", after := #[{ on := 21, ground := Go.Ground.guard }], guard := some (21, true) } : Oper)) (v := undef) rfl (by kernel_rfl) (by kernel_rfl) (by kernel_rfl) (fun _ _ _ h => h) (Or.inr ⟨by rfl, rfl⟩) (by assumption) ?_
        try simp only [Act.put, List.setIfInBounds_toArray, List.set_cons_zero, List.set_cons_succ]
        refine wpAnyH_take (i := 25) (oi := ({ dst := some 95, op := Go.Op.binOp Go.BinOp.sub 3 (Go.Operand.tmp 94) (Go.Operand.const (Go.Value.int Go.IntKind.i64 1)) 3, type := 3, pos := "ref.go:65", after := #[{ on := 24, ground := Go.Ground.data }, { on := 21, ground := Go.Ground.guard }], guard := some (21, true) } : Oper)) (v := undef) rfl (by kernel_rfl) (by kernel_rfl) (by kernel_rfl) (fun _ _ _ h => h) (Or.inr ⟨by rfl, rfl⟩) (by assumption) ?_
        try simp only [Act.put, List.setIfInBounds_toArray, List.set_cons_zero, List.set_cons_succ]
        refine wpAnyH_take (i := 26) (oi := ({ dst := some 96, op := Go.Op.indexAddr 45 (Go.Operand.tmp 93) (Go.Operand.tmp 95), type := 0, pos := "ref.go:65", after := #[{ on := 23, ground := Go.Ground.data }, { on := 25, ground := Go.Ground.data }, { on := 21, ground := Go.Ground.guard }], guard := some (21, true) } : Oper)) (v := undef) rfl (by kernel_rfl) (by kernel_rfl) (by kernel_rfl) (fun _ _ _ h => h) (Or.inr ⟨by rfl, rfl⟩) (by assumption) ?_
        try simp only [Act.put, List.setIfInBounds_toArray, List.set_cons_zero, List.set_cons_succ]
        refine wpAnyH_take (i := 27) (oi := ({ dst := some 97, op := Go.Op.load 61 (Go.Operand.tmp 96), type := 61, pos := "ref.go:65", after := #[{ on := 26, ground := Go.Ground.data }, { on := 21, ground := Go.Ground.guard }], guard := some (21, true) } : Oper)) (v := undef) rfl (by kernel_rfl) (by kernel_rfl) (by kernel_rfl) (fun _ _ _ h => h) (Or.inr ⟨by rfl, rfl⟩) (by assumption) ?_
        try simp only [Act.put, List.setIfInBounds_toArray, List.set_cons_zero, List.set_cons_succ]
        refine wpAnyH_take (i := 28) (oi := ({ dst := some 98, op := Go.Op.load 61 (Go.Operand.tmp 6), type := 61, pos := "ref.go:65", after := #[{ on := 21, ground := Go.Ground.guard }], guard := some (21, true) } : Oper)) (v := undef) rfl (by kernel_rfl) (by kernel_rfl) (by kernel_rfl) (fun _ _ _ h => h) (Or.inr ⟨by rfl, rfl⟩) (by assumption) ?_
        try simp only [Act.put, List.setIfInBounds_toArray, List.set_cons_zero, List.set_cons_succ]
        refine wpAnyH_take (i := 29) (oi := ({ dst := some 99, op := Go.Op.call { callee := Go.Callee.value (Go.Operand.func 96), args := #[Go.Operand.tmp 97, Go.Operand.tmp 98], argTypes := #[61, 61] }, type := 4, pos := "ref.go:65", after := #[{ on := 27, ground := Go.Ground.data }, { on := 28, ground := Go.Ground.data }, { on := 21, ground := Go.Ground.chain }, { on := 21, ground := Go.Ground.guard }], guard := some (21, true) } : Oper)) (v := undef) rfl (by kernel_rfl) (by kernel_rfl) (by kernel_rfl) (fun _ _ _ h => h) (Or.inr ⟨by rfl, rfl⟩) (by assumption) ?_
        try simp only [Act.put, List.setIfInBounds_toArray, List.set_cons_zero, List.set_cons_succ]
        refine wpAnyH_take (i := 30) (oi := ({ dst := some 100, op := Go.Op.unOp Go.UnOp.not 4 (Go.Operand.tmp 99), type := 4, pos := "ref.go:65", after := #[{ on := 29, ground := Go.Ground.data }, { on := 21, ground := Go.Ground.guard }], guard := some (21, true) } : Oper)) (v := undef) rfl (by kernel_rfl) (by kernel_rfl) (by kernel_rfl) (fun _ _ _ h => h) (Or.inr ⟨by rfl, rfl⟩) (by assumption) ?_
        try simp only [Act.put, List.setIfInBounds_toArray, List.set_cons_zero, List.set_cons_succ]
        refine wpAnyH_take (i := 31) (oi := ({ dst := some 101, op := Go.Op.pick (Go.Operand.tmp 91) (Go.Operand.tmp 100) (Go.Operand.const (Go.Value.bool false)), type := 4, pos := "ref.go:65", after := #[{ on := 21, ground := Go.Ground.data }, { on := 30, ground := Go.Ground.data }, { on := 18, ground := Go.Ground.guard }], guard := some (18, false) } : Oper)) (v := ?_) rfl (by kernel_rfl) (by kernel_rfl) (by kernel_rfl) (fun _ _ _ h => h) (Or.inl ⟨by rfl, ?_⟩) (by assumption) ?_
        rotate_left
        · (intro wS hSw; (try dsimp only at hSw); go_simp <;> with_reducible rfl)
        try simp only [Act.put, List.setIfInBounds_toArray, List.set_cons_zero, List.set_cons_succ]
        refine wpAnyH_take (i := 32) (oi := ({ dst := some 102, op := Go.Op.pick (Go.Operand.tmp 88) (Go.Operand.const (Go.Value.bool true)) (Go.Operand.tmp 101), type := 4, pos := "ref.go:65", after := #[{ on := 18, ground := Go.Ground.data }, { on := 31, ground := Go.Ground.data }], guard := none } : Oper)) (v := ?_) rfl (by kernel_rfl) (by kernel_rfl) (by kernel_rfl) (fun _ _ _ h => h) (Or.inl ⟨by rfl, ?_⟩) (by assumption) ?_
        rotate_left
        · (intro wS hSw; (try dsimp only at hSw); go_simp <;> with_reducible rfl)
        try simp only [Act.put, List.setIfInBounds_toArray, List.set_cons_zero, List.set_cons_succ]
        refine wpAnyH_done (by kernel_rfl) ?_ _
        have HGn := Lib.hid (gb_trans HGe.out hHeld.1 (Or.inl rfl))
        go_wp2_with fail
        exact ⟨⟨1, by omega, by go_num, HYn, HGn⟩, by simp [intOf]; omega⟩
    · obtain rfl : k = E.length := by omega
      have HRr : Hid ((List.range E.length).all (edgeB P.length n E) = true) := Lib.hid (by
        rw [List.all_eq_true]
        intro j hj
        exact H0.out j (List.mem_range.1 hj))
      clear hlt hk
      go_wp2_with fail
      clear g0 g1 g2 g3 g4
      go_loopw [7] (fun i wz => ∃ k : Nat, k ≤ S.length ∧ i = .int .i64 (k : Int) ∧ Hid (∀ j, j < k → risingF (S.getD j []) n = true) ∧ Hid (w2.grownBy wz none)) (fun i _ => S.length - (intOf i).toNat)
      case atStart => exact ⟨0, Nat.zero_le _, rfl, Lib.hid fun j h => absurd h (Nat.not_lt_zero _), HG⟩
      case round =>
        clear HG
        obtain ⟨k, hk2, rfl, H0s, HG⟩ := hrel
        obtain ⟨g0, g1, g2, g3, g4⟩ := gen_cells (blk_kept HB2.out HG.out (by simp))
        have HGz := Lib.hid (gb_trans HGw.out HG.out (Or.inl rfl))
        by_cases hlt2 : k < S.length
        · have hkJ : (k : Int) < (S.length : Int) := by omega
          obtain ⟨_, _, e1, -, -, hc⟩ := HS2.out.kept HG.out
          cases e1
          rcases hc with rfl | ⟨b, off, rfl, hc⟩
          · exact absurd hlt2 (by simp)
          obtain ⟨u, hu, hiu⟩ := hc k hlt2
          have HIu := Lib.hid (fun j => refrising_any u _ n (wr.drewN j) (hiu.kept (gb_drewN wr j none)))
          obtain ⟨au, cu, rfl, -⟩ := hiu
          have HNk : Hid (risingF (S.getD k []) n = false → cg = 100) := Lib.hid fun h => HNo.out (by rw [HR.out, HRr.out, Bool.true_and, all_not h hlt2])
          have HYk : Hid (risingF (S.getD k []) n = true → ∀ j, j < k + 1 → risingF (S.getD j []) n = true) := Lib.hid fun h j hj => by
            by_cases e : j < k
            · exact H0s.out j e
            · obtain rfl : j = k := by omega
              exact h
          clear hc
          generalize hlu : (S.getD k []).length = lu at hu HIu
          clear hlu
          cases hr : risingF (S.getD k []) n <;> rw [hr] at HIu
          · have HV := Lib.hid (HNk.out hr)
            clear HNk HYk hr
            go_wp2_with fail
            go_quiet ((go_at_call 95; exact Calls.quiet_of (HIu.out _)))
            go_wp2_with fail
            go_ret
            exact ⟨by rw [HV.out]; rfl, gb_trans HGz.out (gb_drewN _ _ none) (Or.inl rfl)⟩
          · have HYn := Lib.hid (HYk.out hr)
            clear HNk HYk hr
            go_wp2_with fail
            go_quiet ((go_at_call 95; exact Calls.quiet_of (HIu.out _)))
            go_wp2_with fail
            exact ⟨⟨k + 1, by omega, by go_num, HYn, Lib.hid (gb_trans HG.out (gb_drewN _ _ none) (Or.inl rfl))⟩, by simp [intOf]; omega⟩
        · have hkJ : ¬ (k : Int) < (S.length : Int) := by omega
          have HV := Lib.hid (HYe.out (by
            rw [HR.out, HRr.out, Bool.true_and, List.all_eq_true]
            intro j hj
            exact H0s.out j (by have := List.mem_range.1 hj; omega)))
          go_wp2_with fail
          go_ret
          exact ⟨by rw [HV.out]; rfl, HGz.out⟩
end Go.Proofs.Ytcdepblajobemaa
