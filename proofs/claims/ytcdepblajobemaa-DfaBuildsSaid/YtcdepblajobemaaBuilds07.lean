/- Dfa: Build, its walk as far as its loop. -/
import Derived.Test.YtcdepblajobemaaBuilds06
import Derived.Deep.LoopGhost
import Derived.Deep.RegionLaw
import Derived.Deep.DeepCutAuto
set_option maxRecDepth 100000
namespace Go.Proofs.Ytcdepblajobemaa
open Go.RowKit

theorem chkA_zero {a : Aut} (h : chkA a = 0) : a.P.length ≤ 8 ∧ 0 ≤ a.n ∧ a.n ≤ 65536 := by
  unfold chkA chkG rightF at h
  split at h
  · rename_i h1
    simp only [Bool.and_eq_true, decide_eq_true_eq] at h1
    exact ⟨names_len h1.1, h1.2.1, h1.2.2.1⟩
  · cases h
/-- What Build tells of an automaton that is right. -/
def Bld (w : World) (a : Aut) (n : Nat) (V : List Nat) (most : Int) (e : Ending) (w' : World) : Prop :=
  w.grownBy w' none ∧ ((most < ((allB a n V).length : Int) ∧ e = .returned (.tuple #[.agg #[.slice none 0 0, .slice none 0 0, .slice none 0 0], .int .i64 131])) ∨
    (((allB a n V).length : Int) ≤ most ∧ ∃ vp vn vl us, e = .returned (.tuple #[.agg #[vp, vn, vl], .int .i64 0]) ∧ BuiltAt w.heap.size w' vp vn vl us (bldD a n V).P (bldD a n V).R (bldD a n V).B))
theorem rows_first {n : Nat} {es : List Ent} {a : Aut} {V L : List Nat} (h : Hid (rowsOf es = addR (rowsOf []) L)) (hL : Hid (L = firstF a n V)) : Hid (rowsOf es = growB a n V 0) := Lib.hid (by
  rw [h.out, hL.out]
  rfl)
set_option maxHeartbeats 8000000 in
theorem bld_yes (vp vi ve vf : Value) (a : Aut) (n : Nat) (hn : a.n = (n : Int)) (h14 : n ≤ 14) (q g cap : Nat) (V : List Nat) (most : Int) (hm : -9223372036854775808 ≤ most ∧ most ≤ 9223372036854775807) (w : World) (h : AutAt w vp vi ve vf a) (hs : SetAt w q g cap n V) (hok : chkA a = 0) :
    Calls Try.prog 23 #[autV vp vi ve vf a.n, .pointer (some ⟨q, 0, none⟩), .int .i64 most] w (Bld w a n V most) := by
  have HA := Lib.hid h
  have HS := Lib.hid hs
  have hp8 := (chkA_zero hok).1
  have h65 : n ≤ 65536 := by clear hp8 hm; omega
  obtain ⟨ap, cp, rfl, -⟩ := h.p
  obtain ⟨ai, ci, rfl, -⟩ := h.i
  obtain ⟨ae, ce, rfl, -⟩ := h.e
  obtain ⟨af, cf, rfl, -⟩ := h.f
  clear h hs
  have HC : Hid (∀ wx, w.grownBy wx none → Calls Try.prog 49 #[autV (.slice ap a.P.length cp) (.slice ai a.I.length ci) (.slice ae a.E.length ce) (.slice af a.F.length cf) (n : Int)] wx fun e w' => e = .returned (.int .i64 0) ∧ wx.grownBy w' none) := Lib.hid fun wx hx => by
    have := check_any _ _ _ _ a wx (HA.out.kept hx)
    rw [hok, hn] at this
    exact this
  have HST : Hid (∀ (wx : World) (pf gf cf' : Nat) (L : List Nat) (l : Nat), l ≤ 65535 → w.grownBy wx none → SetAt wx pf gf cf' n L → Calls Try.prog 57 #[autV (.slice ap a.P.length cp) (.slice ai a.I.length ci) (.slice ae a.E.length ce) (.slice af a.F.length cf) (n : Int), .pointer (some ⟨pf, 0, none⟩), .int .u16 (l : Int)] wx (Made wx n (stepF n a.E L l))) := Lib.hid fun wx pf gf cf' L l hl hx hsx => by
    have := step_any _ _ _ _ a n hn h65 pf gf cf' L l hl wx (HA.out.kept hx) hsx
    rw [hn] at this
    exact this
  rw [hn]
  clear hn hok
  have hga := World.grownBy_alloc w (.cells #[.slice ap a.P.length cp, .int .i64 (n : Int), .slice ai a.I.length ci, .slice ae a.E.length ce, .slice af a.F.length cf] 47) none
  have hba := heap_alloc_new w (.cells #[.slice ap a.P.length cp, .int .i64 (n : Int), .slice ai a.I.length ci, .slice ae a.E.length ce, .slice af a.F.length cf] 47)
  have hgb := World.grownBy_alloc (w.alloc (.cells #[.slice ap a.P.length cp, .int .i64 (n : Int), .slice ai a.I.length ci, .slice ae a.E.length ce, .slice af a.F.length cf] 47)) (.cells #[.slice none 0 0, .slice none 0 0, .slice none 0 0] 27) none
  have hbd := heap_alloc_new (w.alloc (.cells #[.slice ap a.P.length cp, .int .i64 (n : Int), .slice ai a.I.length ci, .slice ae a.E.length ce, .slice af a.F.length cf] 47)) (.cells #[.slice none 0 0, .slice none 0 0, .slice none 0 0] 27)
  have hbx := hgb.block w.heap.size (by simp [World.size_alloc]) (by simp) |>.trans hba
  rw [World.size_alloc] at hbd
  have HW : Hid (∀ wx, w.grownBy wx none → Calls Try.prog 50 #[.pointer (some ⟨q, 0, none⟩)] wx fun e w' => e = .returned (.int .i64 (n : Int)) ∧ wx = w') := Lib.hid fun wx hx => wid_any _ _ _ _ _ wx (HS.out.kept hx (by simp) (by simp))
  unfold autV at HC HST ⊢
  go_enter Try.func23, Try.ntmps23
  go_wp2_with fail
  go_step3
  go_wp2
  have HGD := Lib.hid (gb_trans hga hgb (Or.inl rfl))
  have HBX := Lib.hid hbx
  have HSZ := Lib.hid (show ((w.alloc (.cells #[.slice ap a.P.length cp, .int .i64 (n : Int), .slice ai a.I.length ci, .slice ae a.E.length ce, .slice af a.F.length cf] 47)).alloc (.cells #[.slice none 0 0, .slice none 0 0, .slice none 0 0] 27)).heap.size = w.heap.size + 1 + 1 by rw [World.size_alloc, World.size_alloc])
  have HBD := Lib.hid hbd
  clear hga hgb hba hbx hbd
  generalize ((w.alloc (.cells #[.slice ap a.P.length cp, .int .i64 (n : Int), .slice ai a.I.length ci, .slice ae a.E.length ce, .slice af a.F.length cf] 47)).alloc (.cells #[.slice none 0 0, .slice none 0 0, .slice none 0 0] 27)) = w0 at HGD HBX HBD HSZ ⊢
  have HSS : Hid (∀ wx, w0.grownBy wx none → w0.grownBy wx none ∧ wx.cell? ⟨w.heap.size, 0, none⟩ = some (.slice ap a.P.length cp) ∧ wx.cell? ⟨w.heap.size, 1, none⟩ = some (.int .i64 (n : Int)) ∧ wx.cell? ⟨w.heap.size, 2, none⟩ = some (.slice ai a.I.length ci) ∧ wx.cell? ⟨w.heap.size, 3, none⟩ = some (.slice ae a.E.length ce) ∧ wx.cell? ⟨w.heap.size, 4, none⟩ = some (.slice af a.F.length cf)) := Lib.hid fun wx hx => by
    obtain ⟨b0, b1, b2, b3, b4⟩ := buchi_cells HBX.out
    exact ⟨hx, hx.cell b0 (by simp), hx.cell b1 (by simp), hx.cell b2 (by simp), hx.cell b3 (by simp), hx.cell b4 (by simp)⟩
  have hS0 := HSS.out _ (gb_drew w0 none)
  have hne : ((n : Int) != (n : Int)) = false := by simp
  refine wp_region_held_drew (S := (fun wx => w0.grownBy wx none ∧ wx.cell? ⟨w.heap.size, 0, none⟩ = some (.slice ap a.P.length cp) ∧ wx.cell? ⟨w.heap.size, 1, none⟩ = some (.int .i64 (n : Int)) ∧ wx.cell? ⟨w.heap.size, 2, none⟩ = some (.slice ai a.I.length ci) ∧ wx.cell? ⟨w.heap.size, 3, none⟩ = some (.slice ae a.E.length ce) ∧ wx.cell? ⟨w.heap.size, 4, none⟩ = some (.slice af a.F.length cf))) (by kernel_rfl) (by exact hS0) (fun hHeld => ?_)
  refine wpAnyH_take (i := 0) (oi := ({ dst := some 19, op := Go.Op.load 47 (Go.Operand.tmp 3), type := 47, pos := "dfa.go:48", after := #[], guard := none } : Oper)) (v := ?_) rfl (by kernel_rfl) (by kernel_rfl) (by kernel_rfl) (fun _ _ _ h => h) (Or.inl ⟨by rfl, ?_⟩) (by assumption) ?_
  rotate_left
  · (intro wS hSw; (try dsimp only at hSw); go_simp <;> with_reducible rfl)
  try simp only [Act.put, List.setIfInBounds_toArray, List.set_cons_zero, List.set_cons_succ]
  refine wpAnyH_ready (rs := [1]) (by kernel_rfl) (by simp) ?_
  refine AllReadyH.cons (o := ({ dst := some 20, op := Go.Op.call { callee := Go.Callee.value (Go.Operand.func 49), args := #[Go.Operand.tmp 19], argTypes := #[47] }, type := 33, pos := "dfa.go:48", after := #[{ on := 0, ground := Go.Ground.data }], guard := none } : Oper)) rfl (fun K hK => ?_) AllReadyH.nil
  go_simp
  ((with_reducible refine (HC.out _ (gb_trans HGD.out (And.left (by assumption)) (Or.inl rfl))).mono ?_); rintro e w1 ⟨rfl, hg1⟩; have hS1 := HSS.out _ (gb_trans (And.left (by assumption)) hg1 (Or.inl rfl)))
  refine hK.out _ _ (by exact hS1) (fun hHeld => ?_)
  clear hK K
  try simp only [Act.put, List.setIfInBounds_toArray, List.set_cons_zero, List.set_cons_succ]
  refine wpAnyH_take (i := 2) (oi := ({ dst := some 21, op := Go.Op.binOp Go.BinOp.neq 33 (Go.Operand.tmp 20) (Go.Operand.const (Go.Value.int Go.IntKind.i64 0)) 33, type := 4, pos := "dfa.go:48", after := #[{ on := 1, ground := Go.Ground.data }], guard := none } : Oper)) (v := ?_) rfl (by kernel_rfl) (by kernel_rfl) (by kernel_rfl) (fun _ _ _ h => h) (Or.inl ⟨by rfl, ?_⟩) (by assumption) ?_
  rotate_left
  · (intro wS hSw; (try dsimp only at hSw); go_simp <;> with_reducible rfl)
  try simp only [Act.put, List.setIfInBounds_toArray, List.set_cons_zero, List.set_cons_succ]
  refine wpAnyH_take (i := 3) (oi := ({ dst := some 22, op := Go.Op.move (Go.Operand.tmp 21), type := 4, pos := "dfa.go:48", after := #[{ on := 2, ground := Go.Ground.data }, { on := 1, ground := Go.Ground.chain }], guard := none } : Oper)) (v := ?_) rfl (by kernel_rfl) (by kernel_rfl) (by kernel_rfl) (fun _ _ _ h => h) (Or.inl ⟨by rfl, ?_⟩) (by assumption) ?_
  rotate_left
  · (intro wS hSw; (try dsimp only at hSw); go_simp <;> with_reducible rfl)
  try simp only [Act.put, List.setIfInBounds_toArray, List.set_cons_zero, List.set_cons_succ]
  refine wpAnyH_take (i := 4) (oi := ({ dst := some 23, op := Go.Op.move (Go.Operand.tmp 1), type := 50, pos := "dfa.go:48", after := #[{ on := 3, ground := Go.Ground.guard }], guard := some (3, false) } : Oper)) (v := ?_) rfl (by kernel_rfl) (by kernel_rfl) (by kernel_rfl) (fun _ _ _ h => h) (Or.inl ⟨by rfl, ?_⟩) (by assumption) ?_
  rotate_left
  · (intro wS hSw; (try dsimp only at hSw); go_simp <;> with_reducible rfl)
  try simp only [Act.put, List.setIfInBounds_toArray, List.set_cons_zero, List.set_cons_succ]
  refine wpAnyH_take (i := 6) (oi := ({ dst := some 25, op := Go.Op.fieldAddr 47 (Go.Operand.tmp 3) 1, type := 0, pos := "dfa.go:48", after := #[{ on := 3, ground := Go.Ground.guard }], guard := some (3, false) } : Oper)) (v := ?_) rfl (by kernel_rfl) (by kernel_rfl) (by kernel_rfl) (fun _ _ _ h => h) (Or.inl ⟨by rfl, ?_⟩) (by assumption) ?_
  rotate_left
  · (intro wS hSw; (try dsimp only at hSw); go_simp <;> with_reducible rfl)
  try simp only [Act.put, List.setIfInBounds_toArray, List.set_cons_zero, List.set_cons_succ]
  refine wpAnyH_take (i := 7) (oi := ({ dst := some 26, op := Go.Op.load 3 (Go.Operand.tmp 25), type := 3, pos := "dfa.go:48", after := #[{ on := 6, ground := Go.Ground.data }, { on := 3, ground := Go.Ground.guard }], guard := some (3, false) } : Oper)) (v := ?_) rfl (by kernel_rfl) (by kernel_rfl) (by kernel_rfl) (fun _ _ _ h => h) (Or.inl ⟨by rfl, ?_⟩) (by assumption) ?_
  rotate_left
  · (intro wS hSw; (try dsimp only at hSw); go_simp <;> with_reducible rfl)
  try simp only [Act.put, List.setIfInBounds_toArray, List.set_cons_zero, List.set_cons_succ]
  refine wpAnyH_ready (rs := [5]) (by kernel_rfl) (by simp) ?_
  refine AllReadyH.cons (o := ({ dst := some 24, op := Go.Op.call { callee := Go.Callee.value (Go.Operand.func 50), args := #[Go.Operand.tmp 23], argTypes := #[50] }, type := 3, pos := "dfa.go:48", after := #[{ on := 4, ground := Go.Ground.data }, { on := 3, ground := Go.Ground.chain }, { on := 3, ground := Go.Ground.guard }], guard := some (3, false) } : Oper)) rfl (fun K hK => ?_) AllReadyH.nil
  go_simp
  ((with_reducible refine (HW.out _ (gb_trans HGD.out (And.left (by assumption)) (Or.inl rfl))).mono ?_); rintro e w2 ⟨rfl, rfl⟩)
  refine hK.out _ _ (by assumption) (fun hHeld => ?_)
  clear hK K
  try simp only [Act.put, List.setIfInBounds_toArray, List.set_cons_zero, List.set_cons_succ]
  refine wpAnyH_take (i := 8) (oi := ({ dst := some 27, op := Go.Op.binOp Go.BinOp.neq 3 (Go.Operand.tmp 24) (Go.Operand.tmp 26) 3, type := 4, pos := "dfa.go:48", after := #[{ on := 5, ground := Go.Ground.data }, { on := 7, ground := Go.Ground.data }, { on := 3, ground := Go.Ground.guard }], guard := some (3, false) } : Oper)) (v := ?_) rfl (by kernel_rfl) (by kernel_rfl) (by kernel_rfl) (fun _ _ _ h => h) (Or.inl ⟨by rfl, ?_⟩) (by assumption) ?_
  rotate_left
  · (intro wS hSw; (try dsimp only at hSw); go_simp <;> with_reducible rfl)
  try simp only [Act.put, List.setIfInBounds_toArray, List.set_cons_zero, List.set_cons_succ]
  refine wpAnyH_take (i := 9) (oi := ({ dst := some 28, op := Go.Op.pick (Go.Operand.tmp 22) (Go.Operand.const (Go.Value.bool true)) (Go.Operand.tmp 27), type := 4, pos := "dfa.go:48", after := #[{ on := 3, ground := Go.Ground.data }, { on := 8, ground := Go.Ground.data }], guard := none } : Oper)) (v := ?_) rfl (by kernel_rfl) (by kernel_rfl) (by kernel_rfl) (fun _ _ _ h => h) (Or.inl ⟨by rfl, ?_⟩) (by assumption) ?_
  rotate_left
  · (intro wS hSw; (try dsimp only at hSw); go_simp <;> with_reducible rfl)
  try simp only [Act.put, List.setIfInBounds_toArray, List.set_cons_zero, List.set_cons_succ]
  refine wpAnyH_done (by kernel_rfl) ?_ _
  clear hne
  obtain ⟨hw1, b0, b1, b2, b3, b4⟩ := hHeld
  have HG1 := Lib.hid hw1
  have HK1 := Lib.hid (gb_trans HGD.out hw1 (Or.inl rfl))
  clear hw1
  go_wp2_with fail
  refine (newtable_any n _ h65).mono ?_
  rintro e w3 ⟨tp, tm, rfl, htp, htm, hT3, hg3⟩
  have b1 := hg3.cell b1 (by simp)
  have b2 := hg3.cell b2 (by simp)
  have HG3 := Lib.hid hg3
  have HT3 := Lib.hid hT3
  have HK3 := Lib.hid (gb_trans HK1.out hg3 (Or.inl rfl))
  clear hg3 hT3
  go_wp2_with fail
  refine (of_any n _ a.I _ h65 (HA.out.i.kept HK3.out)).mono ?_
  rintro e w4 ⟨p1, g1, c1, rfl, hp1, hgl1, hS4, hg4⟩
  go_wp2_with fail
  have HK4 := Lib.hid (gb_trans HK3.out hg4 (Or.inl rfl))
  have hlv := HS.out.kept HK4.out (by simp) (by simp)
  have hqg : g ≠ g1 := by have := HS.out.glt; have := HK3.out.size; omega
  refine (and_h hS4 hlv hqg).mono ?_
  rintro e w5 ⟨M, rfl, hS5, hM5, hg5⟩
  have hg45 := gb_trans hg4 hg5 (Or.inr (Or.inr ⟨g1, rfl, hgl1⟩))
  have HG5 := Lib.hid hg45
  have HS5 := Lib.hid hS5
  have HK5 := Lib.hid (gb_trans HK3.out hg45 (Or.inl rfl))
  have HT5 := Lib.hid (HT3.out.kept_none hg45)
  clear hS4 hlv hqg hS5 hg4 hg5 hg45
  go_wp2_with fail
  refine (intern_row tp tm n p1 g1 c1 _ [] M _ HT5.out HS5.out (by decide)).mono ?_
  rintro e w6 ⟨tv, es, bb, rfl, hT6, hrows, hv6, hf6⟩
  have HR6 := rows_first hrows hM5
  have hown : ∀ k, Own3 tp tm (.slice none 0 0) k → w.heap.size ≤ k := by
    have hw1s := HK1.out.size
    rintro k (rfl | rfl | hk)
    · omega
    · omega
    · cases hk
  have HK6 := Lib.hid (gb_fr HK5.out hf6 hown)
  have hbx5 := blk_kept HBX.out (gb_trans HG1.out (gb_trans HG3.out HG5.out (Or.inl rfl)) (Or.inl rfl)) (by simp)
  have hbz5 := blk_kept HBD.out (gb_trans HG1.out (gb_trans HG3.out HG5.out (Or.inl rfl)) (Or.inl rfl)) (by simp)
  have hbx6 := (hf6.block _ (Array.getElem?_eq_some_iff.1 hbx5).1 (HT5.out.foreign hbx5 (by decide) (by decide))).trans hbx5
  have hbz6 := (hf6.block _ (Array.getElem?_eq_some_iff.1 hbz5).1 (HT5.out.foreign hbz5 (by decide) (by decide))).trans hbz5
  have b0 := (buchi_cells hbx6).1
  have HBX6 := Lib.hid hbx6
  have HBZ6 := Lib.hid hbz6
  have HT6 := Lib.hid hT6
  have HV6 : Hid (∀ k, tv.ownBlock = some k → w.heap.size ≤ k) := Lib.hid fun k hk => by
    rcases hv6 k hk with h1 | h1
    · cases h1
    · have := HK5.out.size
      omega
  have hTP : w.heap.size ≤ tp ∧ w.heap.size ≤ tm := by have := HK1.out.size; omega
  clear hbx5 hbz5 hbx6 hbz6 hT6 hv6 hf6 hown hrows hM5 HG1 HG3 HG5 HT3 HT5 HS5 HBX HBD HSZ HSS hS0 hgl1 hp1 htp htm HGD HK1 HK3 HK4 HK5 b1 b2 b3 b4
  go_wp2_with fail
  refine (clone_texts (.slice ap a.P.length cp) a.P _ (HA.out.p.kept HK6.out) (by omega)).mono ?_
  rintro e w7 ⟨v7, rfl, ho7, hg7⟩
  have HB8 := Lib.hid (bld_start HBX6.out HBZ6.out HT6.out hTP.1 hTP.2 HV6.out hg7 ho7 HK6.out.size)
  have HK8 := Lib.hid (gb_trans (gb_trans HK6.out hg7 (Or.inl rfl)) (World.grownBy_alloc w7 (.cells #[v7, .slice none 0 0, .slice none 0 0] 27) none) (Or.inl rfl))
  obtain ⟨a7, c7, rfl⟩ := own_val ho7
  clear ho7 hg7 HBX6 HBZ6 HT6 HV6 hTP b0
  go_wp2_with fail
  obtain ⟨bd, HBd⟩ : ∃ bd, Hid (w7.heap.size = bd) := ⟨_, rfl⟩
  rw [HBd.out] at HB8 ⊢
  generalize w7.alloc (.cells #[.slice a7 a.P.length c7, .slice none 0 0, .slice none 0 0] 27) = w8 at HB8 HK8 ⊢
  clear HBd
  have HI8 : Hid (BInv w a n V _ bd tp tm _ 0 tv es _ _ [] w8) := Lib.hid ⟨HB8.out, HR6.out, HK8.out, Nat.zero_le _⟩
  refine (tlen_any tp tm n tv es _ HB8.out.tab).mono ?_
  rintro e w9 ⟨rfl, rfl⟩
  clear HB8 HK8 HK6 HR6
  go_wp2_with fail
  go_step3
  go_wp2_with fail
  go_loopg [11, 12] (2 ^ n) (fun gk f i wr => ∃ (k : Nat) (fl : Bool) (tv : Value) (es : List Ent) (vn vl : Value) (us : List Value), k + gk = 2 ^ n ∧ f = .bool fl ∧ i = .int .i64 (k : Int) ∧ Hid ((fl = true → k = 0 ∧ most < (es.length : Int)) ∧ (fl = false → (es.length : Int) ≤ most)) ∧
    Hid (BInv w a n V #[.slice ap a.P.length cp, .int .i64 (n : Int), .slice ai a.I.length ci, .slice ae a.E.length ce, .slice af a.F.length cf] bd tp tm (.slice a7 a.P.length c7) k tv es vn vl us wr))
  case atStart =>
    exact ⟨0, _, tv, es, _, _, [], by omega, rfl, rfl, Lib.hid ⟨fun h => ⟨rfl, by simpa using h⟩, fun h => by simpa using h⟩, HI8⟩
  case round =>
    obtain ⟨k, fl, tv, es, vn, vl, us, hkg, rfl, rfl, HF, HI⟩ := hrel
    have hfew := HI.out.few h14
    have h16 := pow14 h14
    have hlen := HI.out.len
    cases fl with
    | true =>
      obtain ⟨rfl, hmo⟩ := HF.out.1 rfl
      have hpos : 0 < es.length := by rw [HI.out.len]; exact growB_pos 0
      have HL := Lib.hid (tlen_any tp tm n tv es wr HI.out.bld.tab)
      obtain ⟨z0, z1, z2, zf⟩ := dfa_cells HI.out.bld.zero
      have f0 := zf 0
      have f1 := zf 1
      have f2 := zf 2
      have hOv := Lib.hid (HI.out.over h14 hmo)
      clear zf hlen hmo HF
      go_wp2_with (go_at_call 55; refine HL.out.mono ?_; rintro e w9 ⟨rfl, rfl⟩)
      try rw [Exit.noGoto_ret]
      obtain ⟨hs3, hg3, _⟩ := HI.out.fin rfl
      exact bodyPost_ret (results_dfa rfl _ _ (w.heap.size + 1) _ rfl hs3 rfl) rfl ⟨hg3, Or.inl ⟨hOv.out, rfl⟩⟩
    | false =>
      have hmo := HF.out.2 rfl
      clear HF
      by_cases hlt : k < es.length
      case neg =>
        obtain ⟨hall, hbt⟩ := HI.out.whole h14 hlt
        have HBT := Lib.hid hbt
        have HL := Lib.hid (tlen_any tp tm n tv es wr HI.out.bld.tab)
        obtain ⟨z0, z1, z2, zf⟩ := dfa_cells HI.out.bld.zero
        obtain ⟨d0, d1, d2, _⟩ := dfa_cells HI.out.bld.dfa
        have f0 := zf 0
        have f1 := zf 1
        have f2 := zf 2
        have hOv := Lib.hid (show ((allB a n V).length : Int) ≤ most by rw [← hall, ← hlen]; exact hmo)
        obtain ⟨an, cn, rfl⟩ := own_val HI.out.bld.out.n
        obtain ⟨al, cl, rfl⟩ := own_val HI.out.bld.out.b
        clear zf hlen hmo hall hbt
        go_wp2_with (go_at_call 55; refine HL.out.mono ?_; rintro e w9 ⟨rfl, rfl⟩)
        try rw [Exit.noGoto_ret]
        obtain ⟨hs3, hg3, hg4⟩ := HI.out.fin rfl
        exact bodyPost_ret (results_dfa rfl _ _ (w.heap.size + 1) _ rfl hs3 rfl) rfl ⟨hg3, Or.inr ⟨hOv.out, _, _, _, us, rfl, HBT.out.zero hg4 HI.out.bld.zero⟩⟩
      obtain ⟨x, hx⟩ : ∃ x, es[k]? = some x := ⟨_, List.getElem?_eq_getElem hlt⟩
      have HX := Lib.hid hx
      have HRw := Lib.hid (HI.out.row hx)
      have hltg : k < (growB a n V k).length := by omega
      have HLt := Lib.hid hltg
      have HL := Lib.hid (tlen_any tp tm n tv es wr HI.out.bld.tab)
      have HAt := Lib.hid (at_some k tp tm n tv es x wr HI.out.bld.tab hx (by omega))
      obtain ⟨mm, HMM⟩ : ∃ mm : Nat, Hid (2 ^ a.P.length = mm) := ⟨_, rfl⟩
      have hmm : 1 ≤ mm ∧ mm ≤ 256 := by rw [← HMM.out]; exact ⟨Nat.one_le_two_pow, pow_le hp8⟩
      have hpw : wrap64 ((2 : Int) ^ a.P.length) = (mm : Int) := by rw [← HMM.out]; exact wrap_pow _ hp8
      obtain ⟨i0, hi, hz0, hz1, hz2⟩ := info_parts Try.info3
      have HHi := Lib.hid (And.intro hi (And.intro hz0 (And.intro hz1 hz2)))
      clear hx hltg hlen
      go_wp2_with (first
        | (go_at_call 55; refine HL.out.mono ?_; rintro e w9 ⟨rfl, rfl⟩)
        | (go_at_call 56; refine HAt.out.mono ?_; rintro e w1 ⟨pf, gf, cf1, M, rfl, hpf, hgf, hSf, hMf, hg1⟩; obtain ⟨b0, b1, b2, b3, b4⟩ := (HI.out.bld.kept hg1).cellsA)
        | (at_make; refine wpList_make_own _ rfl _ _ 43 rfl w1.heap.size 3 i0 (.int .i64 0) 1 Try.underlying43 hi hz0 hz1 .i64 .i64 _ mm rfl rfl (by omega) (by rw [hz2]; omega) (by unfold maxLen; omega) (Nat.le_refl _) ?_; intro w2 hown2 hg2; have HLI := Lib.hid (LInv.start HI.out HLt.out hg1 (by rw [← HRw.out, ← hMf.out]; exact hSf) hg2 hown2); obtain ⟨b0, b1, b2, b3, b4⟩ := HLI.out.bld.cellsA))
      have HMf := Lib.hid (hMf.out.trans HRw.out)
      have hes : (es.length : Int) ≤ most := hmo
      clear HL HAt hSf hpf hgf hg1 hown2 hg2 HHi HRw hMf
      obtain ⟨wo, rfl⟩ : ∃ wo : World, wo = wr := ⟨_, rfl⟩
      obtain ⟨go, rfl⟩ : ∃ go : Nat, go = gk := ⟨_, rfl⟩
      rw [hpw]
      go_loopg [11, 14, 74] mm (fun gk f r c wx => ∃ (l : Nat) (tv : Value) (es : List Ent) (vr : Value), l + gk = mm ∧ f = .bool false ∧ vr = r ∧ c = .int .i64 (l : Int) ∧ (es.length : Int) ≤ most ∧
        Hid (LInv w a n V #[.slice ap a.P.length cp, .int .i64 (n : Int), .slice ai a.I.length ci, .slice ae a.E.length ce, .slice af a.F.length cf] bd tp tm (.slice a7 a.P.length c7) k l tv es vn vl us pf gf cf1 vr wx))
      case atStart => exact ⟨0, tv, es, _, by omega, rfl, rfl, rfl, hes, HLI⟩
      case round =>
        obtain ⟨l, tv, es, vr, hlg, rfl, rfl, rfl, hes, HI⟩ := hrel
        have hfew := HI.out.few h14
        obtain ⟨b0, b1, b2, b3, b4⟩ := HI.out.bld.cellsA
        by_cases hl : l < mm
        · have hlI : (l : Int) < (mm : Int) := by omega
          have HLl : Hid (l < 2 ^ a.P.length) := Lib.hid (by rw [HMM.out]; exact hl)
          go_wp2_with fail
          refine (HST.out wr pf gf cf1 _ l (by omega) HI.out.grown HI.out.set).mono ?_
          rintro e x1 ⟨p2, g2, c2, rfl, hp2, hg2, hS1, hg1⟩
          go_wp2_with fail
          have hlv := HS.out.kept (gb_trans HI.out.grown hg1 (Or.inl rfl)) (by simp) (by simp)
          have hqg : g ≠ g2 := by have := HS.out.glt; have := HI.out.grown.size; omega
          refine (and_h hS1 hlv hqg).mono ?_
          rintro e x2 ⟨M2, rfl, hS2, hM2, hg12⟩
          have HT2 := Lib.hid (HI.out.tab2 hg1 hS1 hg2 hg12)
          have hMt : M2 = transF a n V ((growB a n V k).getD k []) l := hM2.out
          have HIX : Hid ((idxF (rowsOf es) M2 : Int) = (numsB a n V k).getD l 0) := Lib.hid (by rw [hMt]; exact idx_num h14 HI.out HLl.out)
          have HMt := Lib.hid hMt
          have HQ := Lib.hid (And.intro hg1 (And.intro hS1 (And.intro hg2 hg12)))
          have HS2 := Lib.hid hS2
          clear hlv hqg hMt hg1 hS1 hg2 hg12 hM2 hS2 hp2
          go_wp2_with fail
          refine (intern_row tp tm n p2 g2 c2 tv es M2 _ HT2.out HS2.out (by omega)).mono ?_
          rintro e x3 ⟨tv', es', bb', rfl, hT3, hrows, hv3, hf3⟩
          obtain ⟨q1, q2, q3, q4⟩ := HQ.out
          have HM := Lib.hid (HI.out.mid q1 q2 q3 q4 hT3 hrows.out HMt.out hv3 hf3)
          clear q1 q2 q3 q4 hT3 hrows hv3 hf3
          generalize (idxF (rowsOf es) M2 : Int) = x0 at HIX ⊢
          have hfew' := HM.out.few h14
          go_wp2_with fail
          refine (tlen_any tp tm n tv' es' _ HM.out.bld.tab).mono ?_
          rintro e x4 ⟨rfl, rfl⟩
          by_cases hov : most < (es'.length : Int)
          · obtain ⟨z0, z1, z2, zf⟩ := dfa_cells HM.out.bld.zero
            have f0 := zf 0
            have f1 := zf 1
            have f2 := zf 2
            have hOv := Lib.hid (HM.out.over h14 HLl.out hov)
            clear zf
            go_wp2_with fail
            try rw [Exit.noGoto_ret]
            obtain ⟨hs3, hg3⟩ := HM.out.fin rfl
            exact bodyPost_ret (results_dfa rfl _ _ (w.heap.size + 1) _ rfl hs3 rfl) rfl ⟨hg3, Or.inl ⟨hOv.out, rfl⟩⟩
          · obtain ⟨ar, cr, rfl⟩ := own_val HM.out.row
            have hbs : w.heap.size ≤ x3.heap.size := HM.out.grown.size
            go_wp2_with (at_builtin; refine wpList_append_lies _ rfl (.tmp 95) (.tmp 97) 43 rfl w.heap.size 3 i0 (.int .i64 0) 1 8 Try.underlying43 hi hz0 hz1 hz2 rfl (by decide) (.slice ar l cr) l _ rfl (HM.out.row.alloc _) ⟨x3.heap.size, 0, none⟩ 1 1 [.int .i64 x0] rfl rfl (cell_one_new _ _ _) (by simp [Value.oneCell']) (by decide) (by unfold maxLen; omega) (by omega) (by rw [World.size_alloc]; omega) _ rfl ?_; intro g5 cap5 x5 hown5 hgr5 hat5 hlt5)
            have HN := Lib.hid (HM.out.push HLl.out x0 HIX.out rfl hown5 hgr5 hat5)
            clear hown5 hgr5 hat5 hlt5
            go_roundg (gk - 1)
            case measure => omega
            case rel => exact ⟨l + 1, tv', es', _, by omega, rfl, rfl, by go_num, by omega, HN⟩
        · obtain rfl : mm = l := by omega
          clear hl
          obtain ⟨d0, d1, d2, dfz⟩ := dfa_cells HI.out.bld.dfa
          have df1 := dfz 1
          have HMr : Hid (LInv w a n V #[.slice ap a.P.length cp, .int .i64 (n : Int), .slice ai a.I.length ci, .slice ae a.E.length ce, .slice af a.F.length cf] bd tp tm (.slice a7 a.P.length c7) k (2 ^ a.P.length) tv es vn vl us pf gf cf1 vr wr) := Lib.hid (by rw [HMM.out]; exact HI.out)
          obtain ⟨an, cn, rfl⟩ := own_val HI.out.bld.out.n
          obtain ⟨al, cl, rfl⟩ := own_val HI.out.bld.out.b
          obtain ⟨ar, cr, rfl⟩ := own_val HI.out.row
          have hbs : w.heap.size ≤ wr.heap.size := HI.out.grown.size
          obtain ⟨i1, hi1, hy0, hy1, hy2⟩ := info_parts Try.info43
          obtain ⟨i2, hi2, hx0, hx1, hx2⟩ := info_parts Try.info4
          rw [outR_len] at d1
          have hob : (outB a n V k).length = k := outB_len a n V k (Nat.le_trans (Nat.le_of_lt HI.out.lt) (growB_all (by omega) k).length_le)
          rw [hob] at d2
          have hkI : k ≤ 16384 := by have := HI.out.lt; have := growB_le (a := a) (V := V) (n := n) (by omega) k; omega
          rw [hob, outR_len] at HMr
          have HOR := Lib.hid (show wr.ownsRow w.heap.size 43 1 (.slice an k cn) k us by have := HI.out.bld.out.n; rw [outR_len] at this; exact this)
          have hgk : k + go = 2 ^ n ∧ 0 < go := by have := HI.out.lt; have := growB_le (a := a) (V := V) (n := n) (by omega) k; omega
          have hesK : (es.length : Int) ≤ most := hes
          clear hob dfz HI HI8
          go_wp2_with (at_builtin; refine wpList_append_lies _ rfl (.tmp 101) (.tmp 103) 24 rfl w.heap.size 43 i1 (.slice none 0 0) 1 24 Try.underlying24 hi1 hy0 hy1 hy2 rfl (by decide) (.slice an k cn) k us rfl (HOR.out.alloc _) ⟨wr.heap.size, 0, none⟩ 1 1 [.slice ar mm cr] rfl rfl (cell_one_new _ _ _) (by simp [Value.oneCell']) (by decide) (by unfold maxLen; omega) (by omega) (by rw [World.size_alloc]; omega) _ rfl ?_; intro g5 cap5 y2 hown5 hgr5 hat5 hlt5; obtain ⟨hN1, c5, f5⟩ := HMr.out.put hown5 hgr5; have HN1 := Lib.hid hN1; clear hN1)
          generalize y2.setCell ⟨bd, 1, none⟩ (.slice (some ⟨g5, 0, none⟩) (k + 1) cap5) = y3 at HN1 ⊢
          clear c5 f5 hown5 hgr5 hat5 hlt5 HMr HOR d0 d1 d2 df1 b0 b1 b2 b3 b4
          obtain ⟨om, HOM⟩ : ∃ om, Hid (ones ((growB a n V k).getD k []) = om) := ⟨_, rfl⟩
          have HLn := Lib.hid (len_h (HN1.out.set.kept (gb_drew y3 none) (by simp) (by simp)) om HOM)
          obtain ⟨d0, d1, d2, dfz⟩ := dfa_cells HN1.out.bld.dfa
          have HOB := Lib.hid (show y3.drew.ownsRow w.heap.size 4 1 (.slice al k cl) k ((outB a n V k).map tv01) by
            have h1 := HN1.out.bld.out.b
            have h2 := h1.1
            have h3 : (outB a n V k).length = k := outB_len a n V k (Nat.le_trans (Nat.le_of_lt HN1.out.lt) (growB_all (by omega) k).length_le)
            rw [h3] at h1
            exact h1.drew)
          have hbs3 : w.heap.size ≤ y3.heap.size := HN1.out.grown.size
          clear dfz
          have hca : (y3.alloc (.cells #[.bool (decide (0 < om))] 4)).cell? ⟨bd, 2, none⟩ = some (.slice al k cl) := (World.grownBy_alloc y3 _ none).cell d2 (by simp)
          go_region_law (first
            | (go_simp; go_at_call 58; refine HLn.out.mono ?_; rintro e w7 ⟨rfl, rfl⟩)
            | (refine step_append_lies _ (by rfl) (.tmp 107) (.tmp 111) 25 (by rfl) w.heap.size 4 i2 (.bool false) 1 1 Try.underlying25 hi2 hx0 hx1 hx2 rfl (by decide) (.slice al k cl) k _ (by rfl) (HOB.out.alloc _) ⟨y3.heap.size, 0, none⟩ 1 1 [.bool (decide (0 < om))] (by rfl) (by rfl) (cell_one_new _ _ _) (by simp [Value.oneCell']) (by decide) (by unfold maxLen; omega) (by omega) (by show w.heap.size ≤ (y3.alloc _).heap.size; rw [World.size_alloc]; omega) _ rfl ?_; intro g6 cap6 y4 hown6 hgr6 hat6 hlt6; obtain ⟨hN2, c6, f6⟩ := HN1.out.put h14 (by rw [HOM.out, decide_eq_true_iff]) hown6 hgr6; have HN2 := Lib.hid hN2; clear hN2))
          all_goals
            generalize y4.setCell ⟨bd, 2, none⟩ (.slice (some ⟨g6, 0, none⟩) (k + 1) cap6) = y5 at HN2 ⊢
            clear c6 f6 hown6 hgr6 hat6 hlt6 HN1 HOB HLn d0 d1 d2 hca
            go_wp2_with fail
            go_roundg (go - 1)
            case measure => omega
            case rel => exact ⟨k + 1, false, tv, es, _, _, _, by omega, rfl, by go_num, Lib.hid ⟨(fun h => by cases h), fun _ => hesK⟩, HN2⟩
end Go.Proofs.Ytcdepblajobemaa
namespace Go.Proofs.Ytcdepblajobemaa
open Go.RowKit

def kName : ByteArray := ⟨#[97]⟩
def kA : Aut := ⟨[kName], 1, [0], [⟨0, 0, 1, 0⟩], [0]⟩
def kR : List (List Int) := [[1, 0], [1, 1]]
def kB : List Bool := [true, false]
def kD : Dfa := ⟨[kName], kR, kB⟩
theorem k_chk : chkA kA = 0 := by decide +kernel
theorem k_len : (allB kA 1 (ofL 1 [0])).length = 2 := by decide +kernel
theorem k_R : (bldD kA 1 (ofL 1 [0])).R = kR := by decide +kernel
theorem k_B : (bldD kA 1 (ofL 1 [0])).B = kB := by decide +kernel
theorem k_yes : hasV kD [1, 1] = true := by decide +kernel
theorem k_no : hasV kD [1, 0] = false := by decide +kernel
theorem k_c1 : runC kD [1, 1] = 0 := by decide +kernel
theorem k_c2 : runC kD [1, 0] = 0 := by decide +kernel
theorem k_err : dErr kD = 0 := by decide +kernel
theorem texts_of_own {Z : Nat} {w : World} {v : Value} {P : List ByteArray} (h : w.ownsRow Z 9 1 v P.length (P.map sv)) (hl : P.length ≤ 17592186043904) (hs : ∀ k, k < P.length → (P.getD k ⟨#[]⟩).size ≤ maxLen) : TextsAt w v P := by
  rcases h.2 with ⟨rfl, h0⟩ | ⟨g, cap, cur, rfl, hb, hg, hc, _⟩
  · exact ⟨none, 0, by rw [h0], by omega, hl, hs, Or.inl (List.eq_nil_of_length_eq_zero h0)⟩
  · refine ⟨some ⟨g, 0, none⟩, cap, rfl, hc, hl, hs, Or.inr ⟨g, 0, rfl, fun k hk => ?_⟩⟩
    rw [Nat.zero_add, h.cellAt k (by omega), List.getElem?_map, List.getElem?_eq_getElem hk, List.getD_eq_getElem?_getD, List.getElem?_eq_getElem hk]
    rfl
theorem ints_of_own {Z : Nat} {w : World} {v : Value} {A : List Int} (h : w.ownsRow Z 3 1 v A.length (A.map iv)) (hl : A.length ≤ 17592186043904) (hs : ∀ k, k < A.length → -9223372036854775808 ≤ A.getD k 0 ∧ A.getD k 0 ≤ 9223372036854775807) : IntsAt w v A := by
  rcases h.2 with ⟨rfl, h0⟩ | ⟨g, cap, cur, rfl, hb, hg, hc, _⟩
  · exact ⟨none, 0, by rw [h0], hs, hl, Or.inl (List.eq_nil_of_length_eq_zero h0)⟩
  · refine ⟨some ⟨g, 0, none⟩, cap, rfl, hs, hl, Or.inr ⟨g, 0, rfl, fun k hk => ?_⟩⟩
    rw [Nat.zero_add, h.cellAt k (by omega), List.getElem?_map, List.getElem?_eq_getElem hk, List.getD_eq_getElem?_getD, List.getElem?_eq_getElem hk]
    rfl
theorem bools_of_own {Z : Nat} {w : World} {v : Value} {B : List Bool} (h : w.ownsRow Z 4 1 v B.length (B.map tv01)) (hl : B.length ≤ 140737488351232) : BoolsAt w v B := by
  rcases h.2 with ⟨rfl, h0⟩ | ⟨g, cap, cur, rfl, hb, hg, hc, _⟩
  · exact ⟨none, 0, by rw [h0], by omega, hl, Or.inl (List.eq_nil_of_length_eq_zero h0)⟩
  · refine ⟨some ⟨g, 0, none⟩, cap, rfl, hc, hl, Or.inr ⟨g, 0, rfl, fun k hk => ?_⟩⟩
    rw [Nat.zero_add, h.cellAt k (by omega), List.getElem?_map, List.getElem?_eq_getElem hk, List.getD_eq_getElem?_getD, List.getElem?_eq_getElem hk]
    rfl
theorem dfa_of_built {Z : Nat} {w : World} {vp vn vl : Value} {us : List Value} {P : List ByteArray} {R : List (List Int)} {B : List Bool} (h : BuiltAt Z w vp vn vl us P R B) (hP : P.length ≤ 17592186043904) (hs : ∀ k, k < P.length → (P.getD k ⟨#[]⟩).size ≤ maxLen) (hR : R.length ≤ 17592186043904)
    (hr : ∀ i, i < R.length → (R.getD i []).length ≤ 17592186043904 ∧ ∀ k, k < (R.getD i []).length → -9223372036854775808 ≤ (R.getD i []).getD k 0 ∧ (R.getD i []).getD k 0 ≤ 9223372036854775807) (hB : B.length ≤ 140737488351232) : DfaAt w vp vn vl ⟨P, R, B⟩ := by
  refine ⟨texts_of_own h.p hP hs, ?_, bools_of_own h.b hB⟩
  rcases h.n.2 with ⟨rfl, h0⟩ | ⟨g, cap, cur, rfl, hb, hg, hc, _⟩
  · exact ⟨none, 0, by rw [h0], by show R.length ≤ 0; omega, hR, Or.inl (List.eq_nil_of_length_eq_zero h0)⟩
  · refine ⟨some ⟨g, 0, none⟩, cap, rfl, hc, hR, Or.inr ⟨g, 0, rfl, fun k hk => ?_⟩⟩
    have hk' : k < R.length := hk
    have hu := h.u
    refine ⟨us.getD k default, ?_, ints_of_own (h.each k hk') (hr k hk').1 (hr k hk').2⟩
    rw [Nat.zero_add, h.n.cellAt k (by omega), List.getD_eq_getElem?_getD, List.getElem?_eq_getElem (by omega)]
    rfl
theorem k_bld2 (vp vi ve vf : Value) (q g cap : Nat) (w : World) (h : AutAt w vp vi ve vf kA) (hs : SetAt w q g cap 1 (ofL 1 [0])) :
    Calls Try.prog 23 #[autV vp vi ve vf 1, .pointer (some ⟨q, 0, none⟩), .int .i64 2] w fun e w' => ∃ xp yp xn yn xl yl us, e = .returned (.tuple #[.agg #[.slice xp 1 yp, .slice xn 2 yn, .slice xl 2 yl], .int .i64 0]) ∧ BuiltAt w.heap.size w' (.slice xp 1 yp) (.slice xn 2 yn) (.slice xl 2 yl) us [kName] kR kB ∧ w.grownBy w' none :=
  (bld_yes vp vi ve vf kA 1 rfl (by decide) q g cap (ofL 1 [0]) 2 (by decide) w h hs k_chk).mono fun e w' ⟨hg, hr⟩ => by
    rw [k_len, k_R, k_B] at hr
    rcases hr with ⟨h1, _⟩ | ⟨_, vp', vn, vl, us, he, hb⟩
    · exact absurd h1 (by decide)
    · obtain ⟨xp, yp, rfl⟩ := own_val hb.p
      obtain ⟨xn, yn, rfl⟩ := own_val hb.n
      obtain ⟨xl, yl, rfl⟩ := own_val hb.b
      exact ⟨xp, yp, xn, yn, xl, yl, us, he, hb, hg⟩
theorem k_bld1 (vp vi ve vf : Value) (q g cap : Nat) (w : World) (h : AutAt w vp vi ve vf kA) (hs : SetAt w q g cap 1 (ofL 1 [0])) :
    Calls Try.prog 23 #[autV vp vi ve vf 1, .pointer (some ⟨q, 0, none⟩), .int .i64 1] w fun e w' => e = .returned (.tuple #[.agg #[.slice none 0 0, .slice none 0 0, .slice none 0 0], .int .i64 131]) ∧ w.grownBy w' none :=
  (bld_yes vp vi ve vf kA 1 rfl (by decide) q g cap (ofL 1 [0]) 1 (by decide) w h hs k_chk).mono fun e w' ⟨hg, hr⟩ => by
    rw [k_len] at hr
    rcases hr with ⟨_, he⟩ | ⟨h1, _⟩
    · exact ⟨he, hg⟩
    · exact absurd h1 (by decide)
theorem alloc5 (w : World) (o0 o1 o2 o3 o4 : Obj) : w.grownBy (((((w.alloc o0).alloc o1).alloc o2).alloc o3).alloc o4) none ∧ (((((w.alloc o0).alloc o1).alloc o2).alloc o3).alloc o4).heap[w.heap.size]? = some o0 ∧ (((((w.alloc o0).alloc o1).alloc o2).alloc o3).alloc o4).heap[w.heap.size + 1]? = some o1 ∧
    (((((w.alloc o0).alloc o1).alloc o2).alloc o3).alloc o4).heap[w.heap.size + 1 + 1]? = some o2 ∧ (((((w.alloc o0).alloc o1).alloc o2).alloc o3).alloc o4).heap[w.heap.size + 1 + 1 + 1]? = some o3 ∧ (((((w.alloc o0).alloc o1).alloc o2).alloc o3).alloc o4).heap[w.heap.size + 1 + 1 + 1 + 1]? = some o4 := by
  have e := fun (w : World) (o : Obj) => World.grownBy_alloc w o none
  have h1 := heap_alloc_new (w.alloc o0) o1
  have h2 := heap_alloc_new ((w.alloc o0).alloc o1) o2
  have h3 := heap_alloc_new (((w.alloc o0).alloc o1).alloc o2) o3
  have h4 := heap_alloc_new ((((w.alloc o0).alloc o1).alloc o2).alloc o3) o4
  simp only [World.size_alloc] at h1 h2 h3 h4
  exact ⟨gb_trans (gb_trans (gb_trans (gb_trans (e _ _) (e _ _) (Or.inl rfl)) (e _ _) (Or.inl rfl)) (e _ _) (Or.inl rfl)) (e _ _) (Or.inl rfl), blk_kept (blk_kept (blk_kept (blk_kept (heap_alloc_new w o0) (e _ o1) (by simp)) (e _ o2) (by simp)) (e _ o3) (by simp)) (e _ o4) (by simp),
    blk_kept (blk_kept (blk_kept h1 (e _ o2) (by simp)) (e _ o3) (by simp)) (e _ o4) (by simp), blk_kept (blk_kept h2 (e _ o3) (by simp)) (e _ o4) (by simp), blk_kept h3 (e _ o4) (by simp), h4⟩
theorem ints_blk {w : World} {b : Nat} {x : Int} (h : w.heap[b]? = some (.cells #[.int .i64 x] 3 (0, 0))) (hx : -9223372036854775808 ≤ x ∧ x ≤ 9223372036854775807) : IntsAt w (.slice (some ⟨b, 0, none⟩) 1 1) [x] := ints1 w b x hx (by simp [World.cell?, h])
theorem letters_blk {w : World} {b : Nat} {x y : Nat} (h : w.heap[b]? = some (.cells #[.int .u16 (x : Int), .int .u16 (y : Int)] 55 (0, 0))) (hx : x ≤ 65535) (hy : y ≤ 65535) : LettersAt w (.slice (some ⟨b, 0, none⟩) 2 2) [x, y] := by
  refine ⟨some ⟨b, 0, none⟩, 2, rfl, fun k hk => ?_, (by show 2 ≤ 70368744175616; decide), Or.inr ⟨_, _, rfl, fun k hk => ?_⟩⟩
  · have hk2 : k < 2 := hk
    match k, hk2 with
    | 0, _ => exact hx
    | 1, _ => exact hy
  · have hk2 : k < 2 := hk
    match k, hk2 with
    | 0, _ => simp [World.cell?, h]
    | 1, _ => simp [World.cell?, h]
theorem k_aut {w : World} {b : Nat} (h0 : w.heap[b]? = some (.cells #[.string ⟨#[97]⟩] 9 (0, 0))) (h1 : w.heap[b + 1]? = some (.cells #[.int .i64 0] 3 (0, 0))) (h2 : w.heap[b + 1 + 1]? = some (.cells #[.int .i64 0, .int .i64 0, .int .u16 1, .int .u16 0] 61 (0, 0))) (h3 : w.heap[b + 1 + 1 + 1]? = some (.cells #[.int .i64 0] 3 (0, 0))) :
    AutAt w (.slice (some ⟨b, 0, none⟩) 1 1) (.slice (some ⟨b + 1, 0, none⟩) 1 1) (.slice (some ⟨b + 1 + 1, 0, none⟩) 1 1) (.slice (some ⟨b + 1 + 1 + 1, 0, none⟩) 1 1) kA := by
  refine ⟨⟨some ⟨b, 0, none⟩, 1, rfl, Nat.le_refl _, (by show 1 ≤ 17592186043904; decide), fun k hk => ?_, Or.inr ⟨_, _, rfl, fun k hk => ?_⟩⟩, ints_blk h1 (by decide), ⟨some ⟨b + 1 + 1, 0, none⟩, 1, rfl, Nat.le_refl _, fun k hk => ?_, (by show 1 ≤ 17592186043904; decide), Or.inr ⟨_, _, rfl, fun k hk => ?_⟩⟩, ints_blk h3 (by decide)⟩
  · have hk1 : k < 1 := hk
    obtain rfl : k = 0 := by omega
    show 1 ≤ maxLen
    unfold maxLen
    decide
  · have hk1 : k < 1 := hk
    obtain rfl : k = 0 := by omega
    simp [World.cell?, h0, kA, kName]
  · have hk1 : k < 1 := hk
    obtain rfl : k = 0 := by omega
    show edgeOk ⟨0, 0, 1, 0⟩
    unfold edgeOk
    decide
  · have hk1 : k < 1 := hk
    obtain rfl : k = 0 := by omega
    simp [World.cell?, h2, kA]
theorem k_dfa {Z : Nat} {w : World} {vp vn vl : Value} {us : List Value} (h : BuiltAt Z w vp vn vl us [kName] kR kB) : DfaAt w vp vn vl kD :=
  dfa_of_built h (by decide) (fun k hk => by
    have hk1 : k < 1 := hk
    obtain rfl : k = 0 := by omega
    show 1 ≤ maxLen
    unfold maxLen
    decide) (by decide) (fun i hi => by
    have hi2 : i < 2 := hi
    match i, hi2 with
    | 0, _ => decide
    | 1, _ => decide) (by decide)
end Go.Proofs.Ytcdepblajobemaa
