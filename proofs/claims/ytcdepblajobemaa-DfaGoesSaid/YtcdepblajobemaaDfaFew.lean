/- Dfa: the document's Check of an automaton; the small ones. -/
import Derived.Test.YtcdepblajobemaaDfaRefCheck
import Derived.Test.YtcdepblajobemaaDfaSums
set_option maxRecDepth 100000
namespace Go.Proofs.Ytcdepblajobemaa
open Go.RowKit

set_option maxHeartbeats 4000000 in
theorem refgeneral_any (vp vi ve vf : Value) (a : Aut) (w : World) (h : AutAt w vp vi ve vf a) :
    Calls Try.prog 46 #[autV vp vi ve vf a.n] w fun e w' => ∃ vs, e = .returned (.agg #[vp, .int .i64 a.n, vi, ve, vs]) ∧ RowsAt2 w' vs [a.F] ∧ w.grownBy w' none := by
  have HA := Lib.hid h
  obtain ⟨ap, cp, rfl, _⟩ := h.p
  obtain ⟨ai, ci, rfl, _⟩ := h.i
  obtain ⟨ae, ce, rfl, _⟩ := h.e
  obtain ⟨af, cf, rfl, _⟩ := h.f
  clear h
  unfold autV
  go_enter Try.func46, Try.ntmps46
  go_wp2_with fail
  have hb1 := heap_alloc_new (w.alloc (.cells #[.slice ap a.P.length cp, .int .i64 a.n, .slice ai a.I.length ci, .slice ae a.E.length ce, .slice af a.F.length cf] 47)) (.cells #[.slice ap a.P.length cp, .int .i64 a.n, .slice ai a.I.length ci, .slice ae a.E.length ce, .slice (some ⟨w.heap.size + 1 + 1, 0, none⟩) 1 1] 87)
  rw [World.size_alloc] at hb1
  have hb2 := heap_alloc_new ((w.alloc (.cells #[.slice ap a.P.length cp, .int .i64 a.n, .slice ai a.I.length ci, .slice ae a.E.length ce, .slice af a.F.length cf] 47)).alloc (.cells #[.slice ap a.P.length cp, .int .i64 a.n, .slice ai a.I.length ci, .slice ae a.E.length ce, .slice (some ⟨w.heap.size + 1 + 1, 0, none⟩) 1 1] 87)) (.cells #[.slice af a.F.length cf] 43)
  have hg : w.grownBy (((w.alloc (.cells #[.slice ap a.P.length cp, .int .i64 a.n, .slice ai a.I.length ci, .slice ae a.E.length ce, .slice af a.F.length cf] 47)).alloc (.cells #[.slice ap a.P.length cp, .int .i64 a.n, .slice ai a.I.length ci, .slice ae a.E.length ce, .slice (some ⟨w.heap.size + 1 + 1, 0, none⟩) 1 1] 87)).alloc (.cells #[.slice af a.F.length cf] 43)) none := gb_trans (gb_trans (World.grownBy_alloc _ _ none) (World.grownBy_alloc _ _ none) (Or.inl rfl)) (World.grownBy_alloc _ _ none) (Or.inl rfl)
  have hb3 := (Below.heap_alloc ((w.alloc (.cells #[.slice ap a.P.length cp, .int .i64 a.n, .slice ai a.I.length ci, .slice ae a.E.length ce, .slice af a.F.length cf] 47)).alloc (.cells #[.slice ap a.P.length cp, .int .i64 a.n, .slice ai a.I.length ci, .slice ae a.E.length ce, .slice (some ⟨w.heap.size + 1 + 1, 0, none⟩) 1 1] 87)) (.cells #[.slice af a.F.length cf] 43) (w.heap.size + 1) (by simp [World.size_alloc])).trans hb1
  rw [World.size_alloc, World.size_alloc] at hb2
  refine bodyPost_ret (results_gen rfl _ _ _ _ rfl hb3 rfl) rfl ?_
  refine ⟨_, rfl, ⟨some ⟨w.heap.size + 1 + 1, 0, none⟩, 1, rfl, Nat.le_refl _, (by show 1 ≤ 17592186043904; decide), Or.inr ⟨_, _, rfl, fun k hk => ?_⟩⟩, hg⟩
  have hk1 : k < 1 := hk
  obtain rfl : k = 0 := by omega
  refine ⟨.slice af a.F.length cf, ?_, HA.out.f.kept hg⟩
  simp only [World.cell?, hb2]
  rfl
set_option maxHeartbeats 4000000 in
theorem refcheck10 (vp vi ve vf : Value) (a : Aut) (w : World) (h : AutAt w vp vi ve vf a) :
    Calls Try.prog 21 #[autV vp vi ve vf a.n] w fun e w' => e = .returned (.int .i64 (chkA a)) ∧ w.grownBy w' none := by
  have HA := Lib.hid h
  have HG : Hid (∀ wx, w.grownBy wx none → Calls Try.prog 46 #[autV vp vi ve vf a.n] wx fun e w' => ∃ vs, e = .returned (.agg #[vp, .int .i64 a.n, vi, ve, vs]) ∧ RowsAt2 w' vs [a.F] ∧ wx.grownBy w' none) := Lib.hid fun wx hg => refgeneral_any vp vi ve vf a wx (HA.out.kept hg)
  have HC : Hid (∀ wx vs, w.grownBy wx none → RowsAt2 wx vs [a.F] → Calls Try.prog 45 #[.agg #[vp, .int .i64 a.n, vi, ve, vs]] wx fun e w' => e = .returned (.int .i64 (chkA a)) ∧ wx.grownBy w' none) := Lib.hid fun wx vs hg hr => refcheckg_any vp vi ve vs a.P a.n a.I a.E [a.F] wx (HA.out.p.kept hg) (HA.out.i.kept hg) (HA.out.e.kept hg) hr
  obtain ⟨ap, cp, rfl, _⟩ := h.p
  obtain ⟨ai, ci, rfl, _⟩ := h.i
  obtain ⟨ae, ce, rfl, _⟩ := h.e
  obtain ⟨af, cf, rfl, _⟩ := h.f
  clear h
  have hga := World.grownBy_alloc w (.cells #[.slice ap a.P.length cp, .int .i64 a.n, .slice ai a.I.length ci, .slice ae a.E.length ce, .slice af a.F.length cf] 47) none
  unfold autV at HG ⊢
  go_enter Try.func21, Try.ntmps21
  go_wp2_with fail
  refine (HG.out _ hga).mono ?_
  rintro e w1 ⟨vs, rfl, hr, hg1⟩
  have hg := gb_trans hga hg1 (Or.inl rfl)
  have HR := Lib.hid (HC.out w1 vs hg hr)
  obtain ⟨az, cz, rfl, _⟩ := hr
  go_wp2_with fail
  refine HR.out.mono ?_
  rintro e w2 ⟨rfl, hg2⟩
  go_wp2_with fail
  go_ret
  exact ⟨rfl, gb_trans hg hg2 (Or.inl rfl)⟩

/-- Is an automaton small? -/
def fewF (a : Aut) : Bool := decide (0 ≤ a.n) && (decide (a.n ≤ 14) && (decide (a.E.length ≤ 100) && (decide (a.I.length ≤ 100) && (decide (a.F.length ≤ 100) && decide (capN (sizes a.P) ≤ 10000)))))
set_option maxHeartbeats 2000000 in
theorem few_any (vp vi ve vf : Value) (a : Aut) (w : World) (h : AutAt w vp vi ve vf a) (hs : Short a.P) :
    Calls Try.prog 20 #[autV vp vi ve vf a.n] w fun e w' => e = .returned (.bool (fewF a)) ∧ w.grownBy w' none := by
  have hga := World.grownBy_alloc w (.cells #[vp, .int .i64 a.n, vi, ve, vf] 47) none
  have HG := Lib.hid hga
  have HB := Lib.hid (heap_alloc_new w (.cells #[vp, .int .i64 a.n, vi, ve, vf] 47))
  have HT := Lib.hid (oftexts_any (h.p.kept hga) hs)
  have hcap := short_le hs
  obtain ⟨ap, cp, rfl, -⟩ := h.p
  obtain ⟨ai, ci, rfl, -, hli, -⟩ := h.i
  obtain ⟨ae, ce, rfl, -, -, hle, -⟩ := h.e
  obtain ⟨af, cf, rfl, -, hlf, -⟩ := h.f
  clear h hga hs
  unfold autV fewF
  generalize capN (sizes a.P) = x at HT hcap ⊢
  generalize a.n = n at HT HG HB ⊢
  clear HB
  by_cases c0 : 0 ≤ n
  case neg =>
    go_enter Try.func20, Try.ntmps20
    go_wp2_with (go_at_call 8; refine HT.out.mono ?_; rintro e w1 ⟨rfl, _, rfl⟩)
    go_ret
    exact ⟨by simp; omega, HG.out⟩
  by_cases c1 : n ≤ 14
  case neg =>
    go_enter Try.func20, Try.ntmps20
    go_wp2_with (go_at_call 8; refine HT.out.mono ?_; rintro e w1 ⟨rfl, _, rfl⟩)
    go_ret
    exact ⟨by simp [c0]; omega, HG.out⟩
  by_cases c2 : a.E.length ≤ 100
  case neg =>
    have c2I : ¬ (a.E.length : Int) ≤ 100 := by omega
    go_enter Try.func20, Try.ntmps20
    go_wp2_with (go_at_call 8; refine HT.out.mono ?_; rintro e w1 ⟨rfl, _, rfl⟩)
    go_ret
    exact ⟨by simp [c2], HG.out⟩
  have c2I : (a.E.length : Int) ≤ 100 := by omega
  by_cases c3 : a.I.length ≤ 100
  case neg =>
    have c3I : ¬ (a.I.length : Int) ≤ 100 := by omega
    go_enter Try.func20, Try.ntmps20
    go_wp2_with (go_at_call 8; refine HT.out.mono ?_; rintro e w1 ⟨rfl, _, rfl⟩)
    go_ret
    exact ⟨by simp [c3], HG.out⟩
  have c3I : (a.I.length : Int) ≤ 100 := by omega
  by_cases c4 : a.F.length ≤ 100
  case neg =>
    have c4I : ¬ (a.F.length : Int) ≤ 100 := by omega
    go_enter Try.func20, Try.ntmps20
    go_wp2_with (go_at_call 8; refine HT.out.mono ?_; rintro e w1 ⟨rfl, _, rfl⟩)
    go_ret
    exact ⟨by simp [c4], HG.out⟩
  have c4I : (a.F.length : Int) ≤ 100 := by omega
  go_enter Try.func20, Try.ntmps20
  go_wp2_with (go_at_call 8; refine HT.out.mono ?_; rintro e w1 ⟨rfl, _, rfl⟩)
  go_ret
  exact ⟨by simp [c0, c1, c2, c3, c4]; omega, HG.out⟩
end Go.Proofs.Ytcdepblajobemaa
