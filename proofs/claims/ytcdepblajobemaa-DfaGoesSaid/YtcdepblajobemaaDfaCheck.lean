/- Dfa: general, Check. -/
import Derived.Test.YtcdepblajobemaaDfaCheckG
set_option maxRecDepth 100000
namespace Go.Proofs.Ytcdepblajobemaa
open Go.RowKit

/-- An automaton that came in. -/
structure Aut where
  P : List ByteArray
  n : Int
  I : List Int
  E : List Edg
  F : List Int
structure AutAt (w : World) (vp vi ve vf : Value) (a : Aut) : Prop where
  p : TextsAt w vp a.P
  i : IntsAt w vi a.I
  e : EdgesAt w ve a.E
  f : IntsAt w vf a.F
theorem AutAt.kept {w w' : World} {vp vi ve vf : Value} {a : Aut} (h : AutAt w vp vi ve vf a) (hg : w.grownBy w' none) : AutAt w' vp vi ve vf a := ⟨h.p.kept hg, h.i.kept hg, h.e.kept hg, h.f.kept hg⟩
def autV (vp vi ve vf : Value) (n : Int) : Value := .agg #[vp, .int .i64 n, vi, ve, vf]
def chkA (a : Aut) : Int := chkG a.P a.n a.I a.E [a.F]
theorem results_gen {fn : Func} {p : Tmp} (h : fn.results = #[.cell p 87]) (tmps : Array Value) (w : World) (g : Nat) (cs : Array Value) (hp : tmps.getD p undef = .pointer (some ⟨g, 0, none⟩)) (hg : w.heap[g]? = some (.cells cs 87 (0, 0))) (hc : cs.size = 5) :
    (results fn tmps).run Try.prog w = .ok (.agg cs) w := by
  have hp' : tmps[p]?.getD undef = .pointer (some ⟨g, 0, none⟩) := by simpa using hp
  have hi : (Try.prog.info? 87).map (·.size) = some cs.size := by rw [hc]; kernel_rfl
  simp [results, h, hp', asAddr, run_loadVar_row w g 87 87 cs (0, 0) _ hg Try.underlying87 rfl hi]
set_option maxHeartbeats 4000000 in
theorem general_any (vp vi ve vf : Value) (a : Aut) (w : World) (h : AutAt w vp vi ve vf a) :
    Calls Try.prog 98 #[autV vp vi ve vf a.n] w fun e w' => ∃ vs, e = .returned (.agg #[vp, .int .i64 a.n, vi, ve, vs]) ∧ RowsAt2 w' vs [a.F] ∧ w.grownBy w' none := by
  have HA := Lib.hid h
  obtain ⟨ap, cp, rfl, _⟩ := h.p
  obtain ⟨ai, ci, rfl, _⟩ := h.i
  obtain ⟨ae, ce, rfl, _⟩ := h.e
  obtain ⟨af, cf, rfl, _⟩ := h.f
  clear h
  unfold autV
  go_enter Try.func98, Try.ntmps98
  go_wp2_with fail
  have hb1 := heap_alloc_new (w.alloc (.cells #[.slice ap a.P.length cp, .int .i64 a.n, .slice ai a.I.length ci, .slice ae a.E.length ce, .slice af a.F.length cf] 47)) (.cells #[.slice ap a.P.length cp, .int .i64 a.n, .slice ai a.I.length ci, .slice ae a.E.length ce, .slice (some ⟨w.heap.size + 1 + 1, 0, none⟩) 1 1] 87)
  rw [World.size_alloc] at hb1
  have hb2 := heap_alloc_new ((w.alloc (.cells #[.slice ap a.P.length cp, .int .i64 a.n, .slice ai a.I.length ci, .slice ae a.E.length ce, .slice af a.F.length cf] 47)).alloc (.cells #[.slice ap a.P.length cp, .int .i64 a.n, .slice ai a.I.length ci, .slice ae a.E.length ce, .slice (some ⟨w.heap.size + 1 + 1, 0, none⟩) 1 1] 87)) (.cells #[.slice af a.F.length cf] 43)
  have hg : w.grownBy (((w.alloc (.cells #[.slice ap a.P.length cp, .int .i64 a.n, .slice ai a.I.length ci, .slice ae a.E.length ce, .slice af a.F.length cf] 47)).alloc (.cells #[.slice ap a.P.length cp, .int .i64 a.n, .slice ai a.I.length ci, .slice ae a.E.length ce, .slice (some ⟨w.heap.size + 1 + 1, 0, none⟩) 1 1] 87)).alloc (.cells #[.slice af a.F.length cf] 43)) none := gb_trans (gb_trans (World.grownBy_alloc _ _ none) (World.grownBy_alloc _ _ none) (Or.inl rfl)) (World.grownBy_alloc _ _ none) (Or.inl rfl)
  have hb3 := (Below.heap_alloc ((w.alloc (.cells #[.slice ap a.P.length cp, .int .i64 a.n, .slice ai a.I.length ci, .slice ae a.E.length ce, .slice af a.F.length cf] 47)).alloc (.cells #[.slice ap a.P.length cp, .int .i64 a.n, .slice ai a.I.length ci, .slice ae a.E.length ce, .slice (some ⟨w.heap.size + 1 + 1, 0, none⟩) 1 1] 87)) (.cells #[.slice af a.F.length cf] 43) (w.heap.size + 1) (by simp [World.size_alloc])).trans hb1
  rw [World.size_alloc, World.size_alloc] at hb2
  refine bodyPost_ret (results_gen rfl _ _ _ _ rfl hb3 rfl) rfl ?_
  refine ⟨_, rfl, ⟨some ⟨w.heap.size + 1 + 1, 0, none⟩, 1, rfl, Nat.le_refl _, (by show 1 ≤ 17592186043904; decide), Or.inr ⟨_, _, rfl, fun k hk => ?_⟩⟩, hg⟩
  have hk1 : k < 1 := hk
  obtain rfl : k = 0 := by omega
  refine ⟨.slice af a.F.length cf, ?_, HA.out.f.kept hg⟩
  simp only [World.cell?, hb2]
  rfl
set_option maxHeartbeats 4000000 in
theorem check_any (vp vi ve vf : Value) (a : Aut) (w : World) (h : AutAt w vp vi ve vf a) :
    Calls Try.prog 49 #[autV vp vi ve vf a.n] w fun e w' => e = .returned (.int .i64 (chkA a)) ∧ w.grownBy w' none := by
  have HA := Lib.hid h
  have HG : Hid (∀ wx, w.grownBy wx none → Calls Try.prog 98 #[autV vp vi ve vf a.n] wx fun e w' => ∃ vs, e = .returned (.agg #[vp, .int .i64 a.n, vi, ve, vs]) ∧ RowsAt2 w' vs [a.F] ∧ wx.grownBy w' none) := Lib.hid fun wx hg => general_any vp vi ve vf a wx (HA.out.kept hg)
  have HC : Hid (∀ wx vs, w.grownBy wx none → RowsAt2 wx vs [a.F] → Calls Try.prog 37 #[.agg #[vp, .int .i64 a.n, vi, ve, vs]] wx fun e w' => e = .returned (.int .i64 (chkA a)) ∧ wx.grownBy w' none) := Lib.hid fun wx vs hg hr => checkg_any vp vi ve vs a.P a.n a.I a.E [a.F] wx (HA.out.p.kept hg) (HA.out.i.kept hg) (HA.out.e.kept hg) hr
  obtain ⟨ap, cp, rfl, _⟩ := h.p
  obtain ⟨ai, ci, rfl, _⟩ := h.i
  obtain ⟨ae, ce, rfl, _⟩ := h.e
  obtain ⟨af, cf, rfl, _⟩ := h.f
  clear h
  have hga := World.grownBy_alloc w (.cells #[.slice ap a.P.length cp, .int .i64 a.n, .slice ai a.I.length ci, .slice ae a.E.length ce, .slice af a.F.length cf] 47) none
  unfold autV at HG ⊢
  go_enter Try.func49, Try.ntmps49
  go_wp2_with fail
  refine (HG.out _ hga).mono ?_
  rintro e w1 ⟨vs, rfl, hr, hg1⟩
  have hg := gb_trans hga hg1 (Or.inl rfl)
  have HR := Lib.hid (HC.out w1 vs hg hr)
  obtain ⟨az, cz, rfl, _⟩ := hr
  go_wp2_with fail
  refine HR.out.mono ?_
  rintro e w2 ⟨rfl, hg2⟩
  go_wp2_with fail
  go_ret
  exact ⟨rfl, gb_trans hg hg2 (Or.inl rfl)⟩
end Go.Proofs.Ytcdepblajobemaa
