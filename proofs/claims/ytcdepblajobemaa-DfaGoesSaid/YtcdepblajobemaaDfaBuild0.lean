/- Dfa: Build refuses. -/
import Derived.Test.YtcdepblajobemaaDfaInt
set_option maxRecDepth 100000
namespace Go.Proofs.Ytcdepblajobemaa
open Go.RowKit

set_option maxHeartbeats 400000 in
theorem wid_any (p g cap n : Nat) (L : List Nat) (w : World) (h : SetAt w p g cap n L) :
    Calls Try.prog 50 #[.pointer (some ⟨p, 0, none⟩)] w fun e w' => e = .returned (.int .i64 (n : Int)) ∧ w = w' := by
  have hN := h.cellN
  go_enter Try.func50, Try.ntmps50
  go_wp2
  go_ret
  exact ⟨rfl, rfl⟩
theorem results_dfa {fn : Func} {p q : Tmp} (h : fn.results = #[.cell p 27, .tmp q]) (tmps : Array Value) (w : World) (g : Nat) (cs : Array Value) (hp : tmps.getD p undef = .pointer (some ⟨g, 0, none⟩)) (hg : w.heap[g]? = some (.cells cs 27 (0, 0))) (hc : cs.size = 3) :
    (results fn tmps).run Try.prog w = .ok (.tuple #[.agg cs, tmps.getD q undef]) w := by
  have hp' : tmps[p]?.getD undef = .pointer (some ⟨g, 0, none⟩) := by simpa using hp
  have hi : (Try.prog.info? 27).map (·.size) = some cs.size := by rw [hc]; kernel_rfl
  simp [results, h, hp', asAddr, run_loadVar_row w g 27 27 cs (0, 0) _ hg Try.underlying27 rfl hi]
end Go.Proofs.Ytcdepblajobemaa
