/- Lex: what the frames of the laws ask. -/
import Derived.Test.YtlmpeddacadfkaaLexWorks
import Derived.Test.YtlmpeddacadfkaaRows
import Derived.ProofKit
import Derived.OpenShut
import Derived.ShutString
import Derived.ChangeOld
import Derived.Below
import Derived.SizedLaws
import Derived.Lib.SmallJoins
namespace Go.Proofs.Ytlmpeddacadfkaa
open Go.ChangeShapes Go.WideShapes Go.ChangeAt Go.RowKit Go.Joins

theorem own : ownKnob Try.prog.godebug = none := by kernel_rfl
theorem laidOut : laidOutB Try.prog = true := by kernel_rfl
theorem gb_below {w w' : World} (h : w.grownBy w' none) : Below w.heap.size w w' := (Below.refl _ _).grown h (Nat.le_refl _) (fun _ e => by cases e)
/-- What came behind what lay below stays below. -/
theorem below_then {w w1 w2 : World} (h : Below w.heap.size w w1) (k : Below w1.heap.size w1 w2) : Below w.heap.size w w2 := h.trans (k.mono h.size)
theorem below_gb {w w1 w2 : World} (h : Below w.heap.size w w1) (k : w1.grownBy w2 none) : Below w.heap.size w w2 := below_then h (gb_below k)
end Go.Proofs.Ytlmpeddacadfkaa
