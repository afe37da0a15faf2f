/-
  No cell of these rows narrows 'for every input' (looked for: loops, veiled, ifaces, maps, wideKeys, modest, calm, conditions, laid).
  DERIVED. THE GIVEN ROWS OF THIS SEAT. 6 by the template 'for every input the law returns true; each argument reads behind the call as it read before'; 0 by the template 'total and deterministic' (their statements: YtpehmlkikhkmfaaTotals.lean).
  GIVEN WITH THE SEED: the statements are not yours to turn. If you find one false, say at which input.
  Laid BY PROGRAM, IN A SANDBOX (cutbox-rows.mjs): the forced cells as the released guide's own fill.sh prints them over the translation 190dd1bab4bbe094… (all of the seat's roots in one cut). By AI agents, Wed Nov 11 2026. No macro, syntax, notation, axiom, sorry.
-/
import Derived.Test.YtpehmlkikhkmfaaChecked
import GoSem.Claim
import GoSem.ClaimJoined
import GoSem.ClaimMapViews
import Derived.JoinedTies
import Derived.KernelRfl
namespace Go.Proofs.Ytpehmlkikhkmfaa
/- THE CELL 'sum', in the pinned program and in every row, IS THE sha256 OF THE DUMP (.gsa) THAT YtpehmlkikhkmfaaProg.lean LOADS. Nothing in Lean hashes anything: it is a label: what it is worth is what the hold of that sum in a sandbox is worth. -/
noncomputable def Try.pinned : Pinned := { name := "ytpehmlkikhkmfaa", sum := "190dd1bab4bbe0941c60b0511b60edc37f357922bae646d2ab08fc3119ccc3bc", checked := Try.checked }
namespace Rows
def none {H : Type} : Left H := { results := [], args := [] }

/-- 'augurlaw17.RunnerNames': WHATEVER THE INPUT: true; the input reads as it did. -/
def runnerNamesSpec : ChangeSpec := { name := "runnerNames", fn := fun _ => fun
  | [] => { results := [.lit (.bool true)], args := [] }
  | _ => none }
def runnerNamesRow : OpenClaim := { program := "ytpehmlkikhkmfaa", sum := "190dd1bab4bbe0941c60b0511b60edc37f357922bae646d2ab08fc3119ccc3bc", func := "augur/augurlaw17.RunnerNames", spec := "runnerNames", apart := false }
def RunnerNamesSaid : Prop := runnerNamesRow.holds Try.pinned (OpenSpec.ofChange runnerNamesSpec)

/-- ITS FALSE NEIGHBOUR: 'it returns false'. Refute it at one input. -/
def runnerNamesWrong : ChangeSpec := { name := "runnerNames", fn := fun _ => fun
  | [] => { results := [.lit (.bool false)], args := [] }
  | _ => none }
def RunnerNamesWrongFalsely : Prop := runnerNamesRow.holds Try.pinned (OpenSpec.ofChange runnerNamesWrong)

/-- 'augurlaw17.RunnerDoes': WHATEVER THE INPUT: true; the input reads as it did. -/
def runnerDoesSpec : ChangeSpec := { name := "runnerDoes", fn := fun _ => fun
  | [d1, d2] => { results := [.lit (.bool true)], args := [d1, d2] }
  | _ => none }
def runnerDoesRow : OpenClaim := { program := "ytpehmlkikhkmfaa", sum := "190dd1bab4bbe0941c60b0511b60edc37f357922bae646d2ab08fc3119ccc3bc", func := "augur/augurlaw17.RunnerDoes", spec := "runnerDoes", apart := false }
def RunnerDoesSaid : Prop := runnerDoesRow.holds Try.pinned (OpenSpec.ofChange runnerDoesSpec)

/-- ITS FALSE NEIGHBOUR: 'it returns false'. Refute it at one input. -/
def runnerDoesWrong : ChangeSpec := { name := "runnerDoes", fn := fun _ => fun
  | [d1, d2] => { results := [.lit (.bool false)], args := [d1, d2] }
  | _ => none }
def RunnerDoesWrongFalsely : Prop := runnerDoesRow.holds Try.pinned (OpenSpec.ofChange runnerDoesWrong)

/-- 'augurlaw17.RunnerRuns': WHATEVER THE INPUT: true; the input reads as it did. -/
def runnerRunsSpec : ChangeSpec := { name := "runnerRuns", fn := fun _ => fun
  | [d1, d2] => { results := [.lit (.bool true)], args := [d1, d2] }
  | _ => none }
def runnerRunsRow : OpenClaim := { program := "ytpehmlkikhkmfaa", sum := "190dd1bab4bbe0941c60b0511b60edc37f357922bae646d2ab08fc3119ccc3bc", func := "augur/augurlaw17.RunnerRuns", spec := "runnerRuns", recurses := true, apart := false }
def RunnerRunsSaid : Prop := runnerRunsRow.holds Try.pinned (OpenSpec.ofChange runnerRunsSpec)

/-- ITS FALSE NEIGHBOUR: 'it returns false'. Refute it at one input. -/
def runnerRunsWrong : ChangeSpec := { name := "runnerRuns", fn := fun _ => fun
  | [d1, d2] => { results := [.lit (.bool false)], args := [d1, d2] }
  | _ => none }
def RunnerRunsWrongFalsely : Prop := runnerRunsRow.holds Try.pinned (OpenSpec.ofChange runnerRunsWrong)

/-- 'augurlaw17.RunnerBatch': WHATEVER THE INPUT: true; the input reads as it did. -/
def runnerBatchSpec : ChangeSpec := { name := "runnerBatch", fn := fun _ => fun
  | [d1, d2] => { results := [.lit (.bool true)], args := [d1, d2] }
  | _ => none }
def runnerBatchRow : OpenClaim := { program := "ytpehmlkikhkmfaa", sum := "190dd1bab4bbe0941c60b0511b60edc37f357922bae646d2ab08fc3119ccc3bc", func := "augur/augurlaw17.RunnerBatch", spec := "runnerBatch", apart := false }
def RunnerBatchSaid : Prop := runnerBatchRow.holds Try.pinned (OpenSpec.ofChange runnerBatchSpec)

/-- ITS FALSE NEIGHBOUR: 'it returns false'. Refute it at one input. -/
def runnerBatchWrong : ChangeSpec := { name := "runnerBatch", fn := fun _ => fun
  | [d1, d2] => { results := [.lit (.bool false)], args := [d1, d2] }
  | _ => none }
def RunnerBatchWrongFalsely : Prop := runnerBatchRow.holds Try.pinned (OpenSpec.ofChange runnerBatchWrong)

/-- 'augurlaw17.RunnerGoes': WHATEVER THE INPUT: true; the input reads as it did. -/
def runnerGoesSpec : ChangeSpec := { name := "runnerGoes", fn := fun _ => fun
  | [d1, d2, d3] => { results := [.lit (.bool true)], args := [d1, d2, d3] }
  | _ => none }
def runnerGoesRow : OpenClaim := { program := "ytpehmlkikhkmfaa", sum := "190dd1bab4bbe0941c60b0511b60edc37f357922bae646d2ab08fc3119ccc3bc", func := "augur/augurlaw17.RunnerGoes", spec := "runnerGoes", unfollowed := true, recurses := true, apart := false }
def RunnerGoesSaid : Prop := runnerGoesRow.holds Try.pinned (OpenSpec.ofChange runnerGoesSpec)

/-- ITS FALSE NEIGHBOUR: 'it returns false'. Refute it at one input. -/
def runnerGoesWrong : ChangeSpec := { name := "runnerGoes", fn := fun _ => fun
  | [d1, d2, d3] => { results := [.lit (.bool false)], args := [d1, d2, d3] }
  | _ => none }
def RunnerGoesWrongFalsely : Prop := runnerGoesRow.holds Try.pinned (OpenSpec.ofChange runnerGoesWrong)

/-- 'augurlaw17.RunnerSure': WHATEVER THE INPUT: true; the input reads as it did. -/
def runnerSureSpec : ChangeSpec := { name := "runnerSure", fn := fun _ => fun
  | [d1, d2] => { results := [.lit (.bool true)], args := [d1, d2] }
  | _ => none }
def runnerSureRow : OpenClaim := { program := "ytpehmlkikhkmfaa", sum := "190dd1bab4bbe0941c60b0511b60edc37f357922bae646d2ab08fc3119ccc3bc", func := "augur/augurlaw17.RunnerSure", spec := "runnerSure", apart := false }
def RunnerSureSaid : Prop := runnerSureRow.holds Try.pinned (OpenSpec.ofChange runnerSureSpec)

/-- ITS FALSE NEIGHBOUR: 'it returns false'. Refute it at one input. -/
def runnerSureWrong : ChangeSpec := { name := "runnerSure", fn := fun _ => fun
  | [d1, d2] => { results := [.lit (.bool false)], args := [d1, d2] }
  | _ => none }
def RunnerSureWrongFalsely : Prop := runnerSureRow.holds Try.pinned (OpenSpec.ofChange runnerSureWrong)

/- THE SECOND FORM. 'bulk': how many values and letters a reading holds, each counted each time it is reached (what is shared counts as often as it is met; a slice's spare places count too). A statement '..UptoSaid' is the law's where the arguments, and the package variables that the reading takes, are together of bulk at most 1048576: NARROWER than '..Said'. Prove '..Said' where nothing that the law and all that it calls make is longer than what came in: it says more and counts as full. Else prove '..UptoSaid'. A law counts once. -/
mutual
def uptoBulk {H : Type} : DataW H → Nat
  | .lit (.string bytes) => bytes.length + 1
  | .lit _ => 1
  | .nil => 1
  | .ptr d => uptoBulk d + 1
  | .slice elems spare => uptoBulkAll elems + uptoBulkAll spare + 1
  | .agg parts => uptoBulkAll parts + 1
  | .iface _ d => uptoBulk d + 1
  | .map entries => uptoBulkEntries entries + 1
  | .held _ => 1
def uptoBulkAll {H : Type} : List (DataW H) → Nat
  | [] => 0
  | d :: r => uptoBulk d + uptoBulkAll r
def uptoBulkEntries {H : Type} : List (Lit × DataW H) → Nat
  | [] => 0
  | x :: r => uptoBulkEntry x + uptoBulkEntries r
def uptoBulkEntry {H : Type} : Lit × DataW H → Nat
  | (.string bytes, d) => bytes.length + uptoBulk d + 1
  | (_, d) => uptoBulk d + 1
 end
def uptoSmall : (H : Type) → List (DataW H) → Bool := fun _ ds => decide (uptoBulkAll ds ≤ 1048576)
def OpenSpec.upto (s : _root_.Go.ChangeSpec) : _root_.Go.OpenSpec := { _root_.Go.OpenSpec.ofChange s with cond := some uptoSmall }

/-- 'augurlaw17.RunnerNames', WHERE WHAT IT READS IS OF BULK AT MOST 1048576: true; the input reads as it did. -/
def runnerNamesUptoRow : OpenClaim := { program := "ytpehmlkikhkmfaa", sum := "190dd1bab4bbe0941c60b0511b60edc37f357922bae646d2ab08fc3119ccc3bc", func := "augur/augurlaw17.RunnerNames", spec := "runnerNames", apart := false, narrowed := true }
def RunnerNamesUptoSaid : Prop := runnerNamesUptoRow.holds Try.pinned (OpenSpec.upto runnerNamesSpec)

/-- 'augurlaw17.RunnerDoes', WHERE WHAT IT READS IS OF BULK AT MOST 1048576: true; the input reads as it did. -/
def runnerDoesUptoRow : OpenClaim := { program := "ytpehmlkikhkmfaa", sum := "190dd1bab4bbe0941c60b0511b60edc37f357922bae646d2ab08fc3119ccc3bc", func := "augur/augurlaw17.RunnerDoes", spec := "runnerDoes", apart := false, narrowed := true }
def RunnerDoesUptoSaid : Prop := runnerDoesUptoRow.holds Try.pinned (OpenSpec.upto runnerDoesSpec)

/-- 'augurlaw17.RunnerRuns', WHERE WHAT IT READS IS OF BULK AT MOST 1048576: true; the input reads as it did. -/
def runnerRunsUptoRow : OpenClaim := { program := "ytpehmlkikhkmfaa", sum := "190dd1bab4bbe0941c60b0511b60edc37f357922bae646d2ab08fc3119ccc3bc", func := "augur/augurlaw17.RunnerRuns", spec := "runnerRuns", recurses := true, apart := false, narrowed := true }
def RunnerRunsUptoSaid : Prop := runnerRunsUptoRow.holds Try.pinned (OpenSpec.upto runnerRunsSpec)

/-- 'augurlaw17.RunnerBatch', WHERE WHAT IT READS IS OF BULK AT MOST 1048576: true; the input reads as it did. -/
def runnerBatchUptoRow : OpenClaim := { program := "ytpehmlkikhkmfaa", sum := "190dd1bab4bbe0941c60b0511b60edc37f357922bae646d2ab08fc3119ccc3bc", func := "augur/augurlaw17.RunnerBatch", spec := "runnerBatch", apart := false, narrowed := true }
def RunnerBatchUptoSaid : Prop := runnerBatchUptoRow.holds Try.pinned (OpenSpec.upto runnerBatchSpec)

/-- 'augurlaw17.RunnerGoes', WHERE WHAT IT READS IS OF BULK AT MOST 1048576: true; the input reads as it did. -/
def runnerGoesUptoRow : OpenClaim := { program := "ytpehmlkikhkmfaa", sum := "190dd1bab4bbe0941c60b0511b60edc37f357922bae646d2ab08fc3119ccc3bc", func := "augur/augurlaw17.RunnerGoes", spec := "runnerGoes", unfollowed := true, recurses := true, apart := false, narrowed := true }
def RunnerGoesUptoSaid : Prop := runnerGoesUptoRow.holds Try.pinned (OpenSpec.upto runnerGoesSpec)

/-- 'augurlaw17.RunnerSure', WHERE WHAT IT READS IS OF BULK AT MOST 1048576: true; the input reads as it did. -/
def runnerSureUptoRow : OpenClaim := { program := "ytpehmlkikhkmfaa", sum := "190dd1bab4bbe0941c60b0511b60edc37f357922bae646d2ab08fc3119ccc3bc", func := "augur/augurlaw17.RunnerSure", spec := "runnerSure", apart := false, narrowed := true }
def RunnerSureUptoSaid : Prop := runnerSureUptoRow.holds Try.pinned (OpenSpec.upto runnerSureSpec)

end Rows
end Go.Proofs.Ytpehmlkikhkmfaa
