/-
  No cell of these rows narrows 'for every input' (looked for: loops, veiled, ifaces, maps, wideKeys, modest, calm, conditions, laid).
  DERIVED. THE GIVEN ROWS OF THIS SEAT. 4 by the template 'for every input the law returns true; each argument reads behind the call as it read before'; 0 by the template 'total and deterministic' (their statements: YtcdepblajobemaaTotals.lean).
  GIVEN WITH THE SEED: the statements are not yours to turn. If you find one false, say at which input.
  Laid BY PROGRAM, IN A SANDBOX (cutbox-rows.mjs): the forced cells as the released guide's own fill.sh prints them over the translation 9a120227cfbf6970… (all of the seat's roots in one cut). By AI agents, Wed Nov 11 2026. No macro, syntax, notation, axiom, sorry.
-/
import Derived.Test.YtcdepblajobemaaChecked
import GoSem.Claim
import GoSem.ClaimJoined
import GoSem.ClaimMapViews
import Derived.JoinedTies
import Derived.KernelRfl
namespace Go.Proofs.Ytcdepblajobemaa
/- THE CELL 'sum', in the pinned program and in every row, IS THE sha256 OF THE DUMP (.gsa) THAT YtcdepblajobemaaProg.lean LOADS. Nothing in Lean hashes anything: it is a label: what it is worth is what the hold of that sum in a sandbox is worth. -/
noncomputable def Try.pinned : Pinned := { name := "ytcdepblajobemaa", sum := "9a120227cfbf6970fd75acc7d86a5b67c655fcbddb108d14893fb2032a331346", checked := Try.checked }
namespace Rows
def none {H : Type} : Left H := { results := [], args := [] }

/-- 'augurlaw13.DfaNames': WHATEVER THE INPUT: true; the input reads as it did. -/
def dfaNamesSpec : ChangeSpec := { name := "dfaNames", fn := fun _ => fun
  | [] => { results := [.lit (.bool true)], args := [] }
  | _ => none }
def dfaNamesRow : OpenClaim := { program := "ytcdepblajobemaa", sum := "9a120227cfbf6970fd75acc7d86a5b67c655fcbddb108d14893fb2032a331346", func := "augur/augurlaw13.DfaNames", spec := "dfaNames", apart := false }
def DfaNamesSaid : Prop := dfaNamesRow.holds Try.pinned (OpenSpec.ofChange dfaNamesSpec)

/-- ITS FALSE NEIGHBOUR: 'it returns false'. Refute it at one input. -/
def dfaNamesWrong : ChangeSpec := { name := "dfaNames", fn := fun _ => fun
  | [] => { results := [.lit (.bool false)], args := [] }
  | _ => none }
def DfaNamesWrongFalsely : Prop := dfaNamesRow.holds Try.pinned (OpenSpec.ofChange dfaNamesWrong)

/-- 'augurlaw13.DfaRuns': WHATEVER THE INPUT: true; the input reads as it did. -/
def dfaRunsSpec : ChangeSpec := { name := "dfaRuns", fn := fun _ => fun
  | [d1, d2] => { results := [.lit (.bool true)], args := [d1, d2] }
  | _ => none }
def dfaRunsRow : OpenClaim := { program := "ytcdepblajobemaa", sum := "9a120227cfbf6970fd75acc7d86a5b67c655fcbddb108d14893fb2032a331346", func := "augur/augurlaw13.DfaRuns", spec := "dfaRuns", apart := false }
def DfaRunsSaid : Prop := dfaRunsRow.holds Try.pinned (OpenSpec.ofChange dfaRunsSpec)

/-- ITS FALSE NEIGHBOUR: 'it returns false'. Refute it at one input. -/
def dfaRunsWrong : ChangeSpec := { name := "dfaRuns", fn := fun _ => fun
  | [d1, d2] => { results := [.lit (.bool false)], args := [d1, d2] }
  | _ => none }
def DfaRunsWrongFalsely : Prop := dfaRunsRow.holds Try.pinned (OpenSpec.ofChange dfaRunsWrong)

/-- 'augurlaw13.DfaGoes': WHATEVER THE INPUT: true; the input reads as it did. -/
def dfaGoesSpec : ChangeSpec := { name := "dfaGoes", fn := fun _ => fun
  | [d1, d2, d3] => { results := [.lit (.bool true)], args := [d1, d2, d3] }
  | _ => none }
def dfaGoesRow : OpenClaim := { program := "ytcdepblajobemaa", sum := "9a120227cfbf6970fd75acc7d86a5b67c655fcbddb108d14893fb2032a331346", func := "augur/augurlaw13.DfaGoes", spec := "dfaGoes", apart := false }
def DfaGoesSaid : Prop := dfaGoesRow.holds Try.pinned (OpenSpec.ofChange dfaGoesSpec)

/-- ITS FALSE NEIGHBOUR: 'it returns false'. Refute it at one input. -/
def dfaGoesWrong : ChangeSpec := { name := "dfaGoes", fn := fun _ => fun
  | [d1, d2, d3] => { results := [.lit (.bool false)], args := [d1, d2, d3] }
  | _ => none }
def DfaGoesWrongFalsely : Prop := dfaGoesRow.holds Try.pinned (OpenSpec.ofChange dfaGoesWrong)

/-- 'augurlaw13.DfaBuilds': WHATEVER THE INPUT: true; the input reads as it did. -/
def dfaBuildsSpec : ChangeSpec := { name := "dfaBuilds", fn := fun _ => fun
  | [d1, d2, d3] => { results := [.lit (.bool true)], args := [d1, d2, d3] }
  | _ => none }
def dfaBuildsRow : OpenClaim := { program := "ytcdepblajobemaa", sum := "9a120227cfbf6970fd75acc7d86a5b67c655fcbddb108d14893fb2032a331346", func := "augur/augurlaw13.DfaBuilds", spec := "dfaBuilds", recurses := true, apart := false }
def DfaBuildsSaid : Prop := dfaBuildsRow.holds Try.pinned (OpenSpec.ofChange dfaBuildsSpec)

/-- ITS FALSE NEIGHBOUR: 'it returns false'. Refute it at one input. -/
def dfaBuildsWrong : ChangeSpec := { name := "dfaBuilds", fn := fun _ => fun
  | [d1, d2, d3] => { results := [.lit (.bool false)], args := [d1, d2, d3] }
  | _ => none }
def DfaBuildsWrongFalsely : Prop := dfaBuildsRow.holds Try.pinned (OpenSpec.ofChange dfaBuildsWrong)

/- THE SECOND FORM. 'bulk': how many values and letters a reading holds, each counted each time it is reached (what is shared counts as often as it is met; a slice's spare places count too). A statement '..UptoSaid' is the law's where the arguments, and the package variables that the reading takes, are together of bulk at most 1048576: NARROWER than '..Said'. Prove '..Said' where nothing that the law and all that it calls make is longer than what came in: it says more and counts as full. Else prove '..UptoSaid'. A law counts once. -/
mutual
def uptoBulk {H : Type} : DataW H → Nat
  | .lit (.string bytes) => bytes.length + 1
  | .lit _ => 1
  | .nil => 1
  | .ptr d => uptoBulk d + 1
  | .slice elems spare => uptoBulkAll elems + uptoBulkAll spare + 1
  | .agg parts => uptoBulkAll parts + 1
  | .iface _ d => uptoBulk d + 1
  | .map entries => uptoBulkEntries entries + 1
  | .held _ => 1
def uptoBulkAll {H : Type} : List (DataW H) → Nat
  | [] => 0
  | d :: r => uptoBulk d + uptoBulkAll r
def uptoBulkEntries {H : Type} : List (Lit × DataW H) → Nat
  | [] => 0
  | x :: r => uptoBulkEntry x + uptoBulkEntries r
def uptoBulkEntry {H : Type} : Lit × DataW H → Nat
  | (.string bytes, d) => bytes.length + uptoBulk d + 1
  | (_, d) => uptoBulk d + 1
 end
def uptoSmall : (H : Type) → List (DataW H) → Bool := fun _ ds => decide (uptoBulkAll ds ≤ 1048576)
def OpenSpec.upto (s : _root_.Go.ChangeSpec) : _root_.Go.OpenSpec := { _root_.Go.OpenSpec.ofChange s with cond := some uptoSmall }

/-- 'augurlaw13.DfaNames', WHERE WHAT IT READS IS OF BULK AT MOST 1048576: true; the input reads as it did. -/
def dfaNamesUptoRow : OpenClaim := { program := "ytcdepblajobemaa", sum := "9a120227cfbf6970fd75acc7d86a5b67c655fcbddb108d14893fb2032a331346", func := "augur/augurlaw13.DfaNames", spec := "dfaNames", apart := false, narrowed := true }
def DfaNamesUptoSaid : Prop := dfaNamesUptoRow.holds Try.pinned (OpenSpec.upto dfaNamesSpec)

/-- 'augurlaw13.DfaRuns', WHERE WHAT IT READS IS OF BULK AT MOST 1048576: true; the input reads as it did. -/
def dfaRunsUptoRow : OpenClaim := { program := "ytcdepblajobemaa", sum := "9a120227cfbf6970fd75acc7d86a5b67c655fcbddb108d14893fb2032a331346", func := "augur/augurlaw13.DfaRuns", spec := "dfaRuns", apart := false, narrowed := true }
def DfaRunsUptoSaid : Prop := dfaRunsUptoRow.holds Try.pinned (OpenSpec.upto dfaRunsSpec)

/-- 'augurlaw13.DfaGoes', WHERE WHAT IT READS IS OF BULK AT MOST 1048576: true; the input reads as it did. -/
def dfaGoesUptoRow : OpenClaim := { program := "ytcdepblajobemaa", sum := "9a120227cfbf6970fd75acc7d86a5b67c655fcbddb108d14893fb2032a331346", func := "augur/augurlaw13.DfaGoes", spec := "dfaGoes", apart := false, narrowed := true }
def DfaGoesUptoSaid : Prop := dfaGoesUptoRow.holds Try.pinned (OpenSpec.upto dfaGoesSpec)

/-- 'augurlaw13.DfaBuilds', WHERE WHAT IT READS IS OF BULK AT MOST 1048576: true; the input reads as it did. -/
def dfaBuildsUptoRow : OpenClaim := { program := "ytcdepblajobemaa", sum := "9a120227cfbf6970fd75acc7d86a5b67c655fcbddb108d14893fb2032a331346", func := "augur/augurlaw13.DfaBuilds", spec := "dfaBuilds", recurses := true, apart := false, narrowed := true }
def DfaBuildsUptoSaid : Prop := dfaBuildsUptoRow.holds Try.pinned (OpenSpec.upto dfaBuildsSpec)

end Rows
end Go.Proofs.Ytcdepblajobemaa
