/-
  No cell of these rows narrows 'for every input' (looked for: loops, veiled, ifaces, maps, wideKeys, modest, calm, conditions, laid).
  DERIVED. THE GIVEN ROWS OF THIS SEAT. 7 by the template 'for every input the law returns true; each argument reads behind the call as it read before'; 0 by the template 'total and deterministic' (their statements: YtlmpeddacadfkaaTotals.lean).
  GIVEN WITH THE SEED: the statements are not yours to turn. If you find one false, say at which input.
  Laid BY PROGRAM, IN A SANDBOX (cutbox-rows.mjs): the forced cells as the released guide's own fill.sh prints them over the translation 2443ef4070dbe0d4… (all of the seat's roots in one cut). By AI agents, Wed Nov 11 2026. No macro, syntax, notation, axiom, sorry.
-/
import Derived.Test.YtlmpeddacadfkaaChecked
import GoSem.Claim
import GoSem.ClaimJoined
import GoSem.ClaimMapViews
import Derived.JoinedTies
import Derived.KernelRfl
namespace Go.Proofs.Ytlmpeddacadfkaa
/- THE CELL 'sum', in the pinned program and in every row, IS THE sha256 OF THE DUMP (.gsa) THAT YtlmpeddacadfkaaProg.lean LOADS. Nothing in Lean hashes anything: it is a label: what it is worth is what the hold of that sum in a sandbox is worth. -/
noncomputable def Try.pinned : Pinned := { name := "ytlmpeddacadfkaa", sum := "2443ef4070dbe0d46735b037c7d5ed52b4597df8ab7003742a3f3bcf02bf8d8c", checked := Try.checked }
namespace Rows
def none {H : Type} : Left H := { results := [], args := [] }

/-- 'augurlaw02.LexNumbers': WHATEVER THE INPUT: true; the input reads as it did. -/
def lexNumbersSpec : ChangeSpec := { name := "lexNumbers", fn := fun _ => fun
  | [] => { results := [.lit (.bool true)], args := [] }
  | _ => none }
def lexNumbersRow : OpenClaim := { program := "ytlmpeddacadfkaa", sum := "2443ef4070dbe0d46735b037c7d5ed52b4597df8ab7003742a3f3bcf02bf8d8c", func := "augur/augurlaw02.LexNumbers", spec := "lexNumbers", inPlace := ["internal/bytealg.IndexByteString"], unfollowed := true, recurses := true, apart := false }
def LexNumbersSaid : Prop := lexNumbersRow.holds Try.pinned (OpenSpec.ofChange lexNumbersSpec)

/-- ITS FALSE NEIGHBOUR: 'it returns false'. Refute it at one input. -/
def lexNumbersWrong : ChangeSpec := { name := "lexNumbers", fn := fun _ => fun
  | [] => { results := [.lit (.bool false)], args := [] }
  | _ => none }
def LexNumbersWrongFalsely : Prop := lexNumbersRow.holds Try.pinned (OpenSpec.ofChange lexNumbersWrong)

/-- 'augurlaw02.LexTokens': WHATEVER THE INPUT: true; the input reads as it did. -/
def lexTokensSpec : ChangeSpec := { name := "lexTokens", fn := fun _ => fun
  | [d1, d2] => { results := [.lit (.bool true)], args := [d1, d2] }
  | _ => none }
def lexTokensRow : OpenClaim := { program := "ytlmpeddacadfkaa", sum := "2443ef4070dbe0d46735b037c7d5ed52b4597df8ab7003742a3f3bcf02bf8d8c", func := "augur/augurlaw02.LexTokens", spec := "lexTokens", inPlace := ["internal/bytealg.IndexByteString"], unfollowed := true, recurses := true, apart := false }
def LexTokensSaid : Prop := lexTokensRow.holds Try.pinned (OpenSpec.ofChange lexTokensSpec)

/-- ITS FALSE NEIGHBOUR: 'it returns false'. Refute it at one input. -/
def lexTokensWrong : ChangeSpec := { name := "lexTokens", fn := fun _ => fun
  | [d1, d2] => { results := [.lit (.bool false)], args := [d1, d2] }
  | _ => none }
def LexTokensWrongFalsely : Prop := lexTokensRow.holds Try.pinned (OpenSpec.ofChange lexTokensWrong)

/-- 'augurlaw02.LexNames': WHATEVER THE INPUT: true; the input reads as it did. -/
def lexNamesSpec : ChangeSpec := { name := "lexNames", fn := fun _ => fun
  | [d] => { results := [.lit (.bool true)], args := [d] }
  | _ => none }
def lexNamesRow : OpenClaim := { program := "ytlmpeddacadfkaa", sum := "2443ef4070dbe0d46735b037c7d5ed52b4597df8ab7003742a3f3bcf02bf8d8c", func := "augur/augurlaw02.LexNames", spec := "lexNames", inPlace := ["internal/bytealg.IndexByteString"], unfollowed := true, recurses := true, apart := false }
def LexNamesSaid : Prop := lexNamesRow.holds Try.pinned (OpenSpec.ofChange lexNamesSpec)

/-- ITS FALSE NEIGHBOUR: 'it returns false'. Refute it at one input. -/
def lexNamesWrong : ChangeSpec := { name := "lexNames", fn := fun _ => fun
  | [d] => { results := [.lit (.bool false)], args := [d] }
  | _ => none }
def LexNamesWrongFalsely : Prop := lexNamesRow.holds Try.pinned (OpenSpec.ofChange lexNamesWrong)

/-- 'augurlaw02.LexQuoted': WHATEVER THE INPUT: true; the input reads as it did. -/
def lexQuotedSpec : ChangeSpec := { name := "lexQuoted", fn := fun _ => fun
  | [d] => { results := [.lit (.bool true)], args := [d] }
  | _ => none }
def lexQuotedRow : OpenClaim := { program := "ytlmpeddacadfkaa", sum := "2443ef4070dbe0d46735b037c7d5ed52b4597df8ab7003742a3f3bcf02bf8d8c", func := "augur/augurlaw02.LexQuoted", spec := "lexQuoted", inPlace := ["internal/bytealg.IndexByteString"], unfollowed := true, recurses := true, apart := false }
def LexQuotedSaid : Prop := lexQuotedRow.holds Try.pinned (OpenSpec.ofChange lexQuotedSpec)

/-- ITS FALSE NEIGHBOUR: 'it returns false'. Refute it at one input. -/
def lexQuotedWrong : ChangeSpec := { name := "lexQuoted", fn := fun _ => fun
  | [d] => { results := [.lit (.bool false)], args := [d] }
  | _ => none }
def LexQuotedWrongFalsely : Prop := lexQuotedRow.holds Try.pinned (OpenSpec.ofChange lexQuotedWrong)

/-- 'augurlaw02.LexPlaces': WHATEVER THE INPUT: true; the input reads as it did. -/
def lexPlacesSpec : ChangeSpec := { name := "lexPlaces", fn := fun _ => fun
  | [d] => { results := [.lit (.bool true)], args := [d] }
  | _ => none }
def lexPlacesRow : OpenClaim := { program := "ytlmpeddacadfkaa", sum := "2443ef4070dbe0d46735b037c7d5ed52b4597df8ab7003742a3f3bcf02bf8d8c", func := "augur/augurlaw02.LexPlaces", spec := "lexPlaces", inPlace := ["internal/bytealg.IndexByteString"], unfollowed := true, recurses := true, apart := false }
def LexPlacesSaid : Prop := lexPlacesRow.holds Try.pinned (OpenSpec.ofChange lexPlacesSpec)

/-- ITS FALSE NEIGHBOUR: 'it returns false'. Refute it at one input. -/
def lexPlacesWrong : ChangeSpec := { name := "lexPlaces", fn := fun _ => fun
  | [d] => { results := [.lit (.bool false)], args := [d] }
  | _ => none }
def LexPlacesWrongFalsely : Prop := lexPlacesRow.holds Try.pinned (OpenSpec.ofChange lexPlacesWrong)

/-- 'augurlaw02.LexSpaced': WHATEVER THE INPUT: true; the input reads as it did. -/
def lexSpacedSpec : ChangeSpec := { name := "lexSpaced", fn := fun _ => fun
  | [d1, d2] => { results := [.lit (.bool true)], args := [d1, d2] }
  | _ => none }
def lexSpacedRow : OpenClaim := { program := "ytlmpeddacadfkaa", sum := "2443ef4070dbe0d46735b037c7d5ed52b4597df8ab7003742a3f3bcf02bf8d8c", func := "augur/augurlaw02.LexSpaced", spec := "lexSpaced", inPlace := ["internal/bytealg.IndexByteString"], unfollowed := true, recurses := true, apart := false }
def LexSpacedSaid : Prop := lexSpacedRow.holds Try.pinned (OpenSpec.ofChange lexSpacedSpec)

/-- ITS FALSE NEIGHBOUR: 'it returns false'. Refute it at one input. -/
def lexSpacedWrong : ChangeSpec := { name := "lexSpaced", fn := fun _ => fun
  | [d1, d2] => { results := [.lit (.bool false)], args := [d1, d2] }
  | _ => none }
def LexSpacedWrongFalsely : Prop := lexSpacedRow.holds Try.pinned (OpenSpec.ofChange lexSpacedWrong)

/-- 'augurlaw02.LexCut': WHATEVER THE INPUT: true; the input reads as it did. -/
def lexCutSpec : ChangeSpec := { name := "lexCut", fn := fun _ => fun
  | [d] => { results := [.lit (.bool true)], args := [d] }
  | _ => none }
def lexCutRow : OpenClaim := { program := "ytlmpeddacadfkaa", sum := "2443ef4070dbe0d46735b037c7d5ed52b4597df8ab7003742a3f3bcf02bf8d8c", func := "augur/augurlaw02.LexCut", spec := "lexCut", inPlace := ["internal/bytealg.IndexByteString"], unfollowed := true, recurses := true, apart := false }
def LexCutSaid : Prop := lexCutRow.holds Try.pinned (OpenSpec.ofChange lexCutSpec)

/-- ITS FALSE NEIGHBOUR: 'it returns false'. Refute it at one input. -/
def lexCutWrong : ChangeSpec := { name := "lexCut", fn := fun _ => fun
  | [d] => { results := [.lit (.bool false)], args := [d] }
  | _ => none }
def LexCutWrongFalsely : Prop := lexCutRow.holds Try.pinned (OpenSpec.ofChange lexCutWrong)

/- THE SECOND FORM. 'bulk': how many values and letters a reading holds, each counted each time it is reached (what is shared counts as often as it is met; a slice's spare places count too). A statement '..UptoSaid' is the law's where the arguments, and the package variables that the reading takes, are together of bulk at most 1048576: NARROWER than '..Said'. Prove '..Said' where nothing that the law and all that it calls make is longer than what came in: it says more and counts as full. Else prove '..UptoSaid'. A law counts once. -/
mutual
def uptoBulk {H : Type} : DataW H → Nat
  | .lit (.string bytes) => bytes.length + 1
  | .lit _ => 1
  | .nil => 1
  | .ptr d => uptoBulk d + 1
  | .slice elems spare => uptoBulkAll elems + uptoBulkAll spare + 1
  | .agg parts => uptoBulkAll parts + 1
  | .iface _ d => uptoBulk d + 1
  | .map entries => uptoBulkEntries entries + 1
  | .held _ => 1
def uptoBulkAll {H : Type} : List (DataW H) → Nat
  | [] => 0
  | d :: r => uptoBulk d + uptoBulkAll r
def uptoBulkEntries {H : Type} : List (Lit × DataW H) → Nat
  | [] => 0
  | x :: r => uptoBulkEntry x + uptoBulkEntries r
def uptoBulkEntry {H : Type} : Lit × DataW H → Nat
  | (.string bytes, d) => bytes.length + uptoBulk d + 1
  | (_, d) => uptoBulk d + 1
 end
def uptoSmall : (H : Type) → List (DataW H) → Bool := fun _ ds => decide (uptoBulkAll ds ≤ 1048576)
def OpenSpec.upto (s : _root_.Go.ChangeSpec) : _root_.Go.OpenSpec := { _root_.Go.OpenSpec.ofChange s with cond := some uptoSmall }

/-- 'augurlaw02.LexNumbers', WHERE WHAT IT READS IS OF BULK AT MOST 1048576: true; the input reads as it did. -/
def lexNumbersUptoRow : OpenClaim := { program := "ytlmpeddacadfkaa", sum := "2443ef4070dbe0d46735b037c7d5ed52b4597df8ab7003742a3f3bcf02bf8d8c", func := "augur/augurlaw02.LexNumbers", spec := "lexNumbers", inPlace := ["internal/bytealg.IndexByteString"], unfollowed := true, recurses := true, apart := false, narrowed := true }
def LexNumbersUptoSaid : Prop := lexNumbersUptoRow.holds Try.pinned (OpenSpec.upto lexNumbersSpec)

/-- 'augurlaw02.LexTokens', WHERE WHAT IT READS IS OF BULK AT MOST 1048576: true; the input reads as it did. -/
def lexTokensUptoRow : OpenClaim := { program := "ytlmpeddacadfkaa", sum := "2443ef4070dbe0d46735b037c7d5ed52b4597df8ab7003742a3f3bcf02bf8d8c", func := "augur/augurlaw02.LexTokens", spec := "lexTokens", inPlace := ["internal/bytealg.IndexByteString"], unfollowed := true, recurses := true, apart := false, narrowed := true }
def LexTokensUptoSaid : Prop := lexTokensUptoRow.holds Try.pinned (OpenSpec.upto lexTokensSpec)

/-- 'augurlaw02.LexNames', WHERE WHAT IT READS IS OF BULK AT MOST 1048576: true; the input reads as it did. -/
def lexNamesUptoRow : OpenClaim := { program := "ytlmpeddacadfkaa", sum := "2443ef4070dbe0d46735b037c7d5ed52b4597df8ab7003742a3f3bcf02bf8d8c", func := "augur/augurlaw02.LexNames", spec := "lexNames", inPlace := ["internal/bytealg.IndexByteString"], unfollowed := true, recurses := true, apart := false, narrowed := true }
def LexNamesUptoSaid : Prop := lexNamesUptoRow.holds Try.pinned (OpenSpec.upto lexNamesSpec)

/-- 'augurlaw02.LexQuoted', WHERE WHAT IT READS IS OF BULK AT MOST 1048576: true; the input reads as it did. -/
def lexQuotedUptoRow : OpenClaim := { program := "ytlmpeddacadfkaa", sum := "2443ef4070dbe0d46735b037c7d5ed52b4597df8ab7003742a3f3bcf02bf8d8c", func := "augur/augurlaw02.LexQuoted", spec := "lexQuoted", inPlace := ["internal/bytealg.IndexByteString"], unfollowed := true, recurses := true, apart := false, narrowed := true }
def LexQuotedUptoSaid : Prop := lexQuotedUptoRow.holds Try.pinned (OpenSpec.upto lexQuotedSpec)

/-- 'augurlaw02.LexPlaces', WHERE WHAT IT READS IS OF BULK AT MOST 1048576: true; the input reads as it did. -/
def lexPlacesUptoRow : OpenClaim := { program := "ytlmpeddacadfkaa", sum := "2443ef4070dbe0d46735b037c7d5ed52b4597df8ab7003742a3f3bcf02bf8d8c", func := "augur/augurlaw02.LexPlaces", spec := "lexPlaces", inPlace := ["internal/bytealg.IndexByteString"], unfollowed := true, recurses := true, apart := false, narrowed := true }
def LexPlacesUptoSaid : Prop := lexPlacesUptoRow.holds Try.pinned (OpenSpec.upto lexPlacesSpec)

/-- 'augurlaw02.LexSpaced', WHERE WHAT IT READS IS OF BULK AT MOST 1048576: true; the input reads as it did. -/
def lexSpacedUptoRow : OpenClaim := { program := "ytlmpeddacadfkaa", sum := "2443ef4070dbe0d46735b037c7d5ed52b4597df8ab7003742a3f3bcf02bf8d8c", func := "augur/augurlaw02.LexSpaced", spec := "lexSpaced", inPlace := ["internal/bytealg.IndexByteString"], unfollowed := true, recurses := true, apart := false, narrowed := true }
def LexSpacedUptoSaid : Prop := lexSpacedUptoRow.holds Try.pinned (OpenSpec.upto lexSpacedSpec)

/-- 'augurlaw02.LexCut', WHERE WHAT IT READS IS OF BULK AT MOST 1048576: true; the input reads as it did. -/
def lexCutUptoRow : OpenClaim := { program := "ytlmpeddacadfkaa", sum := "2443ef4070dbe0d46735b037c7d5ed52b4597df8ab7003742a3f3bcf02bf8d8c", func := "augur/augurlaw02.LexCut", spec := "lexCut", inPlace := ["internal/bytealg.IndexByteString"], unfollowed := true, recurses := true, apart := false, narrowed := true }
def LexCutUptoSaid : Prop := lexCutUptoRow.holds Try.pinned (OpenSpec.upto lexCutSpec)

end Rows
end Go.Proofs.Ytlmpeddacadfkaa
