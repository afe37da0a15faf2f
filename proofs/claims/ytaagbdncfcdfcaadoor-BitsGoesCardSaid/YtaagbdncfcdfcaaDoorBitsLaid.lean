/- Bits: the library's table, off the row's list; a world that holds it. -/
import Derived.Test.YtaagbdncfcdfcaaDoorCards
import Derived.Test.YtaagbdncfcdfcaaDoorTie
import Derived.Test.YtaagbdncfcdfcaaDoorBitsNil
import Derived.Test.YtaagbdncfcdfcaaDoorBitsReads
import Derived.WalkKit
import Derived.ProofKit
import Derived.OpenShut
import Derived.Deep.DeepHandedRow
import Derived.Lib.LaidTab
namespace Go.Proofs.YtaagbdncfcdfcaaDoor
open Go.ChangeShapes Go.WideShapes Go.ChangeAt Go.RowKit

theorem gTab : Tryd.prog.globalNamed "math/bits.deBruijn64tab" = some 0 := by kernel_rfl
theorem gTabType : (Tryd.prog.globals[0]?).map (·.type) = some 98 := by kernel_rfl
theorem cellsTab : Tryd.prog.cellsOf 98 = 64 := by kernel_rfl
theorem cellsU8 : Tryd.prog.cellsOf 5 = 1 := by kernel_rfl

theorem tab_at {W : World} (h : laidMetH Tryd.prog [("math/bits.deBruijn64tab", Rows.laid_math_bits_deBruijn64tab)] W) : TabAt W := by
  have hT : Lib.TabIs Tryd.prog W "math/bits.deBruijn64tab" .u8 (Lib.deBruijn64tab.map fun (n : Nat) => (n : Int)) :=
    Lib.tabIs_of_head (rest := []) gTab gTabType Tryd.underlying98 Tryd.underlying5 cellsU8 cellsTab h
  intro j hj
  have := hT.cell gTab j (by rw [List.length_map]; exact hj)
  rw [this]
  congr 2
  have hl : j < Lib.deBruijn64tab.length := hj
  simp [List.getD_eq_getElem?_getD, hl]

/-- A WORLD FOR THE WITNESS. -/
noncomputable def laidWorld (os : Os) : World :=
  { World.holding Tryd.prog os ⟨#[], #[], []⟩ with heap := (World.holding Tryd.prog os ⟨#[], #[], []⟩).heap.modify 0 fun
      | .cells _ t frozen => .cells (Lib.deBruijn64tab.map fun (n : Nat) => Value.int .u8 (n : Int)).toArray t frozen
      | o => o }
end Go.Proofs.YtaagbdncfcdfcaaDoor
