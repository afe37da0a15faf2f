/- TopNumbers: the errors, limits and lists have the numbers that the statement names: it answers true. No condition. -/
import Derived.Test.YtcgipknbnmhemaaPTopNumbersx1
namespace Go.Proofs.Ytcgipknbnmhemaa.Pure
open Go.RowKit Go.Proofs.Ytcgipknbnmhemaa.PTopNumbers Go.Proofs.YtcgipknbnmhemaaW.PrintWords Go.Proofs.YtcgipknbnmhemaaW.PrintLast

/-- YOURS: ∃ k, augurtop_TopNumbers.f k  = some true
What it reaches (each with k first where it has rounds; `.mono`: more rounds tell the same; `.l0`, ..: its loops, with `.mono_l`): augurtop_numbered.f, augurtop_errorsLow.f, augurtop_errorsHigh.f, augurtop_maxima.f, augurtop_lists.f, augurtop_TopNumbers.f -/
theorem TopNumbers : augurtop_TopNumbers.Pure := by
  exact ⟨100, by decide +kernel⟩

end Go.Proofs.Ytcgipknbnmhemaa.Pure
