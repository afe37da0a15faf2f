/- LexNames, walked. -/
import Derived.Test.YtlmpeddacadfkaaLexOwn
import Derived.Test.YtlmpeddacadfkaaRefLexQuote
import Derived.Test.YtlmpeddacadfkaaLexName
import Derived.Test.YtlmpeddacadfkaaLexQuote
namespace Go.Proofs.Ytlmpeddacadfkaa
open Go.RowKit Go.Shelf

set_option maxRecDepth 100000 in
theorem walk_Names (s : ByteArray) (w : World) : Calls Try.prog 5 #[.string s] w fun e w' => e = .returned (.bool true) ∧ Below w.heap.size w w' := by
  go_enter Try.func5, Try.ntmps5
  by_cases hs : s.size ≤ 16777216
  · have hsI : ¬ (s.size : Int) > 16777216 := by omega
    have hm : s.size ≤ maxLen := by unfold maxLen; omega
    go_wp2_with (first
      | (go_at_call 10; refine (works_any w).mono ?_; rintro e w1 ⟨rfl, hg1⟩)
      | (go_at_call 19; refine (isname_any s _ hm).mono ?_; rintro e w2 ⟨rfl, hg2⟩)
      | (go_at_call 20; refine (quote_any s _ hm).mono ?_; rintro e w3 ⟨rfl, hg3⟩)
      | (go_at_call 21; refine (refisname_any s _ hm).mono ?_; rintro e w4 ⟨rfl, hg4⟩)
      | (go_at_call 22; refine (refquote_any s _ hm).mono ?_; rintro e w5 ⟨rfl, hg5⟩))
    go_ret
    exact ⟨rfl, below_gb (below_gb (below_gb (below_gb hg1 hg2) hg3) hg4) hg5⟩
  · have hsI : (s.size : Int) > 16777216 := by omega
    go_wp2_with (go_at_call 10; refine (works_any w).mono ?_; rintro e w1 ⟨rfl, hg1⟩)
    go_ret
    exact ⟨rfl, hg1⟩
end Go.Proofs.Ytlmpeddacadfkaa
