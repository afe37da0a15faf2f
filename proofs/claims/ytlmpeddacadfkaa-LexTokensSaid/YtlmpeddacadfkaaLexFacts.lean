/- Lex: the chapter's examples, reckoned. -/
import Derived.Test.YtlmpeddacadfkaaLexTokens
import Derived.Test.YtlmpeddacadfkaaRefLexQuote
namespace Go.Proofs.Ytlmpeddacadfkaa
open Go.RowKit

def tk (k : Nat) (t : ByteArray) (a b : Nat) : Tok := ⟨k, t, a, b, 0⟩
theorem ex_one : allT ⟨#[71, 40, 114, 101, 113, 45, 62, 70, 32, 34, 97, 99, 107, 32, 49, 34, 41]⟩ 0 = ([tk 3 ⟨#[71]⟩ 0 1, tk 4 ⟨#[40]⟩ 1 2, tk 2 ⟨#[114, 101, 113]⟩ 2 5, tk 4 ⟨#[45, 62]⟩ 5 7, tk 3 ⟨#[70]⟩ 7 8, tk 2 ⟨#[97, 99, 107, 32, 49]⟩ 9 16, tk 4 ⟨#[41]⟩ 16 17, tk 1 ⟨#[]⟩ 17 17], 0, 0) := by kernel_rfl
theorem ex_two : (allT ⟨#[97, 32, 45, 32, 62, 32, 98]⟩ 0).2 = (20, 2) := by kernel_rfl
theorem ex_a : (allT ⟨#[97]⟩ 0) = ([tk 2 ⟨#[97]⟩ 0 1, tk 1 ⟨#[]⟩ 1 1], 0, 0) := by kernel_rfl
theorem ex_X : quoteF ⟨#[88]⟩ = ⟨#[34, 88, 34]⟩ := by kernel_rfl
theorem ex_a1 : quoteF ⟨#[97, 95, 49]⟩ = ⟨#[97, 95, 49]⟩ := by kernel_rfl
theorem ex_true : isNameF ⟨#[116, 114, 117, 101]⟩ = false := by kernel_rfl
end Go.Proofs.Ytlmpeddacadfkaa
