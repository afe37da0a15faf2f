/- Bits: Or. -/
import Derived.Test.YtcdepblajobemaaBitsOps
set_option maxRecDepth 100000
namespace Go.Proofs.Ytcdepblajobemaa
open Go.RowKit
theorem or_final {n : Nat} {L : List Nat} (g : Good n L) (M : List Nat) (hM : ∀ k, M.getD k 0 < 18446744073709551616) (hn : 0 < n % 64) :
    orL n L M = ((List.range L.length).map fun j => L.getD j 0 ||| M.getD j 0).set ((n + 63) / 64 - 1) (((List.range L.length).map fun j => L.getD j 0 ||| M.getD j 0).getD ((n + 63) / 64 - 1) 0 &&& (2 ^ (n % 64) - 1)) ∧
    ((List.range L.length).map fun j => L.getD j 0 ||| M.getD j 0).getD ((n + 63) / 64 - 1) 0 &&& (2 ^ (n % 64) - 1) < 18446744073709551616 ∧
    bits .and .u64 (((((List.range L.length).map fun j => L.getD j 0 ||| M.getD j 0).getD ((n + 63) / 64 - 1) 0 : Nat) : Int)) (IntKind.u64.wrap (IntKind.u64.wrap (2 ^ (n % 64)) - 1)) = ((((List.range L.length).map fun j => L.getD j 0 ||| M.getD j 0).getD ((n + 63) / 64 - 1) 0 &&& (2 ^ (n % 64) - 1) : Nat) : Int) := by
  have hl := g.len
  have h1 : ((List.range L.length).map fun j => L.getD j 0 ||| M.getD j 0).getD ((n + 63) / 64 - 1) 0 < 18446744073709551616 := by
    rw [getD_map_range _ _ _ (fun h' => by omega)]; exact or_lt (g.wd _) (hM _)
  have h2 : IntKind.u64.wrap (IntKind.u64.wrap (2 ^ (n % 64)) - 1) = ((2 ^ (n % 64) - 1 : Nat) : Int) := by
    have := two_pow_lt n
    have e : ((2 : Int) ^ (n % 64)) = ((2 ^ (n % 64) : Nat) : Int) := by simp
    have hp : 0 < 2 ^ (n % 64) := Nat.pow_pos (by decide)
    rw [e, IntKind.wrap_u64, IntKind.wrap_u64]
    generalize 2 ^ (n % 64) = y at this hp ⊢
    omega
  refine ⟨?_, and_lt _ h1, ?_⟩
  · unfold orL orL0; rw [if_pos hn, hl]
  · rw [h2, u64_and_nat _ _ h1 (Nat.lt_of_le_of_lt (Nat.sub_le _ _) (two_pow_lt n))]
end Go.Proofs.Ytcdepblajobemaa
