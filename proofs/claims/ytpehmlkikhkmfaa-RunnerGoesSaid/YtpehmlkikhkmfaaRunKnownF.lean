/- Runner: what is final in the chapter's example: plain Lean. -/
import Derived.Test.YtpehmlkikhkmfaaRunFinals
namespace Go.Proofs.Ytpehmlkikhkmfaa

def sweepF (B : List (List Int)) : Nat → List Bool → List Int → Option (List Bool)
  | 0, _, _ => none
  | _ + 1, T, [] => some T
  | n + 1, T, x :: W => sweepF B n (spreads (T, W) (B.getD x.toNat [])).1 (spreads (T, W) (B.getD x.toNat [])).2
theorem sweep_is {B : List (List Int)} {T T' : List Bool} {W : List Int} (h : Sweep B T W T') : ∀ (n : Nat) (U : List Bool), sweepF B n T W = some U → T' = U := by
  induction h with
  | done T =>
    intro n U hU
    cases n with
    | zero => cases hU
    | succ n => exact Option.some.inj hU
  | step T T' x W _ ih =>
    intro n U hU
    cases n with
    | zero => cases hU
    | succ n => exact ih n U hU

theorem ex_turn : turnF [[1, 0], [1, 1]] = [[0], [0, 1, 1]] := by decide +kernel

theorem ex_fins {F : List Bool} (h : Fins [3, 2] (turnF [[1, 0], [1, 1]]) 3 F) : F = [false, true] := by
  rw [ex_turn] at h
  cases h with
  | next k F T h hs3 =>
    cases h with
    | next k F T h hs2 =>
      cases h with
      | next k F T h hs1 =>
        cases h with
        | zero =>
          have e1 := sweep_is hs1 9 [true, true] (by decide +kernel)
          have e2 := sweep_is hs2 9 [true, false] (by decide +kernel)
          have e3 := sweep_is hs3 9 [true, true] (by decide +kernel)
          subst e1 e2 e3
          decide +kernel
end Go.Proofs.Ytpehmlkikhkmfaa
