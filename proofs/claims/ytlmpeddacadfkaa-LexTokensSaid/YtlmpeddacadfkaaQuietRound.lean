/- A region that draws its order and only reads, within a round of a range over a function: one walk, in the text's order. -/
import Derived.Sort.QuietIn
import Derived.OrdersIn
import Derived.TacticsIn
import Derived.RangeFuncNested
import Derived.Test.YtlmpeddacadfkaaLexBytes
namespace Go.Proofs.Ytlmpeddacadfkaa
open Go.RowKit

/-- No operation of these lays a call aside. -/
def noDefer (l : List Oper) : Bool := l.all fun o => match o.op with | .defer _ => false | _ => true
theorem noDefer_spec {l : List Oper} (h : noDefer l = true) {i : Nat} {o : Oper} (ho : l.toArray[i]? = some o) : ∀ c, o.op ≠ .defer c := by
  intro c hc
  have hm : o ∈ l := List.mem_of_getElem? (by simpa using ho)
  have := List.all_eq_true.1 h o hm
  rw [hc] at this
  cases this
theorem op_inRound {F : Fence} {l₀ n : Nat} {P : Program} {o : Oper} {a : Act} {w : World} {K K' : Act → World → Prop} {Q : Exit → Act → World → Prop} (hro : F.round = none) (hnd : ∀ c, o.op ≠ .defer c) (hk : ∀ a w, K a w → K' a w) (h : o.wpIn F n P a w K Q) : o.wpIn (F.inRound l₀) n P a w K' Q := by
  refine Oper.wpIn_mono hk ?_
  unfold Oper.wpIn at h ⊢
  refine ⟨h.1, ?_⟩
  have h2 := h.2
  rw [Oper.semAt_eq _ _ _ hnd] at h2 ⊢
  generalize (execOp a.eval o).run P w = r at h2 ⊢
  cases r with
  | ok x w' => cases x <;> exact h2
  | halt x w' => cases x <;> exact h2
theorem any_inRound {F : Fence} {l₀ n : Nat} {P : Program} {md : Region.Mode} {l : List Oper} {Q : Exit → Act → World → Prop} (hro : F.round = none) (hnd : noDefer l = true) : ∀ (fuel : Nat) (listed : Array Bool) (a : Act) (w : World), wpAnyIn F n P md l.toArray Q fuel listed a w → wpAnyIn (F.inRound l₀) n P md l.toArray Q fuel listed a w
  | 0, _, _, _, h => h
  | fuel + 1, listed, a, w, h => by
    refine ⟨h.1, fun i hi => ?_⟩
    have h2 := h.2 i hi
    unfold wpOpIn at h2 ⊢
    split
    · rename_i ho
      simp only [ho] at h2
      exact any_inRound hro hnd fuel _ _ _ h2
    · rename_i o ho
      simp only [ho] at h2
      split
      · rename_i hw
        rw [if_pos hw] at h2
        exact op_inRound hro (noDefer_spec hnd ho) (fun a w => any_inRound hro hnd fuel _ a w) h2
      · rename_i hw
        rw [if_neg hw] at h2
        exact ⟨h2.1, any_inRound hro hnd fuel _ _ _ h2.2⟩
theorem wpIn_region_quiet_round {F : Fence} {l₀ n id : Nat} {P : Program} {Q : Exit → Act → World → Prop} {a : Act} {w : World} {l : List Oper} (hro : F.round = none) (hnd : noDefer l = true) (hm : P.follows .mixedOrders = true) (hB : Region.lexB .any l.toArray = true)
    (h : wpQuietIn F n P l.toArray (fun w' => ∃ n, w' = w.drewN n) (fun a' => ∀ w', (∃ n, w' = w.drewN n) → Q .normal a' w') l a) : (Code.region id l.toArray true).wpIn (F.inRound l₀) n P Q a w := by
  have hB2 := hB
  simp only [Region.lexB, Bool.and_eq_true] at hB2
  refine wpIn_region_any hm (any_inRound hro hnd _ _ _ _ ?_)
  refine wpAnyIn_of_quiet (C := fun w' => ∃ n, w' = w.drewN n) (Q := fun a' => ∀ w', (∃ n, w' = w.drewN n) → Q .normal a' w') hro (fun _ w' hw' h => h w' hw') _ _ _ _ ⟨1, rfl⟩ ?_
  have := wpAnyQIn_lex (F := F) (n := n) (C := fun w' => ∃ n, w' = w.drewN n) (md := .any) hB2.1 l.toArray.toList 0 (Array.replicate l.toArray.size false) a (by simp) (by simpa using hB2.2) h
  simpa using this
end Go.Proofs.Ytlmpeddacadfkaa
