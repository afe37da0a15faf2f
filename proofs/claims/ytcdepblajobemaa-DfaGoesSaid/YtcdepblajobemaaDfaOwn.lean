/- Dfa: lists of one's own: small laws. -/
import Derived.Test.YtcdepblajobemaaDfaBuild1
import Derived.Deep.AppendLies
set_option maxRecDepth 100000
namespace Go.Proofs.Ytcdepblajobemaa
open Go.RowKit

theorem Try.info3 : (Try.prog.info? 3).map (fun i => (i.zero, i.size, i.bytes)) = some (some (.int .i64 0), 1, 8) := by kernel_rfl
theorem Try.info4 : (Try.prog.info? 4).map (fun i => (i.zero, i.size, i.bytes)) = some (some (.bool false), 1, 1) := by kernel_rfl
theorem Try.info43 : (Try.prog.info? 43).map (fun i => (i.zero, i.size, i.bytes)) = some (some (.slice none 0 0), 1, 24) := by kernel_rfl
def tv01 (x : Bool) : Value := .bool x
def iv (x : Int) : Value := .int .i64 x
theorem own_blk' {w : World} {Z e n k : Nat} {v : Value} {xs : List Value} (h : w.ownsRow Z e 1 v n xs) (hk : v.ownBlock = some k) : ∃ cur, w.heap[k]? = some (.cells cur e (0, 0)) := by
  rcases h.2 with ⟨rfl, _⟩ | ⟨g', cap', cur, rfl, _, hg, _⟩
  · simp [Value.ownBlock] at hk
  · simp only [Value.ownBlock, Option.some.injEq] at hk
    subst hk
    exact ⟨cur, hg⟩
theorem own_val {w : World} {Z e n : Nat} {v : Value} {xs : List Value} (h : w.ownsRow Z e 1 v n xs) : ∃ a cap, v = .slice a n cap := by
  rcases h.2 with ⟨rfl, h0⟩ | ⟨g, cap, cur, rfl, _⟩
  · exact ⟨none, 0, by rw [h0]⟩
  · exact ⟨_, _, rfl⟩
theorem own_cell {w : World} {Z e n : Nat} {v : Value} {xs : List Value} (h : w.ownsRow Z e 1 v n xs) (k : Nat) (hk : k < n) : ∃ g cap, v = .slice (some ⟨g, 0, none⟩) n cap ∧ n ≤ cap ∧ w.cell? ⟨g, k, none⟩ = xs[k]? := by
  rcases h.2 with ⟨_, h0⟩ | ⟨g, cap, cur, rfl, hb, hg, hc, _⟩
  · omega
  · exact ⟨g, cap, rfl, hc, h.cellAt k (by omega)⟩
theorem own_off {w : World} {Z e n p : Nat} {e' : TypeId} {v : Value} {xs : List Value} {c : Array Value} {fr : Nat × Nat} (h : w.ownsRow Z e 1 v n xs) (hb : w.heap[p]? = some (.cells c e' fr)) (he : e ≠ e') : v.ownBlock = none ∨ v.ownBlock ≠ some p := by
  rcases hv : v.ownBlock with _ | k
  · exact Or.inl rfl
  · right
    intro e2
    obtain rfl : k = p := Option.some.inj e2
    obtain ⟨c', hc⟩ := own_blk' h hv
    rw [hc] at hb
    simp only [Option.some.injEq, Obj.cells.injEq] at hb
    exact he hb.2.1
theorem own_off' {w : World} {Z e n p : Nat} {e' : TypeId} {v : Value} {xs : List Value} {c : Array Value} {fr : Nat × Nat} (h : w.ownsRow Z e 1 v n xs) (hb : w.heap[p]? = some (.cells c e' fr)) (he : e ≠ e') : v.ownBlock ≠ some p := by
  rcases own_off h hb he with e1 | e1
  · rw [e1]; exact fun e2 => by cases e2
  · exact e1
theorem own_apart {w : World} {Z Z' e e' n m : Nat} {v u : Value} {xs ys : List Value} (h : w.ownsRow Z e 1 v n xs) (h2 : w.ownsRow Z' e' 1 u m ys) (he : e ≠ e') : u.ownBlock = none ∨ u.ownBlock ≠ v.ownBlock := by
  rcases hu : u.ownBlock with _ | k
  · exact Or.inl rfl
  · right
    intro e2
    obtain ⟨c, hc⟩ := own_blk' h2 hu
    rcases own_off h hc he with h0 | h0
    · rw [h0] at e2; cases e2
    · exact h0 e2.symm
theorem own_base {w : World} {Z Z' e n : Nat} {v : Value} {xs : List Value} (h : w.ownsRow Z e 1 v n xs) (hz : Z' ≤ Z) : w.ownsRow Z' e 1 v n xs := by
  refine ⟨h.1, ?_⟩
  rcases h.2 with h2 | ⟨g, cap, cur, hv, hb, rest⟩
  · exact Or.inl h2
  · exact Or.inr ⟨g, cap, cur, hv, by omega, rest⟩
theorem gb_set {w : World} {a : Addr} {v : Value} : w.grownBy (w.setCell a v) (some a.block) :=
  ⟨rfl, rfl, rfl, by simp [World.setCell], fun _ _ hk => Below.heap_setCell _ _ _ _ (fun e => hk (by rw [e]))⟩
/-- Two slices lie apart. -/
def Sep (v v' : Value) : Prop := ∀ b, v.ownBlock = some b → v'.ownBlock ≠ some b
theorem Sep.symm {v v' : Value} (h : Sep v v') : Sep v' v := fun b hb e => h b e hb
theorem Sep.off {v v' : Value} {b : Nat} (h : Sep v v') (hb : v.ownBlock = some b) : v'.ownBlock = none ∨ v'.ownBlock ≠ some b := Or.inr (h b hb)
theorem Sep.off' {v v' : Value} (h : Sep v v') : v'.ownBlock = none ∨ v'.ownBlock ≠ v.ownBlock := by
  rcases hv : v'.ownBlock with _ | b
  · exact Or.inl rfl
  · exact Or.inr fun e => h b e.symm hv
end Go.Proofs.Ytcdepblajobemaa
