/- Bits: the document's sets: a row of yes and no; Of, All. -/
import Derived.Test.YtaagbdncfcdfcaaDoorBitsKnown
import Derived.Test.YtaagbdncfcdfcaaDoorBitsRise
import Derived.Deep.AppendLies
namespace Go.Proofs.YtaagbdncfcdfcaaDoor
open Go.RowKit

def tv01 (x : Bool) : Value := .bool x
def ni (x : Nat) : Int := (x : Int)
theorem Tryd.info4 : (Tryd.prog.info? 4).map (fun i => (i.zero, i.size, i.bytes)) = some (some (.bool false), 1, 1) := by kernel_rfl
theorem bools_made {w0 : World} {Z g n : Nat} (h : w0.ownsRow Z 4 1 (.slice (some ⟨g, 0, none⟩) n n) n (madeCells (Value.bool false).cells (n * 1)).toList) :
    w0.ownsRow Z 4 1 (.slice (some ⟨g, 0, none⟩) n n) n ((List.replicate n false).map tv01) := by
  have hz : (madeCells (Value.bool false).cells (n * 1)).toList = (List.replicate n false).map tv01 := by
    rw [Nat.mul_one, show (Value.bool false).cells = #[Value.bool false] from rfl, toList_madeCells_one, List.map_replicate]; rfl
  rwa [hz] at h
theorem own_blk' {w : World} {Z e n k : Nat} {v : Value} {xs : List Value} (h : w.ownsRow Z e 1 v n xs) (hk : v.ownBlock = some k) : ∃ cur, w.heap[k]? = some (.cells cur e (0, 0)) := by
  rcases h.2 with ⟨rfl, _⟩ | ⟨g', cap', cur, rfl, _, hg, _⟩
  · simp [Value.ownBlock] at hk
  · simp only [Value.ownBlock, Option.some.injEq] at hk
    subst hk
    exact ⟨cur, hg⟩
theorem own_val {w : World} {Z e n : Nat} {v : Value} {xs : List Value} (h : w.ownsRow Z e 1 v n xs) : ∃ a cap, v = .slice a n cap := by
  rcases h.2 with ⟨rfl, h0⟩ | ⟨g, cap, cur, rfl, _⟩
  · exact ⟨none, 0, by rw [h0]⟩
  · exact ⟨_, _, rfl⟩
theorem own_cell {w : World} {Z e n : Nat} {v : Value} {xs : List Value} (h : w.ownsRow Z e 1 v n xs) (k : Nat) (hk : k < n) : ∃ g cap, v = .slice (some ⟨g, 0, none⟩) n cap ∧ n ≤ cap ∧ w.cell? ⟨g, k, none⟩ = xs[k]? := by
  rcases h.2 with ⟨_, h0⟩ | ⟨g, cap, cur, rfl, hb, hg, hc, _⟩
  · omega
  · exact ⟨g, cap, rfl, hc, h.cellAt k (by omega)⟩
theorem own_off {w : World} {Z e n p : Nat} {e' : TypeId} {v : Value} {xs : List Value} {c : Array Value} {fr : Nat × Nat} (h : w.ownsRow Z e 1 v n xs) (hb : w.heap[p]? = some (.cells c e' fr)) (he : e ≠ e') : v.ownBlock = none ∨ v.ownBlock ≠ some p := by
  rcases hv : v.ownBlock with _ | k
  · exact Or.inl rfl
  · right
    intro e2
    obtain rfl : k = p := Option.some.inj e2
    obtain ⟨c', hc⟩ := own_blk' h hv
    rw [hc] at hb
    simp only [Option.some.injEq, Obj.cells.injEq] at hb
    exact he hb.2.1
theorem own_same {w w' : World} {Z e n : Nat} {v : Value} {xs : List Value} (h : w.ownsRow Z e 1 v n xs) (hb : ∀ k, v.ownBlock = some k → w'.heap[k]? = w.heap[k]?) : w'.ownsRow Z e 1 v n xs := by
  refine ⟨h.1, ?_⟩
  rcases h.2 with h2 | ⟨g, cap, cur, rfl, hz, hg, rest⟩
  · exact Or.inl h2
  · exact Or.inr ⟨g, cap, cur, rfl, hz, (hb g rfl).trans hg, rest⟩
theorem gb_set {w : World} {a : Addr} {v : Value} : w.grownBy (w.setCell a v) (some a.block) :=
  ⟨rfl, rfl, rfl, by simp [World.setCell], fun _ _ hk => Below.heap_setCell _ _ _ _ (fun e => hk (by rw [e]))⟩

/-- The document's set in block q: its row of its own. -/
structure RSet (w : World) (Z q : Nat) (v : Value) (B : List Bool) : Prop where
  blk : w.heap[q]? = some (.cells #[v] 75 (0, 0))
  row : w.ownsRow Z 4 1 v B.length (B.map tv01)
  old : Z ≤ q
namespace RSet
variable {w w' : World} {Z q : Nat} {v : Value} {B : List Bool}
theorem lt (h : RSet w Z q v B) : q < w.heap.size := (Array.getElem?_eq_some_iff.1 h.blk).1
theorem cell0 (h : RSet w Z q v B) : w.cell? ⟨q, 0, none⟩ = some v := by simp [World.cell?, h.blk]
theorem kept (h : RSet w Z q v B) (hg : w.grownBy w' none) : RSet w' Z q v B :=
  ⟨by rw [hg.block q h.lt (by simp)]; exact h.blk, h.row.kept hg (Classical.em _), h.old⟩
theorem cell (h : RSet w Z q v B) (k : Nat) (hk : k < B.length) : ∃ g cap, v = .slice (some ⟨g, 0, none⟩) B.length cap ∧ w.cell? ⟨g, k, none⟩ = some (.bool (B.getD k false)) ∧ w.frozen? ⟨g, k, none⟩ = false := by
  obtain ⟨g, cap, rfl, _, hc⟩ := own_cell h.row k hk
  refine ⟨g, cap, rfl, ?_, h.row.frozenAt k⟩
  rw [hc, List.getElem?_map, List.getElem?_eq_getElem hk, List.getD_eq_getElem?_getD, List.getElem?_eq_getElem hk]
  rfl
theorem put {g cap : Nat} (h : RSet w Z q (.slice (some ⟨g, 0, none⟩) B.length cap) B) (k : Nat) (x : Bool) : RSet (w.setCell ⟨g, k, none⟩ (.bool x)) Z q (.slice (some ⟨g, 0, none⟩) B.length cap) (B.set k x) ∧ w.grownBy (w.setCell ⟨g, k, none⟩ (.bool x)) (some g) ∧ Z ≤ g := by
  have hs := h.row.stored k (.bool x)
  refine ⟨⟨?_, ?_, h.old⟩, hs.2, (h.row.lt g rfl).1⟩
  · rw [hs.2.block q h.lt (fun e => ?_)]
    · exact h.blk
    · rcases own_off h.row h.blk (by decide) with e2 | e2
      · cases e2
      · exact e2 e.symm
  · rw [List.length_set, List.map_set]
    exact hs.1
end RSet
end Go.Proofs.YtaagbdncfcdfcaaDoor
