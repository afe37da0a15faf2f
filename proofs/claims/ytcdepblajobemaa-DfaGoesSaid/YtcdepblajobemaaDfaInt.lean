/- Dfa: Intern, as Build wants it. -/
import Derived.Test.YtcdepblajobemaaDfaBuildF
import Derived.Test.YtcdepblajobemaaBitsTabForms
set_option maxRecDepth 100000
namespace Go.Proofs.Ytcdepblajobemaa
open Go.RowKit

/-- The place of a row. -/
def idxF (Ls : List (List Nat)) (L : List Nat) : Nat := if L ∈ Ls then Ls.idxOf L else Ls.length
def InternR (w : World) (p mb : Nat) (v : Value) (n : Nat) (es : List Ent) (L : List Nat) (e : Ending) (w' : World) : Prop :=
  ∃ v' es' b, e = .returned (.tuple #[.int .i64 (idxF (rowsOf es) L : Int), .bool b]) ∧ TableAt w' p mb v' n es' ∧ Hid (rowsOf es' = addR (rowsOf es) L) ∧
    (∀ k, v'.ownBlock = some k → v.ownBlock = some k ∨ w.heap.size ≤ k) ∧ Fr (Own3 p mb v) w w'
theorem intern_row (p mb n q g cap : Nat) (v : Value) (es : List Ent) (L : List Nat) (w : World) (h : TableAt w p mb v n es) (hs : SetAt w q g cap n L) (hb : es.length ≤ 1000000) :
    Calls Try.prog 53 #[.pointer (some ⟨p, 0, none⟩), .pointer (some ⟨q, 0, none⟩)] w (InternR w p mb v n es L) := by
  by_cases hL : L ∈ rowsOf es
  · refine (intern_old p mb n q g cap v es L w h hs hb hL).mono ?_
    rintro e w' ⟨rfl, hg⟩
    refine ⟨v, es, false, ?_, h.kept_none hg, Lib.hid ?_, fun k hk => Or.inl hk, Fr.of_none hg⟩
    · unfold findF idxF
      rw [if_pos hL, if_pos hL]
    · unfold addR
      rw [if_pos hL]
  · refine (intern_new p mb n q g cap v es L w h hs hb hL).mono ?_
    rintro e w' ⟨v', p', g', cap', rfl, ht, _, _, hv, hf⟩
    refine ⟨v', _, true, ?_, ht, Lib.hid ?_, hv, hf⟩
    · unfold idxF
      rw [if_neg hL]
      simp [rowsOf]
    · unfold addR
      rw [if_neg hL]
      simp [rowsOf]
end Go.Proofs.Ytcdepblajobemaa
