/- Bits: the table's contracts as the laws meet them. -/
import Derived.Test.YtaagbdncfcdfcaaDoorBitsIntern
namespace Go.Proofs.YtaagbdncfcdfcaaDoor
open Go.RowKit

def InternP (w : World) (p mb : Nat) (v : Value) (n : Nat) (es : List Ent) (L : List Nat) (e : Ending) (w' : World) : Prop :=
  ∃ (v' : Value) (es' : List Ent) (i : Nat) (b : Bool) (x : Ent), e = .returned (.tuple #[.int .i64 (i : Int), .bool b]) ∧ TableAt w' p mb v' n es' ∧ es'[i]? = some x ∧ x.2.2.2 = L ∧ findF (rowsOf es') L = (i : Int) ∧
    b = decide (i = es.length) ∧ es'.length = max es.length (i + 1) ∧ i ≤ es.length ∧ (∀ y ∈ es', y ∈ es ∨ (w.heap.size ≤ y.1 ∧ w.heap.size ≤ y.2.1)) ∧
    (∀ k, v'.ownBlock = some k → v.ownBlock = some k ∨ w.heap.size ≤ k) ∧ Fr (Own3 p mb v) w w'

theorem intern_any (p mb n q g cap : Nat) (v : Value) (es : List Ent) (L : List Nat) (w : World) (h : TableAt w p mb v n es) (hs : SetAt w q g cap n L) (hb : es.length ≤ 1000000) :
    Calls Tryd.prog 29 #[.pointer (some ⟨p, 0, none⟩), .pointer (some ⟨q, 0, none⟩)] w (InternP w p mb v n es L) := by
  by_cases hL : L ∈ rowsOf es
  · refine (intern_old p mb n q g cap v es L w h hs hb hL).mono ?_
    rintro e w' ⟨rfl, hg⟩
    have hlt := List.idxOf_lt_length_iff.2 hL
    have hlt' : (rowsOf es).idxOf L < es.length := by simpa [rowsOf] using hlt
    have hf : findF (rowsOf es) L = ((rowsOf es).idxOf L : Int) := by unfold findF; rw [if_pos hL]
    have hx : (rowsOf es)[(rowsOf es).idxOf L]? = some L := by rw [List.getElem?_eq_getElem hlt, List.getElem_idxOf]
    generalize (rowsOf es).idxOf L = i at *
    have hx2 := hx
    rw [rowsOf, List.getElem?_map, Option.map_eq_some_iff] at hx2
    obtain ⟨x, hx3, hx4⟩ := hx2
    refine ⟨v, es, i, false, x, by rw [hf], h.kept_none hg, hx3, hx4, hf, ?_, ?_, by omega, fun y hy => Or.inl hy, fun k hk => Or.inl hk, Fr.of_none hg⟩
    · simp; omega
    · rw [Nat.max_eq_left (by exact hlt')]
  · refine (intern_new p mb n q g cap v es L w h hs hb hL).mono ?_
    rintro e w' ⟨v', p', g', c', rfl, hT, k1, k2, k3, k4⟩
    have hl : (rowsOf es).length = es.length := by simp [rowsOf]
    refine ⟨v', _, es.length, true, (p', g', c', L), rfl, hT, by simp, rfl, ?_, by simp, by simp, Nat.le_refl _, fun y hy => ?_, k3, k4⟩
    · have e1 : rowsOf (es ++ [(p', g', c', L)]) = rowsOf es ++ [L] := by simp [rowsOf]
      unfold findF
      rw [e1, if_pos (by simp), List.idxOf_append, if_neg hL, hl]
      simp
    · rcases List.mem_append.1 hy with hy | hy
      · exact Or.inl hy
      · simp at hy; subst hy; exact Or.inr ⟨k1, k2⟩

def cut1 (n : Nat) (L : List Nat) (i : Int) : List Nat := if 0 ≤ i ∧ i < n then cutL L i.toNat else L
theorem cut_any (i : Int) (p g cap n : Nat) (L : List Nat) (w : World) (h : SetAt w p g cap n L) :
    Calls Tryd.prog 16 #[.pointer (some ⟨p, 0, none⟩), .int .i64 i] w fun e w' => e = .returned (.tuple #[]) ∧ SetAt w' p g cap n (cut1 n L i) ∧ w.grownBy w' (some g) := by
  by_cases hi : 0 ≤ i ∧ i < n
  · obtain ⟨j, rfl⟩ := Int.eq_ofNat_of_zero_le hi.1
    have : cut1 n L (j : Int) = cutL L j := by unfold cut1; rw [if_pos hi, Int.toNat_natCast]
    rw [this]
    exact cut_yes j p g cap n L w h (by omega)
  · have : cut1 n L i = L := by unfold cut1; rw [if_neg hi]
    rw [this]
    refine (cut_no i p g cap n L w h (by omega)).mono ?_
    rintro e w' ⟨rfl, rfl⟩
    exact ⟨rfl, h, gb_refl _ _⟩

/-- A table all of whose blocks lie from Z on. -/
structure TabZ (Z : Nat) (w : World) (p mb : Nat) (v : Value) (n : Nat) (es : List Ent) : Prop where
  at' : TableAt w p mb v n es
  zp : Z ≤ p
  zm : Z ≤ mb
  zv : ∀ k, v.ownBlock = some k → Z ≤ k
  ze : ∀ e ∈ es, Z ≤ e.1 ∧ Z ≤ e.2.1

theorem TabZ.own {Z : Nat} {w : World} {p mb n : Nat} {v : Value} {es : List Ent} (h : TabZ Z w p mb v n es) : ∀ k, Own3 p mb v k → Z ≤ k := by
  rintro k (rfl | rfl | hk)
  · exact h.zp
  · exact h.zm
  · exact h.zv k hk
theorem TabZ.kept_none {Z : Nat} {w w' : World} {p mb n : Nat} {v : Value} {es : List Ent} (h : TabZ Z w p mb v n es) (hg : w.grownBy w' none) : TabZ Z w' p mb v n es :=
  ⟨h.at'.kept_none hg, h.zp, h.zm, h.zv, h.ze⟩
/-- A set beside the table is written. -/
theorem TabZ.kept_set {Z : Nat} {w w' : World} {p mb n q g cap m : Nat} {v : Value} {es : List Ent} {L : List Nat} (h : TabZ Z w p mb v n es) (hs : SetAt w q g cap m L) (hne : ∀ e ∈ es, e.2.1 ≠ g) (hg : w.grownBy w' (some g)) : TabZ Z w' p mb v n es :=
  ⟨h.at'.kept (S := (· = g)) (Fr.of_gb hg (fun k e => by cases e; rfl)) (fun k hk (e : k = g) => (h.at'.notSet hs.raw).2 (e ▸ hk)) (fun e he => ⟨fun (e1 : e.1 = g) => (h.at'.sets e he).raw.ne hs.raw e1, hne e he⟩), h.zp, h.zm, h.zv, h.ze⟩
theorem TabZ.glt {Z : Nat} {w : World} {p mb n : Nat} {v : Value} {es : List Ent} (h : TabZ Z w p mb v n es) : ∀ e ∈ es, e.2.1 < w.heap.size := fun e he => (h.at'.sets e he).glt

/-- Rows of whole numbers that came in. -/
def RowsAt (w : World) (v : Value) (R : List (List Int)) : Prop :=
  ∃ a cap, v = .slice a R.length cap ∧ R.length ≤ 17592186043904 ∧
    (R = [] ∨ ∃ b off, a = some ⟨b, off, none⟩ ∧ ∀ k, k < R.length → ∃ u, w.cell? ⟨b, off + k, none⟩ = some u ∧ IntsAt w u (R.getD k []))
theorem IntsAt.below {w w' : World} {v : Value} {A : List Int} (h : IntsAt w v A) (hb : Below w.heap.size w w') : IntsAt w' v A := by
  obtain ⟨a, cap, rfl, h1, h2, h3⟩ := h
  refine ⟨a, cap, rfl, h1, h2, ?_⟩
  rcases h3 with h3 | ⟨b, off, rfl, h3⟩
  · exact Or.inl h3
  · exact Or.inr ⟨b, off, rfl, fun k hk => (hb.cell (p := ⟨b, off + k, none⟩) (World.block_lt_of_cell? w _ (h3 k hk))).trans (h3 k hk)⟩
end Go.Proofs.YtaagbdncfcdfcaaDoor
