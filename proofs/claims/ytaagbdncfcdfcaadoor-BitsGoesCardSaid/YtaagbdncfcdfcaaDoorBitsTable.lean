/- Bits: tables. -/
import Derived.Test.YtaagbdncfcdfcaaDoorBitsFrame
namespace Go.Proofs.YtaagbdncfcdfcaaDoor
open Go.RowKit

abbrev Ent := Nat × Nat × Nat × List Nat
def rowsOf (es : List Ent) : List (List Nat) := es.map (·.2.2.2)
def ptrs (es : List Ent) : List Value := es.map fun e => .pointer (some ⟨e.1, 0, none⟩)
abbrev ownsBy (w : World) (mb n : Nat) (D : DataW Unit) : Prop := w.ownsMap Tryd.prog 9 (plainElem Tryd.prog 3) mb n D

structure TableAt (w : World) (p mb : Nat) (v : Value) (n : Nat) (es : List Ent) : Prop where
  blk : w.heap[p]? = some (.cells #[.int .i64 (n : Int), .map (some mb), v] 69 (0, 0))
  map : ∃ D, ownsBy w mb es.length D ∧ IdxMap n (rowsOf es) D
  row : w.ownsRow 0 23 1 v es.length (ptrs es)
  sets : ∀ e ∈ es, SetAt w e.1 e.2.1 e.2.2.1 n e.2.2.2
  nodup : (rowsOf es).Nodup
  max : n ≤ 65536

/-- The blocks of the table itself. -/
def Own3 (p mb : Nat) (v : Value) (k : Nat) : Prop := k = p ∨ k = mb ∨ v.ownBlock = some k

namespace TableAt
variable {w w' : World} {p mb n : Nat} {v : Value} {es : List Ent}
theorem lt (h : TableAt w p mb v n es) : p < w.heap.size := (Array.getElem?_eq_some_iff.1 h.blk).1
theorem mlt (h : TableAt w p mb v n es) : mb < w.heap.size := by obtain ⟨D, hD, _⟩ := h.map; exact hD.lt
theorem cell0 (h : TableAt w p mb v n es) : w.cell? ⟨p, 0, none⟩ = some (.int .i64 (n : Int)) := by simp [World.cell?, h.blk]
theorem cell1 (h : TableAt w p mb v n es) : w.cell? ⟨p, 1, none⟩ = some (.map (some mb)) := by simp [World.cell?, h.blk]
theorem cell2 (h : TableAt w p mb v n es) : w.cell? ⟨p, 2, none⟩ = some v := by simp [World.cell?, h.blk]
theorem frozen (h : TableAt w p mb v n es) (k : Nat) : w.frozen? ⟨p, k, none⟩ = false := by simp [World.frozen?, h.blk]
theorem good (h : TableAt w p mb v n es) : ∀ L ∈ rowsOf es, Good n L := by
  intro L hL
  obtain ⟨e, he, rfl⟩ := List.mem_map.1 hL
  exact (h.sets e he).good
/-- A block of cells of another type is none of the table's own. -/
theorem foreign (h : TableAt w p mb v n es) {k : Nat} {cs : Array Value} {t : TypeId} {fz : Nat × Nat} (hk : w.heap[k]? = some (.cells cs t fz)) (h1 : t ≠ 69) (h2 : t ≠ 23) : ¬ Own3 p mb v k := by
  rintro (rfl | rfl | hv)
  · rw [h.blk] at hk
    simp only [Option.some.injEq, Obj.cells.injEq] at hk
    exact h1 hk.2.1.symm
  · obtain ⟨D, ⟨es', clock, hb, _⟩, _⟩ := h.map
    rw [hb] at hk
    simp at hk
  · rcases h.row.2 with ⟨rfl, _⟩ | ⟨g, cap, cur, rfl, _, hg, _⟩
    · simp [Value.ownBlock] at hv
    · simp only [Value.ownBlock, Option.some.injEq] at hv
      subst hv
      rw [hg] at hk
      simp only [Option.some.injEq, Obj.cells.injEq] at hk
      exact h2 hk.2.1.symm
theorem notSet (h : TableAt w p mb v n es) {q g cap m : Nat} {L : List Nat} (hs : RawAt w q g cap m L) : ¬ Own3 p mb v q ∧ ¬ Own3 p mb v g := by
  obtain ⟨cur, hc⟩ := hs.gblk
  exact ⟨h.foreign hs.blk (by decide) (by decide), h.foreign hc (by decide) (by decide)⟩
theorem pm (h : TableAt w p mb v n es) : p ≠ mb := by
  rintro rfl
  obtain ⟨D, ⟨es', clock, hb, _⟩, _⟩ := h.map
  rw [h.blk] at hb
  simp at hb
theorem vm (h : TableAt w p mb v n es) : v.ownBlock ≠ some mb := by
  intro hv
  obtain ⟨D, ⟨es', clock, hb, _⟩, _⟩ := h.map
  rcases h.row.2 with ⟨rfl, _⟩ | ⟨g, cap, cur, rfl, _, hg, _⟩
  · simp [Value.ownBlock] at hv
  · simp only [Value.ownBlock, Option.some.injEq] at hv
    subst hv
    rw [hg] at hb
    simp at hb
theorem vp (h : TableAt w p mb v n es) : v.ownBlock ≠ some p := by
  intro hv
  have hb := h.blk
  rcases h.row.2 with ⟨rfl, _⟩ | ⟨g, cap, cur, rfl, _, hg, _⟩
  · simp [Value.ownBlock] at hv
  · simp only [Value.ownBlock, Option.some.injEq] at hv
    subst hv
    rw [hg] at hb
    simp at hb
/-- The table stays while others are written. -/
theorem kept {S : Nat → Prop} (h : TableAt w p mb v n es) (hf : Fr S w w') (h1 : ∀ k, Own3 p mb v k → ¬ S k) (h2 : ∀ e ∈ es, ¬ S e.1 ∧ ¬ S e.2.1) : TableAt w' p mb v n es := by
  refine ⟨by rw [hf.block p h.lt (h1 p (Or.inl rfl))]; exact h.blk, ?_, hf.row h.row (fun k hk => h1 k (Or.inr (Or.inr hk))), fun e he => hf.set (h.sets e he) (h2 e he).1 (h2 e he).2, h.nodup, h.max⟩
  obtain ⟨D, hD, hI⟩ := h.map
  exact ⟨D, hf.map hD (h1 mb (Or.inr (Or.inl rfl))), hI⟩
theorem kept_none (h : TableAt w p mb v n es) (hf : w.grownBy w' none) : TableAt w' p mb v n es :=
  h.kept (S := fun _ => False) (Fr.of_none hf) (fun _ _ h => h) (fun _ _ => ⟨fun h => h, fun h => h⟩)
theorem val (h : TableAt w p mb v n es) : ∃ a cap, v = .slice a es.length cap := by
  rcases h.row.2 with ⟨rfl, h0⟩ | ⟨g, cap, cur, rfl, _⟩
  · exact ⟨none, 0, by rw [h0]⟩
  · exact ⟨_, _, rfl⟩
end TableAt

theorem strKeyed : Maps.Keyed Tryd.prog 9 := Maps.string_keyed Tryd.underlying9
theorem Tryd.zeroValue3 (w : World) : (zeroValue 3).run Tryd.prog w = .ok (.int .i64 0) w := by kernel_rfl

theorem keyOf_set {n : Nat} (h : n ≤ 65536) (L : List Nat) : keyOf Tryd.prog 9 (.string (keyS n L)) = some (litOf n L) := by
  have h2 : (keyS n L).size ≤ maxLen := by
    have : (keyS n L).size = (n + 7) / 8 := by simp [keyS, keyL, ByteArray.size]
    rw [this]; unfold maxLen; omega
  rw [WideMaps.keyOf_string_mk Tryd.underlying9 h2]
  simp [litOf, keyS]

def MadeTable (w : World) (n : Nat) (e : Ending) (w' : World) : Prop :=
  ∃ p mb, e = .returned (.pointer (some ⟨p, 0, none⟩)) ∧ w.heap.size ≤ p ∧ w.heap.size ≤ mb ∧ TableAt w' p mb (.slice none 0 0) n [] ∧ w.grownBy w' none

set_option maxHeartbeats 400000 in
theorem newtable_any (n : Nat) (w : World) (h : n ≤ 65536) : Calls Tryd.prog 10 #[.int .i64 (n : Int)] w (MadeTable w n) := by
  have hmm := @run_makeMap Tryd.prog
  go_enter Tryd.func10, Tryd.ntmps10
  go_wp2
  go_ret
  refine ⟨w.heap.size + 1, w.heap.size, by simp, by omega, Nat.le_refl _, ⟨?_, ⟨.map [], ?_, IdxMap.none n⟩, World.ownsRow_nil _ _ _ _, by simp, by simp [rowsOf], h⟩, gb_trans (World.grownBy_alloc _ _ none) (World.grownBy_alloc _ _ none) (Or.inl rfl)⟩
  · have := heap_alloc_new (w.alloc (.map #[] 0)) (.cells #[.int .i64 (n : Int), .map (some w.heap.size), .slice none 0 0] 69)
    rw [World.size_alloc] at this
    exact this
  · exact (World.ownsMap_made w _ _ _).alloc _

set_option maxHeartbeats 400000 in
theorem tlen_any (p mb n : Nat) (v : Value) (es : List Ent) (w : World) (h : TableAt w p mb v n es) :
    Calls Tryd.prog 54 #[.pointer (some ⟨p, 0, none⟩)] w fun e w' => e = .returned (.int .i64 (es.length : Int)) ∧ w = w' := by
  obtain ⟨a, cap, rfl⟩ := h.val
  have h2 := h.cell2
  go_enter Tryd.func54, Tryd.ntmps54
  go_wp2
  go_ret
  exact ⟨rfl, rfl⟩

set_option maxHeartbeats 400000 in
theorem at_none (i : Int) (p mb n : Nat) (v : Value) (es : List Ent) (w : World) (h : TableAt w p mb v n es) (hi : i < 0 ∨ es.length ≤ i) (hb : es.length ≤ 1000000) :
    Calls Tryd.prog 25 #[.pointer (some ⟨p, 0, none⟩), .int .i64 i] w fun e w' => e = .returned (.pointer none) ∧ w = w' := by
  obtain ⟨a, cap, rfl⟩ := h.val
  have h2 := h.cell2
  rcases hi with hi | hi
  · go_enter Tryd.func25, Tryd.ntmps25
    go_wp2
    go_ret
    exact ⟨rfl, rfl⟩
  · have h0 : ¬ i < 0 := by omega
    go_enter Tryd.func25, Tryd.ntmps25
    go_wp2
    go_ret
    exact ⟨rfl, rfl⟩

set_option maxHeartbeats 400000 in
theorem at_some (i : Nat) (p mb n : Nat) (v : Value) (es : List Ent) (x : Ent) (w : World) (h : TableAt w p mb v n es) (hi : es[i]? = some x) (_hb : es.length ≤ 1000000) :
    Calls Tryd.prog 25 #[.pointer (some ⟨p, 0, none⟩), .int .i64 (i : Int)] w (MadeH w n x.2.2.2) := by
  have hlt := (List.getElem?_eq_some_iff.1 hi).1
  have hx := h.sets x (List.mem_of_getElem? hi)
  have h2 := h.cell2
  obtain ⟨g, cap, cur, rfl, hc⟩ : ∃ g cap cur, v = .slice (some ⟨g, 0, none⟩) es.length cap ∧ w.cell? ⟨g, i, none⟩ = some cur := by
    rcases h.row.2 with ⟨_, h0⟩ | ⟨g, cap, cur, rfl, _⟩
    · omega
    · exact ⟨g, cap, _, rfl, (h.row.cellAt i (by omega)).trans (by simp [ptrs, hi]; rfl)⟩
  have hc2 : w.cell? ⟨g, i, none⟩ = some (.pointer (some ⟨x.1, 0, none⟩)) := (h.row.cellAt i (by omega)).trans (by simp [ptrs, hi])
  clear hc
  go_enter Tryd.func25, Tryd.ntmps25
  go_wp2_with (go_at_call 33; refine (copy_h hx).mono ?_; rintro e w' ⟨q, g', c', M, rfl, r1, r2, r3, r4, r5⟩)
  go_ret
  exact ⟨q, g', c', M, rfl, r1, r2, r3, r4, r5⟩
end Go.Proofs.YtaagbdncfcdfcaaDoor
