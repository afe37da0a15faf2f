/- Frames: what has not turned but in some blocks. -/
import Derived.Test.YtaagbdncfcdfcaaDoorBitsForms
import Derived.Maps.OwnSet
namespace Go.Proofs.YtaagbdncfcdfcaaDoor
open Go.RowKit

/-- But in the blocks of S nothing that was there has turned. -/
structure Fr (S : Nat → Prop) (w w' : World) : Prop where
  os : w'.os = w.os
  tape : w'.tape = w.tape
  output : w'.output = w.output
  size : w.heap.size ≤ w'.heap.size
  block : ∀ k, k < w.heap.size → ¬ S k → w'.heap[k]? = w.heap[k]?

namespace Fr
variable {S T : Nat → Prop} {a b c w w' : World}
theorem refl (S : Nat → Prop) (w : World) : Fr S w w := ⟨rfl, rfl, rfl, Nat.le_refl _, fun _ _ _ => rfl⟩
theorem of_gb {r : Option Nat} (h : a.grownBy b r) (hS : ∀ k, r = some k → S k) : Fr S a b :=
  ⟨h.os, h.tape, h.output, h.size, fun k hk hn => h.block k hk (fun e => hn (hS k e.symm))⟩
theorem of_none (h : a.grownBy b none) : Fr S a b := of_gb h (fun _ e => by cases e)
theorem trans (h : Fr S a b) (k : Fr T b c) (hT : ∀ x, T x → S x ∨ a.heap.size ≤ x) : Fr S a c :=
  ⟨k.os.trans h.os, k.tape.trans h.tape, k.output.trans h.output, Nat.le_trans h.size k.size, fun i hi hn => by
    rw [k.block i (Nat.lt_of_lt_of_le hi h.size) (fun e => by
      rcases hT i e with h' | h'
      · exact hn h'
      · omega)]
    exact h.block i hi hn⟩
theorem mono (h : Fr S a b) (hS : ∀ k, k < a.heap.size → S k → T k) : Fr T a b :=
  ⟨h.os, h.tape, h.output, h.size, fun k hk hn => h.block k hk (fun e => hn (hS k hk e))⟩
theorem below {B : Nat} (h : Fr S a b) (hS : ∀ k, S k → B ≤ k) (hB : B ≤ a.heap.size) : Below B a b :=
  ⟨h.os, h.tape, h.output, h.size, fun k hk => h.block k (by omega) (fun e => by have := hS k e; omega)⟩
theorem cell (h : Fr S w w') {p : Addr} {v : Value} (hc : w.cell? p = some v) (hn : ¬ S p.block) : w'.cell? p = some v :=
  (World.cell?_of_block (w := w) (h.block p.block (World.block_lt_of_cell? w p hc) hn)).trans hc
theorem row {base : Nat} {e : TypeId} {size n : Nat} {v : Value} {xs : List Value} (h : Fr S w w') (ho : w.ownsRow base e size v n xs) (hn : ∀ k, v.ownBlock = some k → ¬ S k) : w'.ownsRow base e size v n xs := by
  refine ⟨ho.1, ?_⟩
  rcases ho.2 with h1 | ⟨g, cap, cur, rfl, hb, hgg, rest⟩
  · exact Or.inl h1
  · refine Or.inr ⟨g, cap, cur, rfl, hb, ?_, rest⟩
    rw [h.block g (Array.getElem?_eq_some_iff.1 hgg).1 (hn g rfl)]
    exact hgg
theorem raw {p g cap n : Nat} {L : List Nat} (h : Fr S w w') (hs : RawAt w p g cap n L) (h1 : ¬ S p) (h2 : ¬ S g) : RawAt w' p g cap n L :=
  ⟨by rw [h.block p hs.lt h1]; exact hs.blk, h.row hs.row (fun k e => by cases e; exact h2), hs.len, hs.max, hs.wd⟩
theorem set {p g cap n : Nat} {L : List Nat} (h : Fr S w w') (hs : SetAt w p g cap n L) (h1 : ¬ S p) (h2 : ¬ S g) : SetAt w' p g cap n L := ⟨h.raw hs.raw h1 h2, hs.good⟩
theorem map {P : Program} {k : TypeId} {R : Value → Option (DataW Unit × List MemPlace)} {b n : Nat} {D : DataW Unit} (h : Fr S w w') (ho : w.ownsMap P k R b n D) (hn : ¬ S b) : w'.ownsMap P k R b n D := by
  have hlt := ho.lt
  obtain ⟨es, clock, hb, F, hs, hD⟩ := ho
  exact ⟨es, clock, (h.block b hlt hn).trans hb, F, hs, hD⟩
end Fr

/-! ### Tables -/
def litOf (n : Nat) (L : List Nat) : Lit := .string ((keyL n L).map UInt8.ofNat)
theorem litOf_inj {n : Nat} {L M : List Nat} (g : Good n L) (h : Good n M) (e : litOf n L = litOf n M) : L = M := by
  apply keyS_inj g h
  simp only [litOf, Lit.string.injEq] at e
  simp [keyS, e]
theorem isKey (n : Nat) (L : List Nat) : WideAt.IsKeyLit (litOf n L) := trivial

structure IdxMap (n : Nat) (Ls : List (List Nat)) (D : DataW Unit) : Prop where
  isMap : Maps.IsMap D
  hit : ∀ (i : Nat) (L : List Nat), Ls[i]? = some L → (∀ z, D.atKey (litOf n L) z = .lit (.int .i64 (i : Int))) ∧ Maps.has D (litOf n L) = true
  miss : ∀ L, Good n L → L ∉ Ls → Maps.has D (litOf n L) = false

theorem IdxMap.none (n : Nat) : IdxMap n [] (.map [] : DataW Unit) := ⟨⟨[], rfl⟩, fun i L h => by simp at h, fun L _ _ => rfl⟩
theorem IdxMap.put {n : Nat} {Ls : List (List Nat)} {D : DataW Unit} (h : IdxMap n Ls D) (hg : ∀ L ∈ Ls, Good n L) {L : List Nat} (g : Good n L) (hL : L ∉ Ls) :
    IdxMap n (Ls ++ [L]) (D.put (litOf n L) (.lit (.int .i64 (Ls.length : Int)))) := by
  refine ⟨h.isMap.put _ _, fun i M hM => ?_, fun M gM hM => ?_⟩
  · rw [List.getElem?_append] at hM
    by_cases hi : i < Ls.length
    · rw [if_pos hi] at hM
      have hmem : M ∈ Ls := List.mem_of_getElem? hM
      have hne : litOf n M ≠ litOf n L := fun e => hL (litOf_inj (hg M hmem) g e ▸ hmem)
      refine ⟨fun z => ?_, ?_⟩
      · rw [Maps.atKey_put_other hne]; exact (h.hit i M hM).1 z
      · rw [Maps.has_put_other hne]; exact (h.hit i M hM).2
    · rw [if_neg hi] at hM
      have hi2 : i = Ls.length := by
        have := (List.getElem?_eq_some_iff.1 hM).1
        simp at this
        omega
      subst hi2
      simp at hM
      subst hM
      exact ⟨fun z => Maps.atKey_put_same h.isMap (isKey n L) _ z, Maps.has_put_same h.isMap (isKey n L) _⟩
  · simp at hM
    have hne : litOf n M ≠ litOf n L := fun e => hM.2 (litOf_inj gM g e)
    rw [Maps.has_put_other hne]
    exact h.miss M gM hM.1
end Go.Proofs.YtaagbdncfcdfcaaDoor
