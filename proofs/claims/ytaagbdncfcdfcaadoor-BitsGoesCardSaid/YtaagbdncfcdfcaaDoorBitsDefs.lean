/- Bits: how a set of numbers lies in memory, and what follows of it at once. -/
import Derived.WalkKit
import Derived.Deep.RegionHeld3
import Derived.StillTailTactics
import Derived.BigQuiet
import Derived.Deep.QuietTactic
import Derived.Deep.RegionWith
import Derived.Handy
import Derived.Lib.Hide
import Derived.WalkSpells
import Derived.Test.YtaagbdncfcdfcaaDoorProg
import Derived.Test.YtaagbdncfcdfcaaDoorBitsPlain
namespace Go.Proofs.YtaagbdncfcdfcaaDoor
open Go.RowKit

/-- Words as values. -/
def wv (x : Nat) : Value := .int .u64 (x : Int)

structure RawAt (w : World) (p g cap n : Nat) (L : List Nat) : Prop where
  blk : w.heap[p]? = some (.cells #[.int .i64 (n : Int), .slice (some ⟨g, 0, none⟩) L.length cap] 66 (0, 0))
  row : w.ownsRow 0 77 1 (.slice (some ⟨g, 0, none⟩) L.length cap) L.length (L.map wv)
  len : L.length = (n + 63) / 64
  max : n ≤ 65536
  wd : ∀ k, L.getD k 0 < 18446744073709551616

namespace RawAt
variable {w w' : World} {p g cap n : Nat} {L : List Nat}

theorem lt (h : RawAt w p g cap n L) : p < w.heap.size := (Array.getElem?_eq_some_iff.1 h.blk).1
theorem glt (h : RawAt w p g cap n L) : g < w.heap.size := (h.row.lt g rfl).2
theorem cellN (h : RawAt w p g cap n L) : w.cell? ⟨p, 0, none⟩ = some (.int .i64 (n : Int)) := by simp [World.cell?, h.blk]
theorem cellW (h : RawAt w p g cap n L) : w.cell? ⟨p, 1, none⟩ = some (.slice (some ⟨g, 0, none⟩) L.length cap) := by simp [World.cell?, h.blk]
theorem cell (h : RawAt w p g cap n L) (k : Nat) (hk : k < L.length) : w.cell? ⟨g, k, none⟩ = some (.int .u64 ((L.getD k 0 : Nat) : Int)) := by
  rw [h.row.cellAt k (by omega)]
  simp [hk, wv]
theorem frozen (h : RawAt w p g cap n L) (k : Nat) : w.frozen? ⟨g, k, none⟩ = false := h.row.frozenAt k
theorem kept (h : RawAt w p g cap n L) {row : Option Nat} (hg : w.grownBy w' row) (h1 : row ≠ some p) (h2 : row ≠ some g) : RawAt w' p g cap n L :=
  ⟨by rw [hg.block p h.lt (fun e => h1 e.symm)]; exact h.blk, h.row.kept hg (Or.inr (fun e => h2 e.symm)), h.len, h.max, h.wd⟩
theorem gblk (h : RawAt w p g cap n L) : ∃ cur, w.heap[g]? = some (.cells cur 77 (0, 0)) := by
  rcases h.row.2 with ⟨h', _⟩ | ⟨g', cap', cur, h', _, hg, _⟩
  · simp at h'
  · simp only [Value.slice.injEq, Option.some.injEq, Addr.mk.injEq, and_true, true_and] at h'
    obtain ⟨rfl, rfl⟩ := h'
    exact ⟨cur, hg⟩
theorem ne {p' g' cap' n' : Nat} {L' : List Nat} (h : RawAt w p g cap n L) (h' : RawAt w p' g' cap' n' L') : p ≠ g' := by
  rintro rfl
  obtain ⟨cur, hc⟩ := h'.gblk
  have hb := h.blk
  rw [hc] at hb
  simp at hb
theorem stored (h : RawAt w p g cap n L) (k x : Nat) (hx : x < 18446744073709551616) : RawAt (w.setCell ⟨g, k, none⟩ (.int .u64 (x : Int))) p g cap n (L.set k x) ∧ w.grownBy (w.setCell ⟨g, k, none⟩ (.int .u64 (x : Int))) (some g) := by
  have hs := h.row.stored k (.int .u64 (x : Int))
  refine ⟨⟨?_, ?_, by simpa using h.len, h.max, fun j => ?_⟩, hs.2⟩
  · rw [hs.2.block p h.lt ?_]
    · simpa using h.blk
    · intro e
      exact h.ne h (Option.some.inj e)
  · have := hs.1
    rw [List.length_set]
    rw [List.map_set]
    exact this
  · by_cases hk : k < L.length
    · rw [getD_set _ _ _ _ hk]; split
      · exact hx
      · exact h.wd j
    · rw [List.set_eq_of_length_le (by omega)]; exact h.wd j
theorem drew (h : RawAt w p g cap n L) : RawAt w.drew p g cap n L := ⟨h.blk, h.row.drew, h.len, h.max, h.wd⟩
end RawAt

/-- A set of width n, whose words L are, in block p (its row in block g). -/
structure SetAt (w : World) (p g cap n : Nat) (L : List Nat) : Prop where
  raw : RawAt w p g cap n L
  good : Good n L

namespace SetAt
variable {w w' : World} {p g cap n : Nat} {L : List Nat}
theorem lt (h : SetAt w p g cap n L) : p < w.heap.size := h.raw.lt
theorem glt (h : SetAt w p g cap n L) : g < w.heap.size := h.raw.glt
theorem cellN (h : SetAt w p g cap n L) : w.cell? ⟨p, 0, none⟩ = some (.int .i64 (n : Int)) := h.raw.cellN
theorem cellW (h : SetAt w p g cap n L) : w.cell? ⟨p, 1, none⟩ = some (.slice (some ⟨g, 0, none⟩) L.length cap) := h.raw.cellW
theorem cell (h : SetAt w p g cap n L) (k : Nat) (hk : k < L.length) : w.cell? ⟨g, k, none⟩ = some (.int .u64 ((L.getD k 0 : Nat) : Int)) := h.raw.cell k hk
theorem frozen (h : SetAt w p g cap n L) (k : Nat) : w.frozen? ⟨g, k, none⟩ = false := h.raw.frozen k
theorem kept (h : SetAt w p g cap n L) {row : Option Nat} (hg : w.grownBy w' row) (h1 : row ≠ some p) (h2 : row ≠ some g) : SetAt w' p g cap n L := ⟨h.raw.kept hg h1 h2, h.good⟩
theorem len (h : SetAt w p g cap n L) : L.length = (n + 63) / 64 := h.good.len
theorem max (h : SetAt w p g cap n L) : n ≤ 65536 := h.good.max
theorem wd (h : SetAt w p g cap n L) (k : Nat) : L.getD k 0 < 18446744073709551616 := h.good.wd k
theorem drew (h : SetAt w p g cap n L) : SetAt w.drew p g cap n L := ⟨h.raw.drew, h.good⟩
theorem stored (h : SetAt w p g cap n L) (k x : Nat) (hx : x < 18446744073709551616) (hG : Good n (L.set k x)) : SetAt (w.setCell ⟨g, k, none⟩ (.int .u64 (x : Int))) p g cap n (L.set k x) ∧ w.grownBy (w.setCell ⟨g, k, none⟩ (.int .u64 (x : Int))) (some g) :=
  ⟨⟨(h.raw.stored k x hx).1, hG⟩, (h.raw.stored k x hx).2⟩
end SetAt

theorem gb_trans {a b c : World} {r s : Option Nat} (h : a.grownBy b r) (k : b.grownBy c s) (hr : s = none ∨ s = r ∨ ∃ x, s = some x ∧ a.heap.size ≤ x) : a.grownBy c r :=
  ⟨k.os.trans h.os, k.tape.trans h.tape, k.output.trans h.output, Nat.le_trans h.size k.size, fun i hi hne => by
    rw [k.block i (Nat.lt_of_lt_of_le hi h.size) (by
      rcases hr with rfl | rfl | ⟨x, rfl, hx⟩
      · simp
      · exact hne
      · intro e; have : i = x := Option.some.inj e; omega)]
    exact h.block i hi hne⟩
theorem gb_refl (w : World) (r : Option Nat) : w.grownBy w r := ⟨rfl, rfl, rfl, Nat.le_refl _, fun _ _ _ => rfl⟩
theorem gb_drew (w : World) (r : Option Nat) : w.grownBy w.drew r := ⟨rfl, rfl, rfl, Nat.le_refl _, fun _ _ _ => rfl⟩
theorem gb_drewN (w : World) (k : Nat) (r : Option Nat) : w.grownBy (w.drewN k) r := ⟨rfl, rfl, rfl, Nat.le_refl _, fun _ _ _ => rfl⟩
theorem gb_any {a b : World} (h : a.grownBy b none) (r : Option Nat) : a.grownBy b r := ⟨h.os, h.tape, h.output, h.size, fun k hk _ => h.block k hk (by simp)⟩
theorem SetAt.drewN {w : World} {p g cap n : Nat} {L : List Nat} (h : SetAt w p g cap n L) (k : Nat) : SetAt (w.drewN k) p g cap n L := h.kept (gb_drewN w k none) (by simp) (by simp)

def Made (w : World) (n : Nat) (L : List Nat) (e : Ending) (w' : World) : Prop :=
  ∃ p g cap, e = .returned (.pointer (some ⟨p, 0, none⟩)) ∧ w.heap.size ≤ p ∧ w.heap.size ≤ g ∧ SetAt w' p g cap n L ∧ w.grownBy w' none

theorem u64_or_pow (x i : Nat) (h : x < 18446744073709551616) : bits .or .u64 (x : Int) (IntKind.u64.wrap (2 ^ (i % 64))) = ((x ||| 2 ^ (i % 64) : Nat) : Int) := by
  have h2 : IntKind.u64.wrap (2 ^ (i % 64)) = ((2 ^ (i % 64) : Nat) : Int) := by
    rw [IntKind.wrap_u64]
    have := two_pow_lt i
    have e : ((2 : Int) ^ (i % 64)) = ((2 ^ (i % 64) : Nat) : Int) := by simp
    rw [e]
    generalize 2 ^ (i % 64) = y at this ⊢
    omega
  rw [h2, u64_or_nat _ _ h (two_pow_lt i)]
theorem u64_andNot_pow (x i : Nat) (h : x < 18446744073709551616) : bits .andNot .u64 (x : Int) (IntKind.u64.wrap (2 ^ (i % 64))) = ((x &&& (18446744073709551615 - 2 ^ (i % 64)) : Nat) : Int) := by
  have h2 : IntKind.u64.wrap (2 ^ (i % 64)) = ((2 ^ (i % 64) : Nat) : Int) := by
    rw [IntKind.wrap_u64]
    have := two_pow_lt i
    have e : ((2 : Int) ^ (i % 64)) = ((2 ^ (i % 64) : Nat) : Int) := by simp
    rw [e]
    generalize 2 ^ (i % 64) = y at this ⊢
    omega
  rw [h2, u64_andNot_nat _ _ h (two_pow_lt i)]

theorem Tryd.info77 : (Tryd.prog.info? 77).map (fun i => (i.zero, i.size, i.bytes)) = some (some (.int .u64 0), 1, 8) := by kernel_rfl

end Go.Proofs.YtaagbdncfcdfcaaDoor
