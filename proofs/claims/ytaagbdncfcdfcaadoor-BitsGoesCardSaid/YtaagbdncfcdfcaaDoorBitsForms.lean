/- Bits: the contracts as the laws meet them: what a set holds stands behind a name. -/
import Derived.Test.YtaagbdncfcdfcaaDoorBitsOf
namespace Go.Proofs.YtaagbdncfcdfcaaDoor
open Go.RowKit

def MadeH (w : World) (n : Nat) (L : List Nat) (e : Ending) (w' : World) : Prop :=
  ∃ p g cap M, e = .returned (.pointer (some ⟨p, 0, none⟩)) ∧ w.heap.size ≤ p ∧ w.heap.size ≤ g ∧ SetAt w' p g cap n M ∧ Hid (M = L) ∧ w.grownBy w' none
theorem madeH {w : World} {n : Nat} {L : List Nat} {e : Ending} {w' : World} (h : Made w n L e w') : MadeH w n L e w' := by
  obtain ⟨p, g, cap, he, h1, h2, h3, h4⟩ := h
  exact ⟨p, g, cap, L, he, h1, h2, h3, rfl, h4⟩
theorem of_h (n : Nat) (v : Value) (A : List Int) (w : World) (hn : n ≤ 65536) (hA : IntsAt w v A) :
    Calls Tryd.prog 9 #[.int .i64 (n : Int), v] w (MadeH w n (ofL n A)) := (of_any n v A w hn hA).mono fun _ _ h => madeH h
theorem copy_h {p g cap n : Nat} {L : List Nat} {w : World} (h : SetAt w p g cap n L) :
    Calls Tryd.prog 33 #[.pointer (some ⟨p, 0, none⟩)] w (MadeH w n L) := (copy_any p g cap n L w h).mono fun _ _ h => madeH h

def Set2 (w : World) (p g cap n : Nat) (L : List Nat) (e : Ending) (w' : World) : Prop :=
  ∃ M, e = .returned (.tuple #[]) ∧ SetAt w' p g cap n M ∧ Hid (M = L) ∧ w.grownBy w' (some g)
theorem or_h {p g cap n p2 g2 cap2 n2 : Nat} {L M : List Nat} {w : World} (h : SetAt w p g cap n L) (h2 : SetAt w p2 g2 cap2 n2 M) (hg : g2 ≠ g) :
    Calls Tryd.prog 39 #[.pointer (some ⟨p, 0, none⟩), .pointer (some ⟨p2, 0, none⟩)] w (Set2 w p g cap n (orL n L M)) :=
  (or_any p g cap n p2 L M w h h2.wd (reads_other h.raw h2.raw hg _)).mono fun _ _ ⟨a, b, c⟩ => ⟨_, a, b, rfl, c⟩
theorem and_h {p g cap n p2 g2 cap2 n2 : Nat} {L M : List Nat} {w : World} (h : SetAt w p g cap n L) (h2 : SetAt w p2 g2 cap2 n2 M) (hg : g2 ≠ g) :
    Calls Tryd.prog 37 #[.pointer (some ⟨p, 0, none⟩), .pointer (some ⟨p2, 0, none⟩)] w (Set2 w p g cap n (andL L M)) :=
  (and_any p g cap n p2 L M w h (reads_other h.raw h2.raw hg _)).mono fun _ _ ⟨a, b, c⟩ => ⟨_, a, b, rfl, c⟩
theorem less_h {p g cap n p2 g2 cap2 n2 : Nat} {L M : List Nat} {w : World} (h : SetAt w p g cap n L) (h2 : SetAt w p2 g2 cap2 n2 M) (hg : g2 ≠ g) :
    Calls Tryd.prog 40 #[.pointer (some ⟨p, 0, none⟩), .pointer (some ⟨p2, 0, none⟩)] w (Set2 w p g cap n (lessL L M)) :=
  (less_any p g cap n p2 L M w h h2.wd (reads_other h.raw h2.raw hg _)).mono fun _ _ ⟨a, b, c⟩ => ⟨_, a, b, rfl, c⟩
theorem len_h {p g cap n : Nat} {L : List Nat} {w : World} (h : SetAt w p g cap n L) (m : Nat) (hm : Hid (ones L = m)) :
    Calls Tryd.prog 26 #[.pointer (some ⟨p, 0, none⟩)] w fun e w' => e = .returned (.int .i64 (m : Int)) ∧ w = w' := by
  have := len_any p g cap n L w h
  rwa [hm.out] at this
theorem within_h {p g cap n p2 g2 cap2 n2 : Nat} {L M : List Nat} {w : World} (h : SetAt w p g cap n L) (h2 : SetAt w p2 g2 cap2 n2 M) (r : Bool) (hr : Hid (withinL L M = r)) :
    Calls Tryd.prog 51 #[.pointer (some ⟨p, 0, none⟩), .pointer (some ⟨p2, 0, none⟩)] w fun e w' => e = .returned (.bool r) ∧ w = w' := by
  have := within_any p g cap n p2 g2 cap2 n2 L M w h h2
  rwa [hr.out] at this
theorem same_h {p g cap n p2 g2 cap2 n2 : Nat} {L M : List Nat} {w : World} (h : SetAt w p g cap n L) (h2 : SetAt w p2 g2 cap2 n2 M) (r : Bool) (hr : Hid ((n == n2 && L == M) = r)) :
    Calls Tryd.prog 49 #[.pointer (some ⟨p, 0, none⟩), .pointer (some ⟨p2, 0, none⟩)] w fun e w' => e = .returned (.bool r) ∧ w.grownBy w' none := by
  have := same_any p g cap n p2 g2 cap2 n2 L M w h h2
  rw [hr.out] at this
  refine this.mono ?_
  rintro e w' ⟨he, k, rfl⟩
  exact ⟨he, gb_drewN w k none⟩
theorem key_h {p g cap n : Nat} {L : List Nat} {w : World} (h : SetAt w p g cap n L) (s : ByteArray) (hs : Hid (keyS n L = s)) :
    Calls Tryd.prog 28 #[.pointer (some ⟨p, 0, none⟩)] w fun e w' => e = .returned (.string s) ∧ w.grownBy w' none := by
  have := key_any p g cap n L w h
  rwa [hs.out] at this
end Go.Proofs.YtaagbdncfcdfcaaDoor
