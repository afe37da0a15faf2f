/- Bits: what cannot be is nil. -/
import Derived.Test.YtaagbdncfcdfcaaDoorBitsKnown
namespace Go.Proofs.YtaagbdncfcdfcaaDoor
open Go.RowKit

def Bad (n : Int) : Prop := n < 0 ∨ 65536 < n

theorem new_no (n : Int) (w : World) (h : Bad n) (h1 : -9223372036854775808 ≤ n) (h2 : n ≤ 9223372036854775807) :
    Calls Tryd.prog 8 #[.int .i64 n] w fun e w' => e = .returned (.pointer none) ∧ w = w' := by
  unfold Bad at h
  go_enter Tryd.func8, Tryd.ntmps8
  go_wp2_with fail
  all_goals go_ret
  all_goals exact ⟨rfl, rfl⟩
theorem newtable_no (n : Int) (w : World) (h : Bad n) (h1 : -9223372036854775808 ≤ n) (h2 : n ≤ 9223372036854775807) :
    Calls Tryd.prog 10 #[.int .i64 n] w fun e w' => e = .returned (.pointer none) ∧ w = w' := by
  unfold Bad at h
  go_enter Tryd.func10, Tryd.ntmps10
  go_wp2_with fail
  all_goals go_ret
  all_goals exact ⟨rfl, rfl⟩
theorem newwork_no (n : Int) (w : World) (h : Bad n) (h1 : -9223372036854775808 ≤ n) (h2 : n ≤ 9223372036854775807) :
    Calls Tryd.prog 11 #[.int .i64 n] w fun e w' => e = .returned (.pointer none) ∧ w = w' := by
  go_enter Tryd.func11, Tryd.ntmps11
  go_wp2_with (go_at_call 8; refine (new_no _ _ h h1 h2).mono ?_; rintro e w' ⟨rfl, rfl⟩)
  go_ret
  exact ⟨rfl, rfl⟩
theorem of_no (n : Int) (v : Value) (w : World) (h : Bad n) (h1 : -9223372036854775808 ≤ n) (h2 : n ≤ 9223372036854775807) :
    Calls Tryd.prog 9 #[.int .i64 n, v] w fun e w' => e = .returned (.pointer none) ∧ w = w' := by
  go_enter Tryd.func9, Tryd.ntmps9
  go_wp2_with (go_at_call 8; refine (new_no _ _ h h1 h2).mono ?_; rintro e w' ⟨rfl, rfl⟩)
  go_ret
  exact ⟨rfl, rfl⟩

/-- A pointer to a block, or none: as 'bad' tells. -/
def PtrIs (n : Int) (v : Value) : Prop := (Bad n ∧ v = .pointer none) ∨ (¬ Bad n ∧ ∃ p, v = .pointer (some ⟨p, 0, none⟩))

theorem names_walk (w : World) (hT : TabAt w) : Calls Tryd.prog 3 #[] w fun e w' => e = .returned (.bool true) ∧ Below w.heap.size w w' := by
  go_enter Tryd.func3, Tryd.ntmps3
  go_wp2_with (go_at_call 7; refine (known_walk _ hT).mono ?_; rintro e w' ⟨rfl, hB⟩)
  go_ret
  exact ⟨rfl, hB⟩

theorem ints12 (w : World) : IntsAt (w.alloc (.cells #[.int .i64 1, .int .i64 2] 3)) (.slice (some ⟨w.heap.size, 0, none⟩) 2 2) [1, 2] :=
  ⟨some ⟨w.heap.size, 0, none⟩, 2, rfl, by intro k hk; match k, hk with | 0, _ => decide | 1, _ => decide, by decide, Or.inr ⟨w.heap.size, 0, rfl, by intro k hk; match k, hk with | 0, _ => simp | 1, _ => simp⟩⟩

set_option maxHeartbeats 2000000 in
theorem nil_walk (n : Int) (w : World) (hT : TabAt w) (h1 : -9223372036854775808 ≤ n) (h2 : n ≤ 9223372036854775807) :
    Calls Tryd.prog 4 #[.int .i64 n] w fun e w' => e = .returned (.bool true) ∧ Below w.heap.size w w' := by
  by_cases hb : Bad n
  · go_enter Tryd.func4, Tryd.ntmps4
    go_wp2_with fail
    refine (known_walk _ hT).mono ?_
    rintro e w1 ⟨rfl, hB⟩
    rcases hb with hb | hb
    · have hbad : Bad n := Or.inl hb
      go_wp2_with (first | (go_at_call 8; refine (new_no _ _ hbad h1 h2).mono ?_; rintro e w' ⟨rfl, rfl⟩) | (go_at_call 9; refine (of_no _ _ _ hbad h1 h2).mono ?_; rintro e w' ⟨rfl, rfl⟩) | (go_at_call 10; refine (newtable_no _ _ hbad h1 h2).mono ?_; rintro e w' ⟨rfl, rfl⟩) | (go_at_call 11; refine (newwork_no _ _ hbad h1 h2).mono ?_; rintro e w' ⟨rfl, rfl⟩))
      go_ret
      exact ⟨rfl, hB.alloc (by have := hB.size; omega) _⟩
    · have hbad : Bad n := Or.inr hb
      go_wp2_with (first | (go_at_call 8; refine (new_no _ _ hbad h1 h2).mono ?_; rintro e w' ⟨rfl, rfl⟩) | (go_at_call 9; refine (of_no _ _ _ hbad h1 h2).mono ?_; rintro e w' ⟨rfl, rfl⟩) | (go_at_call 10; refine (newtable_no _ _ hbad h1 h2).mono ?_; rintro e w' ⟨rfl, rfl⟩) | (go_at_call 11; refine (newwork_no _ _ hbad h1 h2).mono ?_; rintro e w' ⟨rfl, rfl⟩))
      go_ret
      exact ⟨rfl, hB.alloc (by have := hB.size; omega) _⟩
  · obtain ⟨m, rfl⟩ : ∃ m : Nat, n = m := ⟨n.toNat, by unfold Bad at hb; omega⟩
    have hm : m ≤ 65536 := by unfold Bad at hb; omega
    clear hb
    go_enter Tryd.func4, Tryd.ntmps4
    go_wp2_with fail
    refine (known_walk _ hT).mono ?_
    rintro e w1 ⟨rfl, hB⟩
    have hz1 : w.heap.size ≤ w1.heap.size := hB.size
    go_wp2_with fail
    refine (new_yes _ _ hm).mono ?_
    rintro e w2 ⟨p, g, c, rfl, hp, hg, hS, hG⟩
    have hB := hB.grown hG hz1 (fun k e => by cases e)
    have hz2 : w1.heap.size ≤ w2.heap.size := hG.size
    clear hS hG hp hg
    go_wp2_with fail
    refine (of_any _ _ _ _ hm (ints12 w2)).mono ?_
    rintro e w3 ⟨p3, g3, c3, rfl, hp, hg, hS, hG⟩
    have hB := (hB.alloc (by omega) _).grown hG (by simp; omega) (fun k e => by cases e)
    have hz3 : w2.heap.size ≤ w3.heap.size := by have := hG.size; rw [World.size_alloc] at this; omega
    clear hS hG hp hg
    go_wp2_with fail
    refine (newtable_any _ _ hm).mono ?_
    rintro e w4 ⟨p4, mb4, rfl, _, _, _, hG⟩
    have hB := hB.grown hG (by omega) (fun k e => by cases e)
    have hz4 : w3.heap.size ≤ w4.heap.size := hG.size
    clear hG
    go_wp2_with fail
    refine (newwork_any _ _ hm).mono ?_
    rintro e w5 ⟨p5, sp5, sg5, sc5, rfl, _, _, _, _, hG⟩
    have hB := hB.grown hG (by omega) (fun k e => by cases e)
    clear hG
    go_wp2_with fail
    go_ret
    have e1 : decide ((m : Int) < 0) = false := decide_eq_false (by omega)
    have e2 : decide (65536 < (m : Int)) = false := decide_eq_false (by omega)
    refine ⟨?_, hB⟩
    rw [e1, e2]
    rfl
end Go.Proofs.YtaagbdncfcdfcaaDoor
