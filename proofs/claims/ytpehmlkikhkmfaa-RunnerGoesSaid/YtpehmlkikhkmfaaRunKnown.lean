/- Runner: the example. -/
import Derived.Test.YtpehmlkikhkmfaaRunLive
import Derived.Test.YtpehmlkikhkmfaaRunKnownF
namespace Go.Proofs.Ytpehmlkikhkmfaa
open Go.RowKit

theorem blk_up {w : World} {k : Nat} {o x : Obj} (h : w.heap[k]? = some x) : (w.alloc o).heap[k]? = some x := by
  rw [heap_alloc_old _ _ (Array.getElem?_eq_some_iff.1 h).1]; exact h

theorem always_any (w : World) : Calls Try.prog 41 #[] w fun e w' => ∃ vp vn vo, e = .returned (.agg #[vp, vn, vo]) ∧ MachAt w' vp vn vo [⟨#[97]⟩] [[1, 0], [1, 1]] [3, 2] ∧ w.grownBy w' none := by
  go_enter Try.func41, Try.ntmps41
  go_wp2
  generalize hW : World.alloc _ _ = W
  have h0 : W.heap[w.heap.size]? = some (.cells #[Value.slice (some ⟨w.heap.size + 1, 0, none⟩) 1 1, Value.slice (some ⟨w.heap.size + 1 + 1 + 1 + 1, 0, none⟩) 2 2, Value.slice (some ⟨w.heap.size + 1 + 1 + 1 + 1 + 1, 0, none⟩) 2 2] 27 (0, 0)) := by
    rw [← hW]; repeat (first | exact blk_new _ _ _ (by simp) | apply blk_up)
  have h1 : W.heap[w.heap.size + 1]? = some (.cells #[.string ⟨#[97]⟩] 9 (0, 0)) := by
    rw [← hW]; repeat (first | exact blk_new _ _ _ (by simp) | apply blk_up)
  have h2 : W.heap[w.heap.size + 1 + 1]? = some (.cells #[.int .i64 1, .int .i64 0] 3 (0, 0)) := by
    rw [← hW]; repeat (first | exact blk_new _ _ _ (by simp) | apply blk_up)
  have h3 : W.heap[w.heap.size + 1 + 1 + 1]? = some (.cells #[.int .i64 1, .int .i64 1] 3 (0, 0)) := by
    rw [← hW]; repeat (first | exact blk_new _ _ _ (by simp) | apply blk_up)
  have h4 : W.heap[w.heap.size + 1 + 1 + 1 + 1]? = some (.cells #[Value.slice (some ⟨w.heap.size + 1 + 1, 0, none⟩) 2 2, Value.slice (some ⟨w.heap.size + 1 + 1 + 1, 0, none⟩) 2 2] 107 (0, 0)) := by
    rw [← hW]; repeat (first | exact blk_new _ _ _ (by simp) | apply blk_up)
  have h5 : W.heap[w.heap.size + 1 + 1 + 1 + 1 + 1]? = some (.cells #[.int .u8 3, .int .u8 2] 59 (0, 0)) := by
    rw [← hW]; repeat (first | exact blk_new _ _ _ (by simp) | apply blk_up)
  have hg : w.grownBy W none := by
    rw [← hW]
    repeat (first | exact World.grownBy_alloc _ _ none | (refine gb_trans ?_ (World.grownBy_alloc _ _ none) (Or.inl rfl)))
  clear hW
  have c0 : W.cell? ⟨w.heap.size, 0, none⟩ = some (Value.slice (some ⟨w.heap.size + 1, 0, none⟩) 1 1) := by simp [World.cell?, h0]
  have c1 : W.cell? ⟨w.heap.size, 1, none⟩ = some (Value.slice (some ⟨w.heap.size + 1 + 1 + 1 + 1, 0, none⟩) 2 2) := by simp [World.cell?, h0]
  have c2 : W.cell? ⟨w.heap.size, 2, none⟩ = some (Value.slice (some ⟨w.heap.size + 1 + 1 + 1 + 1 + 1, 0, none⟩) 2 2) := by simp [World.cell?, h0]
  have hres : (results Try.f41 #[Value.pointer (some ⟨w.heap.size, 0, none⟩), Value.slice (some ⟨w.heap.size + 1, 0, none⟩) 1 1, Value.slice (some ⟨w.heap.size + 1 + 1, 0, none⟩) 2 2, Value.slice (some ⟨w.heap.size + 1 + 1 + 1, 0, none⟩) 2 2, Value.slice (some ⟨w.heap.size + 1 + 1 + 1 + 1, 0, none⟩) 2 2, Value.slice (some ⟨w.heap.size + 1 + 1 + 1 + 1 + 1, 0, none⟩) 2 2, Value.agg #[Value.slice (some ⟨w.heap.size + 1, 0, none⟩) 1 1, Value.slice (some ⟨w.heap.size + 1 + 1 + 1 + 1, 0, none⟩) 2 2, Value.slice (some ⟨w.heap.size + 1 + 1 + 1 + 1 + 1, 0, none⟩) 2 2]]).run Try.prog W = .ok (.agg #[Value.slice (some ⟨w.heap.size + 1, 0, none⟩) 1 1, Value.slice (some ⟨w.heap.size + 1 + 1 + 1 + 1, 0, none⟩) 2 2, Value.slice (some ⟨w.heap.size + 1 + 1 + 1 + 1 + 1, 0, none⟩) 2 2]) W := by
    simp [results, Try.f41, go_sem, c0, c1, c2]
  refine bodyPost_ret hres rfl ⟨_, _, _, rfl, ⟨⟨_, _, rfl, by decide, by decide, ?_, Or.inr ⟨_, _, rfl, ?_⟩⟩, ⟨_, _, rfl, by decide, by decide, Or.inr ⟨_, _, rfl, ?_⟩⟩, ⟨_, _, rfl, by decide, ?_, by decide, Or.inr ⟨_, _, rfl, ?_⟩⟩⟩, hg⟩
  · intro k hk; obtain rfl : k = 0 := by simp at hk; exact hk
    decide
  · intro k hk; obtain rfl : k = 0 := by simp at hk; exact hk
    simp [World.cell?, h1]
  · intro k hk
    have hk2 : k = 0 ∨ k = 1 := by simp at hk; omega
    rcases hk2 with rfl | rfl
    · refine ⟨.slice (some ⟨w.heap.size + 1 + 1, 0, none⟩) 2 2, by simp [World.cell?, h4], _, _, rfl, by decide, ?_, by decide, Or.inr ⟨_, _, rfl, ?_⟩⟩
      · intro j hj; have hj2 : j = 0 ∨ j = 1 := by simp at hj; omega
        rcases hj2 with rfl | rfl <;> decide
      · intro j hj; have hj2 : j = 0 ∨ j = 1 := by simp at hj; omega
        rcases hj2 with rfl | rfl <;> simp [World.cell?, h2]
    · refine ⟨.slice (some ⟨w.heap.size + 1 + 1 + 1, 0, none⟩) 2 2, by simp [World.cell?, h4], _, _, rfl, by decide, ?_, by decide, Or.inr ⟨_, _, rfl, ?_⟩⟩
      · intro j hj; have hj2 : j = 0 ∨ j = 1 := by simp at hj; omega
        rcases hj2 with rfl | rfl <;> decide
      · intro j hj; have hj2 : j = 0 ∨ j = 1 := by simp at hj; omega
        rcases hj2 with rfl | rfl <;> simp [World.cell?, h3]
  · intro k hk; have hk2 : k = 0 ∨ k = 1 := by simp at hk; omega
    rcases hk2 with rfl | rfl <;> decide
  · intro k hk; have hk2 : k = 0 ∨ k = 1 := by simp at hk; omega
    rcases hk2 with rfl | rfl <;> simp [World.cell?, h5]

theorem ex_check : mErr [⟨#[97]⟩] [[1, 0], [1, 1]] [3, 2] = 0 := by decide +kernel
theorem ex_1 : nextF [⟨#[97]⟩] [[1, 0], [1, 1]] 0 [⟨#[97]⟩, ⟨#[122, 122]⟩] = 0 := by decide +kernel
theorem ex_0 : nextF [⟨#[97]⟩] [[1, 0], [1, 1]] 0 [] = 1 := by decide +kernel

theorem texts2 (w : World) (x y : ByteArray) (hx : x.size ≤ maxLen) (hy : y.size ≤ maxLen) : TextsAt (w.alloc (.cells #[.string x, .string y] 9)) (.slice (some ⟨w.heap.size, 0, none⟩) 2 2) [x, y] := by
  refine ⟨_, _, rfl, by simp, by simp, fun k hk => ?_, Or.inr ⟨_, _, rfl, fun k hk => ?_⟩⟩
  · have : k = 0 ∨ k = 1 := by simp at hk; omega
    rcases this with rfl | rfl
    · exact hx
    · exact hy
  · have : k = 0 ∨ k = 1 := by simp at hk; omega
    have hb := heap_alloc_new w (.cells #[.string x, .string y] 9)
    rcases this with rfl | rfl <;> (simp only [World.cell?, hb]; rfl)
theorem texts0 (w : World) : TextsAt w (.slice none 0 0) [] := ⟨_, _, rfl, by simp, by simp, fun _ hk => absurd hk (Nat.not_lt_zero _), Or.inl rfl⟩

theorem known_any (w : World) : Calls Try.prog 9 #[] w fun e w' => e = .returned (.bool true) ∧ w.grownBy w' none := by
  go_enter Try.func9, Try.ntmps9
  go_wp2_with (go_at_call 41; refine (always_any w).mono ?_; rintro e w1 ⟨vp, vn, vo, rfl, hM, hg1⟩)
  go_wp2_with (go_at_call 13; refine (new_live vp vn vo w1 hM ex_check (by decide)).mono ?_; rintro e w2 ⟨p, F, rfl, hL2, hF, hg2, hp⟩)
  have hFe := ex_fins hF.out
  subst hFe
  have hp0 : w.heap.size ≤ p := Nat.le_trans hg1.size hp
  have hG2 := gb_trans hg1 hg2 (Or.inl rfl)
  have ha := World.grownBy_alloc w2 (.cells #[.string ⟨#[97]⟩, .string ⟨#[122, 122]⟩] 9) none
  have hev1 := live_event (hL2.kept ha) ex_check (texts2 w2 ⟨#[97]⟩ ⟨#[122, 122]⟩ (by decide) (by decide))
  rw [ex_1] at hev1
  have HEv1 : Hid (Calls Try.prog 28 #[.pointer (some ⟨p, 0, none⟩), .slice (some ⟨w2.heap.size, 0, none⟩) 2 2] (w2.alloc (.cells #[.string ⟨#[97]⟩, .string ⟨#[122, 122]⟩] 9)) fun e w' => e = .returned (.int .u8 3) ∧ Live w' w2.heap.size p [⟨#[97]⟩] [[1, 0], [1, 1]] [3, 2] [false, true] 0 ∧ w.grownBy w' none) := Lib.hid (hev1.mono fun e w' ⟨he, hl, hg⟩ => ⟨he, hl, gb_trans (gb_trans hG2 ha (Or.inl rfl)) hg (Or.inr (Or.inr ⟨p, rfl, hp0⟩))⟩)
  clear hev1 ha hL2 hF hM
  go_wp2_with (go_at_call 28; refine HEv1.out.mono ?_; rintro e w3 ⟨rfl, hL3, hg3⟩)
  have HFi1 : Hid (Calls Try.prog 38 #[.pointer (some ⟨p, 0, none⟩)] w3 fun e w' => e = .returned (.bool false) ∧ Live w' w2.heap.size p [⟨#[97]⟩] [[1, 0], [1, 1]] [3, 2] [false, true] 0 ∧ w.grownBy w' none) := Lib.hid ((live_final hL3).mono fun e w' ⟨he, hl, hg⟩ => ⟨he, hl, gb_trans hg3 hg (Or.inl rfl)⟩)
  go_wp2_with (go_at_call 38; refine HFi1.out.mono ?_; rintro e w4 ⟨rfl, hL4, hg4⟩)
  have hev2 := live_event hL4 ex_check (texts0 w4)
  rw [ex_0] at hev2
  have HEv2 : Hid (Calls Try.prog 28 #[.pointer (some ⟨p, 0, none⟩), .slice none 0 0] w4 fun e w' => e = .returned (.int .u8 2) ∧ Live w' w2.heap.size p [⟨#[97]⟩] [[1, 0], [1, 1]] [3, 2] [false, true] 1 ∧ w.grownBy w' none) := Lib.hid (hev2.mono fun e w' ⟨he, hl, hg⟩ => ⟨he, hl, gb_trans hg4 hg (Or.inr (Or.inr ⟨p, rfl, hp0⟩))⟩)
  clear hev2
  go_wp2_with (go_at_call 28; refine HEv2.out.mono ?_; rintro e w5 ⟨rfl, hL5, hg5⟩)
  go_wp2_with (go_at_call 18; refine (live_state hL5).mono ?_; rintro e w6 ⟨rfl, rfl⟩)
  have HFi2 : Hid (Calls Try.prog 38 #[.pointer (some ⟨p, 0, none⟩)] w5 fun e w' => e = .returned (.bool true) ∧ Live w' w2.heap.size p [⟨#[97]⟩] [[1, 0], [1, 1]] [3, 2] [false, true] 1 ∧ w.grownBy w' none) := Lib.hid ((live_final hL5).mono fun e w' ⟨he, hl, hg⟩ => ⟨he, hl, gb_trans hg5 hg (Or.inl rfl)⟩)
  go_wp2_with (go_at_call 38; refine HFi2.out.mono ?_; rintro e w7 ⟨rfl, hL7, hg7⟩)
  go_wp2_with (go_at_call 31; refine (live_goto_no hL7 2 (Or.inr (by decide))).mono ?_; rintro e w8 ⟨rfl, rfl⟩)
  go_ret
  exact ⟨rfl, hg7⟩
end Go.Proofs.Ytpehmlkikhkmfaa
