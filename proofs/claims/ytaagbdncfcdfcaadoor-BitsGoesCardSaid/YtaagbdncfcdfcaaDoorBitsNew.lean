/- Bits: New. -/
import Derived.Test.YtaagbdncfcdfcaaDoorBitsDefs
namespace Go.Proofs.YtaagbdncfcdfcaaDoor
open Go.RowKit

set_option maxHeartbeats 400000 in
theorem new_yes (n : Nat) (w : World) (h : n ≤ 65536) :
    Calls Tryd.prog 8 #[.int .i64 (n : Int)] w (Made w n (List.replicate ((n + 63) / 64) 0)) := by
  obtain ⟨i0, hi, hz0, hz1, hz2⟩ := info_parts Tryd.info77
  go_enter Tryd.func8, Tryd.ntmps8
  go_wp2_with (at_make; refine wpList_make_full _ rfl _ _ 64 rfl 0 77 i0 (.int .u64 0) 1 Tryd.underlying64 hi hz0 hz1 .i64 .i64 _ _ ((n + 63) / 64) rfl rfl (by omega) (by omega) (by rw [hz2]; omega) (by unfold maxLen; omega) (Nat.zero_le _) ?_; intro w0 hown0 hgrow0)
  go_ret
  have hz : (madeCells (Value.int IntKind.u64 0).cells ((n + 63) / 64 * 1)).toList = (List.replicate ((n + 63) / 64) 0).map wv := by
    rw [Nat.mul_one, show (Value.int IntKind.u64 0).cells = #[Value.int .u64 0] from rfl, toList_madeCells_one, List.map_replicate]; rfl
  rw [hz] at hown0
  have hlen : (List.replicate ((n + 63) / 64) 0).length = (n + 63) / 64 := List.length_replicate
  have hg := good_none h
  refine ⟨w0.heap.size, w.heap.size, (n + 63) / 64, rfl, hgrow0.size, Nat.le_refl _, ⟨⟨?_, ?_, hg.len, hg.max, hg.wd⟩, hg⟩, gb_trans hgrow0 (World.grownBy_alloc _ _ none) (Or.inl rfl)⟩
  · rw [hlen]; exact heap_alloc_new _ _
  · rw [hlen]; exact hown0.alloc _

set_option maxHeartbeats 400000 in
theorem in_yes (i p g cap n : Nat) (L : List Nat) (w : World) (h : SetAt w p g cap n L) (h1 : i < n) :
    Calls Tryd.prog 36 #[.pointer (some ⟨p, 0, none⟩), .int .i64 (i : Int)] w fun e w' => e = .returned (.bool true) ∧ w = w' := by
  have hN := h.cellN
  have hm := h.max
  go_enter Tryd.func36, Tryd.ntmps36
  go_wp2
  go_ret
  exact ⟨rfl, rfl⟩
set_option maxHeartbeats 400000 in
theorem in_no (i : Int) (p g cap n : Nat) (L : List Nat) (w : World) (h : SetAt w p g cap n L) (h1 : i < 0 ∨ n ≤ i) :
    Calls Tryd.prog 36 #[.pointer (some ⟨p, 0, none⟩), .int .i64 i] w fun e w' => e = .returned (.bool false) ∧ w = w' := by
  have hN := h.cellN
  have hm := h.max
  rcases h1 with h1 | h1
  · go_enter Tryd.func36, Tryd.ntmps36
    go_wp2
    go_ret
    exact ⟨rfl, rfl⟩
  · by_cases h0 : 0 ≤ i
    · have h2 : decide (i < (n : Int)) = false := by simp; omega
      go_enter Tryd.func36, Tryd.ntmps36
      go_wp2
      go_ret
      exact ⟨rfl, rfl⟩
    · omega
set_option maxHeartbeats 400000 in
theorem put_yes (i p g cap n : Nat) (L : List Nat) (w : World) (h : SetAt w p g cap n L) (h1 : i < n) :
    Calls Tryd.prog 17 #[.pointer (some ⟨p, 0, none⟩), .int .i64 (i : Int)] w fun e w' => e = .returned (.tuple #[]) ∧ SetAt w' p g cap n (putL L i) ∧ w.grownBy w' (some g) := by
  have hN := h.cellN
  have hm := h.max
  have hW := h.cellW
  have hl := h.len
  have hc := h.cell (i / 64) (by omega)
  have hf := h.frozen (i / 64)
  have hi2 : i / 64 < L.length := by omega
  have ho := h.stored (i / 64) _ (or_lt (h.wd _) (two_pow_lt i)) (good_put h.good h1)
  rw [← u64_or_pow _ _ (h.wd _)] at ho
  have HO := Lib.hid ho
  clear ho
  go_enter Tryd.func17, Tryd.ntmps17
  go_wp2_with (go_at_call 36; refine (in_yes _ _ _ _ _ _ _ h h1).mono ?_; rintro e w' ⟨rfl, rfl⟩)
  go_region
  go_end0
  exact ⟨rfl, HO.out.1.drew, gb_trans HO.out.2 (gb_drew _ none) (Or.inl rfl)⟩
set_option maxHeartbeats 400000 in
theorem put_no (i : Int) (p g cap n : Nat) (L : List Nat) (w : World) (h : SetAt w p g cap n L) (h1 : i < 0 ∨ n ≤ i) :
    Calls Tryd.prog 17 #[.pointer (some ⟨p, 0, none⟩), .int .i64 i] w fun e w' => e = .returned (.tuple #[]) ∧ w = w' := by
  go_enter Tryd.func17, Tryd.ntmps17
  go_wp2_with (go_at_call 36; refine (in_no _ _ _ _ _ _ _ h h1).mono ?_; rintro e w' ⟨rfl, rfl⟩)
  go_end0
  exact ⟨rfl, rfl⟩
set_option maxHeartbeats 400000 in
theorem cut_yes (i p g cap n : Nat) (L : List Nat) (w : World) (h : SetAt w p g cap n L) (h1 : i < n) :
    Calls Tryd.prog 16 #[.pointer (some ⟨p, 0, none⟩), .int .i64 (i : Int)] w fun e w' => e = .returned (.tuple #[]) ∧ SetAt w' p g cap n (cutL L i) ∧ w.grownBy w' (some g) := by
  have hN := h.cellN
  have hm := h.max
  have hW := h.cellW
  have hl := h.len
  have hc := h.cell (i / 64) (by omega)
  have hf := h.frozen (i / 64)
  have hi2 : i / 64 < L.length := by omega
  have ho := h.stored (i / 64) _ (and_lt _ (h.wd _)) (good_cut h.good h1)
  rw [← u64_andNot_pow _ _ (h.wd _)] at ho
  have HO := Lib.hid ho
  clear ho
  go_enter Tryd.func16, Tryd.ntmps16
  go_wp2_with (go_at_call 36; refine (in_yes _ _ _ _ _ _ _ h h1).mono ?_; rintro e w' ⟨rfl, rfl⟩)
  go_region
  go_end0
  exact ⟨rfl, HO.out.1.drew, gb_trans HO.out.2 (gb_drew _ none) (Or.inl rfl)⟩
set_option maxHeartbeats 400000 in
theorem cut_no (i : Int) (p g cap n : Nat) (L : List Nat) (w : World) (h : SetAt w p g cap n L) (h1 : i < 0 ∨ n ≤ i) :
    Calls Tryd.prog 16 #[.pointer (some ⟨p, 0, none⟩), .int .i64 i] w fun e w' => e = .returned (.tuple #[]) ∧ w = w' := by
  go_enter Tryd.func16, Tryd.ntmps16
  go_wp2_with (go_at_call 36; refine (in_no _ _ _ _ _ _ _ h h1).mono ?_; rintro e w' ⟨rfl, rfl⟩)
  go_end0
  exact ⟨rfl, rfl⟩
end Go.Proofs.YtaagbdncfcdfcaaDoor
