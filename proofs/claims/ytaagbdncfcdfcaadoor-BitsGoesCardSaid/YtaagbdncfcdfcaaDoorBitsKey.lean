/- Bits: Key. -/
import Derived.Test.YtaagbdncfcdfcaaDoorBitsCopy
namespace Go.Proofs.YtaagbdncfcdfcaaDoor
open Go.RowKit
def bv (x : Nat) : Value := .int .u8 (x : Int)
theorem Tryd.info5 : (Tryd.prog.info? 5).map (fun i => (i.zero, i.size, i.bytes)) = some (some (.int .u8 0), 1, 1) := by kernel_rfl
def keyS (n : Nat) (L : List Nat) : ByteArray := ⟨((keyL n L).map UInt8.ofNat).toArray⟩
theorem keyS_inj {n : Nat} {L M : List Nat} (g : Good n L) (h : Good n M) (e : keyS n L = keyS n M) : L = M := by
  apply key_inj g h
  have e1 : (keyL n L).map UInt8.ofNat = (keyL n M).map UInt8.ofNat := by
    have := congrArg (fun s => s.data.toList) e
    simpa [keyS] using this
  have hb : ∀ (K : List Nat), (keyL n K).map (fun x => (UInt8.ofNat x).toNat) = keyL n K := by
    intro K
    unfold keyL
    rw [List.map_map]
    apply List.map_congr_left
    intro j _
    simp
  have e2 := congrArg (List.map UInt8.toNat) e1
  rw [List.map_map, List.map_map] at e2
  exact (hb L).symm.trans (e2.trans (hb M))
theorem push_bytes : ∀ (xs : List Nat) (r : ByteArray), (xs.map fun x : Nat => (x : Int)).foldl (fun r n => r.push (UInt8.ofNat n.toNat)) r = ⟨(r.data.toList ++ xs.map UInt8.ofNat).toArray⟩
  | [], r => by cases r; simp
  | x :: xs, r => by
    rw [List.map_cons, List.foldl_cons, push_bytes xs]
    simp [ByteArray.push]
/-- 'string(b)' of a row of bytes. -/
theorem string_row {w : World} {base g n cap : Nat} {xs : List Nat} (h : w.ownsRow base 5 1 (.slice (some ⟨g, 0, none⟩) n cap) n (xs.map bv)) :
    (convert 93 9 (.slice (some ⟨g, 0, none⟩) n cap)).run Tryd.prog w = .ok (.string ⟨(xs.map UInt8.ofNat).toArray⟩) w := by
  have hn : (xs.map bv).length = n := by have := h.1; rwa [Nat.mul_one] at this
  have hl := run_loadCells_list (P := Tryd.prog) w ⟨g, 0, none⟩ (xs.map bv) (h.cells (g := g) rfl)
  rw [hn] at hl
  have hb : xs.map bv = (xs.map fun x : Nat => (x : Int)).map (Value.int .u8) := by rw [List.map_map]; rfl
  rw [hb] at hl
  rw [run_convert_bytes_string w _ _ _ _ n cap Tryd.underlying93 Tryd.underlying5 Tryd.underlying9, run_bytesToString w _ n cap _ hl, push_bytes]
  simp [ByteArray.empty, ByteArray.emptyWithCapacity]
  rfl
set_option maxHeartbeats 1000000 in
theorem key_any (p g cap n : Nat) (L : List Nat) (w : World) (h : SetAt w p g cap n L) :
    Calls Tryd.prog 28 #[.pointer (some ⟨p, 0, none⟩)] w fun e w' => e = .returned (.string (keyS n L)) ∧ w.grownBy w' none := by
  obtain ⟨i0, hi, hz0, hz1, hz2⟩ := info_parts Tryd.info5
  have hm := h.max
  have hN := h.cellN
  have hW := h.cellW
  have hl := h.len
  go_enter Tryd.func28, Tryd.ntmps28
  go_wp2_with (at_make; refine wpList_make_full _ rfl _ _ 93 rfl w.heap.size 5 i0 (.int .u8 0) 1 Tryd.underlying93 hi hz0 hz1 .i64 .i64 _ _ ((n + 7) / 8) rfl rfl (by omega) (by omega) (by rw [hz2]; omega) (by unfold maxLen; omega) (Nat.le_refl _) ?_; intro w0 hown0 hgrow0)
  go_loopw [14] (fun i wr => ∃ k : Nat, k ≤ (n + 7) / 8 ∧ i = .int .i64 (k : Int) ∧ wr.ownsRow w.heap.size 5 1 (.slice (some ⟨w.heap.size, 0, none⟩) ((n + 7) / 8) ((n + 7) / 8)) ((n + 7) / 8) ((upto (fun j => L.getD (j / 8) 0 / 2 ^ (j % 8 * 8) % 256) ((n + 7) / 8) k).map bv) ∧ w.grownBy wr none) (fun i _ => (n + 7) / 8 - (intOf i).toNat)
  case atStart => exact ⟨0, by omega, rfl, by rw [upto_zero, List.map_replicate]; rwa [Nat.mul_one, show (Value.int IntKind.u8 0).cells = #[Value.int .u8 0] from rfl, toList_madeCells_one] at hown0, hgrow0⟩
  case round =>
    obtain ⟨k, hk, rfl, hO, hG⟩ := hrel
    by_cases hlt : k < (n + 7) / 8
    · have h2 := h.kept hG (by simp) (by simp)
      have hW' := h2.cellW
      have hc' := h2.cell (k / 8) (by omega)
      have hx := h.wd (k / 8)
      have hf := hO.frozenAt k
      obtain ⟨vd, hd⟩ : ∃ v, wr.cell? ⟨w.heap.size, k, none⟩ = some v := ⟨_, (hO.cellAt k (by omega)).trans (List.getElem?_eq_getElem (by simp [upto_len]; omega))⟩
      have hs := hO.stored k (.int .u8 ((L.getD (k / 8) 0 / 2 ^ (k % 8 * 8) % 256 : Nat) : Int))
      have hlt8 : k / 8 < (n + 63) / 64 := by omega
      generalize hxx : L.getD (k / 8) 0 = x at hc' hs hx
      have HX := Lib.hid hxx
      clear hxx
      have HS := Lib.hid hs
      clear hs hW
      go_wp2
      have e : (x : Int) / 2 ^ (k % 8 * 8) % 256 = ((x / 2 ^ (k % 8 * 8) % 256 : Nat) : Int) := by simp
      rw [e]
      refine ⟨⟨k + 1, by omega, by go_num, ?_, gb_trans hG HS.out.2 (Or.inr (Or.inr ⟨_, rfl, Nat.le_refl _⟩))⟩, by simp [intOf]; omega⟩
      rw [upto_succ _ _ _ hlt, List.map_set]
      simp only [HX.out]
      exact HS.out.1
    · obtain rfl : k = (n + 7) / 8 := by omega
      have hlt2 : ¬ (((n + 7) / 8 : Nat) : Int) < (n + 7) / 8 := by omega
      rw [upto_all] at hO
      have hst : (convert 93 9 (.slice (some ⟨w.heap.size, 0, none⟩) ((n + 7) / 8) ((n + 7) / 8))).run Tryd.prog wr = .ok (.string (keyS n L)) wr := string_row hO
      go_wp2
      go_ret
      exact ⟨rfl, hG⟩
end Go.Proofs.YtaagbdncfcdfcaaDoor
