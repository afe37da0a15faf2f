/- The book's marks: a text for each list and place. -/
import Derived.Test.YtlmpeddacadfkaaLexBytes
namespace Go.Proofs.Ytlmpeddacadfkaa
open Go.RowKit

def byteS (L : List Int) : ByteArray := L.foldl (fun r n => r.push (UInt8.ofNat n.toNat)) ByteArray.empty
theorem string_block {w : World} {g : Nat} {L : List Int} (h : w.heap[g]? = some (.cells (L.map (Value.int .u8)).toArray 5 (0, 0))) :
    (convert 87 9 (.slice (some ⟨g, 0, none⟩) L.length L.length)).run Try.prog w = .ok (.string (byteS L)) w := by
  have hl := run_loadCells_list (P := Try.prog) w ⟨g, 0, none⟩ (L.map (Value.int .u8)) (fun j v hj => by
    rw [Addr.add_lit, Nat.zero_add]
    simp [World.cell?, h, hj])
  rw [List.length_map] at hl
  rw [run_convert_bytes_string w _ _ _ _ L.length L.length Try.underlying87 Try.underlying5 Try.underlying9, run_bytesToString w _ L.length L.length L hl]
  rfl
/-- What 'mark' says of a list and a place. -/
def markP (a b : Nat) : ByteArray := byteS [97 + (a : Int) % 26, 97 + (a : Int) / 26 % 26, 97 + (a : Int) / 676 % 26, 97 + (b : Int) % 26, 97 + (b : Int) / 26 % 26]
def markN (a b : Nat) : ByteArray := ⟨#[45]⟩ ++ markP a b
set_option maxRecDepth 100000 in
set_option maxHeartbeats 2000000 in
theorem markp_any (a b : Nat) (w : World) (ha : a ≤ 100000000) (hb : b ≤ 100000000) : Calls Try.prog 57 #[.int .i64 (a : Int), .int .i64 (b : Int)] w fun e w' => e = .returned (.string (markP a b)) ∧ w.grownBy w' none := by
  have haI : ¬ ((a : Int) < 0) := by omega
  have hst : (convert 87 9 (.slice (some ⟨w.heap.size, 0, none⟩) 5 5)).run Try.prog (w.alloc (.cells #[.int .u8 (97 + (a : Int) % 26), .int .u8 (97 + (a : Int) / 26 % 26), .int .u8 (97 + (a : Int) / 676 % 26), .int .u8 (97 + (b : Int) % 26), .int .u8 (97 + (b : Int) / 26 % 26)] 5)) = .ok (.string (markP a b)) (w.alloc (.cells #[.int .u8 (97 + (a : Int) % 26), .int .u8 (97 + (a : Int) / 26 % 26), .int .u8 (97 + (a : Int) / 676 % 26), .int .u8 (97 + (b : Int) % 26), .int .u8 (97 + (b : Int) / 26 % 26)] 5)) :=
    string_block (L := [97 + (a : Int) % 26, 97 + (a : Int) / 26 % 26, 97 + (a : Int) / 676 % 26, 97 + (b : Int) % 26, 97 + (b : Int) / 26 % 26]) (heap_alloc_new w _)
  generalize markP a b = m at hst
  go_enter Try.func57, Try.ntmps57
  go_wp2_with fail
  go_ret
  exact ⟨rfl, World.grownBy_alloc _ _ _⟩
set_option maxRecDepth 100000 in
set_option maxHeartbeats 2000000 in
theorem markn_any (i b : Nat) (w : World) (ha : i ≤ 10000000) (hb : b ≤ 100000000) : Calls Try.prog 57 #[.int .i64 (-1 - (i : Int)), .int .i64 (b : Int)] w fun e w' => e = .returned (.string (markN (i + 1) b)) ∧ w.grownBy w' none := by
  have haI : (-1 - (i : Int) < 0) := by omega
  have HM := Lib.hid (markp_any (i + 1) b w (by omega) hb)
  rw [show ((i + 1 : Nat) : Int) = -(-1 - (i : Int)) by omega] at HM
  go_enter Try.func57, Try.ntmps57
  go_wp2_with (go_at_call 57; refine HM.out.mono ?_; rintro e w1 ⟨rfl, hg1⟩)
  go_ret
  exact ⟨rfl, hg1⟩
end Go.Proofs.Ytlmpeddacadfkaa
