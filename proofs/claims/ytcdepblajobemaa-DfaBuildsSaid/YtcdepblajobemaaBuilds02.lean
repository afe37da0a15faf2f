/- Bits: Copy, Key. -/
import Derived.Test.YtcdepblajobemaaBuilds01
import Derived.Maps.OwnSet
import Derived.Maps.Views
set_option maxRecDepth 100000
namespace Go.Proofs.Ytcdepblajobemaa
open Go.RowKit
theorem wv_one (L : List Nat) : ∀ u ∈ L.map wv, u.oneCell' = true := by
  intro u hu
  obtain ⟨x, _, rfl⟩ := List.mem_map.1 hu
  rfl
set_option maxHeartbeats 400000 in
theorem clone_any (g cap l : Nat) (L : List Nat) (w : World) (hl : L.length = l) (hL : ∀ k, k < l → w.cell? ⟨g, k, none⟩ = some (.int .u64 ((L.getD k 0 : Nat) : Int))) (hLl : l ≤ 1024) :
    Calls Try.prog 112 #[.slice (some ⟨g, 0, none⟩) l cap] w fun e w' => ∃ g2 cap2, e = .returned (.slice (some ⟨g2, 0, none⟩) l cap2) ∧ w.heap.size ≤ g2 ∧ w'.ownsRow 0 111 1 (.slice (some ⟨g2, 0, none⟩) l cap2) l (L.map wv) ∧ w.grownBy w' none := by
  obtain ⟨i0, hi, hz0, hz1, hz2⟩ := info_parts Try.info111
  have hsn := fun (w : World) => Lib.run_eql_slice_nil (P := Try.prog) w 107 111 (some ⟨g, 0, none⟩) l cap 0 0 Try.underlying107
  go_enter Try.func112, Try.ntmps112
  have hown : (w.alloc (.cells #[] 111)).ownsRow w.heap.size 111 1 (.slice (some ⟨w.heap.size, 0, none⟩) 0 0) 0 [] := World.ownsRow_lit w #[] 0 (Nat.le_refl _) (Nat.zero_le _) rfl
  have hnew : ∀ j u, (L.map wv)[j]? = some u → (w.alloc (.cells #[] 111)).cell? ((⟨g, 0, none⟩ : Addr).add j) = some u := by
    intro j u hu
    have hj : j < l := by
      have := (List.getElem?_eq_some_iff.1 hu).1
      simpa [hl] using this
    have hc := hL j hj
    have hlt : g < w.heap.size := World.block_lt_of_cell? w _ hc
    rw [show (⟨g, 0, none⟩ : Addr).add j = ⟨g, j, none⟩ by unfold Addr.add; split <;> simp_all, (World.grownBy_alloc w _ none).cell hc (by simp)]
    rw [List.getElem?_map] at hu
    rw [← hu]
    simp [wv, show j < L.length by omega]
  have HN := Lib.hid hnew
  have HL := Lib.hid hL
  clear hnew hL
  go_wp2_with (at_builtin; refine wpList_append_own _ rfl (.tmp 5) (.tmp 6) 107 rfl w.heap.size 111 i0 (.int .u64 0) 1 8 Try.underlying107 hi hz0 hz1 hz2 rfl (by decide) _ _ _ rfl hown ⟨g, 0, none⟩ l cap (L.map wv) rfl (by simp [hl]) HN.out (wv_one L) (by unfold maxLen; omega) (by omega) (by simp) ?_; intro v' w1 hown1 hgrow1 hnil)
  go_ret
  rw [Nat.zero_add, List.nil_append] at hown1
  have hv : v' ≠ .slice none 0 0 := fun e => by have h' := (hnil.1 e).1; cases h'
  rcases hown1.2 with ⟨e, _⟩ | ⟨g2, cap2, cur, rfl, hb, hr⟩
  · exact absurd e hv
  · exact ⟨g2, cap2, rfl, hb, ⟨hown1.1, .inr ⟨g2, cap2, cur, rfl, Nat.zero_le _, hr⟩⟩, gb_trans (World.grownBy_alloc w _ none) hgrow1 (Or.inr (Or.inr ⟨_, rfl, Nat.le_refl _⟩))⟩

set_option maxHeartbeats 1000000 in
theorem copy_any (p g cap n : Nat) (L : List Nat) (w : World) (h : SetAt w p g cap n L) :
    Calls Try.prog 102 #[.pointer (some ⟨p, 0, none⟩)] w (Made w n L) := by
  have hm := h.max
  have hN := h.cellN
  have hW := h.cellW
  have hl := h.len
  go_enter Try.func102, Try.ntmps102
  go_wp2_with fail
  have HC := Lib.hid (clone_any g cap ((n + 63) / 64) L w.drew hl (fun k hk => h.drew.cell k (by omega)) (by omega))
  go_region_with (go_at_call 112; refine HC.out.mono ?_; rintro e w' ⟨g2, cap2, rfl, hb, ho, hg⟩; have hN' := hg.cell (w := w.drew) hN (by simp))
  all_goals
    go_wp2
    go_ret
    have hgg : w.grownBy w' none := gb_trans (gb_drew w none) hg (Or.inl rfl)
    refine ⟨w'.heap.size, g2, cap2, rfl, hgg.size, hb, ⟨⟨?_, ?_, h.good.len, h.good.max, h.good.wd⟩, h.good⟩, gb_trans hgg (World.grownBy_alloc _ _ none) (Or.inl rfl)⟩
    · rw [hl]; exact heap_alloc_new _ _
    · rw [hl]; exact ho.alloc _
end Go.Proofs.Ytcdepblajobemaa
namespace Go.Proofs.Ytcdepblajobemaa
open Go.RowKit
def bv (x : Nat) : Value := .int .u8 (x : Int)
theorem Try.info5 : (Try.prog.info? 5).map (fun i => (i.zero, i.size, i.bytes)) = some (some (.int .u8 0), 1, 1) := by kernel_rfl
def keyS (n : Nat) (L : List Nat) : ByteArray := ⟨((keyL n L).map UInt8.ofNat).toArray⟩
theorem keyS_inj {n : Nat} {L M : List Nat} (g : Good n L) (h : Good n M) (e : keyS n L = keyS n M) : L = M := by
  apply key_inj g h
  have e1 : (keyL n L).map UInt8.ofNat = (keyL n M).map UInt8.ofNat := by
    have := congrArg (fun s => s.data.toList) e
    simpa [keyS] using this
  have hb : ∀ (K : List Nat), (keyL n K).map (fun x => (UInt8.ofNat x).toNat) = keyL n K := by
    intro K
    unfold keyL
    rw [List.map_map]
    apply List.map_congr_left
    intro j _
    simp
  have e2 := congrArg (List.map UInt8.toNat) e1
  rw [List.map_map, List.map_map] at e2
  exact (hb L).symm.trans (e2.trans (hb M))
theorem push_bytes : ∀ (xs : List Nat) (r : ByteArray), (xs.map fun x : Nat => (x : Int)).foldl (fun r n => r.push (UInt8.ofNat n.toNat)) r = ⟨(r.data.toList ++ xs.map UInt8.ofNat).toArray⟩
  | [], r => by cases r; simp
  | x :: xs, r => by
    rw [List.map_cons, List.foldl_cons, push_bytes xs]
    simp [ByteArray.push]
/-- 'string(b)' of a row of bytes. -/
theorem string_row {w : World} {base g n cap : Nat} {xs : List Nat} (h : w.ownsRow base 5 1 (.slice (some ⟨g, 0, none⟩) n cap) n (xs.map bv)) :
    (convert 148 9 (.slice (some ⟨g, 0, none⟩) n cap)).run Try.prog w = .ok (.string ⟨(xs.map UInt8.ofNat).toArray⟩) w := by
  have hn : (xs.map bv).length = n := by have := h.1; rwa [Nat.mul_one] at this
  have hl := run_loadCells_list (P := Try.prog) w ⟨g, 0, none⟩ (xs.map bv) (h.cells (g := g) rfl)
  rw [hn] at hl
  have hb : xs.map bv = (xs.map fun x : Nat => (x : Int)).map (Value.int .u8) := by rw [List.map_map]; rfl
  rw [hb] at hl
  rw [run_convert_bytes_string w _ _ _ _ n cap Try.underlying148 Try.underlying5 Try.underlying9, run_bytesToString w _ n cap _ hl, push_bytes]
  simp [ByteArray.empty, ByteArray.emptyWithCapacity]
  rfl
set_option maxHeartbeats 1000000 in
theorem key_any (p g cap n : Nat) (L : List Nat) (w : World) (h : SetAt w p g cap n L) :
    Calls Try.prog 101 #[.pointer (some ⟨p, 0, none⟩)] w fun e w' => e = .returned (.string (keyS n L)) ∧ w.grownBy w' none := by
  obtain ⟨i0, hi, hz0, hz1, hz2⟩ := info_parts Try.info5
  have hm := h.max
  have hN := h.cellN
  have hW := h.cellW
  have hl := h.len
  go_enter Try.func101, Try.ntmps101
  go_wp2_with (at_make; refine wpList_make_full _ rfl _ _ 148 rfl w.heap.size 5 i0 (.int .u8 0) 1 Try.underlying148 hi hz0 hz1 .i64 .i64 _ _ ((n + 7) / 8) rfl rfl (by omega) (by omega) (by rw [hz2]; omega) (by unfold maxLen; omega) (Nat.le_refl _) ?_; intro w0 hown0 hgrow0)
  go_loopw [14] (fun i wr => ∃ k : Nat, k ≤ (n + 7) / 8 ∧ i = .int .i64 (k : Int) ∧ wr.ownsRow w.heap.size 5 1 (.slice (some ⟨w.heap.size, 0, none⟩) ((n + 7) / 8) ((n + 7) / 8)) ((n + 7) / 8) ((upto (fun j => L.getD (j / 8) 0 / 2 ^ (j % 8 * 8) % 256) ((n + 7) / 8) k).map bv) ∧ w.grownBy wr none) (fun i _ => (n + 7) / 8 - (intOf i).toNat)
  case atStart => exact ⟨0, by omega, rfl, by rw [upto_zero, List.map_replicate]; rwa [Nat.mul_one, show (Value.int IntKind.u8 0).cells = #[Value.int .u8 0] from rfl, toList_madeCells_one] at hown0, hgrow0⟩
  case round =>
    obtain ⟨k, hk, rfl, hO, hG⟩ := hrel
    by_cases hlt : k < (n + 7) / 8
    · have h2 := h.kept hG (by simp) (by simp)
      have hW' := h2.cellW
      have hc' := h2.cell (k / 8) (by omega)
      have hx := h.wd (k / 8)
      have hf := hO.frozenAt k
      obtain ⟨vd, hd⟩ : ∃ v, wr.cell? ⟨w.heap.size, k, none⟩ = some v := ⟨_, (hO.cellAt k (by omega)).trans (List.getElem?_eq_getElem (by simp [upto_len]; omega))⟩
      have hs := hO.stored k (.int .u8 ((L.getD (k / 8) 0 / 2 ^ (k % 8 * 8) % 256 : Nat) : Int))
      have hlt8 : k / 8 < (n + 63) / 64 := by omega
      generalize hxx : L.getD (k / 8) 0 = x at hc' hs hx
      have HX := Lib.hid hxx
      clear hxx
      have HS := Lib.hid hs
      clear hs hW
      go_wp2
      have e : (x : Int) / 2 ^ (k % 8 * 8) % 256 = ((x / 2 ^ (k % 8 * 8) % 256 : Nat) : Int) := by simp
      rw [e]
      refine ⟨⟨k + 1, by omega, by go_num, ?_, gb_trans hG HS.out.2 (Or.inr (Or.inr ⟨_, rfl, Nat.le_refl _⟩))⟩, by simp [intOf]; omega⟩
      rw [upto_succ _ _ _ hlt, List.map_set]
      simp only [HX.out]
      exact HS.out.1
    · obtain rfl : k = (n + 7) / 8 := by omega
      have hlt2 : ¬ (((n + 7) / 8 : Nat) : Int) < (n + 7) / 8 := by omega
      rw [upto_all] at hO
      have hst : (convert 148 9 (.slice (some ⟨w.heap.size, 0, none⟩) ((n + 7) / 8) ((n + 7) / 8))).run Try.prog wr = .ok (.string (keyS n L)) wr := string_row hO
      go_wp2
      go_ret
      exact ⟨rfl, hG⟩
end Go.Proofs.Ytcdepblajobemaa
namespace Go.Proofs.Ytcdepblajobemaa
open Go.RowKit

/-- Whole numbers that came in. -/
def IntsAt (w : World) (v : Value) (A : List Int) : Prop :=
  ∃ a cap, v = .slice a A.length cap ∧ (∀ k, k < A.length → -9223372036854775808 ≤ A.getD k 0 ∧ A.getD k 0 ≤ 9223372036854775807) ∧ (A.length ≤ 17592186043904) ∧
    (A = [] ∨ ∃ b off, a = some ⟨b, off, none⟩ ∧ ∀ k, k < A.length → w.cell? ⟨b, off + k, none⟩ = some (.int .i64 (A.getD k 0)))

theorem IntsAt.kept {w w' : World} {v : Value} {A : List Int} (h : IntsAt w v A) (hg : w.grownBy w' none) : IntsAt w' v A := by
  obtain ⟨a, cap, rfl, h1, h2, h3⟩ := h
  refine ⟨a, cap, rfl, h1, h2, ?_⟩
  rcases h3 with h3 | ⟨b, off, rfl, h3⟩
  · exact Or.inl h3
  · exact Or.inr ⟨b, off, rfl, fun k hk => hg.cell (h3 k hk) (by simp)⟩

theorem put1_yes {n : Nat} {L : List Nat} {i : Nat} (h : i < n) : put1 n L (i : Int) = putL L i := by
  unfold put1; rw [if_pos (by omega), Int.toNat_natCast]
theorem put1_no {n : Nat} {L : List Nat} {i : Int} (h : i < 0 ∨ n ≤ i) : put1 n L i = L := by
  unfold put1; rw [if_neg (by omega)]

theorem put_any (i : Int) (p g cap n : Nat) (L : List Nat) (w : World) (h : SetAt w p g cap n L) :
    Calls Try.prog 48 #[.pointer (some ⟨p, 0, none⟩), .int .i64 i] w fun e w' => e = .returned (.tuple #[]) ∧ SetAt w' p g cap n (put1 n L i) ∧ w.grownBy w' (some g) := by
  by_cases hi : 0 ≤ i ∧ i < n
  · obtain ⟨j, rfl⟩ := Int.eq_ofNat_of_zero_le hi.1
    rw [put1_yes (by omega)]
    exact put_yes j p g cap n L w h (by omega)
  · rw [put1_no (by omega)]
    refine (put_no i p g cap n L w h (by omega)).mono ?_
    rintro e w' ⟨rfl, rfl⟩
    exact ⟨rfl, h, gb_refl _ _⟩

set_option maxHeartbeats 1000000 in
theorem of_any (n : Nat) (v : Value) (A : List Int) (w : World) (hn : n ≤ 65536) (hA : IntsAt w v A) :
    Calls Try.prog 22 #[.int .i64 (n : Int), v] w (Made w n (ofL n A)) := by
  obtain ⟨a, cap, rfl, h1, h2, h3⟩ := hA
  have HH := Lib.hid h3
  have H1 := Lib.hid h1
  clear h1 h3
  go_enter Try.func22, Try.ntmps22
  go_wp2_with (go_at_call 47; refine (new_yes _ _ hn).mono ?_; rintro e w0 ⟨p, g, cap0, rfl, hp, hg, hS, hG⟩)
  go_loopw [14] (fun i wr => ∃ k : Nat, k ≤ A.length ∧ i = .int .i64 (k : Int) ∧ SetAt wr p g cap0 n (ofL n (A.take k)) ∧ w.grownBy wr none) (fun i _ => A.length - (intOf i).toNat)
  case atStart => exact ⟨0, by omega, rfl, hS, hG⟩
  case round =>
    obtain ⟨k, hk, rfl, hR, hW⟩ := hrel
    by_cases hlt : k < A.length
    · have hb := H1.out k hlt
      have HT := Lib.hid (of_take n A k hlt)
      rcases HH.out with rfl | ⟨b, off, rfl, hc⟩
      · exact absurd hlt (by simp)
      · have hc' := hW.cell (hc k hlt) (by simp)
        clear hc
        generalize A.getD k 0 = x at hb hc' HT
        go_wp2_with (go_at_call 48; refine (put_any _ _ _ _ _ _ _ hR).mono ?_; rintro e w' ⟨rfl, hR', hg'⟩)
        go_roundw
        case rel => exact ⟨k + 1, by omega, by go_num, by rw [HT.out]; exact hR', gb_trans hW hg' (Or.inr (Or.inr ⟨_, rfl, hg⟩))⟩
        case measure => simp [intOf]; omega
    · obtain rfl : k = A.length := by omega
      rw [List.take_length] at hR
      go_wp2
      go_ret
      exact ⟨p, g, cap0, rfl, hp, hg, hR, hW⟩

/-- 'pick', 'width': a number out of a raw one. -/
def pickF (c m : Int) : Int := if c < 0 then (-(c + 1)) % m else c % m
def widthF (c : Int) : Nat := (if c.tmod 16 = 15 then pickF (c.tdiv 16) 65537 else pickF c 150).toNat
theorem widthF_le (c : Int) : widthF c ≤ 65536 := by
  unfold widthF pickF; omega
end Go.Proofs.Ytcdepblajobemaa
namespace Go.Proofs.Ytcdepblajobemaa
open Go.RowKit

/-- An edge. -/
structure Edg where
  fr : Int
  tt : Int
  mu : Nat
  no : Nat
def cmpI (a b : Int) : Int := if a < b then -1 else if b < a then 1 else 0
theorem nan_int (a : Int) (w : World) : Calls Try.prog 113 #[.int .i64 a] w fun e w' => e = .returned (.bool false) ∧ w = w' := by
  go_enter Try.func113, Try.ntmps113
  go_wp2_with fail
  go_ret
  exact ⟨rfl, rfl⟩
theorem nan_u16 (a : Int) (w : World) : Calls Try.prog 114 #[.int .u16 a] w fun e w' => e = .returned (.bool false) ∧ w = w' := by
  go_enter Try.func114, Try.ntmps114
  go_wp2_with fail
  go_ret
  exact ⟨rfl, rfl⟩
theorem cmp_int (a b : Int) (w : World) : Calls Try.prog 110 #[.int .i64 a, .int .i64 b] w fun e w' => e = .returned (.int .i64 (cmpI a b)) ∧ w = w' := by
  have HA := Lib.hid (nan_int a)
  have HB := Lib.hid (nan_int b)
  by_cases h1 : a < b
  · have HC : Hid (cmpI a b = -1) := Lib.hid (by unfold cmpI; rw [if_pos h1])
    go_enter Try.func110, Try.ntmps110
    go_wp2_with fail
    refine (HA.out _).mono ?_
    rintro e w1 ⟨rfl, rfl⟩
    go_wp2_with fail
    refine (HB.out _).mono ?_
    rintro e w1 ⟨rfl, rfl⟩
    go_wp2_with fail
    go_ret
    exact ⟨by rw [HC.out]; rfl, rfl⟩
  · by_cases h2 : b < a
    · have HC : Hid (cmpI a b = 1) := Lib.hid (by unfold cmpI; rw [if_neg h1, if_pos h2])
      go_enter Try.func110, Try.ntmps110
      go_wp2_with fail
      refine (HA.out _).mono ?_
      rintro e w1 ⟨rfl, rfl⟩
      go_wp2_with fail
      refine (HB.out _).mono ?_
      rintro e w1 ⟨rfl, rfl⟩
      go_wp2_with fail
      go_ret
      exact ⟨by rw [HC.out]; rfl, rfl⟩
    · have HC : Hid (cmpI a b = 0) := Lib.hid (by unfold cmpI; rw [if_neg h1, if_neg h2])
      go_enter Try.func110, Try.ntmps110
      go_wp2_with fail
      refine (HA.out _).mono ?_
      rintro e w1 ⟨rfl, rfl⟩
      go_wp2_with fail
      refine (HB.out _).mono ?_
      rintro e w1 ⟨rfl, rfl⟩
      go_wp2_with fail
      go_ret
      exact ⟨by rw [HC.out]; rfl, rfl⟩
theorem cmp_u16 (a b : Int) (w : World) : Calls Try.prog 111 #[.int .u16 a, .int .u16 b] w fun e w' => e = .returned (.int .i64 (cmpI a b)) ∧ w = w' := by
  have HA := Lib.hid (nan_u16 a)
  have HB := Lib.hid (nan_u16 b)
  by_cases h1 : a < b
  · have HC : Hid (cmpI a b = -1) := Lib.hid (by unfold cmpI; rw [if_pos h1])
    go_enter Try.func111, Try.ntmps111
    go_wp2_with fail
    refine (HA.out _).mono ?_
    rintro e w1 ⟨rfl, rfl⟩
    go_wp2_with fail
    refine (HB.out _).mono ?_
    rintro e w1 ⟨rfl, rfl⟩
    go_wp2_with fail
    go_ret
    exact ⟨by rw [HC.out]; rfl, rfl⟩
  · by_cases h2 : b < a
    · have HC : Hid (cmpI a b = 1) := Lib.hid (by unfold cmpI; rw [if_neg h1, if_pos h2])
      go_enter Try.func111, Try.ntmps111
      go_wp2_with fail
      refine (HA.out _).mono ?_
      rintro e w1 ⟨rfl, rfl⟩
      go_wp2_with fail
      refine (HB.out _).mono ?_
      rintro e w1 ⟨rfl, rfl⟩
      go_wp2_with fail
      go_ret
      exact ⟨by rw [HC.out]; rfl, rfl⟩
    · have HC : Hid (cmpI a b = 0) := Lib.hid (by unfold cmpI; rw [if_neg h1, if_neg h2])
      go_enter Try.func111, Try.ntmps111
      go_wp2_with fail
      refine (HA.out _).mono ?_
      rintro e w1 ⟨rfl, rfl⟩
      go_wp2_with fail
      refine (HB.out _).mono ?_
      rintro e w1 ⟨rfl, rfl⟩
      go_wp2_with fail
      go_ret
      exact ⟨by rw [HC.out]; rfl, rfl⟩
/-- The first that is not 0. -/
def orF : List Int → Int
  | [] => 0
  | x :: l => if x = 0 then orF l else x
theorem orF_at : ∀ (A : List Int) (k : Nat), (∀ j, j < k → A.getD j 0 = 0) → k ≤ A.length → (k < A.length → A.getD k 0 ≠ 0) → orF A = A.getD k 0
  | [], k, _, hk, _ => by rfl
  | x :: A, 0, _, _, h => by
    have : x ≠ 0 := h (by simp)
    unfold orF
    rw [if_neg this]
    rfl
  | x :: A, k + 1, h0, hk, h => by
    have hx : x = 0 := h0 0 (by omega)
    unfold orF
    rw [if_pos hx]
    exact orF_at A k (fun j hj => h0 (j + 1) (by omega)) (by simpa using hk) (fun hk => h (by simpa using hk))
set_option maxRecDepth 100000 in
theorem or_int (v : Value) (A : List Int) (w : World) (hA : IntsAt w v A) : Calls Try.prog 109 #[v] w fun e w' => e = .returned (.int .i64 (orF A)) ∧ w = w' := by
  obtain ⟨a, cap, rfl, hb, hl, hc⟩ := hA
  have HC := Lib.hid hc
  have HO := Lib.hid (orF_at A)
  clear hc hb
  go_enter Try.func109, Try.ntmps109
  go_wp2_with fail
  go_loop [8] (fun i => ∃ k : Nat, k ≤ A.length ∧ i = .int .i64 (k : Int) ∧ Hid (∀ j, j < k → A.getD j 0 = 0)) (fun i => A.length - (intOf i).toNat)
  case atStart => exact ⟨0, Nat.zero_le _, rfl, Lib.hid fun j h => absurd h (Nat.not_lt_zero _)⟩
  case round =>
    obtain ⟨k, hk, rfl, H0⟩ := hrel
    by_cases hlt : k < A.length
    · have hkI : (k : Int) < (A.length : Int) := by omega
      rcases HC.out with rfl | ⟨b, off, rfl, hcc⟩
      · exact absurd hlt (by simp)
      have hck := hcc k hlt
      clear hcc
      by_cases hz : A.getD k 0 = 0
      · have HN : Hid (∀ j, j < k + 1 → A.getD j 0 = 0) := Lib.hid fun j hj => by
          by_cases e : j < k
          · exact H0.out j e
          · obtain rfl : j = k := by omega
            exact hz
        rw [hz] at hck
        go_wp2_with fail
        exact ⟨⟨k + 1, by omega, by go_num, HN⟩, by simp [intOf]; omega⟩
      · have HE := Lib.hid (HO.out k H0.out hk (fun _ => hz))
        have hzb : (A.getD k 0 != 0) = true := by simpa using hz
        generalize A.getD k 0 = x at hck hzb HE
        clear hz
        go_wp2_with fail
        go_ret
        exact ⟨by rw [HE.out]; rfl, rfl⟩
    · obtain rfl : k = A.length := by omega
      have hkI : ¬ (A.length : Int) < (A.length : Int) := by omega
      have HE : Hid (orF A = 0) := Lib.hid (by rw [HO.out A.length H0.out (Nat.le_refl _) (fun h => absurd h (Nat.lt_irrefl _)), List.getD_eq_getElem?_getD, List.getElem?_eq_none (Nat.le_refl _)]; rfl)
      go_wp2_with fail
      go_ret
      exact ⟨by rw [HE.out]; rfl, rfl⟩
def edgeV (e : Edg) : Value := .agg #[.int .i64 e.fr, .int .i64 e.tt, .int .u16 (e.mu : Int), .int .u16 (e.no : Int)]
def edgeC (e : Edg) : List Value := [.int .i64 e.fr, .int .i64 e.tt, .int .u16 (e.mu : Int), .int .u16 (e.no : Int)]
def ordF (a b : Edg) : Int := orF [cmpI a.fr b.fr, cmpI a.tt b.tt, cmpI (a.mu : Int) (b.mu : Int), cmpI (a.no : Int) (b.no : Int)]
end Go.Proofs.Ytcdepblajobemaa
namespace Go.Proofs.Ytcdepblajobemaa
open Go.RowKit

theorem ints4 (w : World) (a b c d : Int) (h : ∀ x, x ∈ [a, b, c, d] → -9223372036854775808 ≤ x ∧ x ≤ 9223372036854775807) : IntsAt (w.alloc (.cells #[.int .i64 a, .int .i64 b, .int .i64 c, .int .i64 d] 3)) (.slice (some ⟨w.heap.size, 0, none⟩) 4 4) [a, b, c, d] := by
  have e := heap_alloc_new w (.cells #[.int .i64 a, .int .i64 b, .int .i64 c, .int .i64 d] 3)
  refine ⟨some ⟨w.heap.size, 0, none⟩, 4, rfl, fun k hk => h _ ?_, (by show 4 ≤ 17592186043904; decide), Or.inr ⟨_, _, rfl, fun k hk => ?_⟩⟩
  · rw [List.getD_eq_getElem?_getD, List.getElem?_eq_getElem hk]; exact List.getElem_mem _
  · have hk4 : k < 4 := hk
    rw [Nat.zero_add]
    match k, hk4 with
    | 0, _ => simp only [World.cell?, e]; rfl
    | 1, _ => simp only [World.cell?, e]; rfl
    | 2, _ => simp only [World.cell?, e]; rfl
    | 3, _ => simp only [World.cell?, e]; rfl
/-- Reads and quiet calls, and a tail behind them. -/
theorem region_tail {P : Program} {id : Nat} {Q : Exit → Act → World → Prop} {a : Act} {w : World} {l : List Oper} (n : Nat) (hm : P.follows .mixedOrders = true) (hB : Region.lexTailB .any l.toArray n = true)
    (h : wpStill P l.toArray w.drew (fun a' => wpList P l.toArray Q (l.drop n) a' w.drew) (l.take n) a) : (Code.region id l.toArray true).wp P Q a w := wp_region_still_tail n hm hB h
theorem edge_cells {w : World} {b : Nat} {e : Edg} (h : w.heap[b]? = some (.cells #[.int .i64 e.fr, .int .i64 e.tt, .int .u16 (e.mu : Int), .int .u16 (e.no : Int)] 61 (0, 0))) :
    w.cell? ⟨b, 0, none⟩ = some (.int .i64 e.fr) ∧ w.cell? ⟨b, 1, none⟩ = some (.int .i64 e.tt) ∧ w.cell? ⟨b, 2, none⟩ = some (.int .u16 (e.mu : Int)) ∧ w.cell? ⟨b, 3, none⟩ = some (.int .u16 (e.no : Int)) := by
  refine ⟨?_, ?_, ?_, ?_⟩ <;> simp [World.cell?, h]
theorem cmpI_range (a b : Int) : -1 ≤ cmpI a b ∧ cmpI a b ≤ 1 := by unfold cmpI; split <;> (try split) <;> omega
set_option maxHeartbeats 2000000 in
theorem order_any (a b : Edg) (w : World) : Calls Try.prog 93 #[edgeV a, edgeV b] w fun e w' => e = .returned (.int .i64 (ordF a b)) ∧ w.grownBy w' none := by
  have HO := Lib.hid (fun wx v (h : IntsAt wx v [cmpI a.fr b.fr, cmpI a.tt b.tt, cmpI (a.mu : Int) (b.mu : Int), cmpI (a.no : Int) (b.no : Int)]) => or_int v _ wx h)
  have HR : Hid (∀ x, x ∈ [cmpI a.fr b.fr, cmpI a.tt b.tt, cmpI (a.mu : Int) (b.mu : Int), cmpI (a.no : Int) (b.no : Int)] → -9223372036854775808 ≤ x ∧ x ≤ 9223372036854775807) := Lib.hid fun x hx => by
    have h1 := cmpI_range a.fr b.fr
    have h2 := cmpI_range a.tt b.tt
    have h3 := cmpI_range (a.mu : Int) (b.mu : Int)
    have h4 := cmpI_range (a.no : Int) (b.no : Int)
    simp only [List.mem_cons, List.not_mem_nil, or_false] at hx
    rcases hx with rfl | rfl | rfl | rfl <;> omega
  have H1 := Lib.hid (fun w => cmp_int a.fr b.fr w)
  have H2 := Lib.hid (fun w => cmp_int a.tt b.tt w)
  have H3 := Lib.hid (fun w => cmp_u16 (a.mu : Int) (b.mu : Int) w)
  have H4 := Lib.hid (fun w => cmp_u16 (a.no : Int) (b.no : Int) w)
  have HF : Hid (orF [cmpI a.fr b.fr, cmpI a.tt b.tt, cmpI (a.mu : Int) (b.mu : Int), cmpI (a.no : Int) (b.no : Int)] = ordF a b) := Lib.hid rfl
  generalize cmpI a.fr b.fr = c1 at HO HR H1 HF
  generalize cmpI a.tt b.tt = c2 at HO HR H2 HF
  generalize cmpI (a.mu : Int) (b.mu : Int) = c3 at HO HR H3 HF
  generalize cmpI (a.no : Int) (b.no : Int) = c4 at HO HR H4 HF
  have hga : w.grownBy ((w.alloc (.cells #[.int .i64 a.fr, .int .i64 a.tt, .int .u16 (a.mu : Int), .int .u16 (a.no : Int)] 61)).alloc (.cells #[.int .i64 b.fr, .int .i64 b.tt, .int .u16 (b.mu : Int), .int .u16 (b.no : Int)] 61)) none := gb_trans (World.grownBy_alloc _ _ none) (World.grownBy_alloc _ _ none) (Or.inl rfl)
  unfold edgeV
  go_enter Try.func93, Try.ntmps93
  go_wp2_with fail
  have HB := Lib.hid (heap_alloc_new (w.alloc (.cells #[.int .i64 a.fr, .int .i64 a.tt, .int .u16 (a.mu : Int), .int .u16 (a.no : Int)] 61)) (.cells #[.int .i64 b.fr, .int .i64 b.tt, .int .u16 (b.mu : Int), .int .u16 (b.no : Int)] 61))
  have HA := Lib.hid ((Below.heap_alloc (w.alloc (.cells #[.int .i64 a.fr, .int .i64 a.tt, .int .u16 (a.mu : Int), .int .u16 (a.no : Int)] 61)) (.cells #[.int .i64 b.fr, .int .i64 b.tt, .int .u16 (b.mu : Int), .int .u16 (b.no : Int)] 61) w.heap.size (by rw [World.size_alloc]; omega)).trans (heap_alloc_new w (.cells #[.int .i64 a.fr, .int .i64 a.tt, .int .u16 (a.mu : Int), .int .u16 (a.no : Int)] 61)))
  rw [World.size_alloc] at HB
  generalize (w.alloc (.cells #[.int .i64 a.fr, .int .i64 a.tt, .int .u16 (a.mu : Int), .int .u16 (a.no : Int)] 61)).alloc (.cells #[.int .i64 b.fr, .int .i64 b.tt, .int .u16 (b.mu : Int), .int .u16 (b.no : Int)] 61) = wq at hga HA HB ⊢
  obtain ⟨a0, a1, a2, a3⟩ := edge_cells HA.out
  obtain ⟨b0, b1, b2, b3⟩ := edge_cells HB.out
  have HG := Lib.hid hga
  clear hga
  refine region_tail 20 (by kernel_rfl) (by kernel_rfl) ?_
  simp only [List.take_succ_cons, List.take_zero, List.drop_succ_cons, List.drop_zero]
  iterate 4 still_step
  still_call ((H1.out _).mono fun _ _ h => ⟨h.1, h.2.symm⟩)
  iterate 4 still_step
  still_call ((H2.out _).mono fun _ _ h => ⟨h.1, h.2.symm⟩)
  iterate 4 still_step
  still_call ((H3.out _).mono fun _ _ h => ⟨h.1, h.2.symm⟩)
  iterate 4 still_step
  still_call ((H4.out _).mono fun _ _ h => ⟨h.1, h.2.symm⟩)
  refine wpStill_nil ?_
  go_wp2_with fail
  refine (HO.out _ _ (ints4 wq.drew c1 c2 c3 c4 HR.out)).mono ?_
  rintro e w5 ⟨rfl, rfl⟩
  go_wp2_with fail
  go_ret
  rw [HF.out]
  exact ⟨rfl, gb_trans (gb_trans HG.out (gb_drew wq none) (Or.inl rfl)) (World.grownBy_alloc _ _ none) (Or.inl rfl)⟩

/-- Is the k-th of some numbers below n, and above the one ahead of it? -/
def riseB (A : List Int) (n : Int) (k : Nat) : Bool := decide (0 ≤ A.getD k 0) && (decide (A.getD k 0 < n) && (decide (k = 0) || decide (A.getD (k - 1) 0 < A.getD k 0)))
def risingF (A : List Int) (n : Int) : Bool := (List.range A.length).all (riseB A n)
theorem rising_no {A : List Int} {n : Int} {k : Nat} (hk : k < A.length) (h : riseB A n k = false) : risingF A n = false := all_not h hk
theorem rising_yes {A : List Int} {n : Int} (h : ∀ k, k < A.length → riseB A n k = true) : risingF A n = true := by
  unfold risingF
  rw [List.all_eq_true]
  intro k hk
  exact h k (List.mem_range.1 hk)
theorem isrow_any (v : Value) (A : List Int) (n : Int) (w : World) (hA : IntsAt w v A) : Calls Try.prog 92 #[v, .int .i64 n] w fun e w' => e = .returned (.bool (risingF A n)) ∧ w = w' := by
  obtain ⟨a, cap, rfl, hb, hl, hc⟩ := hA
  have HC := Lib.hid hc
  have HN := Lib.hid (fun k hk h => rising_no (A := A) (n := n) (k := k) hk h)
  have HY := Lib.hid (rising_yes (A := A) (n := n))
  clear hc hb
  go_enter Try.func92, Try.ntmps92
  go_wp2_with fail
  go_loop [9] (fun i => ∃ k : Nat, k ≤ A.length ∧ i = .int .i64 (k : Int) ∧ Hid (∀ j, j < k → riseB A n j = true)) (fun i => A.length - (intOf i).toNat)
  case atStart => exact ⟨0, Nat.zero_le _, rfl, Lib.hid fun j h => absurd h (Nat.not_lt_zero _)⟩
  case round =>
    obtain ⟨k, hk, rfl, H0⟩ := hrel
    by_cases hlt : k < A.length
    · have hkI : (k : Int) < (A.length : Int) := by omega
      rcases HC.out with rfl | ⟨b, off, rfl, hcc⟩
      · exact absurd hlt (by simp)
      have hck := hcc k hlt
      have hcp : 0 < k → w.cell? ⟨b, off + (k - 1), none⟩ = some (.int .i64 (A.getD (k - 1) 0)) := fun h => hcc (k - 1) (by omega)
      clear hcc
      have HB : Hid (riseB A n k = (decide (0 ≤ A.getD k 0) && (decide (A.getD k 0 < n) && (decide (k = 0) || decide (A.getD (k - 1) 0 < A.getD k 0))))) := Lib.hid rfl
      have HNk := Lib.hid (HN.out k hlt)
      have HYk : Hid (riseB A n k = true → ∀ j, j < k + 1 → riseB A n j = true) := Lib.hid fun h j hj => by
        by_cases e : j < k
        · exact H0.out j e
        · obtain rfl : j = k := by omega
          exact h
      generalize A.getD k 0 = x at hck HB
      generalize A.getD (k - 1) 0 = y at hcp HB
      by_cases h0 : x < 0
      · have HV := Lib.hid (HNk.out (by rw [HB.out, decide_eq_false (by omega), Bool.false_and]))
        clear HB HNk HYk
        go_wp2_with fail
        go_ret
        exact ⟨by rw [HV.out]; rfl, rfl⟩
      · by_cases h1 : n ≤ x
        · have HV := Lib.hid (HNk.out (by rw [HB.out, decide_eq_false (show ¬ x < n by omega), Bool.false_and, Bool.and_false]))
          clear HB HNk HYk
          go_wp2_with fail
          go_ret
          exact ⟨by rw [HV.out]; rfl, rfl⟩
        · by_cases hk0 : 0 < k
          · have hkJ : (0 : Int) < (k : Int) := by omega
            have hcq := hcp hk0
            clear hcp
            have htn : ((k : Int) - 1).toNat = k - 1 := by omega
            by_cases h2 : x ≤ y
            · have HV := Lib.hid (HNk.out (by rw [HB.out, decide_eq_false (show ¬ k = 0 by omega), decide_eq_false (show ¬ y < x by omega), Bool.or_false, Bool.and_false, Bool.and_false]))
              clear HB HNk HYk
              go_wp2_with fail
              go_ret
              exact ⟨by rw [HV.out]; rfl, rfl⟩
            · have HV := Lib.hid (HYk.out (by rw [HB.out, decide_eq_true (show 0 ≤ x by omega), decide_eq_true (show x < n by omega), decide_eq_true (show y < x by omega), Bool.or_true]; rfl))
              clear HB HNk HYk
              go_wp2_with fail
              exact ⟨⟨k + 1, by omega, by go_num, HV⟩, by simp [intOf]; omega⟩
          · obtain rfl : k = 0 := by omega
            have HV := Lib.hid (HYk.out (by rw [HB.out, decide_eq_true (show 0 ≤ x by omega), decide_eq_true (show x < n by omega)]; rfl))
            clear HB HNk HYk hcp hkI
            rw [Nat.add_zero] at hck
            have hkI : (0 : Int) < (A.length : Int) := by omega
            go_wp2_with fail
            exact ⟨⟨1, by omega, by go_num, HV⟩, by simp [intOf]; omega⟩
    · have HV := Lib.hid (HY.out fun j hj => H0.out j (by omega))
      have hkI : ¬ (k : Int) < (A.length : Int) := by omega
      go_wp2_with fail
      go_ret
      exact ⟨by rw [HV.out]; rfl, rfl⟩
end Go.Proofs.Ytcdepblajobemaa
namespace Go.Proofs.Ytcdepblajobemaa
open Go.RowKit

def MadeH (w : World) (n : Nat) (L : List Nat) (e : Ending) (w' : World) : Prop :=
  ∃ p g cap M, e = .returned (.pointer (some ⟨p, 0, none⟩)) ∧ w.heap.size ≤ p ∧ w.heap.size ≤ g ∧ SetAt w' p g cap n M ∧ Hid (M = L) ∧ w.grownBy w' none
theorem madeH {w : World} {n : Nat} {L : List Nat} {e : Ending} {w' : World} (h : Made w n L e w') : MadeH w n L e w' := by
  obtain ⟨p, g, cap, he, h1, h2, h3, h4⟩ := h
  exact ⟨p, g, cap, L, he, h1, h2, h3, rfl, h4⟩
theorem of_h (n : Nat) (v : Value) (A : List Int) (w : World) (hn : n ≤ 65536) (hA : IntsAt w v A) :
    Calls Try.prog 22 #[.int .i64 (n : Int), v] w (MadeH w n (ofL n A)) := (of_any n v A w hn hA).mono fun _ _ h => madeH h
theorem copy_h {p g cap n : Nat} {L : List Nat} {w : World} (h : SetAt w p g cap n L) :
    Calls Try.prog 102 #[.pointer (some ⟨p, 0, none⟩)] w (MadeH w n L) := (copy_any p g cap n L w h).mono fun _ _ h => madeH h

def Set2 (w : World) (p g cap n : Nat) (L : List Nat) (e : Ending) (w' : World) : Prop :=
  ∃ M, e = .returned (.tuple #[]) ∧ SetAt w' p g cap n M ∧ Hid (M = L) ∧ w.grownBy w' (some g)
theorem and_h {p g cap n p2 g2 cap2 n2 : Nat} {L M : List Nat} {w : World} (h : SetAt w p g cap n L) (h2 : SetAt w p2 g2 cap2 n2 M) (hg : g2 ≠ g) :
    Calls Try.prog 52 #[.pointer (some ⟨p, 0, none⟩), .pointer (some ⟨p2, 0, none⟩)] w (Set2 w p g cap n (andL L M)) :=
  (and_any p g cap n p2 L M w h (reads_other h.raw h2.raw hg _)).mono fun _ _ ⟨a, b, c⟩ => ⟨_, a, b, rfl, c⟩
theorem len_h {p g cap n : Nat} {L : List Nat} {w : World} (h : SetAt w p g cap n L) (m : Nat) (hm : Hid (ones L = m)) :
    Calls Try.prog 58 #[.pointer (some ⟨p, 0, none⟩)] w fun e w' => e = .returned (.int .i64 (m : Int)) ∧ w = w' := by
  have := len_any p g cap n L w h
  rwa [hm.out] at this
theorem same_h {p g cap n p2 g2 cap2 n2 : Nat} {L M : List Nat} {w : World} (h : SetAt w p g cap n L) (h2 : SetAt w p2 g2 cap2 n2 M) (r : Bool) (hr : Hid ((n == n2 && L == M) = r)) :
    Calls Try.prog 27 #[.pointer (some ⟨p, 0, none⟩), .pointer (some ⟨p2, 0, none⟩)] w fun e w' => e = .returned (.bool r) ∧ w.grownBy w' none := by
  have := same_any p g cap n p2 g2 cap2 n2 L M w h h2
  rw [hr.out] at this
  refine this.mono ?_
  rintro e w' ⟨he, k, rfl⟩
  exact ⟨he, gb_drewN w k none⟩
theorem key_h {p g cap n : Nat} {L : List Nat} {w : World} (h : SetAt w p g cap n L) (s : ByteArray) (hs : Hid (keyS n L = s)) :
    Calls Try.prog 101 #[.pointer (some ⟨p, 0, none⟩)] w fun e w' => e = .returned (.string s) ∧ w.grownBy w' none := by
  have := key_any p g cap n L w h
  rwa [hs.out] at this
end Go.Proofs.Ytcdepblajobemaa
namespace Go.Proofs.Ytcdepblajobemaa
open Go.RowKit

/-- But in the blocks of S nothing that was there has turned. -/
structure Fr (S : Nat → Prop) (w w' : World) : Prop where
  os : w'.os = w.os
  tape : w'.tape = w.tape
  output : w'.output = w.output
  size : w.heap.size ≤ w'.heap.size
  block : ∀ k, k < w.heap.size → ¬ S k → w'.heap[k]? = w.heap[k]?

namespace Fr
variable {S T : Nat → Prop} {a b c w w' : World}
theorem refl (S : Nat → Prop) (w : World) : Fr S w w := ⟨rfl, rfl, rfl, Nat.le_refl _, fun _ _ _ => rfl⟩
theorem of_gb {r : Option Nat} (h : a.grownBy b r) (hS : ∀ k, r = some k → S k) : Fr S a b :=
  ⟨h.os, h.tape, h.output, h.size, fun k hk hn => h.block k hk (fun e => hn (hS k e.symm))⟩
theorem of_none (h : a.grownBy b none) : Fr S a b := of_gb h (fun _ e => by cases e)
theorem trans (h : Fr S a b) (k : Fr T b c) (hT : ∀ x, T x → S x ∨ a.heap.size ≤ x) : Fr S a c :=
  ⟨k.os.trans h.os, k.tape.trans h.tape, k.output.trans h.output, Nat.le_trans h.size k.size, fun i hi hn => by
    rw [k.block i (Nat.lt_of_lt_of_le hi h.size) (fun e => by
      rcases hT i e with h' | h'
      · exact hn h'
      · omega)]
    exact h.block i hi hn⟩
theorem mono (h : Fr S a b) (hS : ∀ k, k < a.heap.size → S k → T k) : Fr T a b :=
  ⟨h.os, h.tape, h.output, h.size, fun k hk hn => h.block k hk (fun e => hn (hS k hk e))⟩
theorem below {B : Nat} (h : Fr S a b) (hS : ∀ k, S k → B ≤ k) (hB : B ≤ a.heap.size) : Below B a b :=
  ⟨h.os, h.tape, h.output, h.size, fun k hk => h.block k (by omega) (fun e => by have := hS k e; omega)⟩
theorem cell (h : Fr S w w') {p : Addr} {v : Value} (hc : w.cell? p = some v) (hn : ¬ S p.block) : w'.cell? p = some v :=
  (World.cell?_of_block (w := w) (h.block p.block (World.block_lt_of_cell? w p hc) hn)).trans hc
theorem row {base : Nat} {e : TypeId} {size n : Nat} {v : Value} {xs : List Value} (h : Fr S w w') (ho : w.ownsRow base e size v n xs) (hn : ∀ k, v.ownBlock = some k → ¬ S k) : w'.ownsRow base e size v n xs := by
  refine ⟨ho.1, ?_⟩
  rcases ho.2 with h1 | ⟨g, cap, cur, rfl, hb, hgg, rest⟩
  · exact Or.inl h1
  · refine Or.inr ⟨g, cap, cur, rfl, hb, ?_, rest⟩
    rw [h.block g (Array.getElem?_eq_some_iff.1 hgg).1 (hn g rfl)]
    exact hgg
theorem raw {p g cap n : Nat} {L : List Nat} (h : Fr S w w') (hs : RawAt w p g cap n L) (h1 : ¬ S p) (h2 : ¬ S g) : RawAt w' p g cap n L :=
  ⟨by rw [h.block p hs.lt h1]; exact hs.blk, h.row hs.row (fun k e => by cases e; exact h2), hs.len, hs.max, hs.wd⟩
theorem set {p g cap n : Nat} {L : List Nat} (h : Fr S w w') (hs : SetAt w p g cap n L) (h1 : ¬ S p) (h2 : ¬ S g) : SetAt w' p g cap n L := ⟨h.raw hs.raw h1 h2, hs.good⟩
theorem map {P : Program} {k : TypeId} {R : Value → Option (DataW Unit × List MemPlace)} {b n : Nat} {D : DataW Unit} (h : Fr S w w') (ho : w.ownsMap P k R b n D) (hn : ¬ S b) : w'.ownsMap P k R b n D := by
  have hlt := ho.lt
  obtain ⟨es, clock, hb, F, hs, hD⟩ := ho
  exact ⟨es, clock, (h.block b hlt hn).trans hb, F, hs, hD⟩
end Fr

/-! ### Tables -/
def litOf (n : Nat) (L : List Nat) : Lit := .string ((keyL n L).map UInt8.ofNat)
theorem litOf_inj {n : Nat} {L M : List Nat} (g : Good n L) (h : Good n M) (e : litOf n L = litOf n M) : L = M := by
  apply keyS_inj g h
  simp only [litOf, Lit.string.injEq] at e
  simp [keyS, e]
theorem isKey (n : Nat) (L : List Nat) : WideAt.IsKeyLit (litOf n L) := trivial

structure IdxMap (n : Nat) (Ls : List (List Nat)) (D : DataW Unit) : Prop where
  isMap : Maps.IsMap D
  hit : ∀ (i : Nat) (L : List Nat), Ls[i]? = some L → (∀ z, D.atKey (litOf n L) z = .lit (.int .i64 (i : Int))) ∧ Maps.has D (litOf n L) = true
  miss : ∀ L, Good n L → L ∉ Ls → Maps.has D (litOf n L) = false

theorem IdxMap.none (n : Nat) : IdxMap n [] (.map [] : DataW Unit) := ⟨⟨[], rfl⟩, fun i L h => by simp at h, fun L _ _ => rfl⟩
theorem IdxMap.put {n : Nat} {Ls : List (List Nat)} {D : DataW Unit} (h : IdxMap n Ls D) (hg : ∀ L ∈ Ls, Good n L) {L : List Nat} (g : Good n L) (hL : L ∉ Ls) :
    IdxMap n (Ls ++ [L]) (D.put (litOf n L) (.lit (.int .i64 (Ls.length : Int)))) := by
  refine ⟨h.isMap.put _ _, fun i M hM => ?_, fun M gM hM => ?_⟩
  · rw [List.getElem?_append] at hM
    by_cases hi : i < Ls.length
    · rw [if_pos hi] at hM
      have hmem : M ∈ Ls := List.mem_of_getElem? hM
      have hne : litOf n M ≠ litOf n L := fun e => hL (litOf_inj (hg M hmem) g e ▸ hmem)
      refine ⟨fun z => ?_, ?_⟩
      · rw [Maps.atKey_put_other hne]; exact (h.hit i M hM).1 z
      · rw [Maps.has_put_other hne]; exact (h.hit i M hM).2
    · rw [if_neg hi] at hM
      have hi2 : i = Ls.length := by
        have := (List.getElem?_eq_some_iff.1 hM).1
        simp at this
        omega
      subst hi2
      simp at hM
      subst hM
      exact ⟨fun z => Maps.atKey_put_same h.isMap (isKey n L) _ z, Maps.has_put_same h.isMap (isKey n L) _⟩
  · simp at hM
    have hne : litOf n M ≠ litOf n L := fun e => hM.2 (litOf_inj gM g e)
    rw [Maps.has_put_other hne]
    exact h.miss M gM hM.1
end Go.Proofs.Ytcdepblajobemaa
namespace Go.Proofs.Ytcdepblajobemaa
open Go.RowKit

abbrev Ent := Nat × Nat × Nat × List Nat
def rowsOf (es : List Ent) : List (List Nat) := es.map (·.2.2.2)
def ptrs (es : List Ent) : List Value := es.map fun e => .pointer (some ⟨e.1, 0, none⟩)
abbrev ownsBy (w : World) (mb n : Nat) (D : DataW Unit) : Prop := w.ownsMap Try.prog 9 (plainElem Try.prog 3) mb n D

structure TableAt (w : World) (p mb : Nat) (v : Value) (n : Nat) (es : List Ent) : Prop where
  blk : w.heap[p]? = some (.cells #[.int .i64 (n : Int), .map (some mb), v] 142 (0, 0))
  map : ∃ D, ownsBy w mb es.length D ∧ IdxMap n (rowsOf es) D
  row : w.ownsRow 0 50 1 v es.length (ptrs es)
  sets : ∀ e ∈ es, SetAt w e.1 e.2.1 e.2.2.1 n e.2.2.2
  nodup : (rowsOf es).Nodup
  max : n ≤ 65536

/-- The blocks of the table itself. -/
def Own3 (p mb : Nat) (v : Value) (k : Nat) : Prop := k = p ∨ k = mb ∨ v.ownBlock = some k

namespace TableAt
variable {w w' : World} {p mb n : Nat} {v : Value} {es : List Ent}
theorem lt (h : TableAt w p mb v n es) : p < w.heap.size := (Array.getElem?_eq_some_iff.1 h.blk).1
theorem mlt (h : TableAt w p mb v n es) : mb < w.heap.size := by obtain ⟨D, hD, _⟩ := h.map; exact hD.lt
theorem cell0 (h : TableAt w p mb v n es) : w.cell? ⟨p, 0, none⟩ = some (.int .i64 (n : Int)) := by simp [World.cell?, h.blk]
theorem cell1 (h : TableAt w p mb v n es) : w.cell? ⟨p, 1, none⟩ = some (.map (some mb)) := by simp [World.cell?, h.blk]
theorem cell2 (h : TableAt w p mb v n es) : w.cell? ⟨p, 2, none⟩ = some v := by simp [World.cell?, h.blk]
theorem frozen (h : TableAt w p mb v n es) (k : Nat) : w.frozen? ⟨p, k, none⟩ = false := by simp [World.frozen?, h.blk]
theorem good (h : TableAt w p mb v n es) : ∀ L ∈ rowsOf es, Good n L := by
  intro L hL
  obtain ⟨e, he, rfl⟩ := List.mem_map.1 hL
  exact (h.sets e he).good
/-- A block of cells of another type is none of the table's own. -/
theorem foreign (h : TableAt w p mb v n es) {k : Nat} {cs : Array Value} {t : TypeId} {fz : Nat × Nat} (hk : w.heap[k]? = some (.cells cs t fz)) (h1 : t ≠ 142) (h2 : t ≠ 50) : ¬ Own3 p mb v k := by
  rintro (rfl | rfl | hv)
  · rw [h.blk] at hk
    simp only [Option.some.injEq, Obj.cells.injEq] at hk
    exact h1 hk.2.1.symm
  · obtain ⟨D, ⟨es', clock, hb, _⟩, _⟩ := h.map
    rw [hb] at hk
    simp at hk
  · rcases h.row.2 with ⟨rfl, _⟩ | ⟨g, cap, cur, rfl, _, hg, _⟩
    · simp [Value.ownBlock] at hv
    · simp only [Value.ownBlock, Option.some.injEq] at hv
      subst hv
      rw [hg] at hk
      simp only [Option.some.injEq, Obj.cells.injEq] at hk
      exact h2 hk.2.1.symm
theorem notSet (h : TableAt w p mb v n es) {q g cap m : Nat} {L : List Nat} (hs : RawAt w q g cap m L) : ¬ Own3 p mb v q ∧ ¬ Own3 p mb v g := by
  obtain ⟨cur, hc⟩ := hs.gblk
  exact ⟨h.foreign hs.blk (by decide) (by decide), h.foreign hc (by decide) (by decide)⟩
theorem pm (h : TableAt w p mb v n es) : p ≠ mb := by
  rintro rfl
  obtain ⟨D, ⟨es', clock, hb, _⟩, _⟩ := h.map
  rw [h.blk] at hb
  simp at hb
theorem vm (h : TableAt w p mb v n es) : v.ownBlock ≠ some mb := by
  intro hv
  obtain ⟨D, ⟨es', clock, hb, _⟩, _⟩ := h.map
  rcases h.row.2 with ⟨rfl, _⟩ | ⟨g, cap, cur, rfl, _, hg, _⟩
  · simp [Value.ownBlock] at hv
  · simp only [Value.ownBlock, Option.some.injEq] at hv
    subst hv
    rw [hg] at hb
    simp at hb
theorem vp (h : TableAt w p mb v n es) : v.ownBlock ≠ some p := by
  intro hv
  have hb := h.blk
  rcases h.row.2 with ⟨rfl, _⟩ | ⟨g, cap, cur, rfl, _, hg, _⟩
  · simp [Value.ownBlock] at hv
  · simp only [Value.ownBlock, Option.some.injEq] at hv
    subst hv
    rw [hg] at hb
    simp at hb
/-- The table stays while others are written. -/
theorem kept {S : Nat → Prop} (h : TableAt w p mb v n es) (hf : Fr S w w') (h1 : ∀ k, Own3 p mb v k → ¬ S k) (h2 : ∀ e ∈ es, ¬ S e.1 ∧ ¬ S e.2.1) : TableAt w' p mb v n es := by
  refine ⟨by rw [hf.block p h.lt (h1 p (Or.inl rfl))]; exact h.blk, ?_, hf.row h.row (fun k hk => h1 k (Or.inr (Or.inr hk))), fun e he => hf.set (h.sets e he) (h2 e he).1 (h2 e he).2, h.nodup, h.max⟩
  obtain ⟨D, hD, hI⟩ := h.map
  exact ⟨D, hf.map hD (h1 mb (Or.inr (Or.inl rfl))), hI⟩
theorem kept_none (h : TableAt w p mb v n es) (hf : w.grownBy w' none) : TableAt w' p mb v n es :=
  h.kept (S := fun _ => False) (Fr.of_none hf) (fun _ _ h => h) (fun _ _ => ⟨fun h => h, fun h => h⟩)
theorem val (h : TableAt w p mb v n es) : ∃ a cap, v = .slice a es.length cap := by
  rcases h.row.2 with ⟨rfl, h0⟩ | ⟨g, cap, cur, rfl, _⟩
  · exact ⟨none, 0, by rw [h0]⟩
  · exact ⟨_, _, rfl⟩
end TableAt

theorem strKeyed : Maps.Keyed Try.prog 9 := Maps.string_keyed Try.underlying9
theorem Try.zeroValue3 (w : World) : (zeroValue 3).run Try.prog w = .ok (.int .i64 0) w := by kernel_rfl

theorem keyOf_set {n : Nat} (h : n ≤ 65536) (L : List Nat) : keyOf Try.prog 9 (.string (keyS n L)) = some (litOf n L) := by
  have h2 : (keyS n L).size ≤ maxLen := by
    have : (keyS n L).size = (n + 7) / 8 := by simp [keyS, keyL, ByteArray.size]
    rw [this]; unfold maxLen; omega
  rw [WideMaps.keyOf_string_mk Try.underlying9 h2]
  simp [litOf, keyS]

def MadeTable (w : World) (n : Nat) (e : Ending) (w' : World) : Prop :=
  ∃ p mb, e = .returned (.pointer (some ⟨p, 0, none⟩)) ∧ w.heap.size ≤ p ∧ w.heap.size ≤ mb ∧ TableAt w' p mb (.slice none 0 0) n [] ∧ w.grownBy w' none

set_option maxHeartbeats 400000 in
theorem newtable_any (n : Nat) (w : World) (h : n ≤ 65536) : Calls Try.prog 51 #[.int .i64 (n : Int)] w (MadeTable w n) := by
  have hmm := @run_makeMap Try.prog
  go_enter Try.func51, Try.ntmps51
  go_wp2
  go_ret
  refine ⟨w.heap.size + 1, w.heap.size, by simp, by omega, Nat.le_refl _, ⟨?_, ⟨.map [], ?_, IdxMap.none n⟩, World.ownsRow_nil _ _ _ _, by simp, by simp [rowsOf], h⟩, gb_trans (World.grownBy_alloc _ _ none) (World.grownBy_alloc _ _ none) (Or.inl rfl)⟩
  · have := heap_alloc_new (w.alloc (.map #[] 0)) (.cells #[.int .i64 (n : Int), .map (some w.heap.size), .slice none 0 0] 142)
    rw [World.size_alloc] at this
    exact this
  · exact (World.ownsMap_made w _ _ _).alloc _

set_option maxHeartbeats 400000 in
theorem tlen_any (p mb n : Nat) (v : Value) (es : List Ent) (w : World) (h : TableAt w p mb v n es) :
    Calls Try.prog 55 #[.pointer (some ⟨p, 0, none⟩)] w fun e w' => e = .returned (.int .i64 (es.length : Int)) ∧ w = w' := by
  obtain ⟨a, cap, rfl⟩ := h.val
  have h2 := h.cell2
  go_enter Try.func55, Try.ntmps55
  go_wp2
  go_ret
  exact ⟨rfl, rfl⟩

set_option maxHeartbeats 400000 in
theorem at_none (i : Int) (p mb n : Nat) (v : Value) (es : List Ent) (w : World) (h : TableAt w p mb v n es) (hi : i < 0 ∨ es.length ≤ i) (hb : es.length ≤ 1000000) :
    Calls Try.prog 56 #[.pointer (some ⟨p, 0, none⟩), .int .i64 i] w fun e w' => e = .returned (.pointer none) ∧ w = w' := by
  obtain ⟨a, cap, rfl⟩ := h.val
  have h2 := h.cell2
  rcases hi with hi | hi
  · go_enter Try.func56, Try.ntmps56
    go_wp2
    go_ret
    exact ⟨rfl, rfl⟩
  · have h0 : ¬ i < 0 := by omega
    go_enter Try.func56, Try.ntmps56
    go_wp2
    go_ret
    exact ⟨rfl, rfl⟩

set_option maxHeartbeats 400000 in
theorem at_some (i : Nat) (p mb n : Nat) (v : Value) (es : List Ent) (x : Ent) (w : World) (h : TableAt w p mb v n es) (hi : es[i]? = some x) (_hb : es.length ≤ 1000000) :
    Calls Try.prog 56 #[.pointer (some ⟨p, 0, none⟩), .int .i64 (i : Int)] w (MadeH w n x.2.2.2) := by
  have hlt := (List.getElem?_eq_some_iff.1 hi).1
  have hx := h.sets x (List.mem_of_getElem? hi)
  have h2 := h.cell2
  obtain ⟨g, cap, cur, rfl, hc⟩ : ∃ g cap cur, v = .slice (some ⟨g, 0, none⟩) es.length cap ∧ w.cell? ⟨g, i, none⟩ = some cur := by
    rcases h.row.2 with ⟨_, h0⟩ | ⟨g, cap, cur, rfl, _⟩
    · omega
    · exact ⟨g, cap, _, rfl, (h.row.cellAt i (by omega)).trans (by simp [ptrs, hi]; rfl)⟩
  have hc2 : w.cell? ⟨g, i, none⟩ = some (.pointer (some ⟨x.1, 0, none⟩)) := (h.row.cellAt i (by omega)).trans (by simp [ptrs, hi])
  clear hc
  go_enter Try.func56, Try.ntmps56
  go_wp2_with (go_at_call 102; refine (copy_h hx).mono ?_; rintro e w' ⟨q, g', c', M, rfl, r1, r2, r3, r4, r5⟩)
  go_ret
  exact ⟨q, g', c', M, rfl, r1, r2, r3, r4, r5⟩
end Go.Proofs.Ytcdepblajobemaa
namespace Go.Proofs.Ytcdepblajobemaa
open Go.RowKit

/-- Texts that lie in memory. -/
def TextsAt (w : World) (v : Value) (L : List ByteArray) : Prop :=
  ∃ a cap, v = .slice a L.length cap ∧ L.length ≤ cap ∧ L.length ≤ 17592186043904 ∧ (∀ k, k < L.length → (L.getD k ⟨#[]⟩).size ≤ maxLen) ∧
    (L = [] ∨ ∃ b off, a = some ⟨b, off, none⟩ ∧ ∀ k, k < L.length → w.cell? ⟨b, off + k, none⟩ = some (.string (L.getD k ⟨#[]⟩)))
theorem TextsAt.kept {w w' : World} {v : Value} {L : List ByteArray} (h : TextsAt w v L) (hg : w.grownBy w' none) : TextsAt w' v L := by
  obtain ⟨a, cap, rfl, h0, h1, h2, h3⟩ := h
  refine ⟨a, cap, rfl, h0, h1, h2, ?_⟩
  rcases h3 with h3 | ⟨b, off, rfl, h3⟩
  · exact Or.inl h3
  · exact Or.inr ⟨b, off, rfl, fun k hk => hg.cell (h3 k hk) (by simp)⟩
def okByte (c : Int) : Bool := !(decide (c < 32) || (decide (126 < c) || (c == 34 || c == 92)))
theorem bad_or {c : Int} (h : ¬ okByte c = true) : c < 32 ∨ 126 < c ∨ c = 34 ∨ c = 92 := by
  unfold okByte at h
  simp only [Bool.not_eq_true', Bool.or_eq_false_iff, decide_eq_false_iff_not, beq_eq_false_iff_ne] at h
  omega
/-- The k-th byte. -/
def bAt (s : ByteArray) (k : Nat) : Int := ((s.data.toList.getD k 0).toNat : Int)
theorem bAt_get {s : ByteArray} {k : Nat} (hk : k < s.size) : (s[k].toNat : Int) = bAt s k := by
  have hk2 : k < s.data.toList.length := hk
  unfold bAt
  rw [List.getD_eq_getElem?_getD, List.getElem?_eq_getElem hk2]
  rfl
def namedF (s : ByteArray) : Bool := decide (1 ≤ s.size) && (decide (s.size ≤ 32) && (List.range s.size).all fun j => okByte (bAt s j))
/-- Is the k-th name new? -/
def newB (P : List ByteArray) (k : Nat) : Bool := (List.range k).all fun j => !decide (P.getD j ⟨#[]⟩ = P.getD k ⟨#[]⟩)
def nameB (P : List ByteArray) (k : Nat) : Bool := namedF (P.getD k ⟨#[]⟩) && newB P k
def namesF (P : List ByteArray) : Bool := (List.range P.length).all (nameB P) && decide (P.length ≤ 8)
theorem names_no {P : List ByteArray} {k : Nat} (hk : k < P.length) (h : nameB P k = false) : namesF P = false := by
  unfold namesF
  rw [all_not h hk, Bool.false_and]
theorem names_yes {P : List ByteArray} (h : ∀ k, k < P.length → nameB P k = true) : namesF P = decide (P.length ≤ 8) := by
  unfold namesF
  have : (List.range P.length).all (nameB P) = true := by
    rw [List.all_eq_true]
    intro k hk
    exact h k (List.mem_range.1 hk)
  rw [this, Bool.true_and]
theorem named_no {s : ByteArray} {j : Nat} (hj : j < s.size) (h : okByte (bAt s j) = false) : namedF s = false := by
  unfold namedF
  rw [all_not h hj, Bool.and_false, Bool.and_false]
theorem named_yes {s : ByteArray} (h1 : 1 ≤ s.size) (h2 : s.size ≤ 32) (h : ∀ j, j < s.size → okByte (bAt s j) = true) : namedF s = true := by
  unfold namedF
  have : (List.range s.size).all (fun j => okByte (bAt s j)) = true := by
    rw [List.all_eq_true]
    intro k hk
    exact h k (List.mem_range.1 hk)
  rw [this, decide_eq_true h1, decide_eq_true h2]
  rfl
/-- What the map says of names. -/
def Seen (P : List ByteArray) (k : Nat) (D : DataW Unit) : Prop := ∀ x : ByteArray, x.size ≤ maxLen → D.atKey (.string x.data.toList) (.lit (.int .i64 0)) = .lit (.int .i64 (if (List.range k).all (fun j => !decide (P.getD j ⟨#[]⟩ = x)) = true then 0 else 1))
theorem Seen.put {P : List ByteArray} {k : Nat} {D : DataW Unit} (h : Seen P k D) (hm : Maps.IsMap D) : Seen P (k + 1) (D.put (.string (P.getD k ⟨#[]⟩).data.toList) (.lit (.int .i64 1))) := by
  intro x hx
  rw [all_succ]
  by_cases e : P.getD k ⟨#[]⟩ = x
  · rw [decide_eq_true e, Bool.not_true, Bool.and_false, ← e]
    exact Maps.atKey_put_same hm (show WideAt.IsKeyLit (.string (P.getD k ⟨#[]⟩).data.toList) from trivial) _ _
  · rw [decide_eq_false e, Bool.not_false, Bool.and_true, Maps.atKey_put_other (fun e2 => e ?_), h x hx]
    simp only [Lit.string.injEq] at e2
    cases x; simp only at e2
    cases hP : P.getD k ⟨#[]⟩
    rw [hP] at e2
    simp only at e2
    rw [Array.toList_inj.1 e2]
theorem Seen.zero (P : List ByteArray) : Seen P 0 (.map []) := fun _ _ => rfl
/-- The map's look-up. -/
theorem look_name {w : World} {mb n k : Nat} {D : DataW Unit} {P : List ByteArray} (h : w.ownsMap Try.prog 9 (plainElem Try.prog 3) mb n D) (hs : Seen P k D) (hz : (P.getD k ⟨#[]⟩).size ≤ maxLen) :
    (Instr.lookup 114 (.map (some mb)) (.string (P.getD k ⟨#[]⟩)) false).run Try.prog w = .ok (.int .i64 (if newB P k = true then 0 else 1)) w := by
  obtain ⟨c, hrun, hat, _⟩ := h.lookup_int strKeyed Try.underlying114 Try.underlying3 (Try.zeroValue3 w) (WideMaps.keyOf_string_mk Try.underlying9 hz)
  rw [hs _ hz] at hat
  simp only [DataW.lit.injEq, Lit.int.injEq, true_and] at hat
  rw [hrun, ← hat]
  rfl
set_option maxHeartbeats 4000000 in
theorem isnames_any (v : Value) (P : List ByteArray) (w : World) (hP : TextsAt w v P) : Calls Try.prog 91 #[v] w fun e w' => e = .returned (.bool (namesF P)) ∧ w.grownBy w' none := by
  have HP := Lib.hid hP
  obtain ⟨a, cap, rfl, hcap, hl, hz, hc⟩ := hP
  have HZ := Lib.hid hz
  have HNo := Lib.hid (fun k hk h => names_no (P := P) (k := k) hk h)
  have HYe := Lib.hid (names_yes (P := P))
  clear hc hz
  have hmm := @run_makeMap Try.prog
  go_enter Try.func91, Try.ntmps91
  go_wp2_with fail
  have HM0 := Lib.hid (World.ownsMap_made (H := Unit) w Try.prog 9 (plainElem Try.prog 3))
  go_loopw [10] (fun i wr => ∃ (k n : Nat) (D : DataW Unit), k ≤ P.length ∧ n ≤ k ∧ i = .int .i64 (k : Int) ∧ Hid (∀ j, j < k → nameB P j = true) ∧ Hid (wr.ownsMap Try.prog 9 (plainElem Try.prog 3) w.heap.size n D) ∧ Hid (Seen P k D) ∧ Hid (w.grownBy wr none)) (fun i _ => P.length - (intOf i).toNat)
  case atStart => exact ⟨0, 0, .map [], Nat.zero_le _, Nat.le_refl _, rfl, Lib.hid fun j h => absurd h (Nat.not_lt_zero _), HM0, Lib.hid (Seen.zero P), Lib.hid (World.grownBy_alloc _ _ none)⟩
  case round =>
    obtain ⟨k, n, D, hk, hnk, rfl, H0, HM, HS, HG⟩ := hrel
    by_cases hlt : k < P.length
    · have hkI : (k : Int) < (P.length : Int) := by omega
      obtain ⟨_, _, e1, _, _, _, hc⟩ := HP.out.kept HG.out
      cases e1
      rcases hc with rfl | ⟨b, off, rfl, hc⟩
      · exact absurd hlt (by simp)
      have hck := hc k hlt
      have hlook := look_name HM.out HS.out (HZ.out k hlt)
      have hzk := HZ.out k hlt
      have HNk := Lib.hid (HNo.out k hlt)
      have HB : Hid (nameB P k = (namedF (P.getD k ⟨#[]⟩) && newB P k)) := Lib.hid rfl
      have HPut := Lib.hid fun hm => HS.out.put (k := k) hm
      have HK : Hid (keyOf Try.prog 9 (.string (P.getD k ⟨#[]⟩)) = some (.string (P.getD k ⟨#[]⟩).data.toList)) := Lib.hid (WideMaps.keyOf_string_mk Try.underlying9 hzk)
      have HYk : Hid (nameB P k = true → ∀ j, j < k + 1 → nameB P j = true) := Lib.hid fun h j hj => by
        by_cases e : j < k
        · exact H0.out j e
        · obtain rfl : j = k := by omega
          exact h
      clear hc
      generalize P.getD k ⟨#[]⟩ = s at hck hlook hzk HB HPut HK
      unfold maxLen at hzk
      by_cases h1 : 1 ≤ s.size
      · by_cases h2 : s.size ≤ 32
        · have h1I : ¬ (s.size : Int) < 1 := by omega
          have h2I : ¬ (s.size : Int) > 32 := by omega
          cases hnew : newB P k
          · rw [hnew] at hlook HB
            have HV := Lib.hid (HNk.out (by rw [HB.out, Bool.and_false]))
            simp only [Bool.false_eq_true, if_false] at hlook
            clear HB HNk HYk hnew
            go_wp2_with fail
            go_ret
            exact ⟨by rw [HV.out]; rfl, HG.out⟩
          · rw [hnew] at hlook HB
            simp only [if_true] at hlook
            clear hnew
            go_wp2_with (at_mapUpdate; refine wpList_mapUpdate_own _ rfl _ _ _ 114 rfl 9 3 strKeyed Try.underlying114 (plainElem Try.prog 3) w.heap.size n D rfl HM.out (by unfold maxLen; omega) _ _ _ rfl rfl HK.out (.lit (.int .i64 1)) [] (plainElem_int Try.underlying3 (by decide)) ?_; intro w1 hown1 hgr1)
            have HMn : Hid (w1.ownsMap Try.prog 9 (plainElem Try.prog 3) w.heap.size (n + 1) (D.put (.string s.data.toList) (.lit (.int .i64 1)))) := Lib.hid hown1
            have HSn := Lib.hid (HPut.out HM.out.isMap)
            have HGn : Hid (w.grownBy w1 none) := Lib.hid (gb_trans HG.out hgr1 (Or.inr (Or.inr ⟨_, rfl, Nat.le_refl _⟩)))
            clear hown1 hgr1 hlook
            obtain ⟨wo, rfl⟩ : ∃ wo : World, wo = w1 := ⟨_, rfl⟩
            go_wp2_with fail
            go_loop [34] (fun i => ∃ j : Nat, j ≤ s.size ∧ i = .int .i64 (j : Int) ∧ Hid (∀ m, m < j → okByte (bAt s m) = true)) (fun i => s.size - (intOf i).toNat)
            case atStart => exact ⟨0, Nat.zero_le _, rfl, Lib.hid fun m h => absurd h (Nat.not_lt_zero _)⟩
            case round =>
              obtain ⟨j, hj, rfl, HO⟩ := hrel
              by_cases hjs : j < s.size
              · have hjI : (j : Int) < (s.size : Int) := by omega
                have hge : (0 : Int) ≤ (s[j].toNat : Int) := by omega
                have hle : (s[j].toNat : Int) ≤ 255 := by have := s[j].toNat_lt; omega
                have HNm := Lib.hid (fun h => named_no (s := s) hjs h)
                have HYm : Hid (okByte (bAt s j) = true → ∀ m, m < j + 1 → okByte (bAt s m) = true) := Lib.hid fun h m hm => by
                  by_cases e : m < j
                  · exact HO.out m e
                  · obtain rfl : m = j := by omega
                    exact h
                rw [← bAt_get hjs] at HNm HYm
                by_cases hok : okByte (s[j].toNat : Int) = true
                · have HYm2 := Lib.hid (HYm.out hok)
                  unfold okByte at hok
                  simp only [Bool.not_eq_true', Bool.or_eq_false_iff, decide_eq_false_iff_not] at hok
                  obtain ⟨x1, x2, x3, x4⟩ := hok
                  clear HNm HYm
                  go_wp2_with fail
                  exact ⟨⟨j + 1, by omega, by go_num, HYm2⟩, by simp [intOf]; omega⟩
                · have HV := Lib.hid (HNk.out (by rw [HB.out, HNm.out (by simpa using hok)]; rfl))
                  have hor := bad_or hok
                  clear HNm HYm HB HNk HYk hok
                  rcases hor with h | h | h | h
                  all_goals go_wp2_with fail
                  all_goals go_ret
                  all_goals exact ⟨by rw [HV.out]; rfl, HGn.out⟩
              · have hjI : ¬ (j : Int) < (s.size : Int) := by omega
                have HYn := Lib.hid (HYk.out (by rw [HB.out, named_yes h1 h2 (fun m hm => HO.out m (by omega))]; rfl))
                clear HB HNk HYk
                go_wp2_with fail
                exact ⟨⟨k + 1, n + 1, _, by omega, by omega, by go_num, HYn, HMn, HSn, HGn⟩, by simp [intOf]; omega⟩
        · have h2I : (s.size : Int) > 32 := by omega
          have h1I : ¬ (s.size : Int) < 1 := by omega
          have HV := Lib.hid (HNk.out (by rw [HB.out]; unfold namedF; rw [decide_eq_false h2]; simp))
          clear HB HNk HYk hlook
          go_wp2_with fail
          go_ret
          exact ⟨by rw [HV.out]; rfl, HG.out⟩
      · have h1I : (s.size : Int) < 1 := by omega
        have HV := Lib.hid (HNk.out (by rw [HB.out]; unfold namedF; rw [decide_eq_false h1]; simp))
        clear HB HNk HYk hlook
        go_wp2_with fail
        go_ret
        exact ⟨by rw [HV.out]; rfl, HG.out⟩
    · obtain rfl : k = P.length := by omega
      have hkI : ¬ (P.length : Int) < (P.length : Int) := by omega
      have HV := Lib.hid (HYe.out H0.out)
      by_cases h8 : P.length ≤ 8
      · have h8I : (P.length : Int) ≤ 8 := by omega
        go_wp2_with fail
        go_ret
        exact ⟨by rw [HV.out]; simp [h8], HG.out⟩
      · have h8I : ¬ (P.length : Int) ≤ 8 := by omega
        go_wp2_with fail
        go_ret
        exact ⟨by rw [HV.out]; simp [h8], HG.out⟩
end Go.Proofs.Ytcdepblajobemaa
