/- Bits: Has; numbers that wait. -/
import Derived.Test.YtaagbdncfcdfcaaDoorBitsAfter
import Derived.Deep.AppendLies
namespace Go.Proofs.YtaagbdncfcdfcaaDoor
open Go.RowKit

theorem bit_has (x s : Nat) (hx : x < 18446744073709551616) : (bits .and .u64 ((x : Int) / 2 ^ s) 1 == 1) = x.testBit s := by
  have e : ((x : Int) / 2 ^ s) = ((x / 2 ^ s : Nat) : Int) := by simp
  have hle : x / 2 ^ s ≤ x := Nat.div_le_self _ _
  rw [e, show (1 : Int) = ((1 : Nat) : Int) from rfl, u64_and_nat _ _ (by omega) (by decide), Nat.and_one_is_mod]
  rw [Nat.testBit_eq_decide_div_mod_eq]
  rw [Bool.eq_iff_iff]
  simp
  omega

set_option maxHeartbeats 1000000 in
theorem has_yes (i p g cap n : Nat) (L : List Nat) (w : World) (h : SetAt w p g cap n L) (h1 : i < n) :
    Calls Tryd.prog 46 #[.pointer (some ⟨p, 0, none⟩), .int .i64 (i : Int)] w fun e w' => e = .returned (.bool (bit L i)) ∧ w = w' := by
  have hm := h.max
  have hW := h.cellW
  have hl := h.len
  have hc := h.cell (i / 64) (by omega)
  have hi2 : i / 64 < L.length := by omega
  have hb := bit_has _ (i % 64) (h.wd (i / 64))
  have HB := Lib.hid (show bit L i = (L.getD (i / 64) 0).testBit (i % 64) from rfl)
  generalize bit L i = r at HB ⊢
  rw [← HB.out] at hb
  generalize L.getD (i / 64) 0 = x at hc hb
  go_enter Tryd.func46, Tryd.ntmps46
  go_wp2_with (go_at_call 36; refine (in_yes _ _ _ _ _ _ _ h h1).mono ?_; rintro e w' ⟨rfl, rfl⟩)
  go_ret
  exact ⟨rfl, rfl⟩
set_option maxHeartbeats 1000000 in
theorem has_no (i : Int) (p g cap n : Nat) (L : List Nat) (w : World) (h : SetAt w p g cap n L) (h1 : i < 0 ∨ n ≤ i) :
    Calls Tryd.prog 46 #[.pointer (some ⟨p, 0, none⟩), .int .i64 i] w fun e w' => e = .returned (.bool false) ∧ w = w' := by
  go_enter Tryd.func46, Tryd.ntmps46
  go_wp2_with (go_at_call 36; refine (in_no _ _ _ _ _ _ _ h h1).mono ?_; rintro e w' ⟨rfl, rfl⟩)
  go_ret
  exact ⟨rfl, rfl⟩

def iv (x : Int) : Value := .int .i64 x

structure WorkAt (w : World) (p : Nat) (v : Value) (sp sg sc n : Nat) (L : List Nat) (row : List Int) : Prop where
  blk : w.heap[p]? = some (.cells #[.pointer (some ⟨sp, 0, none⟩), v] 71 (0, 0))
  set : SetAt w sp sg sc n L
  seq : w.ownsRow 0 3 1 v row.length (row.map iv)
  small : row.length ≤ 65536

namespace WorkAt
variable {w w' : World} {p sp sg sc n : Nat} {v : Value} {L : List Nat} {row : List Int}
theorem lt (h : WorkAt w p v sp sg sc n L row) : p < w.heap.size := (Array.getElem?_eq_some_iff.1 h.blk).1
theorem cell0 (h : WorkAt w p v sp sg sc n L row) : w.cell? ⟨p, 0, none⟩ = some (.pointer (some ⟨sp, 0, none⟩)) := by simp [World.cell?, h.blk]
theorem cell1 (h : WorkAt w p v sp sg sc n L row) : w.cell? ⟨p, 1, none⟩ = some v := by simp [World.cell?, h.blk]
theorem frozen (h : WorkAt w p v sp sg sc n L row) (k : Nat) : w.frozen? ⟨p, k, none⟩ = false := by simp [World.frozen?, h.blk]
theorem kept_none (h : WorkAt w p v sp sg sc n L row) (hg : w.grownBy w' none) : WorkAt w' p v sp sg sc n L row :=
  ⟨by rw [hg.block p h.lt (by simp)]; exact h.blk, h.set.kept hg (by simp) (by simp), h.seq.kept hg (Classical.em _), h.small⟩
theorem kept {S : Nat → Prop} (h : WorkAt w p v sp sg sc n L row) (hf : Fr S w w') (h1 : ¬ S p) (h2 : ¬ S sp) (h3 : ¬ S sg) (h4 : ∀ k, v.ownBlock = some k → ¬ S k) : WorkAt w' p v sp sg sc n L row :=
  ⟨by rw [hf.block p h.lt h1]; exact h.blk, hf.set h.set h2 h3, hf.row h.seq h4, h.small⟩
theorem val (h : WorkAt w p v sp sg sc n L row) : ∃ a cap, v = .slice a row.length cap := by
  rcases h.seq.2 with ⟨rfl, h0⟩ | ⟨g, cap, cur, rfl, _⟩
  · exact ⟨none, 0, by rw [h0]⟩
  · exact ⟨_, _, rfl⟩
theorem vp (h : WorkAt w p v sp sg sc n L row) : v.ownBlock ≠ some p := by
  intro hv
  have hb := h.blk
  rcases h.seq.2 with ⟨rfl, _⟩ | ⟨g, cap, cur, rfl, _, hg, _⟩
  · simp [Value.ownBlock] at hv
  · simp only [Value.ownBlock, Option.some.injEq] at hv
    subst hv
    rw [hg] at hb
    simp at hb
theorem gp (h : WorkAt w p v sp sg sc n L row) : p ≠ sg := by
  rintro rfl
  obtain ⟨cur, hc⟩ := h.set.raw.gblk
  have hb := h.blk
  rw [hc] at hb
  simp at hb
theorem spp (h : WorkAt w p v sp sg sc n L row) : sp ≠ p := by
  rintro rfl
  have hb := h.blk
  rw [h.set.raw.blk] at hb
  simp at hb
theorem vg (h : WorkAt w p v sp sg sc n L row) : v.ownBlock ≠ some sg ∧ v.ownBlock ≠ some sp := by
  obtain ⟨cur, hc⟩ := h.set.raw.gblk
  have hb := h.set.raw.blk
  rcases h.seq.2 with ⟨rfl, _⟩ | ⟨g, cap, cur, rfl, _, hg, _⟩
  · simp [Value.ownBlock]
  · simp only [Value.ownBlock, Option.some.injEq, ne_eq]
    constructor
    · rintro rfl; rw [hg] at hc; simp at hc
    · rintro rfl; rw [hg] at hb; simp at hb
end WorkAt

def Own4 (p sg : Nat) (v : Value) (k : Nat) : Prop := k = p ∨ k = sg ∨ v.ownBlock = some k

set_option maxHeartbeats 1000000 in
theorem newwork_any (n : Nat) (w : World) (h : n ≤ 65536) :
    Calls Tryd.prog 11 #[.int .i64 (n : Int)] w fun e w' => ∃ p sp sg sc, e = .returned (.pointer (some ⟨p, 0, none⟩)) ∧ w.heap.size ≤ p ∧ w.heap.size ≤ sp ∧ w.heap.size ≤ sg ∧ WorkAt w' p (.slice none 0 0) sp sg sc n (List.replicate ((n + 63) / 64) 0) [] ∧ w.grownBy w' none := by
  go_enter Tryd.func11, Tryd.ntmps11
  go_wp2_with (go_at_call 8; refine (new_yes _ _ h).mono ?_; rintro e w0 ⟨sp, sg, sc, rfl, hp, hg, hS, hG⟩)
  go_ret
  exact ⟨_, sp, sg, sc, rfl, hG.size, hp, hg, ⟨heap_alloc_new _ _, hS.kept (World.grownBy_alloc _ _ none) (by simp) (by simp), World.ownsRow_nil _ _ _ _, by simp⟩, gb_trans hG (World.grownBy_alloc _ _ none) (Or.inl rfl)⟩

set_option maxHeartbeats 400000 in
theorem wlen_any (p sp sg sc n : Nat) (v : Value) (L : List Nat) (row : List Int) (w : World) (h : WorkAt w p v sp sg sc n L row) :
    Calls Tryd.prog 31 #[.pointer (some ⟨p, 0, none⟩)] w fun e w' => e = .returned (.int .i64 (row.length : Int)) ∧ w = w' := by
  obtain ⟨a, cap, rfl⟩ := h.val
  have h2 := h.cell1
  go_enter Tryd.func31, Tryd.ntmps31
  go_wp2
  go_ret
  exact ⟨rfl, rfl⟩

set_option maxHeartbeats 1000000 in
theorem push_old (i : Nat) (p sp sg sc n : Nat) (v : Value) (L : List Nat) (row : List Int) (w : World) (h : WorkAt w p v sp sg sc n L row) (hi : i < n) (hb : Hid (bit L i = true)) :
    Calls Tryd.prog 30 #[.pointer (some ⟨p, 0, none⟩), .int .i64 (i : Int)] w fun e w' => e = .returned (.bool false) ∧ w = w' := by
  have h0 := h.cell0
  have HH := Lib.hid (has_yes i sp sg sc n L w h.set hi)
  rw [hb.out] at HH
  have HI := Lib.hid (in_yes i sp sg sc n L w h.set hi)
  go_enter Tryd.func30, Tryd.ntmps30
  go_wp2_with (first
    | (go_at_call 36; refine HI.out.mono ?_; rintro e w' ⟨rfl, rfl⟩)
    | (go_at_call 46; refine HH.out.mono ?_; rintro e w' ⟨rfl, rfl⟩))
  go_ret
  exact ⟨rfl, rfl⟩

theorem Tryd.info3 : (Tryd.prog.info? 3).map (fun i => (i.zero, i.size, i.bytes)) = some (some (.int .i64 0), 1, 8) := by kernel_rfl

def Pushed (w : World) (p : Nat) (v : Value) (sp sg sc n : Nat) (L : List Nat) (row : List Int) (i : Nat) (e : Ending) (w' : World) : Prop :=
  ∃ v', e = .returned (.bool true) ∧ WorkAt w' p v' sp sg sc n (putL L i) (row ++ [(i : Int)]) ∧ (∀ k, v'.ownBlock = some k → v.ownBlock = some k ∨ w.heap.size ≤ k) ∧ Fr (Own4 p sg v) w w'

theorem set_field {w : World} {p : Nat} {cs : Array Value} {t : TypeId} {fz : Nat × Nat} (h : w.heap[p]? = some (.cells cs t fz)) (j : Nat) (v : Value) :
    (w.setCell ⟨p, j, none⟩ v).heap[p]? = some (.cells (cs.setIfInBounds j v) t fz) ∧ Fr (· = p) w (w.setCell ⟨p, j, none⟩ v) := by
  refine ⟨?_, rfl, rfl, rfl, by simp [World.setCell], fun k _ hk => Below.heap_setCell _ _ _ _ hk⟩
  simp only [World.setCell, Array.getElem?_modify, h]
  simp

theorem pushed {w w1 w5 : World} {p sp sg sc n i g5 cap5 : Nat} {v : Value} {L : List Nat} {row : List Int} (h : WorkAt w p v sp sg sc n L row) (hr : row.length < 65536)
    (hS : SetAt w1 sp sg sc n (putL L i)) (hG : w.grownBy w1 (some sg)) (h5 : w5.ownsRow 0 3 1 (.slice (some ⟨g5, 0, none⟩) (row.length + 1) cap5) (row.length + 1) (row.map iv ++ [.int .i64 (i : Int)]))
    (h6 : (w1.alloc (.cells #[.int .i64 (i : Int)] 3)).grownBy w5 v.ownBlock) (h7 : v.ownBlock = some g5 ∨ g5 = (w1.alloc (.cells #[.int .i64 (i : Int)] 3)).heap.size) :
    WorkAt (w5.setCell ⟨p, 1, none⟩ (.slice (some ⟨g5, 0, none⟩) (row.length + 1) cap5)) p (.slice (some ⟨g5, 0, none⟩) (row.length + 1) cap5) sp sg sc n (putL L i) (row ++ [(i : Int)]) ∧
      (v.ownBlock = some g5 ∨ w.heap.size ≤ g5) ∧ Fr (Own4 p sg v) w (w5.setCell ⟨p, 1, none⟩ (.slice (some ⟨g5, 0, none⟩) (row.length + 1) cap5)) := by
  have hvp := h.vp
  have hgp := h.gp
  have f1 : Fr (Own4 p sg v) w w5 := ((Fr.of_gb hG (fun k e => by cases e; exact Or.inr (Or.inl rfl)) : Fr (Own4 p sg v) w w1).trans (Fr.of_none (World.grownBy_alloc w1 _ none) : Fr (Own4 p sg v) w1 _) (fun _ h => Or.inl h)).trans (Fr.of_gb (S := Own4 p sg v) h6 (fun k e => Or.inr (Or.inr e))) (fun _ h => Or.inl h)
  have hb1 : w1.heap[p]? = w.heap[p]? := hG.block p h.lt (fun e => hgp (Option.some.inj e))
  have hl1 : p < w1.heap.size := Nat.lt_of_lt_of_le h.lt hG.size
  have hb5 : w5.heap[p]? = some (.cells #[.pointer (some ⟨sp, 0, none⟩), v] 71 (0, 0)) := by
    rw [h6.block p (by rw [World.size_alloc]; omega) (fun e => hvp e.symm), (World.grownBy_alloc w1 _ none).block p hl1 (by simp), hb1]
    exact h.blk
  have hsf := set_field hb5 1 (.slice (some ⟨g5, 0, none⟩) (row.length + 1) cap5)
  have hS5 : SetAt w5 sp sg sc n (putL L i) := (hS.kept (World.grownBy_alloc w1 _ none) (by simp) (by simp)).kept h6 h.vg.2 h.vg.1
  refine ⟨⟨by simpa using hsf.1, hsf.2.set hS5 h.spp (fun e => hgp e.symm), ?_, by simp; omega⟩, ?_, f1.trans hsf.2 (fun x e => Or.inl (Or.inl e))⟩
  · have r := hsf.2.row h5 (fun k hk (e : k = p) => by
      subst e
      simp only [Value.ownBlock, Option.some.injEq] at hk
      subst hk
      rcases h5.2 with ⟨e, _⟩ | ⟨g, cap, cur, e, _, hg, _⟩
      · simp at e
      · simp only [Value.slice.injEq, Option.some.injEq, Addr.mk.injEq, and_true, true_and] at e
        obtain ⟨rfl, rfl⟩ := e
        rw [hb5] at hg
        simp at hg)
    simpa [iv] using r
  · rcases h7 with e | e
    · exact Or.inl e
    · right
      rw [e, World.size_alloc]
      have := hG.size
      omega

set_option maxHeartbeats 1000000 in
theorem push_new (i : Nat) (p sp sg sc n : Nat) (v : Value) (L : List Nat) (row : List Int) (w : World) (h : WorkAt w p v sp sg sc n L row) (hi : i < n) (hb : Hid (bit L i = false)) (hr : row.length < 65536) :
    Calls Tryd.prog 30 #[.pointer (some ⟨p, 0, none⟩), .int .i64 (i : Int)] w (Pushed w p v sp sg sc n L row i) := by
  obtain ⟨i0, hi0, hz0, hz1, hz2⟩ := info_parts Tryd.info3
  have h0 := h.cell0
  have h1 := h.cell1
  have hm := h.set.max
  have hf := h.frozen 1
  obtain ⟨a, cap, hv⟩ := h.val
  rw [hv] at h1
  have HV := Lib.hid hv
  clear hv
  have HH := Lib.hid (has_yes i sp sg sc n L w h.set hi)
  rw [hb.out] at HH
  have HI := Lib.hid (in_yes i sp sg sc n L w h.set hi)
  have HP := Lib.hid (put_yes i sp sg sc n L w h.set hi)
  have HW := Lib.hid h
  clear h
  go_enter Tryd.func30, Tryd.ntmps30
  go_wp2_with (first
    | (go_at_call 36; refine HI.out.mono ?_; rintro e w' ⟨rfl, rfl⟩)
    | (go_at_call 46; refine HH.out.mono ?_; rintro e w' ⟨rfl, rfl⟩)
    | (go_at_call 17; refine HP.out.mono ?_; rintro e w1 ⟨rfl, hS1, hG1⟩; have h1' := hG1.cell h1 (fun e => HW.out.gp (Option.some.inj e)); have hrow1 := HW.out.seq.kept hG1 (Or.inr HW.out.vg.1))
    | (at_builtin; refine wpList_append_lies _ rfl (.tmp 30) (.tmp 32) 31 rfl 0 3 i0 (.int .i64 0) 1 8 Tryd.underlying31 hi0 hz0 hz1 hz2 rfl (by decide) v row.length (row.map iv) HV.out.symm (hrow1.alloc _) ⟨w1.heap.size, 0, none⟩ 1 1 [.int .i64 (i : Int)] rfl rfl (cell_one_new _ _ _) (by simp [Value.oneCell']) (by decide) (by unfold maxLen; omega) (by omega) (Nat.zero_le _) _ rfl ?_; intro g5 cap5 w5 hown5 hgr5 hat5 hlt5; have hP5 := pushed HW.out hr hS1 hG1 hown5 hgr5 hat5; have h15 := ((World.grownBy_alloc w1 (.cells #[.int .i64 (i : Int)] 3) none).cell h1' (by simp)); have h15' := hgr5.cell h15 (fun e => HW.out.vp e.symm); have hf5 : w5.frozen? ⟨p, 1, none⟩ = false := (World.frozen?_of_block ((hgr5.block p (World.block_lt_of_cell? _ _ h15) (fun e => HW.out.vp e.symm)).trans (((World.grownBy_alloc w1 _ none).block p (World.block_lt_of_cell? _ _ h1') (by simp)).trans (hG1.block p HW.out.lt (fun e => HW.out.gp (Option.some.inj e)))))).trans hf; have HP5 := Lib.hid hP5; clear hP5 hown5 hgr5 hat5 hlt5 h15))
  go_ret
  exact ⟨_, rfl, HP5.out.1, fun k hk => by simp only [Value.ownBlock, Option.some.injEq] at hk; subst hk; exact HP5.out.2.1, HP5.out.2.2⟩
end Go.Proofs.YtaagbdncfcdfcaaDoor
