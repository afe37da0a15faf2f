/- Machines that are lent. -/
import Derived.Test.YtpehmlkikhkmfaaLentRows
import Derived.Test.YtpehmlkikhkmfaaRunKnown
import Derived.Deep.RegionWith
import Derived.Deep.RegionHeld3
namespace Go.Proofs.Ytpehmlkikhkmfaa
open Go.RowKit

set_option maxRecDepth 100000 in
set_option maxHeartbeats 2000000 in
theorem whole_rows {w : World} {Y : Nat} {x l : Value} {R : List (List Int)} (hx : LentRows w Y x R) (hl : RowsAt w l R) :
    Calls Try.prog 48 #[x, l] w fun e w' => e = .returned (.bool true) ∧ w.grownBy w' none := by
  have HX := Lib.hid hx
  have HL := Lib.hid hl
  obtain ⟨g, cap, vs, t, rfl, h1, h2, h3, h4, h5, h6⟩ := hx
  obtain ⟨al, cl, rfl, hcl, hll, _⟩ := hl
  have hc1 : w.cell? ⟨g, R.length, none⟩ = some (.slice (some ⟨t, 0, none⟩) 1 1) := by
    rw [h4.cellAt _ (by omega), List.getElem?_append_right (by omega), h3, Nat.sub_self]; rfl
  have hc2 : w.cell? ⟨t, 0, none⟩ = some (.int .i64 (-77)) := by
    rw [h6.cellAt _ (by omega)]; rfl
  have hcI : ¬ (cap : Int) < (R.length : Int) + 1 := by omega
  have hcJ : (R.length : Int) + 1 ≤ (cap : Int) := by omega
  have hcK : (cap : Int) ≤ 9223372036854775807 := by unfold maxLen at h2; omega
  clear h4 h5 h6 h3 h2
  go_enter Try.func48, Try.ntmps48
  go_wp2_with fail
  go_loopw [6] (fun i wr => ∃ (k : Nat), k ≤ R.length ∧ i = .int .i64 (k : Int) ∧ w.grownBy wr none) (fun i _ => R.length - (intOf i).toNat)
  case atStart => exact ⟨0, by omega, rfl, gb_refl _ _⟩
  case round =>
    obtain ⟨k, hk, rfl, hG⟩ := hrel
    by_cases hlt : k < R.length
    · obtain ⟨g', cap', vs', t', hv, _, _, h3, h4, h5, _⟩ := HX.out.kept hG
      cases hv
      obtain ⟨_, _, hve, _, _, hn3⟩ := HL.out.kept hG
      cases hve
      rcases hn3 with rfl | ⟨bn, offn, rfl, hn3⟩
      · exact absurd hlt (by simp)
      obtain ⟨u, hu, hIu⟩ := hn3 k hlt
      obtain ⟨v, hv, hLv⟩ := h5 k hlt
      have hcv : wr.cell? ⟨g, k, none⟩ = some v := by
        rw [h4.cellAt k (by omega), List.getElem?_append_left (by omega)]; exact hv
      have HW : Hid (∀ wx, wr.grownBy wx none → Calls Try.prog 76 #[v, u] wx fun e w' => e = .returned (.bool true) ∧ wx.grownBy w' none) := Lib.hid fun wx hg => whole_ints (hLv.kept hg (Classical.em _)) (hIu.kept hg)
      obtain ⟨av, cv, mv, rfl⟩ : ∃ a c m, v = .slice a m c := by obtain ⟨g, c, e, _⟩ := hLv; exact ⟨_, c, _, e⟩
      obtain ⟨au, cu, mu, rfl⟩ : ∃ a c m, u = .slice a m c := by obtain ⟨a, c, e, _⟩ := hIu; exact ⟨a, c, _, e⟩
      have hkI : (k : Int) < (R.length : Int) := by omega
      clear hn3 h4 h5 hv hLv hIu hc1 hc2
      go_wp2_with fail
      go_region_with (go_at_call 76; refine (HW.out wr.drew (gb_drew _ _)).mono ?_; rintro e w2 ⟨rfl, hg2⟩)
      all_goals
        go_wp2_with fail
        exact ⟨⟨k + 1, by omega, by go_num, gb_trans (gb_trans hG (gb_drew _ none) (Or.inl rfl)) hg2 (Or.inl rfl)⟩, by simp [intOf]; omega⟩
    · obtain rfl : k = R.length := by omega
      go_wp2_with fail
      go_ret
      exact ⟨rfl, hG⟩

/-- What lies below Y, or from Z on, is as it was. -/
structure Spared (Y Z : Nat) (w w' : World) : Prop where
  os : w'.os = w.os
  tape : w'.tape = w.tape
  output : w'.output = w.output
  size : w.heap.size ≤ w'.heap.size
  block : ∀ k, k < w.heap.size → (k < Y ∨ Z ≤ k) → w'.heap[k]? = w.heap[k]?
theorem Spared.refl (Y Z : Nat) (w : World) : Spared Y Z w w := ⟨rfl, rfl, rfl, Nat.le_refl _, fun _ _ _ => rfl⟩
theorem Spared.trans {Y Z : Nat} {a b c : World} (h : Spared Y Z a b) (k : Spared Y Z b c) : Spared Y Z a c :=
  ⟨k.os.trans h.os, k.tape.trans h.tape, k.output.trans h.output, Nat.le_trans h.size k.size, fun i hi ho => (k.block i (Nat.lt_of_lt_of_le hi h.size) ho).trans (h.block i hi ho)⟩
theorem Spared.of {Y Z : Nat} {a b : World} {r : Option Nat} (h : a.grownBy b r) (hr : ∀ g, r = some g → Y ≤ g ∧ g < Z) : Spared Y Z a b :=
  ⟨h.os, h.tape, h.output, h.size, fun i hi ho => h.block i hi (fun e => by have := hr i e.symm; omega)⟩

/-- A list's block, its room and all. -/
def Roomy (w : World) (e : TypeId) (v : Value) (Y Z : Nat) : Prop :=
  ∃ g n cap cur, v = .slice (some ⟨g, 0, none⟩) n cap ∧ w.heap[g]? = some (.cells cur e (0, 0)) ∧ cur.size = cap ∧ n ≤ cap ∧ cap ≤ maxLen ∧ Y ≤ g ∧ g < Z
theorem Roomy.after {w w' : World} {e e' : TypeId} {v : Value} {Y Z g : Nat} {c c' : Array Value} (h : Roomy w e v Y Z) (hg : w.grownBy w' (some g)) (hb : w.heap[g]? = some (.cells c e' (0, 0))) (hb' : w'.heap[g]? = some (.cells c' e' (0, 0))) (hs : c'.size = c.size) : Roomy w' e v Y Z := by
  obtain ⟨b, n, cap, cur, rfl, h1, h2, h3, h4, h5, h6⟩ := h
  by_cases e2 : b = g
  · subst e2
    rw [hb] at h1
    simp only [Option.some.injEq, Obj.cells.injEq] at h1
    obtain ⟨rfl, rfl, _⟩ := h1
    exact ⟨b, n, cap, c', rfl, hb', by omega, h3, h4, h5, h6⟩
  · exact ⟨b, n, cap, cur, rfl, by rw [hg.block b (Array.getElem?_eq_some_iff.1 h1).1 (fun e3 => e2 (Option.some.inj e3))]; exact h1, h2, h3, h4, h5, h6⟩
theorem Roomy.kept {w w' : World} {e : TypeId} {v : Value} {Y Z : Nat} (h : Roomy w e v Y Z) (hg : w.grownBy w' none) : Roomy w' e v Y Z := by
  obtain ⟨b, n, cap, cur, rfl, h1, h2⟩ := h
  exact ⟨b, n, cap, cur, rfl, by rw [hg.block b (Array.getElem?_eq_some_iff.1 h1).1 (by simp)]; exact h1, h2⟩

/-- Rows that can be written over. -/
def RowsRoomy (w : World) (v : Value) (m Y Z : Nat) : Prop :=
  ∃ (g cap : Nat) (cur : Array Value), v = .slice (some ⟨g, 0, none⟩) m cap ∧ w.heap[g]? = some (.cells cur 107 (0, 0)) ∧ cur.size = cap ∧ m ≤ cap ∧ cap ≤ maxLen ∧ Y ≤ g ∧ g < Z ∧ ∀ i, i < m → ∃ u, cur[i]? = some u ∧ Roomy w 3 u Y Z
theorem LentRows.room {w : World} {Y : Nat} {v : Value} {R : List (List Int)} (h : LentRows w Y v R) : RowsRoomy w v R.length Y w.heap.size := by
  obtain ⟨g, cap, vs, t, rfl, h1, h2, h3, h4, h5, h6⟩ := h
  have hl := h4.lt g rfl
  rcases h4.2 with ⟨h0, _⟩ | ⟨g', cap', cur, hv, hb, hg, hnc, hcm, hcs, htk⟩
  · cases h0
  · cases hv
    refine ⟨g, cap, cur, rfl, hg, by omega, by omega, hcm, hl.1, hl.2, fun i hi => ?_⟩
    obtain ⟨u, hu, hr⟩ := h5 i hi
    refine ⟨u, ?_, ?_⟩
    · have : (cur.toList.take ((R.length + 1) * 1))[i]? = (vs ++ [Value.slice (some ⟨t, 0, none⟩) 1 1])[i]? := by rw [htk]
      rw [List.getElem?_append_left (by omega), hu, List.getElem?_take_of_lt (by omega), Array.getElem?_toList] at this
      exact this
    · obtain ⟨b, c, cu, rfl, r1, r2, r3, r4, r5, r6⟩ := hr.room
      exact ⟨b, _, c, cu, rfl, r1, r2, r3, r4, r5, r6⟩

/-- Lists of verdicts are as they were. -/
def KeepV (w w' : World) : Prop := ∀ (b : Nat) (c : Array Value), w.heap[b]? = some (Obj.cells c 59 (0, 0)) → w'.heap[b]? = some (Obj.cells c 59 (0, 0))
theorem KeepV.of {w w' : World} {q : Nat} {c : Array Value} {e : TypeId} {fr : Nat × Nat} (hg : w.grownBy w' (some q)) (hb : w.heap[q]? = some (.cells c e fr)) (he : e ≠ 59) : KeepV w w' := fun b d hd => by
  rw [hg.block b (Array.getElem?_eq_some_iff.1 hd).1 (fun e2 => by
    rw [Option.some.inj e2, hb] at hd
    simp only [Option.some.injEq, Obj.cells.injEq] at hd
    exact he hd.2.1)]
  exact hd
theorem KeepV.none {w w' : World} (hg : w.grownBy w' none) : KeepV w w' := fun b d hd => by
  rw [hg.block b (Array.getElem?_eq_some_iff.1 hd).1 (by simp)]; exact hd
theorem RowsRoomy.kept {w w' : World} {v : Value} {m Y Z : Nat} (h : RowsRoomy w v m Y Z) (hg : w.grownBy w' .none) : RowsRoomy w' v m Y Z := by
  obtain ⟨g, cap, cur, rfl, hb, h1, h2, h3, h4, h5, h6⟩ := h
  exact ⟨g, cap, cur, rfl, by rw [hg.block g (Array.getElem?_eq_some_iff.1 hb).1 (by simp)]; exact hb, h1, h2, h3, h4, h5, fun i hi => by obtain ⟨u, hu, hr⟩ := h6 i hi; exact ⟨u, hu, hr.kept hg⟩⟩
theorem RowsRoomy.after {w w' : World} {v : Value} {m Y Z q : Nat} {c c' : Array Value} {e : TypeId} (h : RowsRoomy w v m Y Z) (hg : w.grownBy w' (some q)) (hb : w.heap[q]? = some (.cells c e (0, 0))) (hb' : w'.heap[q]? = some (.cells c' e (0, 0))) (hs : c'.size = c.size) (he : e ≠ 107) : RowsRoomy w' v m Y Z := by
  obtain ⟨g, cap, cur, rfl, hg0, h1, h2, h3, h4, h5, h6⟩ := h
  refine ⟨g, cap, cur, rfl, ?_, h1, h2, h3, h4, h5, fun i hi => by obtain ⟨u, hu, hr⟩ := h6 i hi; exact ⟨u, hu, hr.after hg hb hb' hs⟩⟩
  rw [hg.block g (Array.getElem?_eq_some_iff.1 hg0).1 (fun e2 => by
    rw [Option.some.inj e2, hb] at hg0
    simp only [Option.some.injEq, Obj.cells.injEq] at hg0
    exact he hg0.2.1)]
  exact hg0

set_option maxRecDepth 100000 in
set_option maxHeartbeats 2000000 in
theorem spoil_rows {w : World} {v : Value} {m Y Z : Nat} (hx : RowsRoomy w v m Y Z) :
    Calls Try.prog 50 #[v] w fun e w' => e = .returned (.tuple #[]) ∧ Spared Y Z w w' ∧ KeepV w w' := by
  obtain ⟨g, cap, cur, rfl, hb, hsz, hmc, hcm, hY, hZ, hr⟩ := hx
  have hcN : cap ≤ 9223372036854775807 := by unfold maxLen at hcm; omega
  clear hcm
  go_enter Try.func50, Try.ntmps50
  go_wp2_with fail
  go_loopw [2] (fun i wr => ∃ (k : Nat) (c : Array Value), k ≤ m ∧ i = .int .i64 (k : Int) ∧ Hid (wr.heap[g]? = some (.cells c 107 (0, 0))) ∧ c.size = cap ∧ Hid (∀ i, k ≤ i → i < m → ∃ u, c[i]? = some u ∧ Roomy wr 3 u Y Z) ∧ Spared Y Z w wr ∧ Hid (KeepV w wr)) (fun i _ => m - (intOf i).toNat)
  case atStart => exact ⟨0, cur, by omega, rfl, hb, hsz, fun i _ hi => hr i hi, Spared.refl _ _ _, Lib.hid (fun _ _ h => h)⟩
  case round =>
    obtain ⟨k, c, hk, rfl, HB, hcs, HE, hS, HKv⟩ := hrel
    by_cases hlt : k < m
    · obtain ⟨u, hu, hRo⟩ := HE.out k (Nat.le_refl _) hlt
      have hcell : wr.cell? ⟨g, k, none⟩ = some u := by simp only [World.cell?, HB.out]; exact hu
      obtain ⟨b, n, cp, cu, rfl, r1, r2, r3, r4, r5, r6⟩ := hRo
      have HSp := Lib.hid (spoil_ints r1 r2 r3 r4)
      have HR1 := Lib.hid r1
      have hbg : b ≠ g := by rintro rfl; rw [HB.out] at r1; simp at r1
      have hkI : (k : Int) < (m : Int) := by omega
      have hkC : (k : Int) < (cap : Int) := by omega
      clear hb hr r1
      go_wp2_with (go_at_call 77; refine HSp.out.mono ?_; rintro e w2 ⟨rfl, hg2, ⟨cu2, hb2, hs2⟩, _⟩; have HB2 : Hid (w2.heap[g]? = some (.cells c 107 (0, 0))) := Lib.hid (by rw [hg2.block g (Array.getElem?_eq_some_iff.1 HB.out).1 (fun e => hbg (Option.some.inj e).symm)]; exact HB.out); have hba : (w2.alloc (.cells #[.int .i64 (-5)] 3)).heap[g]? = some (.cells c 107 (0, 0)) := blk_up HB2.out; have hc2 : (w2.alloc (.cells #[.int .i64 (-5)] 3)).cell? ⟨g, k, none⟩ = some (.slice (some ⟨b, 0, none⟩) n cp) := (by simp only [World.cell?, hba]; exact hu); have hf2 : (w2.alloc (.cells #[.int .i64 (-5)] 3)).frozen? ⟨g, k, none⟩ = false := (by simp [World.frozen?, hba]); have HBA := Lib.hid hba; clear hba; have HB2b := Lib.hid hb2; clear hb2)
      have hga := World.grownBy_alloc w2 (.cells #[.int .i64 (-5)] 3) none
      have hgs : (w2.alloc (.cells #[.int .i64 (-5)] 3)).grownBy ((w2.alloc (.cells #[.int .i64 (-5)] 3)).setCell ⟨g, k, none⟩ (.slice (some ⟨w2.heap.size, 0, none⟩) 1 1)) (some g) := gb_set
      have hb5 : ((w2.alloc (.cells #[.int .i64 (-5)] 3)).setCell ⟨g, k, none⟩ (.slice (some ⟨w2.heap.size, 0, none⟩) 1 1)).heap[g]? = some (.cells (c.setIfInBounds k (.slice (some ⟨w2.heap.size, 0, none⟩) 1 1)) 107 (0, 0)) := by simp only [World.setCell, Array.getElem?_modify, HBA.out]; simp
      refine ⟨⟨k + 1, _, by omega, by go_num, hb5, by simpa using hcs, Lib.hid (fun i hi him => ?_), ((hS.trans (Spared.of hg2 (fun q e => by cases e; exact ⟨r5, r6⟩))).trans (Spared.of hga (fun q e => by cases e))).trans (Spared.of hgs (fun q e => by cases e; exact ⟨hY, hZ⟩)), Lib.hid (fun b d hd => KeepV.of hgs HBA.out (by decide) b d (KeepV.none hga b d (KeepV.of hg2 HR1.out (by decide) b d (HKv.out b d hd))))⟩, by simp [intOf]; omega⟩
      obtain ⟨u2, hu2, hRo2⟩ := HE.out i (by omega) him
      refine ⟨u2, by rw [Array.getElem?_setIfInBounds, if_neg (by omega)]; exact hu2, ?_⟩
      exact ((hRo2.after hg2 HR1.out HB2b.out (by omega)).kept hga).after hgs HBA.out hb5 (by simp)
    · obtain rfl : k = m := by omega
      go_wp2_with fail
      all_goals go_end0
      all_goals exact ⟨rfl, hS, HKv.out⟩
end Go.Proofs.Ytpehmlkikhkmfaa
