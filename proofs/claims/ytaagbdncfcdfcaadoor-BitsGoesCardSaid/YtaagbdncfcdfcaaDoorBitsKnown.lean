/- Bits: 'known', the chapter's examples. -/
import Derived.Test.YtaagbdncfcdfcaaDoorBitsWork
namespace Go.Proofs.YtaagbdncfcdfcaaDoor
open Go.RowKit

theorem ex_of : ofL 10 [3, 7, 3, 12] = [136] := by decide +kernel
theorem ex_key : keyS 10 [136] = ⟨#[136, 0]⟩ := by decide +kernel
theorem ex_ones : ones [136] = 2 := by decide +kernel
theorem ex_after {r : Int} (h : AfterIs [136] 3 r) : r = 7 := by
  rcases h with ⟨_, h⟩ | ⟨m, rfl, h1, h2, h3⟩
  · exact absurd (h 7 (by decide)) (by decide)
  · have h7 : m ≤ 7 := by
      rcases Nat.lt_or_ge 7 m with h | h
      · exact absurd (h3 7 (by decide) h) (by decide)
      · exact h
    have : ∀ k : Nat, k ≤ 7 → (3 : Int) < k → bit [136] k = true → k = 7 := by decide
    rw [this m h7 h1 h2]; rfl

theorem own3_nil {p mb k : Nat} (h1 : k ≠ p) (h2 : k ≠ mb) : ¬ Own3 p mb (.slice none 0 0) k := by
  rintro (h | h | h)
  · exact h1 h
  · exact h2 h
  · simp [Value.ownBlock] at h
theorem own3_z {Z p mb : Nat} {v : Value} (h1 : Z ≤ p) (h2 : Z ≤ mb) (h3 : ∀ k, v.ownBlock = some k → Z ≤ k) : ∀ k, Own3 p mb v k → Z ≤ k := by
  rintro k (h | h | h)
  · exact h ▸ h1
  · exact h ▸ h2
  · exact h3 k h
theorem own4_z {Z p mb : Nat} {v : Value} (h1 : Z ≤ p) (h2 : Z ≤ mb) (h3 : ∀ k, v.ownBlock = some k → Z ≤ k) : ∀ k, Own4 p mb v k → Z ≤ k := by
  rintro k (h | h | h)
  · exact h ▸ h1
  · exact h ▸ h2
  · exact h3 k h
theorem nil_z {Z : Nat} : ∀ k, (Value.slice none 0 0).ownBlock = some k → Z ≤ k := fun k h => by simp [Value.ownBlock] at h
theorem below_tab {w w' : World} (h : TabAt w) (hb : Below w.heap.size w w') : TabAt w' := fun j hj =>
  (hb.cell (p := ⟨0, j, none⟩) (World.block_lt_of_cell? w _ (h j hj))).trans (h j hj)

theorem after_ex {p g cap : Nat} {w : World} (h : SetAt w p g cap 10 [136]) (hT : TabAt w) :
    Calls Tryd.prog 27 #[.pointer (some ⟨p, 0, none⟩), .int .i64 3] w fun e w' => e = .returned (.int .i64 7) ∧ w = w' := by
  refine (after_core 3 p g cap 10 [136] w h hT (by decide) (by decide)).mono ?_
  rintro e w' ⟨⟨r, rfl, hr⟩, rfl⟩
  exact ⟨by rw [ex_after hr], rfl⟩

set_option maxRecDepth 100000 in
set_option maxHeartbeats 4000000 in
theorem known_walk (w : World) (hT : TabAt w) : Calls Tryd.prog 7 #[] w fun e w' => e = .returned (.bool true) ∧ Below w.heap.size w w' := by
  have HT := Lib.hid hT
  clear hT
  obtain ⟨Z, hZ⟩ : ∃ Z, Z = w.heap.size := ⟨_, rfl⟩
  have HZ := Lib.hid hZ
  clear hZ
  go_enter Tryd.func7, Tryd.ntmps7
  go_wp2_with fail
  have hI : IntsAt (w.alloc (.cells #[.int .i64 3, .int .i64 7, .int .i64 3, .int .i64 12] 3)) (.slice (some ⟨w.heap.size, 0, none⟩) 4 4) [3, 7, 3, 12] :=
    ⟨some ⟨w.heap.size, 0, none⟩, 4, rfl, by intro k hk; match k, hk with | 0, _ => decide | 1, _ => decide | 2, _ => decide | 3, _ => decide, by decide, Or.inr ⟨w.heap.size, 0, rfl, by intro k hk; match k, hk with | 0, _ => simp | 1, _ => simp | 2, _ => simp | 3, _ => simp⟩⟩
  refine (of_h 10 _ [3, 7, 3, 12] _ (by decide) hI).mono ?_
  rintro e w1 ⟨ps, gs, cs, L, rfl, hp, hg, hS, HL, hG⟩
  obtain rfl : L = [136] := HL.out.trans ex_of
  have hB : Below Z w w1 := by rw [HZ.out]; exact ((Below.refl _ _).alloc (Nat.le_refl _) _).grown hG (by simp) (fun k e => by cases e)
  have hz1 : Z ≤ w1.heap.size := by rw [HZ.out]; have := hG.size; rw [World.size_alloc] at this; omega
  clear hp hg hG HL hI
  go_wp2_with fail
  refine (newtable_any 10 w1 (by decide)).mono ?_
  rintro e w2 ⟨pt, mb, rfl, hpt, hmb, hT, hG⟩
  have hS := hS.kept hG (by simp) (by simp)
  have hB := hB.grown hG hz1 (fun k e => by cases e)
  have hz2 : w1.heap.size ≤ w2.heap.size := hG.size
  clear hG
  go_wp2_with fail
  refine (newwork_any 3 w2 (by decide)).mono ?_
  rintro e w3 ⟨pw, sp, sg, sc, rfl, hpw, hsp, hsg, hW, hG⟩
  have hS := hS.kept hG (by simp) (by simp)
  have hpt2 : pt < w2.heap.size := hT.lt
  have hmb2 : mb < w2.heap.size := hT.mlt
  have hT := hT.kept_none hG
  have hB := hB.grown hG (by omega) (fun k e => by cases e)
  have hz3 : w2.heap.size ≤ w3.heap.size := hG.size
  clear hG
  have hTab : TabAt w3 := below_tab HT.out (by rw [← HZ.out]; exact hB)
  have HTab := Lib.hid hTab
  clear hTab
  go_wp2_with fail
  refine (len_h hS 2 ex_ones).mono ?_
  rintro e w' ⟨rfl, rfl⟩
  go_wp2_with fail
  refine (after_ex hS HTab.out).mono ?_
  rintro e w' ⟨rfl, rfl⟩
  go_wp2_with fail
  refine (key_h hS _ ex_key).mono ?_
  rintro e w4 ⟨rfl, hG⟩
  have hS := hS.kept hG (by simp) (by simp)
  have hT := hT.kept_none hG
  have hW := hW.kept_none hG
  have hB := hB.grown hG (by omega) (fun k e => by cases e)
  have hz4 : w3.heap.size ≤ w4.heap.size := hG.size
  clear hG HTab
  go_wp2_with fail
  refine (intern_new pt mb 10 ps gs cs _ [] [136] w4 hT hS (by decide) (by simp [rowsOf])).mono ?_
  rintro e w5 ⟨v', p', g', c', rfl, hT5, k1, k2, k3, hF⟩
  have hns := hT.notSet hS.raw
  have hS := hF.set hS hns.1 hns.2
  have hW := hW.kept hF (own3_nil (by omega) (by omega)) (own3_nil (by omega) (by omega)) (own3_nil (by omega) (by omega)) (fun k hk => by simp [Value.ownBlock] at hk)
  have hB := hB.trans (hF.below (B := Z) (own3_z (by omega) (by omega) nil_z) (by omega))
  have hz5 : w4.heap.size ≤ w5.heap.size := hF.size
  clear hT hns k3 hF
  go_wp2_with fail
  have hio := intern_old pt mb 10 ps gs cs v' _ [136] w5 hT5 hS (by simp) (by simp [rowsOf])
  have hfi : findF (rowsOf ([] ++ [(p', g', c', [136])])) [136] = 0 := by simp [findF, rowsOf]
  rw [hfi] at hio
  refine hio.mono ?_
  rintro e w6 ⟨rfl, hG⟩
  have hW := hW.kept_none hG
  have hB := hB.grown hG (by omega) (fun k e => by cases e)
  have hz6 : w5.heap.size ≤ w6.heap.size := hG.size
  clear hG hio hfi hT5 hS
  go_wp2_with fail
  refine (push_new 2 pw sp sg sc 3 _ _ [] w6 hW (by decide) (by show bit _ 2 = false; decide) (by decide)).mono ?_
  rintro e w7 ⟨v7, rfl, hW7, kv, hF⟩
  have hB := hB.trans (hF.below (B := Z) (own4_z (by omega) (by omega) nil_z) (by omega))
  have hv7 : ∀ k, v7.ownBlock = some k → Z ≤ k := fun k hk => by
    rcases kv k hk with h | h
    · simp [Value.ownBlock] at h
    · omega
  have hz7 : w6.heap.size ≤ w7.heap.size := hF.size
  clear hF kv hW
  go_wp2_with fail
  refine (push_new 0 pw sp sg sc 3 _ _ _ w7 hW7 (by decide) (by show bit _ 0 = false; decide) (by decide)).mono ?_
  rintro e w8 ⟨v8, rfl, hW8, kv, hF⟩
  have hB := hB.trans (hF.below (B := Z) (own4_z (by omega) (by omega) hv7) (by omega))
  clear hF kv hW7 hv7
  go_wp2_with fail
  refine (push_old 2 pw sp sg sc 3 _ _ _ w8 hW8 (by decide) (by show bit _ 2 = true; decide)).mono ?_
  rintro e w' ⟨rfl, rfl⟩
  go_wp2_with fail
  refine (wlen_any pw sp sg sc 3 _ _ _ w8 hW8).mono ?_
  rintro e w' ⟨rfl, rfl⟩
  go_wp2_with fail
  go_ret
  exact ⟨rfl, by rw [← HZ.out]; exact hB⟩
end Go.Proofs.YtaagbdncfcdfcaaDoor
