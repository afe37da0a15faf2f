/- Bits: Copy, Key. -/
import Derived.Test.YtaagbdncfcdfcaaDoorBitsLen
namespace Go.Proofs.YtaagbdncfcdfcaaDoor
open Go.RowKit
theorem wv_one (L : List Nat) : ∀ u ∈ L.map wv, u.oneCell' = true := by
  intro u hu
  obtain ⟨x, _, rfl⟩ := List.mem_map.1 hu
  rfl
set_option maxHeartbeats 400000 in
theorem clone_any (g cap l : Nat) (L : List Nat) (w : World) (hl : L.length = l) (hL : ∀ k, k < l → w.cell? ⟨g, k, none⟩ = some (.int .u64 ((L.getD k 0 : Nat) : Int))) (hLl : l ≤ 1024) :
    Calls Tryd.prog 63 #[.slice (some ⟨g, 0, none⟩) l cap] w fun e w' => ∃ g2 cap2, e = .returned (.slice (some ⟨g2, 0, none⟩) l cap2) ∧ w.heap.size ≤ g2 ∧ w'.ownsRow 0 77 1 (.slice (some ⟨g2, 0, none⟩) l cap2) l (L.map wv) ∧ w.grownBy w' none := by
  obtain ⟨i0, hi, hz0, hz1, hz2⟩ := info_parts Tryd.info77
  have hsn := fun (w : World) => Lib.run_eql_slice_nil (P := Tryd.prog) w 64 77 (some ⟨g, 0, none⟩) l cap 0 0 Tryd.underlying64
  go_enter Tryd.func63, Tryd.ntmps63
  have hown : (w.alloc (.cells #[] 77)).ownsRow w.heap.size 77 1 (.slice (some ⟨w.heap.size, 0, none⟩) 0 0) 0 [] := World.ownsRow_lit w #[] 0 (Nat.le_refl _) (Nat.zero_le _) rfl
  have hnew : ∀ j u, (L.map wv)[j]? = some u → (w.alloc (.cells #[] 77)).cell? ((⟨g, 0, none⟩ : Addr).add j) = some u := by
    intro j u hu
    have hj : j < l := by
      have := (List.getElem?_eq_some_iff.1 hu).1
      simpa [hl] using this
    have hc := hL j hj
    have hlt : g < w.heap.size := World.block_lt_of_cell? w _ hc
    rw [show (⟨g, 0, none⟩ : Addr).add j = ⟨g, j, none⟩ by unfold Addr.add; split <;> simp_all, (World.grownBy_alloc w _ none).cell hc (by simp)]
    rw [List.getElem?_map] at hu
    rw [← hu]
    simp [wv, show j < L.length by omega]
  have HN := Lib.hid hnew
  have HL := Lib.hid hL
  clear hnew hL
  go_wp2_with (at_builtin; refine wpList_append_own _ rfl (.tmp 5) (.tmp 6) 64 rfl w.heap.size 77 i0 (.int .u64 0) 1 8 Tryd.underlying64 hi hz0 hz1 hz2 rfl (by decide) _ _ _ rfl hown ⟨g, 0, none⟩ l cap (L.map wv) rfl (by simp [hl]) HN.out (wv_one L) (by unfold maxLen; omega) (by omega) (by simp) ?_; intro v' w1 hown1 hgrow1 hnil)
  go_ret
  rw [Nat.zero_add, List.nil_append] at hown1
  have hv : v' ≠ .slice none 0 0 := fun e => by have h' := (hnil.1 e).1; cases h'
  rcases hown1.2 with ⟨e, _⟩ | ⟨g2, cap2, cur, rfl, hb, hr⟩
  · exact absurd e hv
  · exact ⟨g2, cap2, rfl, hb, ⟨hown1.1, .inr ⟨g2, cap2, cur, rfl, Nat.zero_le _, hr⟩⟩, gb_trans (World.grownBy_alloc w _ none) hgrow1 (Or.inr (Or.inr ⟨_, rfl, Nat.le_refl _⟩))⟩

set_option maxHeartbeats 1000000 in
theorem copy_any (p g cap n : Nat) (L : List Nat) (w : World) (h : SetAt w p g cap n L) :
    Calls Tryd.prog 33 #[.pointer (some ⟨p, 0, none⟩)] w (Made w n L) := by
  have hm := h.max
  have hN := h.cellN
  have hW := h.cellW
  have hl := h.len
  go_enter Tryd.func33, Tryd.ntmps33
  go_wp2_with fail
  have HC := Lib.hid (clone_any g cap ((n + 63) / 64) L w.drew hl (fun k hk => h.drew.cell k (by omega)) (by omega))
  go_region_with (go_at_call 63; refine HC.out.mono ?_; rintro e w' ⟨g2, cap2, rfl, hb, ho, hg⟩; have hN' := hg.cell (w := w.drew) hN (by simp))
  all_goals
    go_wp2
    go_ret
    have hgg : w.grownBy w' none := gb_trans (gb_drew w none) hg (Or.inl rfl)
    refine ⟨w'.heap.size, g2, cap2, rfl, hgg.size, hb, ⟨⟨?_, ?_, h.good.len, h.good.max, h.good.wd⟩, h.good⟩, gb_trans hgg (World.grownBy_alloc _ _ none) (Or.inl rfl)⟩
    · rw [hl]; exact heap_alloc_new _ _
    · rw [hl]; exact ho.alloc _
end Go.Proofs.YtaagbdncfcdfcaaDoor
