/- Runner: rows cloned. -/
import Derived.Test.YtpehmlkikhkmfaaRunFinals
namespace Go.Proofs.Ytpehmlkikhkmfaa
open Go.RowKit

def ov (x : Int) : Value := .int .u8 x
theorem Try.info59 : (Try.prog.info? 59).map (fun i => (i.zero, i.size, i.bytes)) = some (some (.int .u8 0), 1, 1) := by kernel_rfl
theorem iv_one (L : List Int) : ∀ u ∈ L.map iv, u.oneCell' = true := by
  intro u hu
  obtain ⟨x, _, rfl⟩ := List.mem_map.1 hu
  rfl
theorem ov_one (L : List Int) : ∀ u ∈ L.map ov, u.oneCell' = true := by
  intro u hu
  obtain ⟨x, _, rfl⟩ := List.mem_map.1 hu
  rfl

set_option maxHeartbeats 400000 in
theorem clone_ints (v : Value) (A : List Int) (w : World) (hA : IntsAt w v A) :
    Calls Try.prog 47 #[v] w fun e w' => ∃ v', e = .returned v' ∧ w'.ownsRow w.heap.size 3 1 v' A.length (A.map iv) ∧ w.grownBy w' none := by
  obtain ⟨i0, hi, hz0, hz1, hz2⟩ := info_parts Try.info3
  obtain ⟨a, cap, rfl, hcap, _, hlen, hc⟩ := hA
  cases a with
  | none =>
    have hsn := fun (w : World) => Lib.run_eql_slice_nil (P := Try.prog) w 107 3 none A.length cap 0 0 Try.underlying107
    have hA0 : A = [] := by
      rcases hc with h | ⟨b, off, h, _⟩
      · exact h
      · cases h
    subst hA0
    clear hc hlen hcap
    rw [List.length_nil] at hsn ⊢
    have e0 : (List.map iv []) = [] := rfl
    rw [e0]
    clear e0
    go_enter Try.func47, Try.ntmps47
    go_wp2
    go_ret
    exact ⟨_, rfl, World.ownsRow_nil _ _ _ _, gb_refl _ _⟩
  | some ad =>
    have hsn := fun (w : World) => Lib.run_eql_slice_nil (P := Try.prog) w 107 3 (some ad) A.length cap 0 0 Try.underlying107
    have hown : (w.alloc (.cells #[] 3)).ownsRow w.heap.size 3 1 (.slice (some ⟨w.heap.size, 0, none⟩) 0 0) 0 [] := World.ownsRow_lit w #[] 0 (Nat.le_refl _) (Nat.zero_le _) rfl
    have hnew : ∀ j u, (A.map iv)[j]? = some u → (w.alloc (.cells #[] 3)).cell? (ad.add j) = some u := by
      intro j u hu
      have hj : j < A.length := by simpa using (List.getElem?_eq_some_iff.1 hu).1
      rcases hc with rfl | ⟨b, off, h, hc⟩
      · simp at hj
      · cases h
        rw [Addr.add_lit, (World.grownBy_alloc w _ none).cell (hc j hj) (by simp)]
        rw [List.getElem?_map, List.getElem?_eq_getElem hj] at hu
        rw [← hu, List.getD_eq_getElem?_getD, List.getElem?_eq_getElem hj]
        rfl
    have HN := Lib.hid hnew
    clear hnew hc
    go_enter Try.func47, Try.ntmps47
    go_wp2_with (at_builtin; refine wpList_append_own _ rfl (.tmp 5) (.tmp 6) 107 rfl w.heap.size 3 i0 (.int .i64 0) 1 8 Try.underlying107 hi hz0 hz1 hz2 rfl (by decide) _ _ _ rfl hown ad A.length cap (A.map iv) rfl (by simp) HN.out (iv_one A) (by unfold maxLen; omega) (by omega) (by simp) ?_; intro v' w1 hown1 hgrow1 hnil)
    go_ret
    rw [Nat.zero_add, List.nil_append] at hown1
    exact ⟨_, rfl, hown1, gb_trans (World.grownBy_alloc w _ none) hgrow1 (Or.inr (Or.inr ⟨_, rfl, Nat.le_refl _⟩))⟩

set_option maxHeartbeats 400000 in
theorem clone_outs (v : Value) (A : List Int) (w : World) (hA : BytesAt w v A) :
    Calls Try.prog 45 #[v] w fun e w' => ∃ v', e = .returned v' ∧ w'.ownsRow w.heap.size 59 1 v' A.length (A.map ov) ∧ w.grownBy w' none := by
  obtain ⟨i0, hi, hz0, hz1, hz2⟩ := info_parts Try.info59
  obtain ⟨a, cap, rfl, hcap, _, hlen, hc⟩ := hA
  cases a with
  | none =>
    have hsn := fun (w : World) => Lib.run_eql_slice_nil (P := Try.prog) w 25 59 none A.length cap 0 0 Try.underlying25
    have hA0 : A = [] := by
      rcases hc with h | ⟨b, off, h, _⟩
      · exact h
      · cases h
    subst hA0
    clear hc hlen hcap
    rw [List.length_nil] at hsn ⊢
    have e0 : (List.map ov []) = [] := rfl
    rw [e0]
    clear e0
    go_enter Try.func45, Try.ntmps45
    go_wp2
    go_ret
    exact ⟨_, rfl, World.ownsRow_nil _ _ _ _, gb_refl _ _⟩
  | some ad =>
    have hsn := fun (w : World) => Lib.run_eql_slice_nil (P := Try.prog) w 25 59 (some ad) A.length cap 0 0 Try.underlying25
    have hown : (w.alloc (.cells #[] 59)).ownsRow w.heap.size 59 1 (.slice (some ⟨w.heap.size, 0, none⟩) 0 0) 0 [] := World.ownsRow_lit w #[] 0 (Nat.le_refl _) (Nat.zero_le _) rfl
    have hnew : ∀ j u, (A.map ov)[j]? = some u → (w.alloc (.cells #[] 59)).cell? (ad.add j) = some u := by
      intro j u hu
      have hj : j < A.length := by simpa using (List.getElem?_eq_some_iff.1 hu).1
      rcases hc with rfl | ⟨b, off, h, hc⟩
      · simp at hj
      · cases h
        rw [Addr.add_lit, (World.grownBy_alloc w _ none).cell (hc j hj) (by simp)]
        rw [List.getElem?_map, List.getElem?_eq_getElem hj] at hu
        rw [← hu, List.getD_eq_getElem?_getD, List.getElem?_eq_getElem hj]
        rfl
    have HN := Lib.hid hnew
    clear hnew hc
    go_enter Try.func45, Try.ntmps45
    go_wp2_with (at_builtin; refine wpList_append_own _ rfl (.tmp 5) (.tmp 6) 25 rfl w.heap.size 59 i0 (.int .u8 0) 1 1 Try.underlying25 hi hz0 hz1 hz2 rfl (by decide) _ _ _ rfl hown ad A.length cap (A.map ov) rfl (by simp) HN.out (ov_one A) (by unfold maxLen; omega) (by omega) (by simp) ?_; intro v' w1 hown1 hgrow1 hnil)
    go_ret
    rw [Nat.zero_add, List.nil_append] at hown1
    exact ⟨_, rfl, hown1, gb_trans (World.grownBy_alloc w _ none) hgrow1 (Or.inr (Or.inr ⟨_, rfl, Nat.le_refl _⟩))⟩
end Go.Proofs.Ytpehmlkikhkmfaa
