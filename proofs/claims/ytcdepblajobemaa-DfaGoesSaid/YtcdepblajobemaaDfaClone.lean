/- Dfa: names cloned. -/
import Derived.Test.YtcdepblajobemaaDfaHas
import Derived.Test.YtcdepblajobemaaBitsCopy
set_option maxRecDepth 100000
namespace Go.Proofs.Ytcdepblajobemaa
open Go.RowKit

def sv (s : ByteArray) : Value := .string s
theorem Try.info9 : (Try.prog.info? 9).map (fun i => (i.zero, i.size, i.bytes)) = some (some (.string ⟨#[]⟩), 1, 16) := by kernel_rfl
theorem sv_one (L : List ByteArray) : ∀ u ∈ L.map sv, u.oneCell' = true := by
  intro u hu
  obtain ⟨x, _, rfl⟩ := List.mem_map.1 hu
  rfl
set_option maxHeartbeats 400000 in
theorem clone_texts (v : Value) (A : List ByteArray) (w : World) (hA : TextsAt w v A) (h1000 : A.length ≤ 1000000) :
    Calls Try.prog 54 #[v] w fun e w' => ∃ v', e = .returned v' ∧ w'.ownsRow w.heap.size 9 1 v' A.length (A.map sv) ∧ w.grownBy w' none := by
  obtain ⟨i0, hi, hz0, hz1, hz2⟩ := info_parts Try.info9
  obtain ⟨a, cap, rfl, hcap, hlen, _, hc⟩ := hA
  cases a with
  | none =>
    have hsn := fun (w : World) => Lib.run_eql_slice_nil (P := Try.prog) w 23 9 none A.length cap 0 0 Try.underlying23
    have hA0 : A = [] := by
      rcases hc with h | ⟨b, off, h, _⟩
      · exact h
      · cases h
    subst hA0
    clear hc hlen hcap
    rw [List.length_nil] at hsn ⊢
    have e0 : (List.map sv []) = [] := rfl
    rw [e0]
    clear e0
    go_enter Try.func54, Try.ntmps54
    go_wp2
    go_ret
    exact ⟨_, rfl, World.ownsRow_nil _ _ _ _, gb_refl _ _⟩
  | some ad =>
    have hsn := fun (w : World) => Lib.run_eql_slice_nil (P := Try.prog) w 23 9 (some ad) A.length cap 0 0 Try.underlying23
    have hown : (w.alloc (.cells #[] 9)).ownsRow w.heap.size 9 1 (.slice (some ⟨w.heap.size, 0, none⟩) 0 0) 0 [] := World.ownsRow_lit w #[] 0 (Nat.le_refl _) (Nat.zero_le _) rfl
    have hnew : ∀ j u, (A.map sv)[j]? = some u → (w.alloc (.cells #[] 9)).cell? (ad.add j) = some u := by
      intro j u hu
      have hj : j < A.length := by simpa using (List.getElem?_eq_some_iff.1 hu).1
      rcases hc with rfl | ⟨b, off, h, hc⟩
      · simp at hj
      · cases h
        rw [show (⟨b, off, none⟩ : Addr).add j = ⟨b, off + j, none⟩ by unfold Addr.add; split <;> simp_all, (World.grownBy_alloc w _ none).cell (hc j hj) (by simp)]
        rw [List.getElem?_map, List.getElem?_eq_getElem hj] at hu
        rw [← hu, List.getD_eq_getElem?_getD, List.getElem?_eq_getElem hj]
        rfl
    have HN := Lib.hid hnew
    clear hnew hc
    go_enter Try.func54, Try.ntmps54
    go_wp2_with (at_builtin; refine wpList_append_own _ rfl (.tmp 5) (.tmp 6) 23 rfl w.heap.size 9 i0 (.string ⟨#[]⟩) 1 16 Try.underlying23 hi hz0 hz1 hz2 rfl (by decide) _ _ _ rfl hown ad A.length cap (A.map sv) rfl (by simp) HN.out (sv_one A) (by unfold maxLen; omega) (by omega) (by simp) ?_; intro v' w1 hown1 hgrow1 hnil)
    go_ret
    rw [Nat.zero_add, List.nil_append] at hown1
    exact ⟨_, rfl, hown1, gb_trans (World.grownBy_alloc w _ none) hgrow1 (Or.inr (Or.inr ⟨_, rfl, Nat.le_refl _⟩))⟩
end Go.Proofs.Ytcdepblajobemaa
