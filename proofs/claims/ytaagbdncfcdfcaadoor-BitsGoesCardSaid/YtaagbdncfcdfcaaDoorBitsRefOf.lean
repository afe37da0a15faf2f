/- Bits: the document's sets: New, Put, Of, All. -/
import Derived.Test.YtaagbdncfcdfcaaDoorBitsRef
namespace Go.Proofs.YtaagbdncfcdfcaaDoor
open Go.RowKit

set_option maxRecDepth 100000 in
set_option maxHeartbeats 1000000 in
theorem rnew_any (n : Nat) (w : World) (hn : n ≤ 65536) :
    Calls Tryd.prog 19 #[.int .i64 (n : Int)] w fun e w' => ∃ q g, e = .returned (.pointer (some ⟨q, 0, none⟩)) ∧ RSet w' w.heap.size q (.slice (some ⟨g, 0, none⟩) n n) (List.replicate n false) ∧ w.grownBy w' none := by
  obtain ⟨ib, hib, hb0, hb1, hb2⟩ := info_parts Tryd.info4
  go_enter Tryd.func19, Tryd.ntmps19
  go_wp2_with (at_make; refine wpList_make_full _ rfl _ _ 73 rfl w.heap.size 4 ib (.bool false) 1 Tryd.underlying73 hib hb0 hb1 .i64 .i64 _ _ n rfl rfl (by omega) (by omega) (by rw [hb2]; omega) (by unfold maxLen; omega) (Nat.le_refl _) ?_; intro w2 hown2 hgrow2; have hown2b := bools_made hown2)
  go_ret
  have ha := World.grownBy_alloc w2 (.cells #[.slice (some ⟨w.heap.size, 0, none⟩) n n] 75) none
  refine ⟨_, _, rfl, ⟨heap_alloc_new _ _, ?_, hgrow2.size⟩, gb_trans hgrow2 ha (Or.inl rfl)⟩
  rw [List.length_replicate]
  exact hown2b.alloc _
set_option maxHeartbeats 1000000 in
theorem rput_any {w : World} {Z q : Nat} {v : Value} {B : List Bool} (h : RSet w Z q v B) (i : Int) (x : Bool) :
    Calls Tryd.prog 32 #[.pointer (some ⟨q, 0, none⟩), .int .i64 i, .bool x] w fun e w' => e = .returned (.tuple #[]) ∧ RSet w' Z q v (if 0 ≤ i ∧ i < B.length then B.set i.toNat x else B) ∧ (w = w' ∨ ∃ g, w.grownBy w' (some g) ∧ Z ≤ g ∧ v.ownBlock = some g) := by
  have h0 := h.cell0
  obtain ⟨av, cv, rfl⟩ := own_val h.row
  by_cases hi : 0 ≤ i
  · by_cases hl : i < B.length
    · rw [if_pos ⟨hi, hl⟩]
      obtain ⟨k, rfl⟩ := Int.eq_ofNat_of_zero_le hi
      obtain ⟨g, cap, hv, hc, hf⟩ := h.cell k (by omega)
      cases hv
      obtain ⟨hp, hg, hz⟩ := h.put (g := g) (cap := cv) k x
      have HP := Lib.hid hp
      have HG := Lib.hid hg
      clear hp hg h
      go_enter Tryd.func32, Tryd.ntmps32
      go_wp2
      go_end0
      exact ⟨rfl, HP.out, Or.inr ⟨g, HG.out, hz, rfl⟩⟩
    · rw [if_neg (fun e => hl e.2)]
      have HH := Lib.hid h
      clear h
      go_enter Tryd.func32, Tryd.ntmps32
      go_wp2
      go_end0
      exact ⟨rfl, HH.out, Or.inl rfl⟩
  · rw [if_neg (fun e => hi e.1)]
    have HH := Lib.hid h
    clear h
    go_enter Tryd.func32, Tryd.ntmps32
    go_wp2
    go_end0
    exact ⟨rfl, HH.out, Or.inl rfl⟩
theorem yes_put1 (n : Nat) (L : List Nat) (g : Good n L) (i : Int) : (if 0 ≤ i ∧ i < (yesL n L).length then (yesL n L).set i.toNat true else yesL n L) = yesL n (put1 n L i) := by
  rw [yes_len]
  unfold put1
  split
  · rename_i h
    exact yes_put g (by omega)
  · rfl
set_option maxHeartbeats 1000000 in
theorem rof_any (n : Nat) (v : Value) (A : List Int) (w : World) (hn : n ≤ 65536) (hA : IntsAt w v A) :
    Calls Tryd.prog 13 #[.int .i64 (n : Int), v] w fun e w' => ∃ q u, e = .returned (.pointer (some ⟨q, 0, none⟩)) ∧ RSet w' w.heap.size q u (yesL n (ofL n A)) ∧ w.grownBy w' none := by
  have HA := Lib.hid hA
  obtain ⟨a, cap, rfl, h1, h2, h3⟩ := hA
  have HH := Lib.hid h3
  clear h1 h3
  go_enter Tryd.func13, Tryd.ntmps13
  go_wp2_with (go_at_call 19; refine (rnew_any _ _ hn).mono ?_; rintro e w0 ⟨q, g, rfl, hR, hG⟩)
  have HR0 : Hid (RSet w0 w.heap.size q (.slice (some ⟨g, 0, none⟩) n n) (yesL n (ofL n (A.take 0)))) := Lib.hid (by
    rw [List.take_zero, show ofL n [] = List.replicate ((n + 63) / 64) 0 from rfl, yes_none]
    exact hR)
  have HG0 := Lib.hid hG
  clear hR hG
  go_loopw [6] (fun i wr => ∃ k : Nat, k ≤ A.length ∧ i = .int .i64 (k : Int) ∧ Hid (RSet wr w.heap.size q (.slice (some ⟨g, 0, none⟩) n n) (yesL n (ofL n (A.take k)))) ∧ Hid (w.grownBy wr none)) (fun i _ => A.length - (intOf i).toNat)
  case atStart => exact ⟨0, by omega, rfl, HR0, HG0⟩
  case round =>
    obtain ⟨k, hk, rfl, HR, HW⟩ := hrel
    by_cases hlt : k < A.length
    · have HT := Lib.hid (of_take n A k hlt)
      have HGd := Lib.hid (good_of (n := n) hn (A.take k))
      rcases HH.out with rfl | ⟨b, off, rfl, hc⟩
      · exact absurd hlt (by simp)
      · have hc' := HW.out.cell (hc k hlt) (by simp)
        clear hc
        have HP := Lib.hid (rput_any HR.out (A.getD k 0) true)
        rw [yes_put1 n _ HGd.out, ← HT.out] at HP
        generalize A.getD k 0 = x at hc' HT HP
        go_wp2_with (go_at_call 32; refine HP.out.mono ?_; rintro e w' ⟨rfl, hR', hg'⟩)
        go_roundw
        case rel =>
          refine ⟨k + 1, by omega, by go_num, Lib.hid hR', Lib.hid ?_⟩
          rcases hg' with rfl | ⟨g', hg', hz, _⟩
          · exact HW.out
          · exact gb_trans HW.out hg' (Or.inr (Or.inr ⟨g', rfl, hz⟩))
        case measure => simp [intOf]; omega
    · obtain rfl : k = A.length := by omega
      have hR := HR.out
      rw [List.take_length] at hR
      go_wp2
      go_ret
      exact ⟨q, _, rfl, hR, HW.out⟩
set_option maxHeartbeats 2000000 in
theorem rall_any {w : World} {Z q n : Nat} {v : Value} {L : List Nat} (h : RSet w Z q v (yesL n L)) (hn : n ≤ 65536) :
    Calls Tryd.prog 14 #[.pointer (some ⟨q, 0, none⟩)] w fun e w' => ∃ u, e = .returned u ∧ w'.ownsRow w.heap.size 3 1 u (riseL n L).length ((riseL n L).map fun (x : Nat) => Value.int .i64 (x : Int)) ∧ w.grownBy w' none := by
  obtain ⟨i0, hi, hz0, hz1, hz2⟩ := info_parts Tryd.info3
  have hlen := yes_len n L
  have HR := Lib.hid h
  obtain ⟨av, cv, rfl⟩ := own_val h.row
  rw [hlen] at HR
  clear h
  go_enter Tryd.func14, Tryd.ntmps14
  go_wp2_with fail
  go_loopw [3, 4] (fun l i wr => ∃ k : Nat, k ≤ n ∧ i = .int .i64 (k : Int) ∧ Hid (wr.ownsRow w.heap.size 3 1 l (riseL k L).length ((riseL k L).map fun (x : Nat) => Value.int .i64 (x : Int))) ∧ Hid (w.grownBy wr none)) (fun _ i _ => n - (intOf i).toNat)
  case atStart => exact ⟨0, by omega, rfl, Lib.hid (World.ownsRow_nil _ _ _ _), Lib.hid (gb_refl _ _)⟩
  case round =>
    obtain ⟨k, hk, rfl, HL, HW⟩ := hrel
    have hR := HR.out.kept HW.out
    have h0 := hR.cell0
    have hst := rise_step L k
    have hrl := rise_len k L
    obtain ⟨al, cl, rfl⟩ := own_val HL.out
    by_cases hlt : k < n
    · have hltI : (k : Int) < (n : Int) := by omega
      obtain ⟨g, cap, hv, hc, hf⟩ := hR.cell k (by rw [hlen]; exact hlt)
      rw [hlen] at hv
      cases hv
      rw [yes_get n L k hlt] at hc
      clear hR hf
      cases hb : bit L k with
      | true =>
        rw [hb] at hc hst
        rw [if_pos rfl] at hst
        have HST := Lib.hid hst
        clear hst
        go_wp2_with (at_builtin; refine wpList_append_lies _ rfl (.tmp 21) (.tmp 23) 31 rfl w.heap.size 3 i0 (.int .i64 0) 1 8 Tryd.underlying31 hi hz0 hz1 hz2 rfl (by decide) (.slice al (riseL k L).length cl) (riseL k L).length ((riseL k L).map fun (x : Nat) => Value.int .i64 (x : Int)) rfl (HL.out.alloc _) ⟨wr.heap.size, 0, none⟩ 1 1 [.int .i64 (k : Int)] rfl rfl (cell_one_new _ _ _) (by simp [Value.oneCell']) (by decide) (by unfold maxLen; omega) (by omega) (by rw [World.size_alloc]; have := HW.out.size; omega) _ rfl ?_; intro g5 cap5 w5 hown5 hgr5 hat5 hlt5)
        go_roundw
        case rel =>
          have hga := World.grownBy_alloc wr (.cells #[.int .i64 (k : Int)] 3) none
          refine ⟨k + 1, by omega, by go_num, Lib.hid ?_, Lib.hid (gb_trans (gb_trans HW.out hga (Or.inl rfl)) hgr5 ?_)⟩
          · rw [HST.out, List.length_append, List.map_append]
            exact hown5
          · rcases e : (Value.slice al (riseL k L).length cl).ownBlock with _ | b
            · exact Or.inl rfl
            · exact Or.inr (Or.inr ⟨b, rfl, (HL.out.lt b e).1⟩)
        case measure => simp [intOf]; omega
      | false =>
        rw [hb] at hc hst
        rw [if_neg (by simp)] at hst
        have HST := Lib.hid hst
        clear hst
        go_wp2_with fail
        go_roundw
        case rel => exact ⟨k + 1, by omega, by go_num, by rw [HST.out]; exact HL, HW⟩
        case measure => simp [intOf]; omega
    · obtain rfl : k = n := by omega
      have hltI : ¬ (k : Int) < (k : Int) := by omega
      go_wp2_with fail
      go_ret
      exact ⟨_, rfl, HL.out, HW.out⟩
end Go.Proofs.YtaagbdncfcdfcaaDoor
