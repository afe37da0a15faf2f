/- Runner: how much was handed in. -/
import Derived.Test.YtpehmlkikhkmfaaRunKnown
namespace Go.Proofs.Ytpehmlkikhkmfaa
open Go.RowKit

/-- How much, and how much is counted: no further once it is over the bound. -/
def sumN (l : List Nat) : Nat := l.foldl (fun n s => n + (1 + s)) 0
def capN (l : List Nat) : Nat := l.foldl (fun n s => if n ≤ 2147483647 then n + (1 + s) else n) 0
theorem take_one {l : List Nat} {k : Nat} (hk : k < l.length) : l.take (k + 1) = l.take k ++ [l.getD k 0] := by
  rw [List.take_add_one]
  congr 1
  rw [List.getD_eq_getElem?_getD, List.getElem?_eq_getElem hk]; rfl
theorem capN_take (l : List Nat) (k : Nat) (hk : k < l.length) (h : capN (l.take k) ≤ 2147483647) : capN (l.take (k + 1)) = capN (l.take k) + (1 + l.getD k 0) := by
  rw [take_one hk]
  unfold capN at h ⊢
  rw [List.foldl_append]
  show (if _ then _ else _) = _
  rw [if_pos h]
theorem cap_stop (m : List Nat) : ∀ n, 2147483647 < n → m.foldl (fun n s => if n ≤ 2147483647 then n + (1 + s) else n) n = n := by
  induction m with
  | nil => intros; rfl
  | cons x m ih =>
    intro n hn
    rw [List.foldl_cons, if_neg (by omega)]
    exact ih n hn
theorem capN_stop (l : List Nat) (k : Nat) (h : 2147483647 < capN (l.take k)) : capN l = capN (l.take k) := by
  have e : l = l.take k ++ l.drop k := (List.take_append_drop k l).symm
  rw [congrArg capN e]
  unfold capN at h ⊢
  rw [List.foldl_append]
  exact cap_stop _ _ h
theorem sum_cap (m : List Nat) : ∀ a, m.foldl (fun n s => if n ≤ 2147483647 then n + (1 + s) else n) a ≤ 2147483647 → m.foldl (fun n s => if n ≤ 2147483647 then n + (1 + s) else n) a = m.foldl (fun n s => n + (1 + s)) a := by
  induction m with
  | nil => intros; rfl
  | cons x m ih =>
    intro a h
    rw [List.foldl_cons, List.foldl_cons]
    rw [List.foldl_cons] at h
    by_cases ha : a ≤ 2147483647
    · rw [if_pos ha] at h ⊢
      exact ih _ h
    · rw [if_neg ha, cap_stop _ _ (by omega)] at h
      exact absurd h ha
theorem capN_sum {l : List Nat} (h : capN l ≤ 2147483647) : capN l = sumN l := sum_cap l 0 h
theorem sumN_take (l : List Nat) (k : Nat) (hk : k < l.length) : sumN (l.take (k + 1)) = sumN (l.take k) + (1 + l.getD k 0) := by
  rw [take_one hk]
  unfold sumN
  rw [List.foldl_append]
  rfl
theorem sumN_ge : ∀ (m : List Nat) (a : Nat), a + m.length ≤ m.foldl (fun n s => n + (1 + s)) a
  | [], a => Nat.le_refl _
  | x :: m, a => by
    have := sumN_ge m (a + (1 + x))
    rw [List.foldl_cons, List.length_cons]
    omega
theorem sumN_len (l : List Nat) : l.length ≤ sumN l := by
  have := sumN_ge l 0
  unfold sumN
  omega
theorem cap_le : ∀ (m : List Nat) (a : Nat), a ≤ 140739635834880 → (∀ x ∈ m, x ≤ 140737488351232) → m.foldl (fun n s => if n ≤ 2147483647 then n + (1 + s) else n) a ≤ 140739635834880
  | [], a, h, _ => h
  | x :: m, a, h, hm => by
    rw [List.foldl_cons]
    refine cap_le m _ ?_ (fun y hy => hm y (List.mem_cons_of_mem _ hy))
    have := hm x List.mem_cons_self
    split <;> omega
theorem capN_le {l : List Nat} (h : ∀ x ∈ l, x ≤ 140737488351232) : capN l ≤ 140739635834880 := cap_le l 0 (by omega) h
def sizes (L : List ByteArray) : List Nat := L.map ByteArray.size
def lens (R : List (List Int)) : List Nat := R.map List.length
theorem sizes_at {L : List ByteArray} {k : Nat} (hk : k < L.length) : (sizes L).getD k 0 = (L.getD k ⟨#[]⟩).size := by
  unfold sizes
  simp [List.getD_eq_getElem?_getD, hk]
theorem lens_at {L : List (List Int)} {k : Nat} (hk : k < L.length) : (lens L).getD k 0 = (L.getD k []).length := by
  unfold lens
  simp [List.getD_eq_getElem?_getD, hk]

/-- Texts of which none is longer than memory. -/
def Short (L : List ByteArray) : Prop := ∀ k, k < L.length → (L.getD k ⟨#[]⟩).size ≤ 140737488351232

set_option maxHeartbeats 1000000 in
theorem oftexts_any {w : World} {v : Value} {L : List ByteArray} (hl : TextsAt w v L) (hs : Short L) :
    Calls Try.prog 19 #[v] w fun e w' => e = .returned (.int .i64 (capN (sizes L) : Int)) ∧ capN (sizes L) ≤ 140739635834880 ∧ w = w' := by
  obtain ⟨a, cap, rfl, hcap, hlen, _, hc⟩ := hl
  have HC := Lib.hid hc
  have HS := Lib.hid hs
  clear hc hs
  go_enter Try.func19, Try.ntmps19
  go_wp2
  go_loop [4, 3] (fun i c => ∃ (k n : Nat), k ≤ L.length ∧ i = .int .i64 (k : Int) ∧ c = .int .i64 (n : Int) ∧ n ≤ 140739635834880 ∧ Hid (n = capN ((sizes L).take k))) (fun i _ => L.length - (intOf i).toNat)
  case atStart => exact ⟨0, 0, by omega, rfl, rfl, by omega, rfl⟩
  case round =>
    obtain ⟨k, n, hk, rfl, rfl, hn, HX⟩ := hrel
    by_cases hlt : k < L.length
    · by_cases hb : n ≤ 2147483647
      · rcases HC.out with rfl | ⟨b, off, rfl, hcc⟩
        · exact absurd hlt (by simp)
        have hcell := hcc k hlt
        have hsz := HS.out k hlt
        have HT := Lib.hid (capN_take (sizes L) k (by unfold sizes; rw [List.length_map]; exact hlt) (by rw [← HX.out]; exact hb))
        rw [sizes_at hlt] at HT
        generalize L.getD k ⟨#[]⟩ = s at hcell hsz HT
        have hnI : (n : Int) ≤ 2147483647 := by omega
        have hkI : (k : Int) < (L.length : Int) := by omega
        generalize hz : s.size = z at hsz HT
        have e1 : wrap64 (1 + (z : Int)) = 1 + (z : Int) := IntWalk.wrap64_in _ ⟨by omega, by omega⟩
        have e2 : wrap64 ((n : Int) + (1 + (z : Int))) = (n : Int) + (1 + (z : Int)) := IntWalk.wrap64_in _ ⟨by omega, by omega⟩
        clear hcc
        go_wp2_with fail
        go_round
        case rel => exact ⟨k + 1, n + (1 + z), by omega, by go_num, by go_num, by omega, Lib.hid (by rw [HT.out, ← HX.out])⟩
        case measure => simp [intOf]; omega
      · have hkI : (k : Int) < (L.length : Int) := by omega
        have hnI : ¬ (n : Int) ≤ 2147483647 := by omega
        go_wp2_with fail
        go_ret
        have e := capN_stop (sizes L) k (by rw [← HX.out]; omega)
        rw [← HX.out] at e
        rw [e]
        exact ⟨rfl, hn, rfl⟩
    · obtain rfl : k = L.length := by omega
      rw [show L.length = (sizes L).length by unfold sizes; rw [List.length_map], List.take_length] at HX
      go_wp2_with fail
      go_ret
      rw [← HX.out]
      exact ⟨rfl, hn, rfl⟩

set_option maxHeartbeats 1000000 in
theorem ofrows_any {w : World} {v : Value} {L : List (List Int)} (hl : RowsAt w v L) :
    Calls Try.prog 42 #[v] w fun e w' => e = .returned (.int .i64 (capN (lens L) : Int)) ∧ capN (lens L) ≤ 140739635834880 ∧ w = w' := by
  obtain ⟨a, cap, rfl, hcap, hlen, hc⟩ := hl
  have HC := Lib.hid hc
  clear hc
  go_enter Try.func42, Try.ntmps42
  go_wp2
  go_loop [4, 3] (fun i c => ∃ (k n : Nat), k ≤ L.length ∧ i = .int .i64 (k : Int) ∧ c = .int .i64 (n : Int) ∧ n ≤ 140739635834880 ∧ Hid (n = capN ((lens L).take k))) (fun i _ => L.length - (intOf i).toNat)
  case atStart => exact ⟨0, 0, by omega, rfl, rfl, by omega, rfl⟩
  case round =>
    obtain ⟨k, n, hk, rfl, rfl, hn, HX⟩ := hrel
    by_cases hlt : k < L.length
    · by_cases hb : n ≤ 2147483647
      · rcases HC.out with rfl | ⟨b, off, rfl, hcc⟩
        · exact absurd hlt (by simp)
        obtain ⟨u, hcell, au, cu, rfl, hcu, _, hsz, _⟩ := hcc k hlt
        have HT := Lib.hid (capN_take (lens L) k (by unfold lens; rw [List.length_map]; exact hlt) (by rw [← HX.out]; exact hb))
        rw [lens_at hlt] at HT
        generalize L.getD k [] = s at hcell hsz hcu HT
        have hnI : (n : Int) ≤ 2147483647 := by omega
        have hkI : (k : Int) < (L.length : Int) := by omega
        generalize hz : s.length = z at hcell hsz hcu HT
        have e1 : wrap64 (1 + (z : Int)) = 1 + (z : Int) := IntWalk.wrap64_in _ ⟨by omega, by omega⟩
        have e2 : wrap64 ((n : Int) + (1 + (z : Int))) = (n : Int) + (1 + (z : Int)) := IntWalk.wrap64_in _ ⟨by omega, by omega⟩
        clear hcc
        go_wp2_with fail
        go_round
        case rel => exact ⟨k + 1, n + (1 + z), by omega, by go_num, by go_num, by omega, Lib.hid (by rw [HT.out, ← HX.out])⟩
        case measure => simp [intOf]; omega
      · have hkI : (k : Int) < (L.length : Int) := by omega
        have hnI : ¬ (n : Int) ≤ 2147483647 := by omega
        go_wp2_with fail
        go_ret
        have e := capN_stop (lens L) k (by rw [← HX.out]; omega)
        rw [← HX.out] at e
        rw [e]
        exact ⟨rfl, hn, rfl⟩
    · obtain rfl : k = L.length := by omega
      rw [show L.length = (lens L).length by unfold lens; rw [List.length_map], List.take_length] at HX
      go_wp2_with fail
      go_ret
      rw [← HX.out]
      exact ⟨rfl, hn, rfl⟩

theorem short_le {L : List ByteArray} (h : Short L) : capN (sizes L) ≤ 140739635834880 := capN_le fun x hx => by
  obtain ⟨k, hk⟩ := List.getElem?_of_mem hx
  have hl : k < L.length := by have := (List.getElem?_eq_some_iff.1 hk).1; unfold sizes at this; rwa [List.length_map] at this
  have e := sizes_at hl
  rw [List.getD_eq_getElem?_getD, hk] at e
  rw [show x = _ from e]
  exact h k hl
theorem rows_le {w : World} {v : Value} {L : List (List Int)} (h : RowsAt w v L) : capN (lens L) ≤ 140739635834880 := capN_le fun x hx => by
  obtain ⟨a, cap, _, _, _, hc⟩ := h
  obtain ⟨k, hk⟩ := List.getElem?_of_mem hx
  have hl : k < L.length := by have := (List.getElem?_eq_some_iff.1 hk).1; unfold lens at this; rwa [List.length_map] at this
  have e := lens_at hl
  rw [List.getD_eq_getElem?_getD, hk] at e
  rw [show x = _ from e]
  rcases hc with rfl | ⟨b, off, _, hc⟩
  · exact absurd hl (by simp)
  · obtain ⟨u, _, _, _, _, _, _, hz, _⟩ := hc k hl
    omega
/-- A slice of so many. -/
def SliceOf (v : Value) (n : Nat) : Prop := ∃ a cap, v = .slice a n cap ∧ n ≤ cap
theorem ofmoore_any {w : World} {vp vn vo : Value} {P : List ByteArray} {R : List (List Int)} {n : Nat} (hp : TextsAt w vp P) (hs : Short P) (hr : RowsAt w vn R) (ho : SliceOf vo n) (hn : n ≤ 140737488355328) :
    Calls Try.prog 10 #[.agg #[vp, vn, vo]] w fun e w' => e = .returned (.int .i64 ((capN (sizes P) + capN (lens R) + n : Nat) : Int)) ∧ w.grownBy w' none := by
  have HP := Lib.hid hp
  have HR := Lib.hid hr
  obtain ⟨ap, cp, rfl, hcp, _⟩ := hp
  obtain ⟨an, cn, rfl, hcn, _⟩ := hr
  obtain ⟨ao, co, rfl, hco⟩ := ho
  have c0 := cell3_0 w (.slice ap P.length cp) (.slice an R.length cn) (.slice ao n co) 27
  have c1 := cell3_1 w (.slice ap P.length cp) (.slice an R.length cn) (.slice ao n co) 27
  have c2 := cell3_2 w (.slice ap P.length cp) (.slice an R.length cn) (.slice ao n co) 27
  have hg := World.grownBy_alloc w (.cells #[.slice ap P.length cp, .slice an R.length cn, .slice ao n co] 27) none
  go_enter Try.func10, Try.ntmps10
  go_wp2_with fail
  generalize w.alloc (.cells #[.slice ap P.length cp, .slice an R.length cn, .slice ao n co] 27) = w1 at c0 c1 c2 hg
  have HT : Hid (∀ j, Calls Try.prog 19 #[.slice ap P.length cp] (w1.drewN j) fun e w' => e = .returned (.int .i64 (capN (sizes P) : Int)) ∧ w' = w1.drewN j) := Lib.hid fun j => (oftexts_any ((HP.out.kept hg).kept (gb_drewN w1 j none)) hs).mono fun e w' ⟨he, _, hw⟩ => ⟨he, hw.symm⟩
  have HW : Hid (∀ j, Calls Try.prog 42 #[.slice an R.length cn] (w1.drewN j) fun e w' => e = .returned (.int .i64 (capN (lens R) : Int)) ∧ w' = w1.drewN j) := Lib.hid fun j => (ofrows_any ((HR.out.kept hg).kept (gb_drewN w1 j none))).mono fun e w' ⟨he, _, hw⟩ => ⟨he, hw.symm⟩
  have hx := short_le hs
  have hy := rows_le HR.out
  obtain ⟨x, hxe⟩ : ∃ x, Hid (x = capN (sizes P)) := ⟨_, rfl⟩
  obtain ⟨y, hye⟩ : ∃ y, Hid (y = capN (lens R)) := ⟨_, rfl⟩
  rw [← hxe.out] at HT hx
  rw [← hye.out] at HW hy
  have e1 : wrap64 ((x : Int) + (y : Int)) = (x : Int) + (y : Int) := IntWalk.wrap64_in _ ⟨by omega, by omega⟩
  have e2 : wrap64 ((x : Int) + (y : Int) + (n : Int)) = (x : Int) + (y : Int) + (n : Int) := IntWalk.wrap64_in _ ⟨by omega, by omega⟩
  clear hs
  go_quiet (first | (go_at_call 19; exact Calls.quiet_of_same (HT.out _)) | (go_at_call 42; exact Calls.quiet_of_same (HW.out _)))
  go_wp2
  go_ret
  refine ⟨?_, gb_trans hg (gb_drewN _ _ none) (Or.inl rfl)⟩
  rw [← hxe.out, ← hye.out]
  simp
end Go.Proofs.Ytpehmlkikhkmfaa
