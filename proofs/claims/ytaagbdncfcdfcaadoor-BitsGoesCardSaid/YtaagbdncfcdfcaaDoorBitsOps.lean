/- Bits: And, Or, Less, Within, Len, Same. -/
import Derived.Test.YtaagbdncfcdfcaaDoorBitsNew
namespace Go.Proofs.YtaagbdncfcdfcaaDoor
open Go.RowKit
set_option maxHeartbeats 400000 in
theorem word_yes (k p g cap n : Nat) (L : List Nat) (w : World) (h : RawAt w p g cap n L) (h1 : k < L.length) :
    Calls Tryd.prog 64 #[.pointer (some ⟨p, 0, none⟩), .int .i64 (k : Int)] w fun e w' => e = .returned (.int .u64 ((L.getD k 0 : Nat) : Int)) ∧ w = w' := by
  have hm := h.max
  have hW := h.cellW
  have hl := h.len
  have hc := h.cell k h1
  go_enter Tryd.func64, Tryd.ntmps64
  go_wp2
  go_ret
  exact ⟨by simp, rfl⟩
set_option maxHeartbeats 400000 in
theorem word_no (k p g cap n : Nat) (L : List Nat) (w : World) (h : RawAt w p g cap n L) (h1 : ¬ k < L.length) :
    Calls Tryd.prog 64 #[.pointer (some ⟨p, 0, none⟩), .int .i64 (k : Int)] w fun e w' => e = .returned (.int .u64 ((L.getD k 0 : Nat) : Int)) ∧ w = w' := by
  have hm := h.max
  have hW := h.cellW
  have hl := h.len
  go_enter Tryd.func64, Tryd.ntmps64
  go_wp2
  go_ret
  exact ⟨by rw [getD_out (show L.length ≤ k by omega)]; rfl, rfl⟩
theorem word_any (k p g cap n : Nat) (L : List Nat) (w : World) (h : RawAt w p g cap n L) :
    Calls Tryd.prog 64 #[.pointer (some ⟨p, 0, none⟩), .int .i64 (k : Int)] w fun e w' => e = .returned (.int .u64 ((L.getD k 0 : Nat) : Int)) ∧ w = w' := by
  by_cases h1 : k < L.length
  · exact word_yes k p g cap n L w h h1
  · exact word_no k p g cap n L w h h1

/-- What has been worked in when k words are done. -/
def mix (f : Nat → Nat → Nat) (L M : List Nat) (k : Nat) : List Nat := (List.range L.length).map fun j => if j < k then f (L.getD j 0) (M.getD j 0) else L.getD j 0
theorem mix_len (f : Nat → Nat → Nat) (L M : List Nat) (k : Nat) : (mix f L M k).length = L.length := by simp [mix]
theorem mix_get (f : Nat → Nat → Nat) (L M : List Nat) (k j : Nat) (h : j < L.length) : (mix f L M k).getD j 0 = if j < k then f (L.getD j 0) (M.getD j 0) else L.getD j 0 :=
  getD_map_range _ _ _ (fun h' => by omega)
theorem mix_zero (f : Nat → Nat → Nat) (L M : List Nat) : mix f L M 0 = L :=
  list_ext (mix_len _ _ _ _) fun j hj => by rw [mix_len] at hj; rw [mix_get _ _ _ _ _ hj]; simp
theorem mix_succ (f : Nat → Nat → Nat) (L M : List Nat) (k : Nat) (h : k < L.length) : mix f L M (k + 1) = (mix f L M k).set k (f (L.getD k 0) (M.getD k 0)) :=
  list_ext (by simp [mix_len]) fun j hj => by
    rw [mix_len] at hj
    rw [mix_get _ _ _ _ _ hj, getD_set _ _ _ _ (by rw [mix_len]; exact h), mix_get _ _ _ _ _ hj]
    by_cases e : k = j
    · subst e; simp
    · rw [if_neg e]
      by_cases c : j < k
      · rw [if_pos c, if_pos (by omega)]
      · rw [if_neg c, if_neg (by omega)]
theorem mix_all (f : Nat → Nat → Nat) (L M : List Nat) : mix f L M L.length = (List.range L.length).map fun j => f (L.getD j 0) (M.getD j 0) :=
  list_ext (by simp [mix]) fun j hj => by
    rw [mix_len] at hj
    rw [mix_get _ _ _ _ _ hj, if_pos hj, getD_map_range _ _ _ (fun h' => by omega)]
theorem mix_at (f : Nat → Nat → Nat) (L M : List Nat) (k : Nat) (h : k < L.length) : (mix f L M k).getD k 0 = L.getD k 0 := by
  rw [mix_get _ _ _ _ _ h]; simp

/-- The other set can be read in each round. -/
def Reads (w : World) (p g cap n : Nat) (L : List Nat) (p2 : Nat) (M : List Nat) (f : Nat → Nat → Nat) : Prop :=
  ∀ wr k, k < L.length → RawAt wr p g cap n (mix f L M k) → w.grownBy wr (some g) → ∃ g2 cap2 n2 M', RawAt wr p2 g2 cap2 n2 M' ∧ M'.getD k 0 = M.getD k 0

theorem reads_self {w : World} {p g cap n : Nat} {L : List Nat} (f : Nat → Nat → Nat) : Reads w p g cap n L p L f :=
  fun _ k hk h _ => ⟨g, cap, n, _, h, mix_at f L L k hk⟩
theorem reads_other {w : World} {p g cap n p2 g2 cap2 n2 : Nat} {L M : List Nat} (h : RawAt w p g cap n L) (h2 : RawAt w p2 g2 cap2 n2 M) (hg : g2 ≠ g) (f : Nat → Nat → Nat) : Reads w p g cap n L p2 M f :=
  fun _ _ _ _ hw => ⟨g2, cap2, n2, M, h2.kept hw (fun e => h2.ne h (Option.some.inj e).symm) (fun e => hg (Option.some.inj e).symm), rfl⟩

set_option maxHeartbeats 1000000 in
theorem and_any (p g cap n p2 : Nat) (L M : List Nat) (w : World) (h : SetAt w p g cap n L) (hr : Reads w p g cap n L p2 M (· &&& ·)) :
    Calls Tryd.prog 37 #[.pointer (some ⟨p, 0, none⟩), .pointer (some ⟨p2, 0, none⟩)] w fun e w' => e = .returned (.tuple #[]) ∧ SetAt w' p g cap n (andL L M) ∧ w.grownBy w' (some g) := by
  have hm := h.max
  have hW := h.cellW
  have hl := h.len
  have HR := Lib.hid hr
  clear hr
  go_enter Tryd.func37, Tryd.ntmps37
  go_wp2
  go_loopw [10] (fun i wr => ∃ k : Nat, k ≤ L.length ∧ i = .int .i64 (k : Int) ∧ RawAt wr p g cap n (mix (· &&& ·) L M k) ∧ w.grownBy wr (some g)) (fun i _ => L.length - (intOf i).toNat)
  case atStart => exact ⟨0, by omega, rfl, by rw [mix_zero]; exact h.raw, gb_refl _ _⟩
  case round =>
    obtain ⟨k, hk, rfl, hR, hG⟩ := hrel
    by_cases hlt : k < L.length
    · obtain ⟨g2, cap2, n2, M', h2, hMk⟩ := HR.out wr k hlt hR hG
      have hW' := hR.cellW
      have hc' := hR.cell k (by rw [mix_len]; exact hlt)
      rw [mix_at _ _ _ _ hlt] at hc'
      rw [mix_len] at hW'
      have hf' := hR.frozen k
      have hs := hR.stored k (L.getD k 0 &&& M.getD k 0) (and_lt _ (h.wd k))
      rw [← mix_succ _ _ _ _ hlt, ← hMk, ← u64_and_nat _ _ (h.wd k) (h2.wd k)] at hs
      have HS := Lib.hid hs
      clear hs hMk hW
      go_wp2
      go_region_with (go_at_call 64; refine (word_any _ _ _ _ _ _ _ h2.drew).mono ?_; rintro e w' ⟨rfl, rfl⟩)
      all_goals
        go_wp2
        go_roundw
        case rel => exact ⟨k + 1, by omega, by go_num, HS.out.1.drew, gb_trans (gb_trans hG HS.out.2 (Or.inr (Or.inl rfl))) (gb_drew _ none) (Or.inl rfl)⟩
        case measure => simp [intOf]; omega
    · obtain rfl : k = L.length := by omega
      have hlt2 : ¬ (L.length : Int) < (n + 63) / 64 := by omega
      go_wp2
      go_end0
      have hg := good_and h.good M
      rw [mix_all] at hR
      exact ⟨rfl, ⟨hR, hg⟩, hG⟩
set_option maxHeartbeats 1000000 in
theorem less_any (p g cap n p2 : Nat) (L M : List Nat) (w : World) (h : SetAt w p g cap n L) (hM : ∀ k, M.getD k 0 < 18446744073709551616) (hr : Reads w p g cap n L p2 M (fun x y => x &&& (18446744073709551615 - y))) :
    Calls Tryd.prog 40 #[.pointer (some ⟨p, 0, none⟩), .pointer (some ⟨p2, 0, none⟩)] w fun e w' => e = .returned (.tuple #[]) ∧ SetAt w' p g cap n (lessL L M) ∧ w.grownBy w' (some g) := by
  have hm := h.max
  have hW := h.cellW
  have hl := h.len
  have HR := Lib.hid hr
  clear hr
  go_enter Tryd.func40, Tryd.ntmps40
  go_wp2
  go_loopw [10] (fun i wr => ∃ k : Nat, k ≤ L.length ∧ i = .int .i64 (k : Int) ∧ RawAt wr p g cap n (mix (fun x y => x &&& (18446744073709551615 - y)) L M k) ∧ w.grownBy wr (some g)) (fun i _ => L.length - (intOf i).toNat)
  case atStart => exact ⟨0, by omega, rfl, by rw [mix_zero]; exact h.raw, gb_refl _ _⟩
  case round =>
    obtain ⟨k, hk, rfl, hR, hG⟩ := hrel
    by_cases hlt : k < L.length
    · obtain ⟨g2, cap2, n2, M', h2, hMk⟩ := HR.out wr k hlt hR hG
      have hW' := hR.cellW
      have hc' := hR.cell k (by rw [mix_len]; exact hlt)
      rw [mix_at _ _ _ _ hlt] at hc'
      rw [mix_len] at hW'
      have hf' := hR.frozen k
      have hs := hR.stored k (L.getD k 0 &&& (18446744073709551615 - M.getD k 0)) (and_lt _ (h.wd k))
      rw [← mix_succ _ _ _ _ hlt, ← hMk, ← u64_andNot_nat _ _ (h.wd k) (h2.wd k)] at hs
      have HS := Lib.hid hs
      clear hs hMk hW
      go_wp2
      go_region_with (go_at_call 64; refine (word_any _ _ _ _ _ _ _ h2.drew).mono ?_; rintro e w' ⟨rfl, rfl⟩)
      all_goals
        go_wp2
        go_roundw
        case rel => exact ⟨k + 1, by omega, by go_num, HS.out.1.drew, gb_trans (gb_trans hG HS.out.2 (Or.inr (Or.inl rfl))) (gb_drew _ none) (Or.inl rfl)⟩
        case measure => simp [intOf]; omega
    · obtain rfl : k = L.length := by omega
      have hlt2 : ¬ (L.length : Int) < (n + 63) / 64 := by omega
      go_wp2
      go_end0
      have hg := good_less h.good M hM
      rw [mix_all] at hR
      exact ⟨rfl, ⟨hR, hg⟩, hG⟩
end Go.Proofs.YtaagbdncfcdfcaaDoor
