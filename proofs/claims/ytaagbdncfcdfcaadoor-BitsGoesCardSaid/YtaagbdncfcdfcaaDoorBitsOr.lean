/- Bits: Or. -/
import Derived.Test.YtaagbdncfcdfcaaDoorBitsOps
namespace Go.Proofs.YtaagbdncfcdfcaaDoor
open Go.RowKit
theorem or_final {n : Nat} {L : List Nat} (g : Good n L) (M : List Nat) (hM : ∀ k, M.getD k 0 < 18446744073709551616) (hn : 0 < n % 64) :
    orL n L M = ((List.range L.length).map fun j => L.getD j 0 ||| M.getD j 0).set ((n + 63) / 64 - 1) (((List.range L.length).map fun j => L.getD j 0 ||| M.getD j 0).getD ((n + 63) / 64 - 1) 0 &&& (2 ^ (n % 64) - 1)) ∧
    ((List.range L.length).map fun j => L.getD j 0 ||| M.getD j 0).getD ((n + 63) / 64 - 1) 0 &&& (2 ^ (n % 64) - 1) < 18446744073709551616 ∧
    bits .and .u64 (((((List.range L.length).map fun j => L.getD j 0 ||| M.getD j 0).getD ((n + 63) / 64 - 1) 0 : Nat) : Int)) (IntKind.u64.wrap (IntKind.u64.wrap (2 ^ (n % 64)) - 1)) = ((((List.range L.length).map fun j => L.getD j 0 ||| M.getD j 0).getD ((n + 63) / 64 - 1) 0 &&& (2 ^ (n % 64) - 1) : Nat) : Int) := by
  have hl := g.len
  have h1 : ((List.range L.length).map fun j => L.getD j 0 ||| M.getD j 0).getD ((n + 63) / 64 - 1) 0 < 18446744073709551616 := by
    rw [getD_map_range _ _ _ (fun h' => by omega)]; exact or_lt (g.wd _) (hM _)
  have h2 : IntKind.u64.wrap (IntKind.u64.wrap (2 ^ (n % 64)) - 1) = ((2 ^ (n % 64) - 1 : Nat) : Int) := by
    have := two_pow_lt n
    have e : ((2 : Int) ^ (n % 64)) = ((2 ^ (n % 64) : Nat) : Int) := by simp
    have hp : 0 < 2 ^ (n % 64) := Nat.pow_pos (by decide)
    rw [e, IntKind.wrap_u64, IntKind.wrap_u64]
    generalize 2 ^ (n % 64) = y at this hp ⊢
    omega
  refine ⟨?_, and_lt _ h1, ?_⟩
  · unfold orL orL0; rw [if_pos hn, hl]
  · rw [h2, u64_and_nat _ _ h1 (Nat.lt_of_le_of_lt (Nat.sub_le _ _) (two_pow_lt n))]
set_option maxHeartbeats 1000000 in
theorem or_any (p g cap n p2 : Nat) (L M : List Nat) (w : World) (h : SetAt w p g cap n L) (hM : ∀ k, M.getD k 0 < 18446744073709551616) (hr : Reads w p g cap n L p2 M (· ||| ·)) :
    Calls Tryd.prog 39 #[.pointer (some ⟨p, 0, none⟩), .pointer (some ⟨p2, 0, none⟩)] w fun e w' => e = .returned (.tuple #[]) ∧ SetAt w' p g cap n (orL n L M) ∧ w.grownBy w' (some g) := by
  have hm := h.max
  have hW := h.cellW
  have hl := h.len
  have HR := Lib.hid hr
  clear hr
  go_enter Tryd.func39, Tryd.ntmps39
  go_wp2
  go_loopw [11] (fun i wr => ∃ k : Nat, k ≤ L.length ∧ i = .int .i64 (k : Int) ∧ RawAt wr p g cap n (mix (· ||| ·) L M k) ∧ w.grownBy wr (some g)) (fun i _ => L.length - (intOf i).toNat)
  case atStart => exact ⟨0, by omega, rfl, by rw [mix_zero]; exact h.raw, gb_refl _ _⟩
  case round =>
    obtain ⟨k, hk, rfl, hR, hG⟩ := hrel
    by_cases hlt : k < L.length
    · obtain ⟨g2, cap2, n2, M', h2, hMk⟩ := HR.out wr k hlt hR hG
      have hW' := hR.cellW
      have hc' := hR.cell k (by rw [mix_len]; exact hlt)
      rw [mix_at _ _ _ _ hlt] at hc'
      rw [mix_len] at hW'
      have hf' := hR.frozen k
      have hs := hR.stored k (L.getD k 0 ||| M.getD k 0) (or_lt (h.wd k) (hM k))
      rw [← mix_succ _ _ _ _ hlt, ← hMk, ← u64_or_nat _ _ (h.wd k) (h2.wd k)] at hs
      have HS := Lib.hid hs
      clear hs hMk hW
      go_wp2
      go_region_with (go_at_call 64; refine (word_any _ _ _ _ _ _ _ h2.drew).mono ?_; rintro e w' ⟨rfl, rfl⟩)
      all_goals
        go_wp2
        go_roundw
        case rel => exact ⟨k + 1, by omega, by go_num, HS.out.1.drew, gb_trans (gb_trans hG HS.out.2 (Or.inr (Or.inl rfl))) (gb_drew _ none) (Or.inl rfl)⟩
        case measure => simp [intOf]; omega
    · obtain rfl : k = L.length := by omega
      have hlt2 : ¬ (L.length : Int) < (n + 63) / 64 := by omega
      have hN' := hR.cellN
      have hW' := hR.cellW
      rw [mix_len] at hW'
      have hg := good_or h.good hM
      by_cases hn : 0 < n % 64
      · have hll : (n + 63) / 64 - 1 < L.length := by omega
        have hc' := hR.cell ((n + 63) / 64 - 1) (by rw [mix_len]; exact hll)
        have hf' := hR.frozen ((n + 63) / 64 - 1)
        rw [mix_all] at hR hc'
        have ho := or_final h.good M hM hn
        have hs := hR.stored ((n + 63) / 64 - 1) _ ho.2.1
        rw [← ho.1, ← ho.2.2] at hs
        generalize (List.map (fun j => L.getD j 0 ||| M.getD j 0) (List.range L.length)).getD ((n + 63) / 64 - 1) 0 = y at hc' hs
        have HS := Lib.hid hs
        have hp : (0 : Int) < (n : Int) % 64 := by omega
        have hq : (n : Int) % 64 < 64 := by omega
        clear hs ho hW
        go_wp2
        go_region
        go_end0
        exact ⟨rfl, ⟨HS.out.1.drew, hg⟩, gb_trans (gb_trans hG HS.out.2 (Or.inr (Or.inl rfl))) (gb_drew _ none) (Or.inl rfl)⟩
      · have hn0 : n % 64 = 0 := by omega
        go_wp2
        go_end0
        rw [mix_all] at hR
        have he : orL n L M = orL0 L M := by unfold orL; rw [if_neg (by omega)]
        rw [he] at hg ⊢
        exact ⟨rfl, ⟨hR, hg⟩, hG⟩
end Go.Proofs.YtaagbdncfcdfcaaDoor
