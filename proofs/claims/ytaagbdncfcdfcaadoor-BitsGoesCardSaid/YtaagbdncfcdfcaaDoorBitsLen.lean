/- Bits: Len, Within, Same. -/
import Derived.Test.YtaagbdncfcdfcaaDoorBitsOr
import Derived.Test.YtaagbdncfcdfcaaDoorBitsOnes
namespace Go.Proofs.YtaagbdncfcdfcaaDoor
open Go.RowKit
theorem and127 (n : Nat) : n &&& 127 = n % 128 := Nat.and_two_pow_sub_one_eq_mod n 7
theorem byte_max (v : Nat) (h : v < 18446744073709551616) : bits .and .i64 (wrap64 (v : Int)) 127 = ((v % 128 : Nat) : Int) := by
  have h1 : (BitVec.ofInt 64 (wrap64 (v : Int))).toNat = v := by
    rw [BitVec.toNat_ofInt]
    unfold wrap64
    omega
  show IntKind.i64.wrap ((BitVec.ofInt 64 (wrap64 (v : Int)) &&& BitVec.ofInt 64 127).toNat : Int) = _
  rw [BitVec.toNat_and, h1, show (BitVec.ofInt 64 127).toNat = 127 from rfl, and127, IntKind.wrap_i64]
  omega
set_option maxHeartbeats 400000 in
theorem ones_any (x : Nat) (w : World) (h : x < 18446744073709551616) :
    Calls Tryd.prog 61 #[.int .u64 (x : Int)] w fun e w' => e = .returned (.int .i64 (pc x : Int)) ∧ w = w' := by
  obtain ⟨v, h1, h2, h3⟩ := swar_lt x h
  have hx : (x : Int) < 18446744073709551616 := by omega
  have HS := Lib.hid h1
  have H2 := Lib.hid h2
  have H3 := Lib.hid h3
  clear h1 h2 h3
  go_enter Tryd.func61, Tryd.ntmps61
  go_wp2
  go_ret
  have e := HS.out
  have e2 := H2.out
  have e3 := H3.out
  clear HS H2 H3
  unfold swar at e
  simp only [] at e
  generalize IntKind.u64.wrap (bits .and .u64 ((x:Int)/2) 6148914691236517205 + bits .and .u64 (x:Int) 6148914691236517205) = a at e ⊢
  generalize IntKind.u64.wrap (bits .and .u64 (a / 4) 3689348814741910323 + bits .and .u64 a 3689348814741910323) = b at e ⊢
  generalize bits .and .u64 (IntKind.u64.wrap (b / 16 + b)) 1085102592571150095 = c at e ⊢
  generalize IntKind.u64.wrap (c + c / 256) = d at e ⊢
  generalize IntKind.u64.wrap (d + d / 65536) = f at e ⊢
  rw [e, byte_max v e2, e3]
  exact ⟨rfl, rfl⟩

theorem ones_take (L : List Nat) (k : Nat) (h : k < L.length) : ones (L.take (k + 1)) = ones (L.take k) + pc (L.getD k 0) := by
  unfold ones
  rw [List.take_succ_eq_append_getElem h, List.map_append, List.sum_append]
  simp [h]
theorem ones_le (L : List Nat) : ∀ k, ones (L.take k) ≤ 64 * k := by
  intro k
  induction k with
  | zero => simp [ones]
  | succ k ih =>
    by_cases h : k < L.length
    · rw [ones_take L k h]; have := pc_le (L.getD k 0); omega
    · rw [List.take_of_length_le (by omega)]; rw [List.take_of_length_le (by omega)] at ih; omega

set_option maxHeartbeats 400000 in
theorem len_any (p g cap n : Nat) (L : List Nat) (w : World) (h : SetAt w p g cap n L) :
    Calls Tryd.prog 26 #[.pointer (some ⟨p, 0, none⟩)] w fun e w' => e = .returned (.int .i64 (ones L : Int)) ∧ w = w' := by
  have hm := h.max
  have hW := h.cellW
  have hl := h.len
  go_enter Tryd.func26, Tryd.ntmps26
  go_wp2
  go_loop [3, 11] (fun t i => ∃ k : Nat, k ≤ L.length ∧ i = .int .i64 (k : Int) ∧ t = .int .i64 (ones (L.take k) : Int)) (fun _ i => L.length - (intOf i).toNat)
  case atStart => exact ⟨0, by omega, rfl, by simp [ones]⟩
  case round =>
    obtain ⟨k, hk, rfl, rfl⟩ := hrel
    by_cases hlt : k < L.length
    · have hc := h.cell k hlt
      have h1 := ones_le L k
      have h2 := pc_le (L.getD k 0)
      have hT := ones_take L k hlt
      have hxw := h.wd k
      generalize L.getD k 0 = x at hc h2 hT hxw
      have HO := Lib.hid (ones_any x w hxw)
      generalize pc x = y at h2 hT HO
      have HT := Lib.hid hT
      clear hT
      go_wp2_with (go_at_call 61; refine HO.out.mono ?_; rintro e w' ⟨rfl, rfl⟩)
      go_round
      case rel => exact ⟨k + 1, by omega, by go_num, by rw [HT.out]; go_num⟩
      case measure => simp [intOf]; omega
    · obtain rfl : k = L.length := by omega
      have hlt2 : ¬ (L.length : Int) < (n + 63) / 64 := by omega
      go_wp2
      go_ret
      exact ⟨by rw [List.take_of_length_le (show L.length ≤ (n + 63) / 64 by omega)]; rfl, rfl⟩

theorem all_succ (f : Nat → Bool) (k : Nat) : (List.range (k + 1)).all f = ((List.range k).all f && f k) := by
  rw [List.range_succ, List.all_append]; simp
theorem all_not {f : Nat → Bool} {k m : Nat} (h : f k = false) (hk : k < m) : (List.range m).all f = false := by
  rw [List.all_eq_false]
  exact ⟨k, List.mem_range.2 hk, by simp [h]⟩

def inWord (L M : List Nat) (k : Nat) : Bool := L.getD k 0 &&& (18446744073709551615 - M.getD k 0) == 0

set_option maxHeartbeats 400000 in
theorem within_any (p g cap n p2 g2 cap2 n2 : Nat) (L M : List Nat) (w : World) (h : SetAt w p g cap n L) (h2 : SetAt w p2 g2 cap2 n2 M) :
    Calls Tryd.prog 51 #[.pointer (some ⟨p, 0, none⟩), .pointer (some ⟨p2, 0, none⟩)] w fun e w' => e = .returned (.bool (withinL L M)) ∧ w = w' := by
  have hm := h.max
  have hW := h.cellW
  have hl := h.len
  have HF := Lib.hid (show withinL L M = (List.range L.length).all (inWord L M) from rfl)
  generalize withinL L M = res at HF ⊢
  go_enter Tryd.func51, Tryd.ntmps51
  go_wp2
  go_loop [12] (fun i => ∃ k : Nat, k ≤ L.length ∧ i = .int .i64 (k : Int) ∧ (List.range k).all (inWord L M) = true) (fun i => L.length - (intOf i).toNat)
  case atStart => exact ⟨0, by omega, rfl, rfl⟩
  case round =>
    obtain ⟨k, hk, rfl, hall⟩ := hrel
    have HA := Lib.hid hall
    clear hall
    by_cases hlt : k < L.length
    · have hc := h.cell k hlt
      have HO := Lib.hid (word_any k _ _ _ _ _ w h2.raw)
      have hb : (bits .andNot .u64 ((L.getD k 0 : Nat) : Int) ((M.getD k 0 : Nat) : Int) != 0) = !inWord L M k := by
        rw [u64_andNot_nat _ _ (h.wd k) (h2.wd k)]
        unfold inWord
        generalize L.getD k 0 &&& (18446744073709551615 - M.getD k 0) = z
        rw [Bool.eq_iff_iff]
        simp
      generalize L.getD k 0 = x at hc hb
      generalize M.getD k 0 = y at hb HO
      cases hq : inWord L M k with
      | true =>
        rw [hq] at hb
        have HQ := Lib.hid hq
        clear hq
        go_wp2_with (go_at_call 64; refine HO.out.mono ?_; rintro e w' ⟨rfl, rfl⟩)
        go_round
        case rel => exact ⟨k + 1, by omega, by go_num, by rw [all_succ, HA.out, HQ.out]; rfl⟩
        case measure => simp [intOf]; omega
      | false =>
        rw [hq] at hb
        have HQ := Lib.hid hq
        clear hq
        go_wp2_with (go_at_call 64; refine HO.out.mono ?_; rintro e w' ⟨rfl, rfl⟩)
        go_ret
        exact ⟨by rw [HF.out, all_not HQ.out hlt]; rfl, rfl⟩
    · obtain rfl : k = L.length := by omega
      have hlt2 : ¬ (L.length : Int) < (n + 63) / 64 := by omega
      go_wp2
      go_ret
      exact ⟨by rw [HF.out, HA.out]; rfl, rfl⟩

theorem eq_all {L M : List Nat} (h : L.length = M.length) : (L == M) = (List.range L.length).all fun k => L.getD k 0 == M.getD k 0 := by
  rw [Bool.eq_iff_iff, List.all_eq_true, beq_iff_eq]
  constructor
  · rintro rfl k _; simp
  · intro a
    exact list_ext h fun j hj => by simpa using a j (List.mem_range.2 hj)

set_option maxHeartbeats 400000 in
theorem equal_any (g cap g2 cap2 l m : Nat) (L M : List Nat) (w : World) (hl : L.length = l) (hm : M.length = m) (hL : ∀ k, k < l → w.cell? ⟨g, k, none⟩ = some (.int .u64 ((L.getD k 0 : Nat) : Int))) (hM : ∀ k, k < m → w.cell? ⟨g2, k, none⟩ = some (.int .u64 ((M.getD k 0 : Nat) : Int)))
    (hLl : l ≤ 1024) (hMl : m ≤ 1024) :
    Calls Tryd.prog 66 #[.slice (some ⟨g, 0, none⟩) l cap, .slice (some ⟨g2, 0, none⟩) m cap2] w fun e w' => e = .returned (.bool (L == M)) ∧ ∃ k, w' = w.drewN k := by
  have HL := Lib.hid hL
  have HM := Lib.hid hM
  clear hL hM
  by_cases hlm : l = m
  · have HF := Lib.hid (eq_all (hl.trans (hlm.trans hm.symm)))
    generalize (L == M) = res at HF ⊢
    subst hlm
    rw [hl] at HF
    clear hm
    have hb : ((l : Int) != (l : Int)) = false := by simp
    go_enter Tryd.func66, Tryd.ntmps66
    go_wp2
    go_loopw [13] (fun i wr => ∃ k j : Nat, k ≤ l ∧ i = .int .i64 (k : Int) ∧ wr = w.drewN j ∧ (List.range k).all (fun k => L.getD k 0 == M.getD k 0) = true) (fun i _ => l - (intOf i).toNat)
    case atStart => exact ⟨0, 0, by omega, rfl, rfl, rfl⟩
    case round =>
      obtain ⟨k, j, hk, rfl, rfl, hall⟩ := hrel
      have HA := Lib.hid hall
      clear hall
      by_cases hlt : k < l
      · have hc1 := HL.out k hlt
        have hc2 := HM.out k hlt
        by_cases hxy : L.getD k 0 = M.getD k 0
        · have HB := Lib.hid hxy
          rw [← hxy] at hc2
          clear hxy
          generalize L.getD k 0 = x at hc1 hc2
          go_wp2
          go_region
          go_wp2
          exact ⟨⟨k + 1, j + 1, by omega, by go_num, rfl, by rw [all_succ, HA.out, HB.out]; simp⟩, by simp [intOf]; omega⟩
        · have HB := Lib.hid hxy
          have hne : (((L.getD k 0 : Nat) : Int) != ((M.getD k 0 : Nat) : Int)) = true := by rw [bne_iff_ne]; omega
          clear hxy
          generalize L.getD k 0 = x at hc1 hne
          generalize M.getD k 0 = y at hc2 hne
          go_wp2
          go_region
          go_wp2
          go_ret
          exact ⟨by rw [HF.out, all_not (f := fun k => L.getD k 0 == M.getD k 0) (k := k) (beq_eq_false_iff_ne.2 HB.out) hlt]; rfl, j + 1, rfl⟩
      · obtain rfl : k = l := by omega
        go_wp2
        go_ret
        exact ⟨by rw [HF.out, HA.out]; rfl, j, rfl⟩
  · have hF : (L == M) = false := by
      rw [beq_eq_false_iff_ne]
      rintro rfl
      exact hlm (hl.symm.trans hm)
    have HF := Lib.hid hF
    have hb : ((l : Int) != (m : Int)) = true := by rw [bne_iff_ne]; omega
    generalize (L == M) = res at HF ⊢
    clear hF
    go_enter Tryd.func66, Tryd.ntmps66
    go_wp2
    go_ret
    exact ⟨by rw [HF.out]; rfl, 0, rfl⟩

set_option maxHeartbeats 400000 in
theorem same_any (p g cap n p2 g2 cap2 n2 : Nat) (L M : List Nat) (w : World) (h : SetAt w p g cap n L) (h2 : SetAt w p2 g2 cap2 n2 M) :
    Calls Tryd.prog 49 #[.pointer (some ⟨p, 0, none⟩), .pointer (some ⟨p2, 0, none⟩)] w fun e w' => e = .returned (.bool (n == n2 && L == M)) ∧ ∃ k, w' = w.drewN k := by
  have hm := h.max
  have hm2 := h2.max
  have hN := h.cellN
  have hN2 := h2.cellN
  have hW := h.cellW
  have hW2 := h2.cellW
  have hl := h.len
  have hl2 := h2.len
  by_cases hn : n = n2
  · subst hn
    have hb : ((n : Int) == (n : Int)) = true := by simp
    have HE := Lib.hid fun j => equal_any g cap g2 cap2 _ _ L M (w.drewN j) hl hl2 (fun k hk => (h.drewN j).cell k (by omega)) (fun k hk => (h2.drewN j).cell k (by omega)) (by omega) (by omega)
    rw [show (n == n) = true by simp, Bool.true_and]
    generalize (L == M) = res at HE ⊢
    go_enter Tryd.func49, Tryd.ntmps49
    go_wp2_with fail
    go_quiet ((go_at_call 66; exact Calls.quiet_of (HE.out _)))
    go_wp2
    go_ret
    exact ⟨rfl, _, rfl⟩
  · have hb : ((n : Int) == (n2 : Int)) = false := by rw [beq_eq_false_iff_ne]; omega
    rw [show (n == n2) = false by simp [hn], Bool.false_and]
    go_enter Tryd.func49, Tryd.ntmps49
    go_wp2_with fail
    go_quiet (fail)
    go_wp2
    go_ret
    exact ⟨rfl, _, rfl⟩
end Go.Proofs.YtaagbdncfcdfcaaDoor
