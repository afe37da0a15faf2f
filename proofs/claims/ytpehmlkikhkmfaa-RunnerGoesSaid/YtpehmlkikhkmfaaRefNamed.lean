/- The document's answer: what is a name, a list of names. -/
import Derived.Test.YtpehmlkikhkmfaaLentMachine
namespace Go.Proofs.Ytpehmlkikhkmfaa
open Go.RowKit

theorem namedF_long {s : ByteArray} (h : 32 < s.size) : namedF s = false := by
  unfold namedF
  rw [show decide (s.size ≤ 32) = false from decide_eq_false (by omega), Bool.and_false, Bool.and_false]

set_option maxHeartbeats 1000000 in
theorem refnamed_any (s : ByteArray) (w : World) (hs : s.size ≤ maxLen) :
    Calls Try.prog 85 #[.string s] w fun e w' => e = .returned (.bool (namedF s)) ∧ w = w' := by
  unfold maxLen at hs
  go_enter Try.func85, Try.ntmps85
  go_wp2
  go_loop [3] (fun i => ∃ k : Nat, k ≤ s.size ∧ k ≤ 33 ∧ i = .int .i64 (k : Int) ∧ Hid (∀ j, (hj : j < s.size) → j < k → okByte (s[j].toNat : Int) = true)) (fun i => s.size - (intOf i).toNat)
  case atStart => exact ⟨0, by omega, by omega, rfl, fun j _ h => absurd h (by omega)⟩
  case round =>
    obtain ⟨k, hk, hk33, rfl, HO⟩ := hrel
    by_cases hlt : k < s.size
    · by_cases h33 : k < 33
      · have HB := Lib.hid (fun h => namedF_bad (s := s) hlt h)
        have HG : Hid (okByte (s[k].toNat : Int) = true → ∀ j, (hj : j < s.size) → j < k + 1 → okByte (s[j].toNat : Int) = true) := Lib.hid fun h j hj hjk => by
          rcases Nat.lt_or_ge j k with h1 | h1
          · exact HO.out j hj h1
          · obtain rfl : j = k := by omega
            exact h
        have hge : (0 : Int) ≤ (s[k].toNat : Int) := by omega
        have hle : (s[k].toNat : Int) ≤ 255 := by have := s[k].toNat_lt; omega
        have hkI : (k : Int) < (s.size : Int) := by omega
        have hkJ : (k : Int) < 33 := by omega
        by_cases hok : okByte (s[k].toNat : Int) = true
        · have HG2 := Lib.hid (HG.out hok)
          clear HG HB
          unfold okByte at hok
          simp only [Bool.not_eq_true', Bool.or_eq_false_iff, decide_eq_false_iff_not] at hok
          obtain ⟨h1, h2, h3, h4⟩ := hok
          go_wp2
          go_round
          case rel => exact ⟨k + 1, by omega, by omega, by go_num, HG2⟩
          case measure => simp [intOf]; omega
        · have HNo := Lib.hid (HB.out (by simpa using hok))
          clear HG HB
          have hor : (s[k].toNat : Int) < 32 ∨ 126 < (s[k].toNat : Int) ∨ (s[k].toNat : Int) = 34 ∨ (s[k].toNat : Int) = 92 := bad_or hok
          clear hok
          rcases hor with h | h | h | h
          all_goals go_wp2
          all_goals go_ret
          all_goals exact ⟨by rw [HNo.out]; rfl, rfl⟩
      · have HNo := Lib.hid (namedF_long (s := s) (by omega))
        have hkI : (k : Int) < (s.size : Int) := by omega
        have hkJ : ¬ (k : Int) < 33 := by omega
        have hs1 : (0 : Int) < (s.size : Int) := by omega
        have hs2 : ¬ (s.size : Int) ≤ 32 := by omega
        go_wp2
        all_goals go_ret
        all_goals exact ⟨by rw [HNo.out]; simp; try omega, rfl⟩
    · obtain rfl : k = s.size := by omega
      have hg := namedF_good (fun j hj => HO.out j hj hj)
      have HN := Lib.hid hg
      clear hg
      by_cases h0 : s.size = 0
      · obtain rfl : s = ⟨#[]⟩ := (by simpa using h0 : s = ByteArray.empty)
        go_wp2
        go_ret
        exact ⟨by rw [HN.out]; rfl, rfl⟩
      · have hs1 : (0 : Int) < (s.size : Int) := by omega
        go_wp2
        all_goals go_ret
        all_goals exact ⟨by rw [HN.out]; simp [h0]; try omega, rfl⟩

theorem hasF_take_step {L : List ByteArray} {x : ByteArray} {k : Nat} (hk : k < L.length) : hasF (L.take (k + 1)) x = (hasF (L.take k) x || (x.toList == (L.getD k ⟨#[]⟩).toList)) := by
  unfold hasF
  rw [List.take_add_one, List.any_append]
  have e : L[k]?.toList = [L.getD k ⟨#[]⟩] := by rw [List.getD_eq_getElem?_getD, List.getElem?_eq_getElem hk]; rfl
  rw [e]
  simp
theorem hasF_mono {L : List ByteArray} {x : ByteArray} {k n : Nat} (hk : k ≤ n) (h : hasF (L.take k) x = true) : hasF (L.take n) x = true := by
  unfold hasF at h ⊢
  rw [List.any_eq_true] at h ⊢
  obtain ⟨y, hy, e⟩ := h
  exact ⟨y, by
    have : L.take k = (L.take n).take k := by rw [List.take_take, Nat.min_eq_left hk]
    rw [this] at hy
    exact List.mem_of_mem_take hy, e⟩
theorem listF_long {L : List ByteArray} (h : 8 < L.length) : listF L = false := by
  unfold listF
  rw [show decide (L.length ≤ 8) = false from decide_eq_false (by omega), Bool.and_false]

set_option maxRecDepth 100000 in
set_option maxHeartbeats 2000000 in
theorem refnames_any (v : Value) (L : List ByteArray) (w : World) (hL : TextsAt w v L) :
    Calls Try.prog 78 #[v] w fun e w' => e = .returned (.bool (listF L)) ∧ w.grownBy w' none := by
  have HL := Lib.hid hL
  obtain ⟨a, cap, rfl, hcap, hlen, hsz, hc⟩ := hL
  clear hsz hc
  by_cases h8 : 8 < L.length
  · have HB := Lib.hid (listF_long h8)
    have h8I : (8 : Int) < (L.length : Int) := by omega
    go_enter Try.func78, Try.ntmps78
    go_wp2
    go_ret
    exact ⟨by rw [HB.out]; rfl, gb_refl _ _⟩
  have h8I : ¬ (8 : Int) < (L.length : Int) := by omega
  go_enter Try.func78, Try.ntmps78
  go_wp2_with fail
  go_loopw [3] (fun i wr => ∃ k : Nat, k ≤ L.length ∧ i = .int .i64 (k : Int) ∧ Hid (∀ j, j < k → (namedF (L.getD j ⟨#[]⟩) && !hasF (L.take j) (L.getD j ⟨#[]⟩)) = true) ∧ w.grownBy wr none) (fun i _ => L.length - (intOf i).toNat)
  case atStart => exact ⟨0, by omega, rfl, fun j h => absurd h (by omega), gb_refl _ _⟩
  case round =>
    obtain ⟨k, hk, rfl, HO, hG⟩ := hrel
    by_cases hlt : k < L.length
    · obtain ⟨_, _, hve, _, _, hsz, hcc⟩ := HL.out.kept hG
      cases hve
      rcases hcc with rfl | ⟨b, off, rfl, hcc⟩
      · exact absurd hlt (by simp)
      have hcell := hcc k hlt
      have hxs := hsz k hlt
      have HCs : Hid (∀ j, j < L.length → w.cell? ⟨b, off + j, none⟩ = some (.string (L.getD j ⟨#[]⟩))) := by
        obtain ⟨_, _, hve, _, _, _, hc0⟩ := HL.out
        cases hve
        rcases hc0 with rfl | ⟨b2, off2, e, hc0⟩
        · exact absurd hlt (by simp)
        · cases e; exact Lib.hid hc0
      clear hcc hsz
      have HB := Lib.hid (listF_bad hlt)
      have HG : Hid ((namedF (L.getD k ⟨#[]⟩) && !hasF (L.take k) (L.getD k ⟨#[]⟩)) = true → ∀ j, j < k + 1 → (namedF (L.getD j ⟨#[]⟩) && !hasF (L.take j) (L.getD j ⟨#[]⟩)) = true) := Lib.hid fun h j hj => by
        rcases Nat.lt_or_ge j k with h1 | h1
        · exact HO.out j h1
        · obtain rfl : j = k := by omega
          exact h
      have hck := HCs.out k hlt
      have HCk := Lib.hid hck
      generalize hxe : L.getD k ⟨#[]⟩ = x at hcell HB HG hxs HCk
      clear hck hxe
      have HNm := Lib.hid (fun w => refnamed_any x w hxs)
      have hkI : (k : Int) < (L.length : Int) := by omega
      cases hn : namedF x with
      | false =>
        rw [hn] at HNm
        have HB2 := Lib.hid (HB.out (by rw [hn]; rfl))
        clear hn HB HG
        go_wp2_with (go_at_call 85; refine (HNm.out _).mono ?_; rintro e w' ⟨rfl, rfl⟩)
        go_ret
        exact ⟨by rw [HB2.out]; rfl, hG⟩
      | true =>
        rw [hn] at HNm
        have HGn : Hid (hasF (L.take k) x = false → ∀ j, j < k + 1 → (namedF (L.getD j ⟨#[]⟩) && !hasF (L.take j) (L.getD j ⟨#[]⟩)) = true) := Lib.hid fun h => HG.out (by rw [hn, h]; rfl)
        have HBn : Hid (hasF (L.take k) x = true → listF L = false) := Lib.hid fun h => HB.out (by rw [hn, h]; rfl)
        clear hn HB HG hxs
        go_wp2_with (go_at_call 85; refine (HNm.out _).mono ?_; rintro e w' ⟨rfl, rfl⟩)
        go_loopw [5] (fun i wr => ∃ m : Nat, m ≤ k ∧ i = .int .i64 (m : Int) ∧ Hid (hasF (L.take m) x = false) ∧ w.grownBy wr none) (fun i _ => k - (intOf i).toNat)
        case atStart => exact ⟨0, by omega, rfl, Lib.hid (by simp [hasF]), hG⟩
        case round =>
          obtain ⟨m, hm, rfl, HH, hG2⟩ := hrel
          by_cases hmk : m < k
          · have hc1 := hG2.cell (HCs.out m (by omega)) (by simp)
            have hc2 := hG2.cell HCk.out (by simp)
            have HT := Lib.hid (hasF_take_step (L := L) (x := x) (k := m) (by omega))
            generalize L.getD m ⟨#[]⟩ = y at hc1 HT
            have hmI : (m : Int) < (k : Int) := by omega
            have hmL : (m : Int) < (L.length : Int) := by omega
            by_cases e : y = x
            · have HNo := Lib.hid (HBn.out (hasF_mono (k := m + 1) (by omega) (by rw [HT.out, e]; simp)))
              subst e
              go_wp2_with fail
              go_quiet (fail)
              go_wp2
              go_ret
              exact ⟨by rw [HNo.out]; rfl, gb_trans hG2 (gb_drewN _ _ none) (Or.inl rfl)⟩
            · have hne : (y.toList == x.toList) = false := by
                rw [beq_eq_false_iff_ne]
                intro e2
                exact e (by rw [ByteArray.toList_eq, ByteArray.toList_eq] at e2; cases y; cases x; simp only at e2; rw [Array.toList_inj.1 e2])
              have hne2 : (x.toList == y.toList) = false := by
                rw [beq_eq_false_iff_ne] at hne ⊢
                exact fun e2 => hne e2.symm
              have HH2 := Lib.hid (show hasF (L.take (m + 1)) x = false by rw [HT.out, HH.out, hne2]; rfl)
              clear e hne2 HT
              go_wp2_with fail
              go_quiet (fail)
              go_wp2
              go_roundw
              case rel => exact ⟨m + 1, by omega, by go_num, HH2, gb_trans hG2 (gb_drewN _ _ none) (Or.inl rfl)⟩
              case measure => simp [intOf]; omega
          · obtain rfl : m = k := by omega
            have HG3 := Lib.hid (HGn.out HH.out)
            go_wp2_with fail
            exact ⟨⟨m + 1, by omega, by go_num, HG3, hG2⟩, by simp [intOf]; omega⟩
    · obtain rfl : k = L.length := by omega
      have HB2 := Lib.hid (listF_good HO.out)
      have hd : decide (L.length ≤ 8) = true := decide_eq_true (by omega)
      rw [hd] at HB2
      go_wp2_with fail
      go_ret
      exact ⟨by rw [HB2.out]; rfl, hG⟩
end Go.Proofs.Ytpehmlkikhkmfaa
