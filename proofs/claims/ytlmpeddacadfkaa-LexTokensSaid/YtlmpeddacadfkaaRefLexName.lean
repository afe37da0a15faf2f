/- Lex: the document's letters, words, names. -/
import Derived.Test.YtlmpeddacadfkaaLexQuote
namespace Go.Proofs.Ytlmpeddacadfkaa
open Go.RowKit

theorem refletter_any (c : Int) (h0 : 0 ≤ c) (h1 : c ≤ 255) (w : World) : Calls Try.prog 48 #[.int .u8 c] w fun e w' => e = .returned (.bool (isLet c)) ∧ w = w' := by
  go_enter Try.func48, Try.ntmps48
  go_wp2
  all_goals go_ret
  all_goals refine ⟨?_, rfl⟩
  all_goals show Ending.returned (Value.bool _) = Ending.returned (Value.bool _)
  all_goals congr 2
  all_goals rw [Bool.eq_iff_iff]
  all_goals simp [isLet]
  all_goals omega
theorem refdigit_any (c : Int) (h0 : 0 ≤ c) (h1 : c ≤ 255) (w : World) : Calls Try.prog 49 #[.int .u8 c] w fun e w' => e = .returned (.bool (isDig c)) ∧ w = w' := by
  go_enter Try.func49, Try.ntmps49
  go_wp2
  all_goals go_ret
  all_goals refine ⟨?_, rfl⟩
  all_goals show Ending.returned (Value.bool _) = Ending.returned (Value.bool _)
  all_goals congr 2
  all_goals rw [Bool.eq_iff_iff]
  all_goals simp [isDig]
  all_goals omega
theorem refwords_any (w : World) : Calls Try.prog 62 #[] w fun e w' => (∃ v, e = .returned v ∧ TextsAt w' v wordsL) ∧ w.grownBy w' none := by
  go_enter Try.func62, Try.ntmps62
  go_wp2
  go_ret
  exact ⟨⟨_, rfl, texts_new w wordsL _ rfl (by decide) (by decide)⟩, World.grownBy_alloc w _ none⟩

theorem has_no {L : List ByteArray} {x : ByteArray} (h : ∀ j, j < L.length → ((L.getD j ⟨#[]⟩).toList == x.toList) = false) : hasF L x = false := by
  unfold hasF
  rw [List.any_eq_false]
  intro y hy
  obtain ⟨j, hj, rfl⟩ := List.mem_iff_getElem.1 hy
  have := h j hj
  rw [List.getD_eq_getElem?_getD, List.getElem?_eq_getElem hj] at this
  have h2 : (L[j].toList == x.toList) = false := this
  have h3 := beq_eq_false_iff_ne.1 h2
  simpa using fun e => h3 e.symm
theorem has_yes {L : List ByteArray} {x : ByteArray} {j : Nat} (hj : j < L.length) (h : ((L.getD j ⟨#[]⟩).toList == x.toList) = true) : hasF L x = true := by
  unfold hasF
  rw [List.any_eq_true]
  rw [List.getD_eq_getElem?_getD, List.getElem?_eq_getElem hj] at h
  have h2 : (L[j].toList == x.toList) = true := h
  exact ⟨L[j], List.getElem_mem hj, by rw [beq_iff_eq] at h2 ⊢; exact h2.symm⟩
set_option maxRecDepth 100000 in
set_option maxHeartbeats 2000000 in
theorem isword_any (s : ByteArray) (w : World) : Calls Try.prog 47 #[.string s] w fun e w' => e = .returned (.bool (hasF wordsL s)) ∧ w.grownBy w' none := by
  have HW := Lib.hid refwords_any
  have hl : wordsL.length = 15 := rfl
  have HY := Lib.hid (fun j hj h => has_yes (L := wordsL) (x := s) (j := j) hj h)
  have HN := Lib.hid (fun h => has_no (L := wordsL) (x := s) h)
  generalize wordsL = L at HW HY HN hl ⊢
  generalize hasF L s = v at HY HN ⊢
  go_enter Try.func47, Try.ntmps47
  go_wp2_with (go_at_call 62; refine (HW.out _).mono ?_; rintro e w1 ⟨⟨v1, rfl, hT1⟩, hg1⟩; have HT1 := Lib.hid hT1; obtain ⟨a, cap, rfl, hc, _, _, _⟩ := hT1)
  go_loop [4] (fun i => ∃ k : Nat, k ≤ L.length ∧ i = .int .i64 (k : Int) ∧ Hid (∀ j, j < k → ((L.getD j ⟨#[]⟩).toList == s.toList) = false)) (fun i => L.length - (intOf i).toNat)
  case atStart => exact ⟨0, by omega, rfl, Lib.hid fun j h => absurd h (Nat.not_lt_zero _)⟩
  case round =>
    obtain ⟨k, hk, rfl, HO⟩ := hrel
    by_cases hlt : k < L.length
    · have hkI : (k : Int) < (L.length : Int) := by omega
      obtain ⟨_, _, hve, _, _, _, hcc⟩ := HT1.out
      cases hve
      rcases hcc with rfl | ⟨b, off, rfl, hcc⟩
      · exact absurd hlt (Nat.not_lt_zero _)
      have hcell := hcc k hlt
      clear hcc
      have HY2 := Lib.hid (HY.out k hlt)
      have HG : Hid (((L.getD k ⟨#[]⟩).toList == s.toList) = false → ∀ j, j < k + 1 → ((L.getD j ⟨#[]⟩).toList == s.toList) = false) := Lib.hid fun h j hj => by
        by_cases e : j < k
        · exact HO.out j e
        · obtain rfl : j = k := by omega
          exact h
      generalize L.getD k ⟨#[]⟩ = y at hcell HY2 HG
      cases hb : (y.toList == s.toList)
      · have HG2 := Lib.hid (HG.out hb)
        clear HG HY2
        go_wp2_with fail
        exact ⟨⟨k + 1, by omega, by go_num, HG2⟩, by simp [intOf]; omega⟩
      · have HV := Lib.hid (HY2.out hb)
        clear HG HY2
        go_wp2_with fail
        go_ret
        exact ⟨by rw [HV.out]; rfl, hg1⟩
    · obtain rfl : k = L.length := by omega
      have HV := Lib.hid (HN.out HO.out)
      have hkI : ¬ (L.length : Int) < (L.length : Int) := by omega
      go_wp2_with fail
      go_ret
      exact ⟨by rw [HV.out]; rfl, hg1⟩

set_option maxRecDepth 100000 in
set_option maxHeartbeats 2000000 in
theorem refisname_any (s : ByteArray) (w : World) (hs : s.size ≤ maxLen) : Calls Try.prog 21 #[.string s] w fun e w' => e = .returned (.bool (isNameF s)) ∧ w.grownBy w' none := by
  have HI := Lib.hid (isword_any s w)
  have hv : isNameF s = (decide (s.size ≠ 0) && (decide (s.size ≤ 32) && (isLet (bAt s 0) && (decide (runF s = s.size) && !hasF wordsL s)))) := rfl
  generalize isNameF s = v at hv
  generalize hasF wordsL s = hw at HI hv
  unfold maxLen at hs
  cases hw
  · by_cases h0 : s.size = 0
    · have HV : Hid (v = false) := Lib.hid (by rw [hv]; simp [h0])
      clear hv
      have h0I : (s.size : Int) = 0 := by omega
      go_enter Try.func21, Try.ntmps21
      go_wp2_with (go_at_call 47; refine HI.out.mono ?_; rintro e w1 ⟨rfl, hg1⟩)
      go_ret
      exact ⟨by rw [HV.out]; rfl, hg1⟩
    · have h0I : ¬ (s.size : Int) = 0 := by omega
      have h0J : (0 : Int) < (s.size : Int) := by omega
      by_cases h32 : 32 < s.size
      · have HV : Hid (v = false) := Lib.hid (by rw [hv]; simp; omega)
        clear hv
        have h32I : (32 : Int) < (s.size : Int) := by omega
        go_enter Try.func21, Try.ntmps21
        go_wp2_with (go_at_call 47; refine HI.out.mono ?_; rintro e w1 ⟨rfl, hg1⟩)
        go_ret
        exact ⟨by rw [HV.out]; rfl, hg1⟩
      · have h32I : decide ((32 : Int) < (s.size : Int)) = false := decide_eq_false (by omega)
        have hz : ((s.size : Int) == 0) = false := beq_eq_false_iff_ne.2 h0I
        have hb := bAt_byte s 0
        have HL := Lib.hid (refletter_any (bAt s 0) hb.1 hb.2)
        cases hl : isLet (bAt s 0) <;> rw [hl] at HL hv <;> rw [← bAt_get (by omega : 0 < s.size)] at HL
        · have HV : Hid (v = false) := Lib.hid (by rw [hv]; simp)
          clear hv
          go_enter Try.func21, Try.ntmps21
          go_wp2_with (first
            | (go_at_call 47; refine HI.out.mono ?_; rintro e w1 ⟨rfl, hg1⟩)
            | (go_at_call 48; refine (HL.out _).mono ?_; rintro e w2 ⟨rfl, rfl⟩))
          go_ret
          exact ⟨by rw [HV.out]; rfl, hg1⟩
        · have HV : Hid (v = decide (runF s = s.size)) := Lib.hid (by rw [hv]; simp [h0]; omega)
          clear hv
          go_enter Try.func21, Try.ntmps21
          go_wp2_with (first
            | (go_at_call 47; refine HI.out.mono ?_; rintro e w1 ⟨rfl, hg1⟩)
            | (go_at_call 48; refine (HL.out _).mono ?_; rintro e w2 ⟨rfl, rfl⟩))
          go_loop [4] (fun i => ∃ k : Nat, k ≤ s.size ∧ i = .int .i64 (k : Int) ∧ Hid (∀ j, j < k → isLD (bAt s j) = true)) (fun i => s.size - (intOf i).toNat)
          case atStart => exact ⟨0, by omega, rfl, Lib.hid fun j h => absurd h (Nat.not_lt_zero _)⟩
          case round =>
            obtain ⟨k, hk, rfl, HO⟩ := hrel
            by_cases hlt : k < s.size
            · have hkI : (k : Int) < (s.size : Int) := by omega
              have hbk := bAt_byte s k
              have HLk := Lib.hid (refletter_any (bAt s k) hbk.1 hbk.2)
              have HDk := Lib.hid (refdigit_any (bAt s k) hbk.1 hbk.2)
              have HG : Hid (isLD (bAt s k) = true → ∀ j, j < k + 1 → isLD (bAt s j) = true) := Lib.hid fun h j hj => by
                by_cases e : j < k
                · exact HO.out j e
                · obtain rfl : j = k := by omega
                  exact h
              have HNo : Hid (isLD (bAt s k) = false → v = false) := Lib.hid fun h => by
                rw [HV.out, runF_eq HO.out hk (Or.inr h)]
                exact decide_eq_false (by omega)
              cases h1 : isLet (bAt s k) <;> cases h2 : isDig (bAt s k) <;> rw [h1] at HLk <;> rw [h2] at HDk <;> rw [← bAt_get hlt] at HLk HDk
              · have HV2 := Lib.hid (HNo.out (by unfold isLD; rw [h1, h2]; rfl))
                clear h1 h2 HG HNo
                go_wp2_with (first
                  | (go_at_call 48; refine (HLk.out _).mono ?_; rintro e w2 ⟨rfl, rfl⟩)
                  | (go_at_call 49; refine (HDk.out _).mono ?_; rintro e w2 ⟨rfl, rfl⟩))
                go_ret
                exact ⟨by rw [HV2.out]; rfl, hg1⟩
              all_goals
                have HG2 := Lib.hid (HG.out (by unfold isLD; rw [h1, h2]; rfl))
                clear h1 h2 HG HNo
                go_wp2_with (first
                  | (go_at_call 48; refine (HLk.out _).mono ?_; rintro e w2 ⟨rfl, rfl⟩)
                  | (go_at_call 49; refine (HDk.out _).mono ?_; rintro e w2 ⟨rfl, rfl⟩))
                exact ⟨⟨k + 1, by omega, by go_num, HG2⟩, by simp [intOf]; omega⟩
            · obtain rfl : k = s.size := by omega
              have hkI : ¬ (s.size : Int) < (s.size : Int) := by omega
              have HV2 : Hid (v = true) := Lib.hid (by rw [HV.out, runF_eq HO.out (Nat.le_refl _) (Or.inl rfl)]; simp)
              go_wp2_with fail
              go_ret
              exact ⟨by rw [HV2.out]; rfl, hg1⟩
  · have HV : Hid (v = false) := Lib.hid (by rw [hv]; simp)
    clear hv
    go_enter Try.func21, Try.ntmps21
    go_wp2_with (go_at_call 47; refine HI.out.mono ?_; rintro e w1 ⟨rfl, hg1⟩)
    go_ret
    exact ⟨by rw [HV.out]; rfl, hg1⟩
end Go.Proofs.Ytlmpeddacadfkaa
