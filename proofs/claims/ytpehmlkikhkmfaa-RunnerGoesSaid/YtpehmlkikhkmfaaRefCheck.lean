/- The document's answer: is it a machine? -/
import Derived.Test.YtpehmlkikhkmfaaRefNamed
import Derived.Test.YtpehmlkikhkmfaaRunBatch
namespace Go.Proofs.Ytpehmlkikhkmfaa
open Go.RowKit

def rowsN (R : List (List Int)) (n : Nat) : Bool := (List.range R.length).all fun k => decide ((R.getD k []).length = n) && (R.getD k []).all (inF R.length)
theorem rowsN_bad {R : List (List Int)} {n k : Nat} (hk : k < R.length) (h : (R.getD k []).length ≠ n ∨ ∃ j, j < (R.getD k []).length ∧ inF R.length ((R.getD k []).getD j 0) = false) : rowsN R n = false := by
  unfold rowsN
  rw [List.all_eq_false]
  refine ⟨k, List.mem_range.2 hk, ?_⟩
  rw [Bool.and_eq_true, decide_eq_true_eq, List.all_eq_true]
  rintro ⟨h1, h2⟩
  rcases h with h | ⟨j, hj, h⟩
  · exact h h1
  · rw [h2 _ (getD_mem hj)] at h
    cases h
theorem rowsN_good {R : List (List Int)} {n : Nat} (h : ∀ k, k < R.length → (R.getD k []).length = n ∧ ∀ j, j < (R.getD k []).length → inF R.length ((R.getD k []).getD j 0) = true) : rowsN R n = true := by
  unfold rowsN
  rw [List.all_eq_true]
  intro k hk
  obtain ⟨h1, h2⟩ := h k (List.mem_range.1 hk)
  rw [Bool.and_eq_true, decide_eq_true_eq, List.all_eq_true]
  refine ⟨h1, fun x hx => ?_⟩
  obtain ⟨j, hj, e⟩ := List.getElem_of_mem hx
  have := h2 j hj
  rwa [List.getD_eq_getElem?_getD, List.getElem?_eq_getElem hj, Option.getD_some, e] at this
theorem rowsN_is {R : List (List Int)} {n : Nat} (h : rowsN R n = true) : rowsF R = true ∧ ∀ k, k < R.length → (R.getD k []).length = n := by
  unfold rowsN at h
  rw [List.all_eq_true] at h
  have h' : ∀ k, k < R.length → (R.getD k []).length = n ∧ ∀ x ∈ R.getD k [], inF R.length x = true := fun k hk => by
    have := h k (List.mem_range.2 hk)
    rw [Bool.and_eq_true, decide_eq_true_eq, List.all_eq_true] at this
    exact this
  exact ⟨rowsF_good fun k hk j hj => (h' k hk).2 _ (getD_mem hj), fun k hk => (h' k hk).1⟩

set_option maxRecDepth 100000 in
set_option maxHeartbeats 2000000 in
theorem refrows_any (v : Value) (R : List (List Int)) (n : Nat) (w : World) (hL : RowsAt w v R) (hn : n ≤ 256) :
    Calls Try.prog 79 #[v, .int .i64 (n : Int)] w fun e w' => e = .returned (.bool (rowsN R n)) ∧ w = w' := by
  obtain ⟨a, cap, rfl, hcap, hlen, hc⟩ := hL
  have HC := Lib.hid hc
  clear hc
  go_enter Try.func79, Try.ntmps79
  go_wp2
  go_loop [5] (fun i => ∃ k : Nat, k ≤ R.length ∧ i = .int .i64 (k : Int) ∧ Hid (∀ k', k' < k → (R.getD k' []).length = n ∧ ∀ j, j < (R.getD k' []).length → inF R.length ((R.getD k' []).getD j 0) = true)) (fun i => R.length - (intOf i).toNat)
  case atStart => exact ⟨0, by omega, rfl, fun j h => absurd h (by omega)⟩
  case round =>
    obtain ⟨k, hk, rfl, HO⟩ := hrel
    by_cases hlt : k < R.length
    · rcases HC.out with rfl | ⟨b, off, rfl, hcc⟩
      · exact absurd hlt (by simp)
      obtain ⟨u, hu, a2, cap2, rfl, hcap2, hb2, hl2, hc2⟩ := hcc k hlt
      have HI := Lib.hid hc2
      have HW := Lib.hid hb2
      have HBad := Lib.hid (fun h => rowsN_bad (n := n) hlt h)
      have HG : Hid ((R.getD k []).length = n → (∀ j, j < (R.getD k []).length → inF R.length ((R.getD k []).getD j 0) = true) → ∀ k', k' < k + 1 → (R.getD k' []).length = n ∧ ∀ j, j < (R.getD k' []).length → inF R.length ((R.getD k' []).getD j 0) = true) := Lib.hid fun h1 h2 k' hk' => by
        rcases Nat.lt_or_ge k' k with h | h
        · exact HO.out k' h
        · obtain rfl : k' = k := by omega
          exact ⟨h1, h2⟩
      clear hcc hb2 hc2
      generalize R.getD k [] = A at hu hcap2 hl2 HI HW HBad HG
      have hkI : (k : Int) < (R.length : Int) := by omega
      by_cases hA : A.length = n
      · have HG2 := Lib.hid (HG.out hA)
        have HBad2 := Lib.hid (fun h => HBad.out (Or.inr h))
        have hAn : ((A.length : Int) != (n : Int)) = false := by rw [hA]; simp
        have HA := Lib.hid hA
        clear HG HBad hA
        go_wp2_with fail
        go_loop [6] (fun i => ∃ j : Nat, j ≤ n ∧ i = .int .i64 (j : Int) ∧ Hid (∀ j', j' < j → inF R.length (A.getD j' 0) = true)) (fun i => n - (intOf i).toNat)
        case atStart => exact ⟨0, by omega, rfl, fun j h => absurd h (by omega)⟩
        case round =>
          obtain ⟨j, hj, rfl, HJ⟩ := hrel
          by_cases hjn : j < n
          · have hjA : j < A.length := by rw [HA.out]; exact hjn
            rcases HI.out with rfl | ⟨b3, o3, rfl, hcx⟩
            · exact absurd hjA (by simp)
            have hx := hcx j hjA
            obtain ⟨hx1, hx2⟩ := HW.out j hjA
            have HB3 : Hid (inF R.length (A.getD j 0) = false → rowsN R n = false) := Lib.hid fun h => HBad2.out ⟨j, hjA, h⟩
            have HG3 : Hid (inF R.length (A.getD j 0) = true → ∀ j', j' < j + 1 → inF R.length (A.getD j' 0) = true) := Lib.hid fun h j' hj' => by
              rcases Nat.lt_or_ge j' j with h1 | h1
              · exact HJ.out j' h1
              · obtain rfl : j' = j := by omega
                exact h
            clear hcx
            generalize A.getD j 0 = x at hx hx1 hx2 HB3 HG3
            have hjI : (j : Int) < (n : Int) := by omega
            have hjAI : (j : Int) < (A.length : Int) := by omega
            by_cases h0 : x < 0
            · have HNo := Lib.hid (HB3.out (by unfold inF; rw [show decide (0 ≤ x) = false from decide_eq_false (by omega)]; rfl))
              go_wp2_with fail
              go_ret
              exact ⟨by rw [HNo.out]; rfl, rfl⟩
            · have h0b : decide (x < 0) = false := decide_eq_false h0
              by_cases h1 : (R.length : Int) ≤ x
              · have HNo := Lib.hid (HB3.out (by unfold inF; rw [show decide (x < (R.length : Int)) = false from decide_eq_false (by omega), Bool.and_false]))
                go_wp2_with fail
                go_ret
                exact ⟨by rw [HNo.out]; rfl, rfl⟩
              · have HYes := Lib.hid (HG3.out (by unfold inF; rw [Bool.and_eq_true, decide_eq_true_eq, decide_eq_true_eq]; omega))
                have h1b : decide ((R.length : Int) ≤ x) = false := decide_eq_false h1
                go_wp2_with fail
                go_round
                case rel => exact ⟨j + 1, by omega, by go_num, HYes⟩
                case measure => simp [intOf]; omega
          · obtain rfl : j = n := by omega
            have HG4 := Lib.hid (HG2.out (fun j' hj' => HJ.out j' (by rw [← HA.out]; exact hj')))
            go_wp2_with fail
            exact ⟨⟨k + 1, by omega, by go_num, HG4⟩, by simp [intOf]; omega⟩
      · have HNo := Lib.hid (HBad.out (Or.inl hA))
        have hAn : ((A.length : Int) != (n : Int)) = true := by rw [bne_iff_ne]; omega
        clear hA
        go_wp2_with fail
        go_ret
        exact ⟨by rw [HNo.out]; rfl, rfl⟩
    · obtain rfl : k = R.length := by omega
      have HY := Lib.hid (rowsN_good HO.out)
      go_wp2_with fail
      go_ret
      exact ⟨by rw [HY.out]; rfl, rfl⟩

set_option maxRecDepth 100000 in
set_option maxHeartbeats 2000000 in
theorem refcheck_any (vp vn vo : Value) (P : List ByteArray) (R : List (List Int)) (O : List Int) (w : World) (hM : MachAt w vp vn vo P R O) :
    Calls Try.prog 52 #[.agg #[vp, vn, vo]] w fun e w' => e = .returned (.int .i64 (mErr P R O)) ∧ w.grownBy w' none := by
  have hb0 := World.grownBy_alloc w (.cells #[vp, vn, vo] 27) none
  have HB0 := Lib.hid hb0
  have HM := Lib.hid (hM.kept hb0)
  obtain ⟨⟨ap, cp, rfl, hp0, hp1, _⟩, ⟨an, cn, rfl, hn0, hn1, _⟩, ⟨ao, co, rfl, ho0, _, ho1, _⟩⟩ := hM
  have c0 := cell3_0 w (.slice ap P.length cp) (.slice an R.length cn) (.slice ao O.length co) 27
  have c1 := cell3_1 w (.slice ap P.length cp) (.slice an R.length cn) (.slice ao O.length co) 27
  have c2 := cell3_2 w (.slice ap P.length cp) (.slice an R.length cn) (.slice ao O.length co) 27
  have HNm := Lib.hid (refnames_any _ P _ HM.out.props)
  have HBad := Lib.hid (fun h => mErr_bad (P := P) (R := R) (O := O) h)
  have HLf : Hid (listF P = true → P.length ≤ 8) := Lib.hid fun h => listF_len h
  obtain ⟨lb, hlb⟩ : ∃ lb, Hid (lb = listF P) := ⟨_, Lib.hid rfl⟩
  rw [← hlb.out] at HNm HBad HLf
  clear hb0
  go_enter Try.func52, Try.ntmps52
  generalize hw0 : w.alloc (.cells #[.slice ap P.length cp, .slice an R.length cn, .slice ao O.length co] 27) = w0 at c0 c1 c2 HB0 HM HNm ⊢
  cases lb with
  | false =>
    have HNo := Lib.hid (HBad.out (Or.inl rfl))
    go_wp2_with (go_at_call 78; refine HNm.out.mono ?_; rintro e w1 ⟨rfl, hg1⟩)
    go_ret
    exact ⟨by rw [HNo.out]; rfl, gb_trans HB0.out hg1 (Or.inl rfl)⟩
  | true =>
    have hP8 := HLf.out rfl
    by_cases h0 : R.length = 0
    · have HNo := Lib.hid (HBad.out (by
        by_cases e : O.length = 0
        · exact Or.inr (Or.inl e)
        · exact Or.inr (Or.inr (Or.inl (by omega)))))
      have h0b : ((R.length : Int) == 0) = true := by rw [h0]; rfl
      have HG0 := Lib.hid h0
      clear h0
      go_wp2_with (go_at_call 78; refine HNm.out.mono ?_; rintro e w1 ⟨rfl, hg1⟩; have d0 := hg1.cell c0 (by simp); have d1 := hg1.cell c1 (by simp); have d2 := hg1.cell c2 (by simp))
      go_ret
      exact ⟨by rw [HNo.out]; rfl, gb_trans HB0.out hg1 (Or.inl rfl)⟩
    have h0b : ((R.length : Int) == 0) = false := by rw [beq_eq_false_iff_ne]; omega
    clear h0
    by_cases hne : O.length = R.length
    case neg =>
      have HNo := Lib.hid (HBad.out (Or.inr (Or.inr (Or.inl (fun e => hne e.symm)))))
      have hneb : ((O.length : Int) != (R.length : Int)) = true := by rw [bne_iff_ne]; omega
      clear hne
      go_wp2_with (go_at_call 78; refine HNm.out.mono ?_; rintro e w1 ⟨rfl, hg1⟩; have d0 := hg1.cell c0 (by simp); have d1 := hg1.cell c1 (by simp); have d2 := hg1.cell c2 (by simp))
      go_ret
      exact ⟨by rw [HNo.out]; rfl, gb_trans HB0.out hg1 (Or.inl rfl)⟩
    have hneb : ((O.length : Int) != (R.length : Int)) = false := by rw [hne]; simp
    have HNE := Lib.hid hne
    clear hne
    have hpw : wrap64 ((2 : Int) ^ P.length) = ((2 ^ P.length : Nat) : Int) := wrap_pow _ hP8
    have hpb : 2 ^ P.length ≤ 256 := Nat.pow_le_pow_right (show 0 < 2 by decide) hP8
    have HRw : Hid (∀ wx, w0.grownBy wx none → Calls Try.prog 79 #[.slice an R.length cn, .int .i64 ((2 ^ P.length : Nat) : Int)] wx fun e w' => e = .returned (.bool (rowsN R (2 ^ P.length))) ∧ wx = w') := Lib.hid fun wx h => refrows_any _ R _ wx (HM.out.next.kept h) hpb
    have HRb : Hid (rowsN R (2 ^ P.length) = false → mErr P R O = 140) := Lib.hid fun h => by
      rcases mErr_two P R O with e | e
      · have hz := mErr_zero e
        have := rowsN_good (R := R) (n := 2 ^ P.length) fun k hk => ⟨mErr_pow e k hk, fun j hj => rowsF_in hz.2.2.2.1 hk hj⟩
        rw [h] at this
        cases this
      · exact e
    have HRg : Hid (rowsN R (2 ^ P.length) = true → (∀ s, s < O.length → 1 ≤ O.getD s 0 ∧ O.getD s 0 ≤ 3) → mErr P R O = 0) := Lib.hid fun h ho => by
      obtain ⟨r1, r2⟩ := rowsN_is h
      refine mErr_good (by rw [← hlb.out]) (by rw [beq_eq_false_iff_ne] at h0b; have := HNE.out; omega) HNE.out.symm r1 (fun s hs => ?_)
      unfold stateF
      rw [Bool.and_eq_true, Bool.and_eq_true, decide_eq_true_eq, decide_eq_true_eq, decide_eq_true_eq]
      exact ⟨ho s hs, r2 s (by rw [← HNE.out]; exact hs)⟩
    generalize rowsN R (2 ^ P.length) = rb at HRw HRb HRg
    generalize ((2 ^ P.length : Nat) : Int) = pw at hpw HRw
    have hp8I : (P.length : Int) ≤ 8 := by omega
    cases rb with
    | false =>
      have HNo := Lib.hid (HRb.out rfl)
      go_wp2_with (first
        | (go_at_call 78; refine HNm.out.mono ?_; rintro e w1 ⟨rfl, hg1⟩; have d0 := hg1.cell c0 (by simp); have d1 := hg1.cell c1 (by simp); have d2 := hg1.cell c2 (by simp))
        | (go_at_call 79; refine (HRw.out _ hg1).mono ?_; rintro e w2 ⟨rfl, rfl⟩))
      go_ret
      exact ⟨by rw [HNo.out]; rfl, gb_trans HB0.out hg1 (Or.inl rfl)⟩
    | true =>
      have HRg2 := Lib.hid (HRg.out rfl)
      go_wp2_with (first
        | (go_at_call 78; refine HNm.out.mono ?_; rintro e w1 ⟨rfl, hg1⟩; have d0 := hg1.cell c0 (by simp); have d1 := hg1.cell c1 (by simp); have d2 := hg1.cell c2 (by simp))
        | (go_at_call 79; refine (HRw.out _ hg1).mono ?_; rintro e w2 ⟨rfl, rfl⟩))
      have HOb := Lib.hid (HM.out.out.kept hg1)
      go_loop [5] (fun i => ∃ k : Nat, k ≤ O.length ∧ i = .int .i64 (k : Int) ∧ Hid (∀ j, j < k → 1 ≤ O.getD j 0 ∧ O.getD j 0 ≤ 3)) (fun i => O.length - (intOf i).toNat)
      case atStart => exact ⟨0, by omega, rfl, fun j h => absurd h (by omega)⟩
      case round =>
        obtain ⟨k, hk, rfl, HS⟩ := hrel
        by_cases hlt : k < O.length
        · obtain ⟨_, _, hve, _, ho2, _, ho3⟩ := HOb.out
          cases hve
          rcases ho3 with rfl | ⟨bo, offo, rfl, ho3⟩
          · exact absurd hlt (by simp)
          have hx := ho3 k hlt
          have hxr := ho2 k hlt
          have HBd : Hid (¬ (1 ≤ O.getD k 0 ∧ O.getD k 0 ≤ 3) → mErr P R O = 140) := Lib.hid fun h => mErr_bad (Or.inr (Or.inr (Or.inr (Or.inr ⟨k, hlt, by
            unfold stateF
            rw [Bool.and_eq_false_iff, Bool.and_eq_false_iff, decide_eq_false_iff_not, decide_eq_false_iff_not]
            left
            omega⟩))))
          have HGd : Hid ((1 ≤ O.getD k 0 ∧ O.getD k 0 ≤ 3) → ∀ j, j < k + 1 → 1 ≤ O.getD j 0 ∧ O.getD j 0 ≤ 3) := Lib.hid fun h j hj => by
            rcases Nat.lt_or_ge j k with h1 | h1
            · exact HS.out j h1
            · obtain rfl : j = k := by omega
              exact h
          clear ho2 ho3
          generalize O.getD k 0 = x at hx hxr HBd HGd
          have hkI : (k : Int) < (O.length : Int) := by omega
          by_cases hx1 : x < 1
          · have HNo := Lib.hid (HBd.out (by omega))
            go_wp2_with fail
            go_ret
            exact ⟨by rw [HNo.out]; rfl, gb_trans HB0.out hg1 (Or.inl rfl)⟩
          · have hx1b : decide (x < 1) = false := decide_eq_false hx1
            by_cases hx3 : 3 < x
            · have HNo := Lib.hid (HBd.out (by omega))
              go_wp2_with fail
              go_ret
              exact ⟨by rw [HNo.out]; rfl, gb_trans HB0.out hg1 (Or.inl rfl)⟩
            · have hx3b : decide (3 < x) = false := decide_eq_false hx3
              have HGd2 := Lib.hid (HGd.out (by omega))
              clear hx1 hx3
              go_wp2_with fail
              go_round
              case rel => exact ⟨k + 1, by omega, by go_num, HGd2⟩
              case measure => simp [intOf]; omega
        · obtain rfl : k = O.length := by omega
          have HYes := Lib.hid (HRg2.out HS.out)
          go_wp2_with fail
          go_ret
          exact ⟨by rw [HYes.out]; rfl, gb_trans HB0.out hg1 (Or.inl rfl)⟩
end Go.Proofs.Ytpehmlkikhkmfaa
