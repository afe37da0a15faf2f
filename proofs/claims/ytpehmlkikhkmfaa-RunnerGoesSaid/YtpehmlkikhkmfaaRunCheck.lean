/- Runner: is it a machine. -/
import Derived.Test.YtpehmlkikhkmfaaRunRows
namespace Go.Proofs.Ytpehmlkikhkmfaa
open Go.RowKit

structure MachAt (w : World) (vp vn vo : Value) (P : List ByteArray) (R : List (List Int)) (O : List Int) : Prop where
  props : TextsAt w vp P
  next : RowsAt w vn R
  out : BytesAt w vo O

theorem MachAt.kept {w w' : World} {vp vn vo : Value} {P : List ByteArray} {R : List (List Int)} {O : List Int} (h : MachAt w vp vn vo P R O) (hg : w.grownBy w' none) : MachAt w' vp vn vo P R O :=
  ⟨h.props.kept hg, h.next.kept hg, h.out.kept hg⟩

def stateF (P : List ByteArray) (R : List (List Int)) (O : List Int) (s : Nat) : Bool := (decide (1 ≤ O.getD s 0) && decide (O.getD s 0 ≤ 3)) && decide ((R.getD s []).length = 2 ^ P.length)
def machF (P : List ByteArray) (R : List (List Int)) (O : List Int) : Bool :=
  listF P && (decide (O.length ≠ 0) && (decide (R.length = O.length) && (rowsF R && (List.range O.length).all (stateF P R O))))
def mErr (P : List ByteArray) (R : List (List Int)) (O : List Int) : Int := if machF P R O then 0 else 140
theorem mErr_bad {P : List ByteArray} {R : List (List Int)} {O : List Int} (h : listF P = false ∨ O.length = 0 ∨ R.length ≠ O.length ∨ rowsF R = false ∨ ∃ s, s < O.length ∧ stateF P R O s = false) : mErr P R O = 140 := by
  unfold mErr
  rw [if_neg]
  intro hm
  unfold machF at hm
  simp only [Bool.and_eq_true, decide_eq_true_eq, List.all_eq_true, List.mem_range] at hm
  obtain ⟨h1, h2, h3, h4, h5⟩ := hm
  rcases h with h | h | h | h | ⟨s, hs, h⟩
  · rw [h] at h1; cases h1
  · exact h2 h
  · exact h h3
  · rw [h] at h4; cases h4
  · rw [h5 s hs] at h; cases h
theorem mErr_good {P : List ByteArray} {R : List (List Int)} {O : List Int} (h1 : listF P = true) (h2 : O.length ≠ 0) (h3 : R.length = O.length) (h4 : rowsF R = true) (h5 : ∀ s, s < O.length → stateF P R O s = true) : mErr P R O = 0 := by
  unfold mErr
  rw [if_pos]
  unfold machF
  simp only [Bool.and_eq_true, decide_eq_true_eq, List.all_eq_true, List.mem_range]
  exact ⟨h1, h2, h3, h4, h5⟩
theorem listF_len {P : List ByteArray} (h : listF P = true) : P.length ≤ 8 := by
  unfold listF at h
  simp only [Bool.and_eq_true, decide_eq_true_eq] at h
  exact h.2

theorem wrap_pow : ∀ n : Nat, n ≤ 8 → wrap64 ((2 : Int) ^ n) = ((2 ^ n : Nat) : Int) := by decide +kernel
theorem pow_le {n : Nat} (h : n ≤ 8) : 2 ^ n ≤ 256 := Nat.pow_le_pow_right (by decide) h

theorem cell3_0 (w : World) (a b c : Value) (t : TypeId) : (w.alloc (.cells #[a, b, c] t)).cell? ⟨w.heap.size, 0, none⟩ = some a := by unfold World.cell?; rw [show (w.alloc (.cells #[a, b, c] t)).heap[w.heap.size]? = some (.cells #[a, b, c] t (0, 0)) from heap_alloc_new _ _]; rfl
theorem cell3_1 (w : World) (a b c : Value) (t : TypeId) : (w.alloc (.cells #[a, b, c] t)).cell? ⟨w.heap.size, 1, none⟩ = some b := by unfold World.cell?; rw [show (w.alloc (.cells #[a, b, c] t)).heap[w.heap.size]? = some (.cells #[a, b, c] t (0, 0)) from heap_alloc_new _ _]; rfl
theorem cell3_2 (w : World) (a b c : Value) (t : TypeId) : (w.alloc (.cells #[a, b, c] t)).cell? ⟨w.heap.size, 2, none⟩ = some c := by unfold World.cell?; rw [show (w.alloc (.cells #[a, b, c] t)).heap[w.heap.size]? = some (.cells #[a, b, c] t (0, 0)) from heap_alloc_new _ _]; rfl

set_option maxHeartbeats 4000000 in
theorem check_any (vp vn vo : Value) (P : List ByteArray) (R : List (List Int)) (O : List Int) (w : World) (hM : MachAt w vp vn vo P R O) :
    Calls Try.prog 37 #[.agg #[vp, vn, vo]] w fun e w' => e = .returned (.int .i64 (mErr P R O)) ∧ w.grownBy w' none := by
  obtain ⟨hP, hR, hO⟩ := hM
  have hb0 := World.grownBy_alloc w (.cells #[vp, vn, vo] 27) none
  have HB0 := Lib.hid hb0
  have HP := Lib.hid (hP.kept hb0)
  have HR := Lib.hid (hR.kept hb0)
  have HO := Lib.hid (hO.kept hb0)
  clear hb0
  obtain ⟨ap, cp, rfl, hp0, hp1, hp2, hp3⟩ := hP
  obtain ⟨an, cn, rfl, hn0, hn1, hn3⟩ := hR
  obtain ⟨ao, co, rfl, ho0, ho2, ho1, ho3⟩ := hO
  clear hp2 hp3 hn3 ho2 ho3
  have HLA := Lib.hid (@list_any)
  have HGA := Lib.hid (@graph_any)
  by_cases hl : listF P = true
  case neg =>
    have HE := Lib.hid (mErr_bad (P := P) (R := R) (O := O) (Or.inl (by simpa using hl)))
    have hl' : listF P = false := by simpa using hl
    clear hl
    have HL2 := Lib.hid hl'
    clear hl'
    go_enter Try.func37, Try.ntmps37
    go_wp2_with (go_at_call 72; refine (HLA.out _ P _ HP.out).mono ?_; rw [HL2.out]; rintro e w' ⟨rfl, rfl⟩)
    go_ret
    exact ⟨by rw [HE.out]; rfl, HB0.out⟩
  have hpl := listF_len hl
  have hpw := pow_le hpl
  have HL2 := Lib.hid hl
  clear hl
  by_cases h0 : O.length = 0
  · obtain rfl : O = [] := List.eq_nil_of_length_eq_zero h0
    have HE := Lib.hid (mErr_bad (P := P) (R := R) (O := []) (Or.inr (Or.inl rfl)))
    clear h0
    go_enter Try.func37, Try.ntmps37
    go_wp2_with (go_at_call 72; refine (HLA.out _ P _ HP.out).mono ?_; rw [HL2.out]; rintro e w' ⟨rfl, rfl⟩)
    go_ret
    exact ⟨by rw [HE.out]; rfl, HB0.out⟩
  have h0b : ((O.length : Int) == 0) = false := by rw [beq_eq_false_iff_ne]; omega
  have H0 := Lib.hid h0
  clear h0
  by_cases hne : R.length = O.length
  case neg =>
    have HE := Lib.hid (mErr_bad (P := P) (R := R) (O := O) (Or.inr (Or.inr (Or.inl hne))))
    go_enter Try.func37, Try.ntmps37
    go_wp2_with (go_at_call 72; refine (HLA.out _ P _ HP.out).mono ?_; rw [HL2.out]; rintro e w' ⟨rfl, rfl⟩)
    go_ret
    exact ⟨by rw [HE.out]; rfl, HB0.out⟩
  have hneb : ((R.length : Int) != (O.length : Int)) = false := by rw [hne]; simp
  have HNE := Lib.hid hne
  clear hne
  by_cases hrf : rowsF R = true
  case neg =>
    have HE := Lib.hid (mErr_bad (P := P) (R := R) (O := O) (Or.inr (Or.inr (Or.inr (Or.inl (by simpa using hrf))))))
    have HRF := Lib.hid (gErr_bad (R := R) (by simpa using hrf))
    clear hrf
    go_enter Try.func37, Try.ntmps37
    go_wp2_with (first | (go_at_call 72; refine (HLA.out _ P _ HP.out).mono ?_; rw [HL2.out]; rintro e w' ⟨rfl, rfl⟩) | (go_at_call 73; refine (HGA.out _ R _ HR.out).mono ?_; rw [HRF.out]; rintro e w' ⟨rfl, rfl⟩))
    go_ret
    exact ⟨by rw [HE.out]; rfl, HB0.out⟩
  have HRF := Lib.hid (gErr_good hrf)
  have HRF2 := Lib.hid hrf
  clear hrf
  go_enter Try.func37, Try.ntmps37
  go_wp2_with (first | (go_at_call 72; refine (HLA.out _ P _ HP.out).mono ?_; rw [HL2.out]; rintro e w' ⟨rfl, rfl⟩) | (go_at_call 73; refine (HGA.out _ R _ HR.out).mono ?_; rw [HRF.out]; rintro e w' ⟨rfl, rfl⟩))
  go_loopw [33] (fun i wr => ∃ k : Nat, k ≤ O.length ∧ i = .int .i64 (k : Int) ∧ Hid (∀ j, j < k → stateF P R O j = true) ∧ (w.alloc (.cells #[.slice ap P.length cp, .slice an R.length cn, .slice ao O.length co] 27)).grownBy wr none) (fun i _ => O.length - (intOf i).toNat)
  case atStart => exact ⟨0, by omega, rfl, fun j h => absurd h (by omega), gb_refl _ _⟩
  case round =>
    obtain ⟨k, hk, rfl, HS, hG⟩ := hrel
    by_cases hlt : k < O.length
    · have hkr : k < R.length := by have := HNE.out; omega
      have c0 := hG.cell (show _ = some (.slice ap P.length cp) from cell3_0 w _ _ _ _) (by simp)
      have c1 := hG.cell (show _ = some (.slice an R.length cn) from cell3_1 w _ _ _ _) (by simp)
      obtain ⟨an', cn', hve, _, _, hn3⟩ := HR.out
      cases hve
      obtain ⟨ao', co', hve, _, ho2, _, ho3⟩ := HO.out
      cases hve
      rcases ho3 with rfl | ⟨bo, offo, rfl, ho3⟩
      · exact absurd hlt (by simp)
      rcases hn3 with rfl | ⟨bn, offn, rfl, hn3⟩
      · exact absurd hkr (by simp)
      obtain ⟨u, hu, ar, cr, rfl, hcr, _, hal, _⟩ := hn3 k hkr
      have hu' := hG.cell hu (by simp)
      have hx' := hG.cell (ho3 k hlt) (by simp)
      have hxr := ho2 k hlt
      have HB := Lib.hid (fun h => mErr_bad (P := P) (R := R) (O := O) (Or.inr (Or.inr (Or.inr (Or.inr ⟨k, hlt, h⟩)))))
      have HG : Hid (stateF P R O k = true → ∀ j, j < k + 1 → stateF P R O j = true) := Lib.hid fun h j hj => by
        rcases Nat.lt_or_ge j k with h1 | h1
        · exact HS.out j h1
        · obtain rfl : j = k := by omega
          exact h
      have HF := Lib.hid (show stateF P R O k = ((decide (1 ≤ O.getD k 0) && decide (O.getD k 0 ≤ 3)) && decide ((R.getD k []).length = 2 ^ P.length)) from rfl)
      generalize stateF P R O k = st at HB HG HF
      generalize R.getD k [] = A at hu' HF hcr hal
      generalize O.getD k 0 = x at hx' hxr HF
      clear hn3 ho3 ho2 hu HR HO HP
      by_cases h1 : x < 1
      · have HE := Lib.hid (HB.out (by rw [HF.out]; simp; omega))
        go_wp2_with fail
        go_quiet (fail)
        go_wp2
        go_ret
        exact ⟨by rw [HE.out]; rfl, gb_trans HB0.out (gb_trans hG (gb_drewN _ _ none) (Or.inl rfl)) (Or.inl rfl)⟩
      have HX1 := Lib.hid h1
      have hb1 : decide (x < 1) = false := decide_eq_false h1
      clear h1
      by_cases h3 : 3 < x
      · have HE := Lib.hid (HB.out (by rw [HF.out]; simp; omega))
        go_wp2_with fail
        go_quiet (fail)
        go_wp2
        go_ret
        exact ⟨by rw [HE.out]; rfl, gb_trans HB0.out (gb_trans hG (gb_drewN _ _ none) (Or.inl rfl)) (Or.inl rfl)⟩
      have HX3 := Lib.hid h3
      have hb3 : decide (3 < x) = false := decide_eq_false h3
      clear h3
      by_cases hA : A.length = 2 ^ P.length
      · have HG2 := Lib.hid (HG.out (by rw [HF.out, hA]; have := HX1.out; have := HX3.out; simp; omega))
        have hAb : ((A.length : Int) != wrap64 ((2 : Int) ^ P.length)) = false := by rw [wrap_pow _ hpl, hA]; simp
        clear hA hpw
        go_wp2_with fail
        go_quiet (fail)
        go_wp2
        go_roundw
        case rel => exact ⟨k + 1, by omega, by go_num, HG2, gb_trans hG (gb_drewN _ _ none) (Or.inl rfl)⟩
        case measure => simp [intOf]; omega
      · have HE := Lib.hid (HB.out (by rw [HF.out]; have := HX1.out; have := HX3.out; simp; omega))
        have hAb : ((A.length : Int) != wrap64 ((2 : Int) ^ P.length)) = true := by rw [wrap_pow _ hpl, bne_iff_ne]; omega
        clear hA hpw
        go_wp2_with fail
        go_quiet (fail)
        go_wp2
        go_ret
        exact ⟨by rw [HE.out]; rfl, gb_trans HB0.out (gb_trans hG (gb_drewN _ _ none) (Or.inl rfl)) (Or.inl rfl)⟩
    · obtain rfl : k = O.length := by omega
      have HE := Lib.hid (mErr_good HL2.out H0.out HNE.out HRF2.out HS.out)
      go_wp2
      go_ret
      exact ⟨by rw [HE.out]; rfl, gb_trans HB0.out hG (Or.inl rfl)⟩
end Go.Proofs.Ytpehmlkikhkmfaa
