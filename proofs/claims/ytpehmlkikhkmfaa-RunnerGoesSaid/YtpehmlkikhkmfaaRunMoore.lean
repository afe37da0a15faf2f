/- Runner: moore.Run. -/
import Derived.Test.YtpehmlkikhkmfaaRunEnds
namespace Go.Proofs.Ytpehmlkikhkmfaa
open Go.RowKit

/-- Letters that lie in memory. -/
def LettersAt (w : World) (v : Value) (U : List Nat) : Prop :=
  ∃ a cap, v = .slice a U.length cap ∧ U.length ≤ cap ∧ U.length ≤ 140737488351232 ∧ (∀ k, k < U.length → U.getD k 0 ≤ 65535) ∧
    (U = [] ∨ ∃ b off, a = some ⟨b, off, none⟩ ∧ ∀ k, k < U.length → w.cell? ⟨b, off + k, none⟩ = some (.int .u16 (U.getD k 0 : Int)))
theorem LettersAt.kept {w w' : World} {v : Value} {U : List Nat} (h : LettersAt w v U) (hg : w.grownBy w' none) : LettersAt w' v U := by
  obtain ⟨a, cap, rfl, h0, h1, h2, h3⟩ := h
  refine ⟨a, cap, rfl, h0, h1, h2, ?_⟩
  rcases h3 with h3 | ⟨b, off, rfl, h3⟩
  · exact Or.inl h3
  · exact Or.inr ⟨b, off, rfl, fun k hk => hg.cell (h3 k hk) (by simp)⟩

/-- Where letters lead. -/
def walkF (R : List (List Int)) (U : List Nat) : Nat := U.foldl (fun s c => ((R.getD s []).getD c 0).toNat) 0
theorem walkF_take (R : List (List Int)) (U : List Nat) (k : Nat) (hk : k < U.length) : walkF R (U.take (k + 1)) = ((R.getD (walkF R (U.take k)) []).getD (U.getD k 0) 0).toNat := by
  unfold walkF
  rw [take_one hk, List.foldl_append]
  rfl

set_option maxHeartbeats 2000000 in
theorem moore_run (vp vn vo vu : Value) (P : List ByteArray) (R : List (List Int)) (O : List Int) (U : List Nat) (w : World) (hM : MachAt w vp vn vo P R O) (hE : mErr P R O = 0) (hn : O.length ≤ 200000) (hU : LettersAt w vu U) (hc : ∀ k, k < U.length → U.getD k 0 < 2 ^ P.length) :
    Calls Try.prog 39 #[.agg #[vp, vn, vo], vu] w fun e w' => e = .returned (.tuple #[.int .i64 (walkF R U : Int), .int .i64 0]) ∧ w.grownBy w' none := by
  have hg := World.grownBy_alloc w (.cells #[vp, vn, vo] 27) none
  have HG := Lib.hid hg
  have HC := Lib.hid (check_any vp vn vo P R O _ (hM.kept hg))
  rw [hE] at HC
  have HM := Lib.hid (hM.kept hg)
  have HU := Lib.hid (hU.kept hg)
  have hz := mErr_zero hE
  have HR := Lib.hid hz.2.2.2.1
  have HP := Lib.hid (mErr_pow hE)
  have HL := Lib.hid hz.2.2.1
  have h0 : 0 < R.length := by have := hz.2.1; omega
  have HCs := Lib.hid hc
  have hnR : R.length ≤ 200000 := by omega
  obtain ⟨⟨ap, cp, rfl, _⟩, ⟨an, cn, rfl, hnc, _⟩, ⟨ao, co, rfl, _⟩⟩ := hM
  obtain ⟨au, cu, rfl, hcu, hul, _⟩ := hU
  have c0 := cell3_0 w (.slice ap P.length cp) (.slice an R.length cn) (.slice ao O.length co) 27
  have c1 := cell3_1 w (.slice ap P.length cp) (.slice an R.length cn) (.slice ao O.length co) 27
  have c2 := cell3_2 w (.slice ap P.length cp) (.slice an R.length cn) (.slice ao O.length co) 27
  clear hg hE hz hc
  go_enter Try.func39, Try.ntmps39
  go_wp2_with (go_at_call 37; refine HC.out.mono ?_; rintro e w1 ⟨rfl, hg1⟩; have HM1 := Lib.hid (HM.out.kept hg1); have HU1 := Lib.hid (HU.out.kept hg1); have d1 := hg1.cell c1 (by simp); have HG1 := Lib.hid (gb_trans HG.out hg1 (Or.inl rfl)); clear c0 c1 c2 HC HM HU)
  go_loop [17, 7] (fun i x => ∃ (k s : Nat), k ≤ U.length ∧ i = .int .i64 (k : Int) ∧ x = .int .i64 (s : Int) ∧ s < R.length ∧ Hid (s = walkF R (U.take k))) (fun i _ => U.length - (intOf i).toNat)
  case atStart => exact ⟨0, 0, by omega, rfl, rfl, h0, rfl⟩
  case round =>
    obtain ⟨k, s, hk, rfl, rfl, hs, HX⟩ := hrel
    by_cases hlt : k < U.length
    · obtain ⟨_, _, hve, _, _, hsz, hn3⟩ := HU1.out
      cases hve
      rcases hn3 with rfl | ⟨bu, offu, rfl, hn3⟩
      · exact absurd hlt (by simp)
      have hx := hn3 k hlt
      have hx65 := hsz k hlt
      have hxc := HCs.out k hlt
      have HT := Lib.hid (walkF_take R U k hlt)
      rw [← HX.out] at HT
      clear hn3 hsz
      generalize U.getD k 0 = c at hx hx65 hxc HT
      obtain ⟨_, ⟨_, _, hve, _, _, hn3⟩, _⟩ := HM1.out
      cases hve
      rcases hn3 with rfl | ⟨bn, offn, rfl, hn3⟩
      · exact absurd hs (by simp)
      obtain ⟨u, hu, ar, cr, rfl, hcr, _, hal, hcell⟩ := hn3 s hs
      clear hn3
      have hlen := HP.out s hs
      rw [← hlen] at hxc
      obtain ⟨t, ht, hyt⟩ := inF_nat (rowsF_in HR.out hs hxc)
      rw [hyt, Int.toNat_natCast] at HT
      rcases hcell with e0 | ⟨br, offr, rfl, hcell⟩
      · rw [e0] at hxc; exact absurd hxc (by simp)
      have hy := hcell c hxc
      rw [hyt] at hy
      clear hcell hyt hlen
      generalize (R.getD s []).length = m at hu hcr hal hxc
      have hcI : ¬ ((m : Int) ≤ (c : Int)) := by omega
      have hcJ : (c : Int) < (m : Int) := by omega
      have hsI : (s : Int) < (R.length : Int) := by omega
      have hkI : (k : Int) < (U.length : Int) := by omega
      go_wp2_with fail
      go_round
      case rel => exact ⟨k + 1, t, by omega, by go_num, rfl, ht, Lib.hid HT.out.symm⟩
      case measure => simp [intOf]; omega
    · obtain rfl : k = U.length := by omega
      rw [List.take_length] at HX
      go_wp2_with fail
      go_ret2
      exact ⟨by rw [HX.out]; rfl, HG1.out⟩
end Go.Proofs.Ytpehmlkikhkmfaa
