/- Runner: what is final stays: the walk. -/
import Derived.Test.YtpehmlkikhkmfaaRunMoore
import Derived.Test.YtpehmlkikhkmfaaRunBatch
import Derived.Deep.RegionLaw
import Derived.Deep.DeepCutAuto
namespace Go.Proofs.Ytpehmlkikhkmfaa
open Go.RowKit

theorem Try.info81 : (Try.prog.info? 81).map (fun i => (i.zero, i.size, i.bytes)) = some (some (.int .u16 0), 1, 2) := by kernel_rfl
def uv (x : Nat) : Value := .int .u16 (x : Int)
/-- The letters, cut down. -/
def cutL (n : Nat) (U : List Nat) : List Nat := U.map (· % 2 ^ n)
theorem cutL_step (n : Nat) (U : List Nat) (k : Nat) (hk : k < U.length) : cutL n (U.take (k + 1)) = cutL n (U.take k) ++ [U.getD k 0 % 2 ^ n] := by
  unfold cutL
  rw [take_one hk, List.map_append]
  rfl
theorem walk_cut (R : List (List Int)) (n : Nat) (U : List Nat) (k : Nat) (hk : k < U.length) : walkF R (cutL n (U.take (k + 1))) = stepF R n (walkF R (cutL n (U.take k))) (U.getD k 0) := by
  rw [cutL_step n U k hk]
  unfold walkF stepF
  rw [List.foldl_append]
  rfl

/-- A row of our own of letters, read. -/
theorem letters_of_own {w : World} {Y n : Nat} {v : Value} {L : List Nat} (h : w.ownsRow Y 81 1 v n (L.map uv)) (hn : L.length = n) (hl : n ≤ 140737488351232) (h65 : ∀ k, k < L.length → L.getD k 0 ≤ 65535) : LettersAt w v L := by
  subst hn
  obtain ⟨a, cap, rfl⟩ := own_val h
  by_cases h0 : L.length = 0
  · obtain rfl : L = [] := List.eq_nil_of_length_eq_zero h0
    exact ⟨a, cap, rfl, by simp, hl, h65, Or.inl rfl⟩
  · obtain ⟨g, cap2, hv, hcap, _⟩ := own_cell h 0 (by omega)
    cases hv
    refine ⟨_, _, rfl, hcap, hl, h65, Or.inr ⟨g, 0, rfl, fun k hk => ?_⟩⟩
    rw [Nat.zero_add]
    obtain ⟨g2, cap3, hv, _, hc⟩ := own_cell h k hk
    cases hv
    rw [hc, List.getElem?_map, List.getElem?_eq_getElem hk, List.getD_eq_getElem?_getD, List.getElem?_eq_getElem hk]
    rfl

set_option maxRecDepth 100000 in
set_option maxHeartbeats 8000000 in
theorem sure_walk (vp vn vo vu : Value) (P : List ByteArray) (R : List (List Int)) (O : List Int) (U : List Nat) (w : World) (hM : MooreIn w vp vn vo P R O) (hU : LettersAt w vu U) :
    Calls Try.prog 8 #[.agg #[vp, vn, vo], vu] w fun e w' => e = .returned (.bool true) ∧ w.grownBy w' none := by
  have hg := World.grownBy_alloc w (.cells #[vp, vn, vo] 27) none
  have c0 := cell3_0 w vp vn vo 27
  have c1 := cell3_1 w vp vn vo 27
  have c2 := cell3_2 w vp vn vo 27
  have hOM := ofmoore_any (hM.props.kept hg) hM.short (hM.next.kept hg) hM.slice (by have := hM.len; omega)
  have hmO : O.length ≤ capN (sizes P) + capN (lens R) + O.length := by omega
  have hm0 : capN (sizes P) + capN (lens R) + O.length ≤ 500000000000000 := by
    have h1 := short_le hM.short
    have h2 := rows_le hM.next
    have h3 := hM.len
    omega
  generalize capN (sizes P) + capN (lens R) + O.length = m0 at hOM hm0 hmO
  have HOM := Lib.hid hOM
  have HM := Lib.hid hM
  have HU := Lib.hid hU
  obtain ⟨au, cu, rfl, hcu, hul, _⟩ := hU
  obtain ⟨an, cn, rfl, hcn, hnl, _⟩ := hM.next
  clear hM hOM
  go_enter Try.func8, Try.ntmps8
  go_wp2_with fail
  generalize hw1 : w.alloc (.cells #[vp, .slice an R.length cn, vo] 27) = w1 at c0 c1 c2 hg HOM
  clear hw1
  by_cases hb0 : 100000 < m0
  · have hbI : (100000 : Int) < (m0 : Int) := by omega
    go_wp2_with (go_at_call 10; refine HOM.out.mono ?_; rintro e w2 ⟨rfl, hg2⟩)
    go_ret
    exact ⟨rfl, gb_trans hg hg2 (Or.inl rfl)⟩
  have hb0I : ¬ (100000 : Int) < (m0 : Int) := by omega
  by_cases hb1 : 200 < R.length
  · have hbI : (200 : Int) < (R.length : Int) := by omega
    go_wp2_with (go_at_call 10; refine HOM.out.mono ?_; rintro e w2 ⟨rfl, hg2⟩; have d1 := hg2.cell c1 (by simp))
    go_ret
    exact ⟨rfl, gb_trans hg hg2 (Or.inl rfl)⟩
  have hb1I : ¬ (200 : Int) < (R.length : Int) := by omega
  by_cases hb2 : 200 < U.length
  · have hbI : (200 : Int) < (U.length : Int) := by omega
    go_wp2_with (go_at_call 10; refine HOM.out.mono ?_; rintro e w2 ⟨rfl, hg2⟩; have d1 := hg2.cell c1 (by simp))
    go_ret
    exact ⟨rfl, gb_trans hg hg2 (Or.inl rfl)⟩
  have hb2I : ¬ (200 : Int) < (U.length : Int) := by omega
  go_wp2_with (go_at_call 10; refine HOM.out.mono ?_; rintro e w2 ⟨rfl, hg2⟩; have d1 := hg2.cell c1 (by simp); have d0 := hg2.cell c0 (by simp); have d2 := hg2.cell c2 (by simp); have hG2 := gb_trans hg hg2 (Or.inl rfl); clear c0 c1 c2 hg2 hg)
  go_wp2_with (go_at_call 9; refine (known_any w2).mono ?_; rintro e w3 ⟨rfl, hg3⟩; have f0 := hg3.cell d0 (by simp); have f1 := hg3.cell d1 (by simp); have f2 := hg3.cell d2 (by simp); have hG3 := gb_trans hG2 hg3 (Or.inl rfl); clear d0 d1 d2 hg3 hG2)
  have hMa := (HM.out.mach (by omega)).kept hG3
  have hOl : O.length ≤ 200000 := by omega
  have HU3 := Lib.hid (HU.out.kept hG3)
  clear hmO hm0 HOM hb0 hb1 hb2 hb0I hb1I
  rcases mErr_two P R O with hE | hE
  · have HE := Lib.hid hE
    have HM3 := Lib.hid hMa
    have HN := Lib.hid (new_live vp (.slice an R.length cn) vo w3 hMa hE hOl)
    clear hMa hE
    go_wp2_with (go_at_call 13; refine HN.out.mono ?_; rintro e w4 ⟨p, F, rfl, hL4, hF, hg4, hp4⟩; have k0 := hg4.cell f0 (by simp); have k1 := hg4.cell f1 (by simp); have k2 := hg4.cell f2 (by simp); have hG4 := gb_trans hG3 hg4 (Or.inl rfl))
    have hz := mErr_zero HE.out
    have hpl := listF_len hz.1
    have hpw : w.heap.size ≤ p := Nat.le_trans hG3.size hp4
    have HFs : Hid (∀ s, s < O.length → (F.getD s false = true ↔ ∀ t, Reach R s t → O.getD t 0 = O.getD s 0)) := Lib.hid (fins_reach hz.2.2.2.1 hz.2.2.1 (fun s hs => by
      have := hz.2.2.2.2 s hs
      unfold stateF at this
      simp only [Bool.and_eq_true, decide_eq_true_eq] at this
      exact this.1) hF.out)
    have HR := Lib.hid hz.2.2.2.1
    have HL := Lib.hid hz.2.2.1
    have HG : Hid (∀ wr, w4.grownBy wr (some p) → w.grownBy wr none) := Lib.hid fun wr h => gb_trans hG4 h (Or.inr (Or.inr ⟨p, rfl, hpw⟩))
    have hbx : w.heap.size < w3.heap.size := World.block_lt_of_cell? w3 _ f0
    have hbp : w.heap.size ≠ p := by omega
    have HBx : Hid (∀ wr, w4.grownBy wr (some p) → wr.cell? ⟨w.heap.size, 0, none⟩ = some vp ∧ wr.cell? ⟨w.heap.size, 1, none⟩ = some (.slice an R.length cn) ∧ wr.cell? ⟨w.heap.size, 2, none⟩ = some vo) := Lib.hid fun wr h => ⟨h.cell k0 (by simpa using hbp), h.cell k1 (by simpa using hbp), h.cell k2 (by simpa using hbp)⟩
    have HMw : Hid (∀ wr, w.grownBy wr none → MachAt wr vp (.slice an R.length cn) vo P R O) := Lib.hid fun wr h => (HM.out.mach (by omega)).kept h
    have HUw : Hid (∀ wr, w.grownBy wr none → LettersAt wr (.slice au U.length cu) U) := Lib.hid fun wr h => HU.out.kept h
    obtain ⟨iu, hiu, hu0, hu1, hu2⟩ := info_parts Try.info81
    obtain ⟨ap, cp, rfl, _⟩ := HM.out.props
    obtain ⟨ao, co, rfl, _⟩ := HM.out.slice
    have hn0 : 0 < R.length := by have := hz.2.1; omega
    have hG4w := hpw
    clear hz hF hG3 hG4 k0 k1 k2 f0 f1 f2 HN HU3 HM3 hbx hbp hpw
    have hY4 : w4.grownBy w4 (some p) := gb_refl _ _
    go_loopw [9, 8] (fun i vr wr => ∃ (k : Nat), k ≤ U.length ∧ i = .int .i64 (k : Int) ∧ Hid (wr.ownsRow w4.heap.size 81 1 vr k ((cutL P.length (U.take k)).map uv)) ∧ Hid (Live wr w4.heap.size p P R O F (walkF R (cutL P.length (U.take k)))) ∧ Hid (w4.grownBy wr (some p))) (fun i _ _ => U.length - (intOf i).toNat)
    case atStart => exact ⟨0, by omega, rfl, World.ownsRow_nil _ _ _ _, hL4, hY4⟩
    case round =>
      obtain ⟨k, hk, rfl, HRow, HLi, HY⟩ := hrel
      by_cases hlt : k < U.length
      · have hsl := HLi.out.st
        have HWc := Lib.hid (walk_cut R P.length U k hlt)
        have HCs := Lib.hid (cutL_step P.length U k hlt)
        have HSt := Lib.hid (fun (wx : World) (hx : Live wx w4.heap.size p P R O F (walkF R (cutL P.length (U.take k)))) => live_step hx HE.out (U.getD k 0))
        obtain ⟨s, hs⟩ : ∃ s, Hid (s = walkF R (cutL P.length (U.take k))) := ⟨_, rfl⟩
        obtain ⟨s2, hs2⟩ : ∃ s2, Hid (s2 = walkF R (cutL P.length (U.take (k + 1)))) := ⟨_, rfl⟩
        rw [← hs.out] at hsl HWc HLi HSt
        rw [← HWc.out, ← hs2.out] at HSt
        obtain ⟨_, _, hve, _, _, h65, hn3⟩ := HU.out
        cases hve
        rcases hn3 with rfl | ⟨bu, offu, rfl, hn3⟩
        · exact absurd hlt (by simp)
        have hcu0 := hn3 k hlt
        have hu65 := h65 k hlt
        clear hn3 h65
        have HStay : Hid (F.getD s false = true → s2 < O.length → O.getD s2 0 = O.getD s 0 ∧ F.getD s2 false = true) := Lib.hid fun hf hs2l => by
          have hall := (HFs.out s hsl).1 hf
          have hreach : Reach R s s2 := by
            rw [hs2.out, HWc.out]
            unfold stepF
            exact Reach.go s _ .here (by rw [mErr_pow HE.out s (by rw [HL.out]; exact hsl)]; exact Nat.mod_lt _ (Nat.two_pow_pos _))
          exact ⟨hall s2 hreach, (HFs.out s2 hs2l).2 fun t ht => (hall t (hreach.trans ht)).trans (hall s2 hreach).symm⟩
        generalize U.getD k 0 = u at hcu0 hu65 HSt HCs
        have hu := (HG.out _ HY.out).cell hcu0 (by simp)
        have HFi := Lib.hid (live_final HLi.out)
        have HVe : Hid (∀ wx, Live wx w4.heap.size p P R O F s → Calls Try.prog 32 #[.pointer (some ⟨p, 0, none⟩)] wx fun e w' => e = .returned (.int .u8 (O.getD s 0)) ∧ Live w' w4.heap.size p P R O F s ∧ wx.grownBy w' none) := Lib.hid fun wx h => live_verdict h
        generalize F.getD s false = fb at HFi HStay
        generalize O.getD s 0 = x at HVe HStay
        obtain ⟨y, hy⟩ : ∃ y, Hid (y = O.getD s2 0) := ⟨_, Lib.hid rfl⟩
        rw [← hy.out] at HSt HStay
        have hkI : (k : Int) < (U.length : Int) := by omega
        obtain ⟨ar, cr, rfl⟩ := own_val HRow.out
        clear hY4 hL4
        go_wp2_with (first
          | (go_at_call 38; refine HFi.out.mono ?_; rintro e w5 ⟨rfl, hL5, hg5⟩)
          | (go_at_call 32; refine (HVe.out _ hL5).mono ?_; rintro e w6 ⟨rfl, hL6, hg6⟩))
        have hg46 := gb_trans hg5 hg6 (Or.inl rfl)
        have HY6 := Lib.hid (gb_trans HY.out hg46 (Or.inl rfl))
        have HR6 := Lib.hid (HRow.out.kept hg46 (Classical.em _))
        have HL6 := Lib.hid hL6
        have hu6 := hg46.cell hu (by simp)
        obtain ⟨b0, b1, b2⟩ := HBx.out _ HY6.out
        clear hg46 hg5 hg6 hL5 hL6 HRow HY HLi hu b1 b2 HVe HFi
        obtain ⟨n2, hn2⟩ : ∃ n2, Hid (n2 = 2 ^ P.length) := ⟨_, Lib.hid rfl⟩
        have hsh : IntKind.u16.wrap ((2 : Int) ^ P.length) = (n2 : Int) := by
          have h1 : (2 : Nat) ^ P.length ≤ 2 ^ 8 := Nat.pow_le_pow_right (by decide) hpl
          rw [hn2.out, show ((2 : Int) ^ P.length) = ((2 ^ P.length : Nat) : Int) by rw [Int.natCast_pow]; rfl, IntKind.wrap_u16, Int.emod_eq_of_lt (by exact Int.natCast_nonneg _) (by omega)]
        have hn2p : 0 < n2 := by rw [hn2.out]; exact Nat.two_pow_pos _
        have hn2b : ¬ n2 = 0 := by omega
        have htm : Int.tmod (u : Int) (n2 : Int) = ((u % n2 : Nat) : Int) := by rw [Int.tmod_eq_emod_of_nonneg (Int.natCast_nonneg _)]; rfl
        rw [← hn2.out] at HCs
        go_cut [8] (fun v8 wx => ∃ g7 cap7, v8 = .slice (some ⟨g7, 0, none⟩) (k + 1) cap7 ∧ Hid (wx.ownsRow w4.heap.size 81 1 (.slice (some ⟨g7, 0, none⟩) (k + 1) cap7) (k + 1) ((cutL P.length (U.take k)).map uv ++ [.int .u16 ((u % n2 : Nat) : Int)])) ∧ Hid (Live wx w4.heap.size p P R O F s) ∧ Hid (w4.grownBy wx (some p)))
        case first =>
         go_region_law (refine step_append_lies _ (by rfl) (.tmp 61) (.tmp 71) 85 (by rfl) w4.heap.size 81 iu (.int .u16 0) 1 2 Try.underlying85 hiu hu0 hu1 hu2 rfl (by decide) (.slice ar k cr) k ((cutL P.length (U.take k)).map uv) (by rfl) (HR6.out.drew.alloc _) ⟨w6.heap.size, 0, none⟩ 1 1 [.int .u16 ((u % n2 : Nat) : Int)] (by rfl) (by rfl) (cell_one_new _ _ _) (by simp [Value.oneCell']) (by decide) (by unfold maxLen; omega) (by omega) (by show w4.heap.size ≤ (w6.alloc _).heap.size; rw [World.size_alloc]; exact Nat.le_succ_of_le HY6.out.size) _ rfl ?_; intro g7 cap7 w7 hown7 hgr7 hat7 hlt7)
         all_goals
           have hga := gb_trans (World.grownBy_alloc w6 (.cells #[.int .u16 ((u % n2 : Nat) : Int)] 81) none) (gb_drew _ none) (Or.inl rfl)
           have hbk : ∀ b, (Value.slice ar k cr).ownBlock = some b → w4.heap.size ≤ b := fun b hb => (HR6.out.lt b hb).1
           have hgr7' : (World.alloc w6 (.cells #[.int .u16 ((u % n2 : Nat) : Int)] 81)).drew.grownBy w7 (Value.slice ar k cr).ownBlock := hgr7
           have HY7 := Lib.hid (gb_trans (gb_trans HY6.out hga (Or.inl rfl)) hgr7' (by
             rcases e : (Value.slice ar k cr).ownBlock with _ | b
             · exact Or.inl rfl
             · exact Or.inr (Or.inr ⟨b, rfl, hbk b e⟩)))
           have HL7 := Lib.hid ((HL6.out.kept hga).over hgr7' hbk)
           have HO7 := Lib.hid hown7
           clear hga hgr7 hgr7' hbk hown7 hat7 hlt7 hu6 b0 HR6 HL6 HY6
           go_wp2_with fail
           go_meet
           exact ⟨g7, cap7, rfl, HO7, HL7, HY7⟩
        case rest =>
         obtain ⟨g7, cap7, rfl, HO7, HL7, HY7⟩ := hcut
         clear HR6 HL6 HY6 hu6 b0
         have hu7 := (HG.out _ HY7.out).cell hcu0 (by simp)
         have hrun : Hid (∀ wx, wx.ownsRow w4.heap.size 81 1 (.slice (some ⟨g7, 0, none⟩) (k + 1) cap7) (k + 1) ((cutL P.length (U.take k)).map uv ++ [.int .u16 ((u % n2 : Nat) : Int)]) → w.grownBy wx none → Calls Try.prog 39 #[.agg #[.slice ap P.length cp, .slice an R.length cn, .slice ao O.length co], .slice (some ⟨g7, 0, none⟩) (k + 1) cap7] wx fun e w' => e = .returned (.tuple #[.int .i64 (s2 : Int), .int .i64 0]) ∧ wx.grownBy w' none) := Lib.hid fun wx h1 h2 => by
           have hmem : ∀ j, j < (cutL P.length (U.take (k + 1))).length → (cutL P.length (U.take (k + 1))).getD j 0 < 2 ^ P.length := fun j hj => by
             have := getD_in (d := 0) hj
             unfold cutL at this
             obtain ⟨y, _, e⟩ := List.mem_map.1 this
             unfold cutL
             rw [← e]
             exact Nat.mod_lt _ (Nat.two_pow_pos _)
           have hp8 : (2 : Nat) ^ P.length ≤ 2 ^ 8 := Nat.pow_le_pow_right (by decide) hpl
           have hlet : LettersAt wx (.slice (some ⟨g7, 0, none⟩) (k + 1) cap7) (cutL P.length (U.take (k + 1))) := by
             refine letters_of_own (Y := w4.heap.size) (n := k + 1) ?_ (by simp [cutL]; omega) (by omega) (fun j hj => by have := hmem j hj; omega)
             rw [HCs.out, List.map_append]
             exact h1
           have := moore_run _ _ _ _ P R O _ wx (HMw.out _ h2) HE.out hOl hlet hmem
           rw [← hs2.out] at this
           exact this
         have HStp := Lib.hid (HSt.out _ HL7.out (by exact hu65))
         clear HSt
         go_wp2_with (go_at_call 29; refine HStp.out.mono ?_; rintro e w8 ⟨rfl, hL8, hg8⟩; have HY8 := Lib.hid (gb_trans HY7.out hg8 (Or.inr (Or.inl rfl))); have HL8 := Lib.hid hL8; have HO8 := Lib.hid (HO7.out.kept hg8 (live_off HL7.out HO7.out (by decide))); have hs2l := hL8.st; have hbx8 := HBx.out _ HY8.out; have e0 := hbx8.1; have e1 := hbx8.2.1; have e2 := hbx8.2.2; clear hL8 hbx8)
         have HRn := Lib.hid (hrun.out _ HO8.out (HG.out _ HY8.out))
         have HSt9 : Hid (∀ wx, w8.grownBy wx none → Calls Try.prog 18 #[.pointer (some ⟨p, 0, none⟩)] wx fun e w' => e = .returned (.int .i64 (s2 : Int)) ∧ wx = w') := Lib.hid fun wx h => live_state (HL8.out.kept h)
         have HVe9 : Hid (∀ wx, w8.grownBy wx none → Calls Try.prog 32 #[.pointer (some ⟨p, 0, none⟩)] wx fun e w' => e = .returned (.int .u8 y) ∧ Live w' w4.heap.size p P R O F s2 ∧ wx.grownBy w' none) := Lib.hid fun wx h => by rw [hy.out]; exact live_verdict (HL8.out.kept h)
         have HFi9 : Hid (∀ wx, w8.grownBy wx none → Calls Try.prog 38 #[.pointer (some ⟨p, 0, none⟩)] wx fun e w' => e = .returned (.bool (F.getD s2 false)) ∧ Live w' w4.heap.size p P R O F s2 ∧ wx.grownBy w' none) := Lib.hid fun wx h => live_final (HL8.out.kept h)
         have HOu : Hid (∀ wx, w8.grownBy wx none → ∃ bo offo, ao = some ⟨bo, offo, none⟩ ∧ wx.cell? ⟨bo, offo + s2, none⟩ = some (.int .u8 y)) := Lib.hid fun wx h => by
           rw [hy.out]
           obtain ⟨_, _, hve, _, _, _, ho3⟩ := (HMw.out _ (gb_trans (HG.out _ HY8.out) h (Or.inl rfl))).out
           cases hve
           rcases ho3 with rfl | ⟨bo, offo, rfl, ho3⟩
           · exact absurd hs2l (by simp)
           · exact ⟨bo, offo, rfl, ho3 s2 hs2l⟩
         have HNext : Hid (∀ wx, w8.grownBy wx none → Hid (wx.ownsRow w4.heap.size 81 1 (.slice (some ⟨g7, 0, none⟩) (k + 1) cap7) (k + 1) ((cutL P.length (U.take (k + 1))).map uv)) ∧ Hid (Live wx w4.heap.size p P R O F (walkF R (cutL P.length (U.take (k + 1))))) ∧ Hid (w4.grownBy wx (some p))) := Lib.hid fun wx h => by
           refine ⟨?_, ?_, gb_trans HY8.out h (Or.inl rfl)⟩
           · rw [HCs.out, List.map_append]
             exact HO8.out.kept h (Classical.em _)
           · rw [← hs2.out]
             exact HL8.out.kept h
         have hs2I : (s2 : Int) < (O.length : Int) := by omega
         have HStay2 := Lib.hid (fun h => HStay.out h hs2l)
         clear hrun HCs HStp HStay HO7 HL7 HY7 hu7 HO8 HL8
         generalize F.getD s2 false = fb2 at HFi9 HStay2
         cases fb with
         | false =>
           go_wp2_with (first
             | (go_at_call 39; refine HRn.out.mono ?_; rintro e w9 ⟨rfl, hg9⟩; have j2 := hg9.cell e2 (by simp))
             | (go_at_call 18; refine (HSt9.out _ hg9).mono ?_; rintro e w10 ⟨rfl, rfl⟩)
             | (go_at_call 32; refine (HVe9.out _ hg9).mono ?_; rintro e w10 ⟨rfl, _, hg10⟩; have j2 := hg10.cell j2 (by simp); have hg90 := gb_trans hg9 hg10 (Or.inl rfl); obtain ⟨bo, offo, rfl, hco⟩ := HOu.out _ hg90))
           exact ⟨⟨k + 1, by omega, by go_num, HNext.out _ hg90⟩, by simp [intOf]; omega⟩
         | true =>
           obtain ⟨hyx, hfb2⟩ := HStay2.out rfl
           subst hfb2
           have hyx2 := hyx
           clear hyx HStay2
           rw [hyx2] at HVe9 HOu ⊢
           clear hyx2
           go_wp2_with (first
             | (go_at_call 39; refine HRn.out.mono ?_; rintro e w9 ⟨rfl, hg9⟩; have j2 := hg9.cell e2 (by simp))
             | (go_at_call 18; refine (HSt9.out _ hg9).mono ?_; rintro e w10 ⟨rfl, rfl⟩)
             | (go_at_call 32; refine (HVe9.out _ hg9).mono ?_; rintro e w10 ⟨rfl, _, hg10⟩; have j2 := hg10.cell j2 (by simp); have hg90 := gb_trans hg9 hg10 (Or.inl rfl); obtain ⟨bo, offo, rfl, hco⟩ := HOu.out _ hg90)
             | (go_at_call 38; refine (HFi9.out _ hg90).mono ?_; rintro e w11 ⟨rfl, _, hg11⟩; have hg91 := gb_trans hg90 hg11 (Or.inl rfl)))
           exact ⟨⟨k + 1, by omega, by go_num, HNext.out _ hg91⟩, by simp [intOf]; omega⟩
      · obtain rfl : k = U.length := by omega
        have HLd := Lib.hid (HLi.out.kept (gb_drew wr none))
        have HYd := Lib.hid (gb_trans HY.out (gb_drew wr none) (Or.inl rfl))
        have hsl := HLd.out.st
        generalize walkF R (cutL P.length (U.take U.length)) = s at HLd hsl
        have HSta := Lib.hid (live_state HLd.out)
        have HEn := Lib.hid (ends_any (.slice ap P.length cp) (.slice an R.length cn) (.slice ao O.length co) P R O s _ (HMw.out _ (HG.out _ HYd.out)) HR.out HL.out hOl hsl)
        have HFi : Hid (∀ wx, wr.drew.grownBy wx none → Calls Try.prog 38 #[.pointer (some ⟨p, 0, none⟩)] wx fun e w' => e = .returned (.bool (F.getD s false)) ∧ Live w' w4.heap.size p P R O F s ∧ wx.grownBy w' none) := Lib.hid fun wx h => live_final (HLd.out.kept h)
        obtain ⟨b0, b1, b2⟩ := HBx.out _ HYd.out
        have HFb := Lib.hid (HFs.out s hsl)
        generalize F.getD s false = fb at HFi HFb
        clear hY4 hL4
        go_wp2_with fail
        go_region_with (first
          | (go_at_call 18; refine HSta.out.mono ?_; rintro e w5 ⟨rfl, rfl⟩)
          | (go_at_call 40; refine HEn.out.mono ?_; rintro e w5 ⟨eb, rfl, heb, hg5⟩)
          | (go_at_call 38; refine (HFi.out _ hg5).mono ?_; rintro e w6 ⟨rfl, _, hg6⟩))
        all_goals
          have heq : eb = fb := Bool.eq_iff_iff.2 (heb.out.trans HFb.out.symm)
          subst heq
          go_wp2_with fail
          go_ret
          exact ⟨by simp; rfl, gb_trans (gb_trans (HG.out _ HYd.out) hg5 (Or.inl rfl)) hg6 (Or.inl rfl)⟩
  · have HN := Lib.hid (new_no vp (.slice an R.length cn) vo P R O w3 hMa hE)
    go_wp2_with (go_at_call 13; refine HN.out.mono ?_; rintro e w4 ⟨rfl, hg4⟩; have k0 := hg4.cell f0 (by simp); have k1 := hg4.cell f1 (by simp); have k2 := hg4.cell f2 (by simp))
    have HC := Lib.hid (check_any vp (.slice an R.length cn) vo P R O w4 (hMa.kept hg4))
    rw [hE] at HC
    go_wp2_with (go_at_call 37; refine HC.out.mono ?_; rintro e w5 ⟨rfl, hg5⟩)
    go_ret
    exact ⟨rfl, gb_trans (gb_trans hG3 hg4 (Or.inl rfl)) hg5 (Or.inl rfl)⟩
end Go.Proofs.Ytpehmlkikhkmfaa
