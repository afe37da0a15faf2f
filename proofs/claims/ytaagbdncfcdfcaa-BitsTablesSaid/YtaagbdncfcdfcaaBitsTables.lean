/- Bits: the walk of BitsTables. -/
import Derived.Test.YtaagbdncfcdfcaaBitsTabForms
namespace Go.Proofs.Ytaagbdncfcdfcaa
open Go.RowKit

set_option maxRecDepth 100000 in
set_option maxHeartbeats 4000000 in
theorem tables_walk (c : Int) (vr : Value) (R : List (List Int)) (w : World) (h1 : -9223372036854775808 ≤ c) (h2 : c ≤ 9223372036854775807) (hR : RowsAt w vr R) :
    Calls Try.prog 3 #[.int .i64 c, vr] w fun e w' => e = .returned (.bool true) ∧ Below w.heap.size w w' := by
  obtain ⟨a, cap, rfl, r1, r2⟩ := hR
  have HR := Lib.hid r2
  have HF := Lib.hid (@width_any c)
  have hn := widthF_le c
  generalize widthF c = n at hn HF
  clear r2
  go_enter Try.func3, Try.ntmps3
  go_wp2_with fail
  go_loop [5, 6] (fun t i => ∃ (k : Nat) (N : Int), k ≤ R.length ∧ i = .int .i64 (k : Int) ∧ t = .int .i64 N ∧ 0 ≤ N ∧ N ≤ 17592188043905) (fun _ i => R.length - (intOf i).toNat)
  case atStart => exact ⟨0, 0, by omega, rfl, rfl, by omega, by omega⟩
  case round =>
    obtain ⟨k, N, hk, rfl, rfl, hN0, hN1⟩ := hrel
    by_cases hgo : k < R.length ∧ N ≤ 2000000
    · obtain ⟨hlt, hN2⟩ := hgo
      rcases HR.out with rfl | ⟨b, off, rfl, hc⟩
      · exact absurd hlt (by simp)
      · obtain ⟨u, hu, a', cap', rfl, i1, i2, i3⟩ := hc k hlt
        clear hc i1 i3
        generalize R.getD k [] = A at hu i2
        go_wp2_with fail
        go_round
        case rel => exact ⟨k + 1, N + 1 + A.length, by omega, by go_num, by go_num, by omega, by omega⟩
        case measure => simp [intOf]; omega
    · by_cases hbig : 2000000 < N
      · by_cases hlt : k < R.length
        · go_wp2_with fail
          go_ret
          exact ⟨rfl, Below.refl _ _⟩
        · go_wp2_with fail
          go_ret
          exact ⟨rfl, Below.refl _ _⟩
      · obtain rfl : k = R.length := by omega
        clear hgo
        by_cases hbig2 : 300 < R.length
        · go_wp2_with fail
          go_ret
          exact ⟨rfl, Below.refl _ _⟩
        · go_wp2_with fail
          refine (HF.out _ h1 h2).mono ?_
          rintro e w' ⟨rfl, rfl⟩
          go_wp2_with fail
          refine (newtable_any n _ hn).mono ?_
          rintro e w1 ⟨p, mb, rfl, hp, hmb, hT, hG⟩
          have hB1 : Below w.heap.size w w1 := (Below.refl _ _).grown hG (Nat.le_refl _) (fun k e => by cases e)
          have hT1 : TabZ w.heap.size w1 p mb (.slice none 0 0) n [] := ⟨hT, hp, hmb, fun k hk => by simp [Value.ownBlock] at hk, fun e he => by simp at he⟩
          clear hT hp hmb hG
          have HT1 := Lib.hid hT1
          have HB1 := Lib.hid hB1
          clear hT1 hB1
          obtain ⟨Z, hZ⟩ : ∃ Z, Z = w.heap.size := ⟨_, rfl⟩
          have HZ := Lib.hid hZ
          rw [← hZ] at HT1 HB1
          clear hZ
          go_wp2_with fail
          go_loopw [8] (fun i wr => ∃ (j : Nat) (v : Value) (es : List Ent), j ≤ R.length ∧ i = .int .i64 (j : Int) ∧ TabZ Z wr p mb v n es ∧ es.length ≤ j ∧ Below Z w wr) (fun i _ => R.length - (intOf i).toNat)
          case atStart => exact ⟨0, _, [], by omega, rfl, HT1.out, Nat.le_refl _, HB1.out⟩
          case round =>
            clear HT1 HB1
            obtain ⟨j, v, es, hj, rfl, hT, hlen, hB⟩ := hrel
            by_cases hlt : j < R.length
            · rcases HR.out with rfl | ⟨b, off, rfl, hc⟩
              · exact absurd hlt (by simp)
              · obtain ⟨u, hu, hI⟩ := hc j hlt
                have hbl := World.block_lt_of_cell? w _ hu
                rw [HZ.out] at hB
                have hu' := (hB.cell (p := ⟨b, off + j, none⟩) hbl).trans hu
                have HI := Lib.hid (hI.below hB)
                rw [← HZ.out] at hB
                clear hc hu hI hbl
                generalize R.getD j [] = A at HI
                have HT := Lib.hid hT
                have HB := Lib.hid hB
                clear hT hB
                go_wp2_with fail
                go_cut [9] (fun s9 wx => ∃ q g cap L, s9 = .pointer (some ⟨q, 0, none⟩) ∧ wr.heap.size ≤ q ∧ wr.heap.size ≤ g ∧ SetAt wx q g cap n L ∧ wr.grownBy wx none)
                case first =>
                  go_region_with (first
                    | (go_at_call 6; refine (HF.out _ h1 h2).mono ?_; rintro e w' ⟨rfl, rfl⟩)
                    | (go_at_call 7; refine (of_any n _ A _ hn (HI.out.kept (gb_drewN wr 1 none))).mono ?_; rintro e w' ⟨q, g, cap, rfl, hq, hg, hS, hG⟩))
                  all_goals
                    go_wp2_with fail
                    go_meet
                    exact ⟨q, g, cap, _, rfl, hq, hg, hS, gb_trans (gb_drewN wr 1 none) hG (Or.inl rfl)⟩
                case rest =>
                  obtain ⟨q, g, cap, L, rfl, hq, hg, hS, hG⟩ := hcut
                  have hZs : Z ≤ wr.heap.size := by rw [HZ.out]; exact HB.out.size
                  have hT0 := HT.out.kept_none hG
                  have hB0 := HB.out.grown hG hZs (fun k e => by cases e)
                  have hf0 : ∀ e ∈ es, e.2.1 ≠ g := fun e he => by have := HT.out.glt e he; omega
                  have hgs : wr.heap.size ≤ wc.heap.size := hG.size
                  clear hG
                  go_wp2_with fail
                  refine (tlen_any p mb n v es wc hT0.at').mono ?_
                  rintro e w' ⟨rfl, rfl⟩
                  go_wp2_with fail
                  refine (intern_any p mb n q g cap v es L wc hT0.at' hS (by omega)).mono ?_
                  rintro e w2 ⟨v', es', i, bb, x, rfl, hT', hx, hxL, hfind, hbb, hlen', hile, hes', hv', hFr⟩
                  have hns := hT0.at'.notSet hS.raw
                  have hS2 := hFr.set hS hns.1 hns.2
                  have hglt := hS.glt
                  have hzv : ∀ k, v'.ownBlock = some k → Z ≤ k := by
                    intro k hk
                    rcases hv' k hk with h | h
                    · exact hT0.zv k h
                    · omega
                  have hze : ∀ e ∈ es', Z ≤ e.1 ∧ Z ≤ e.2.1 := by
                    intro e he
                    rcases hes' e he with h | h
                    · exact hT0.ze e h
                    · omega
                  have hT2 : TabZ Z w2 p mb v' n es' := ⟨hT', hT0.zp, hT0.zm, hzv, hze⟩
                  have hB2 := hB0.trans (hFr.below hT0.own (by omega))
                  have hf2 : ∀ e ∈ es', e.2.1 ≠ g := fun e he => by
                    rcases hes' e he with h | h
                    · exact hf0 e h
                    · omega
                  have hs2 : wc.heap.size ≤ w2.heap.size := hFr.size
                  clear hT0 hB0 hf0 hns hS hT' hes' hv' hFr hzv hze
                  have hli : es'.length ≤ j + 1 := by omega
                  obtain rfl : bb = ((i : Int) == (es.length : Int)) := by
                    rw [hbb]
                    by_cases hie : i = es.length
                    · simp [hie]
                    · have : ((i : Int) == (es.length : Int)) = false := by rw [beq_eq_false_iff_ne]; omega
                      rw [this]; simp [hie]
                  have t2 : ((es.length : Int) < (i : Int) + 1 ∧ ((es'.length : Int) != (i : Int) + 1) = false) ∨ ((i : Int) + 1 ≤ (es.length : Int) ∧ ((es'.length : Int) != (es.length : Int)) = false) := by
                    by_cases hie : i = es.length
                    · left; exact ⟨by omega, by rw [bne_eq_false_iff_eq]; omega⟩
                    · right; exact ⟨by omega, by rw [bne_eq_false_iff_eq]; omega⟩
                  have t3 : ((i : Int) != (i : Int)) = false := by simp
                  have HX := Lib.hid (And.intro hx (And.intro hxL (And.intro hfind hT2)))
                  have HS2 := Lib.hid hS2
                  have HB2 := Lib.hid hB2
                  have HF2 := Lib.hid hf2
                  clear hx hxL hfind hT2 hbb hlen' hS2 hB2 hf2
                  rcases t2 with ⟨t5, t2⟩ | ⟨t5, t2⟩
                  all_goals
                    go_wp2_with fail
                    refine (tlen_any p mb n v' es' w2 HX.out.2.2.2.at').mono ?_
                    rintro e w' ⟨rfl, rfl⟩
                    go_wp2_with fail
                    have hfa := find_any p mb n q g cap v' es' L w2 HX.out.2.2.2.at' HS2.out (by omega)
                    rw [HX.out.2.2.1] at hfa
                    refine hfa.mono ?_
                    rintro e w3 ⟨rfl, hG3⟩
                    clear hfa
                    have hT3 := HX.out.2.2.2.kept_none hG3
                    have hS3 := HS2.out.kept hG3 (by simp) (by simp)
                    have hB3 := HB2.out.grown hG3 (by omega) (fun k e => by cases e)
                    have hs3 : w2.heap.size ≤ w3.heap.size := hG3.size
                    clear hG3 t2 t5
                    go_wp2_with fail
                    refine (at_some i p mb n v' es' x w3 hT3.at' HX.out.1 (by omega)).mono ?_
                    rintro e w4 ⟨q2, g2, cap2, M, rfl, hq2, hg2, hA, HM, hG4⟩
                    have hT4 := hT3.kept_none hG4
                    have hS4 := hS3.kept hG4 (by simp) (by simp)
                    have hB4 := hB3.grown hG4 (by omega) (fun k e => by cases e)
                    have hs4 : w3.heap.size ≤ w4.heap.size := hG4.size
                    have hne2 : g ≠ g2 := by have := hS3.glt; omega
                    have hf4 : ∀ e ∈ es', e.2.1 ≠ g2 := fun e he => by have := hT3.glt e he; omega
                    clear hT3 hS3 hB3 hG4
                    go_wp2_with fail
                    refine (same_h hA hS4 true (by show (n == n && M == L) = true; rw [HM.out, HX.out.2.1]; simp)).mono ?_
                    rintro e w5 ⟨rfl, hG5⟩
                    have hT5 := hT4.kept_none hG5
                    have hS5 := hS4.kept hG5 (by simp) (by simp)
                    have hA5 := hA.kept hG5 (by simp) (by simp)
                    have hB5 := hB4.grown hG5 (by omega) (fun k e => by cases e)
                    have hs5 : w4.heap.size ≤ w5.heap.size := hG5.size
                    clear hT4 hS4 hA hB4 hG5
                    go_wp2_with fail
                    refine (put_any _ _ _ _ _ _ _ hS5).mono ?_
                    rintro e w6 ⟨rfl, hS6, hG6⟩
                    have hT6 := hT5.kept_set hS5 HF2.out hG6
                    have hA6 := hA5.kept hG6 (fun e => hA5.raw.ne hS5.raw (Option.some.inj e).symm) (fun e => hne2 (Option.some.inj e))
                    have hB6 := hB5.grown hG6 (by omega) (fun k e => by cases e; omega)
                    have hs6 : w5.heap.size ≤ w6.heap.size := hG6.size
                    clear hT5 hA5 hB5 hG6 hS5
                    go_wp2_with fail
                    refine (cut_any _ _ _ _ _ _ _ hS6).mono ?_
                    rintro e w7 ⟨rfl, hS7, hG7⟩
                    have hT7 := hT6.kept_set hS6 HF2.out hG7
                    have hA7 := hA6.kept hG7 (fun e => hA6.raw.ne hS6.raw (Option.some.inj e).symm) (fun e => hne2 (Option.some.inj e))
                    have hB7 := hB6.grown hG7 (by omega) (fun k e => by cases e; omega)
                    have hs7 : w6.heap.size ≤ w7.heap.size := hG7.size
                    clear hT6 hA6 hB6 hG7 hS6 hS7
                    go_wp2_with fail
                    refine (cut_any _ _ _ _ _ _ _ hA7).mono ?_
                    rintro e w8 ⟨rfl, hA8, hG8⟩
                    have hT8 := hT7.kept_set hA7 hf4 hG8
                    have hB8 := hB7.grown hG8 (by omega) (fun k e => by cases e; omega)
                    have hs8 : w7.heap.size ≤ w8.heap.size := hG8.size
                    clear hT7 hB7 hG8 hA7 hA8
                    go_wp2_with fail
                    refine (at_some i p mb n v' es' x w8 hT8.at' HX.out.1 (by omega)).mono ?_
                    rintro e w9 ⟨q3, g3, cap3, M3, rfl, hq3, hg3, hA9, HM3, hG9⟩
                    have hT9 := hT8.kept_none hG9
                    have hB9 := hB8.grown hG9 (by omega) (fun k e => by cases e)
                    have hs9 : w8.heap.size ≤ w9.heap.size := hG9.size
                    clear hT8 hB8 hG9
                    go_wp2_with fail
                    have hfa := find_any p mb n q3 g3 cap3 v' es' M3 w9 hT9.at' hA9 (by omega)
                    rw [HM3.out, HX.out.2.1, HX.out.2.2.1] at hfa
                    refine hfa.mono ?_
                    rintro e w10 ⟨rfl, hG10⟩
                    have hT10 := hT9.kept_none hG10
                    have hB10 := hB9.grown hG10 (by omega) (fun k e => by cases e)
                    clear hT9 hB9 hG10 hfa
                    go_wp2_with fail
                    go_roundw
                    case rel => exact ⟨j + 1, v', es', by omega, by go_num, hT10, hli, hB10⟩
                    case measure => simp [intOf]; omega
            · obtain rfl : j = R.length := by omega
              have hZs : Z ≤ wr.heap.size := by have := hB.size; rw [HZ.out]; exact this
              have hnd := Lib.hid hT.at'.nodup
              clear HR hlt
              go_wp2_with fail
              go_loopw [15] (fun i wr2 => ∃ k : Nat, k ≤ es.length ∧ i = .int .i64 (k : Int) ∧ TabZ Z wr2 p mb v n es ∧ Below Z w wr2 ∧ Z ≤ wr2.heap.size) (fun i _ => es.length - (intOf i).toNat)
              case atStart => exact ⟨0, by omega, rfl, hT, hB, hZs⟩
              case round =>
                clear hT hB hZs
                obtain ⟨k, hk, rfl, hT, hB, hZs⟩ := hrel
                by_cases hlt : k < es.length
                · go_wp2_with fail
                  refine (tlen_any p mb n v es _ hT.at').mono ?_
                  rintro e w' ⟨rfl, rfl⟩
                  go_wp2_with fail
                  obtain ⟨wo, rfl⟩ : ∃ wo : World, wo = wr := ⟨_, rfl⟩
                  go_loopw [16] (fun i wr3 => ∃ m : Nat, m ≤ k ∧ i = .int .i64 (m : Int) ∧ TabZ Z wr3 p mb v n es ∧ Below Z w wr3 ∧ Z ≤ wr3.heap.size) (fun i _ => k - (intOf i).toNat)
                  case atStart => exact ⟨0, by omega, rfl, hT, hB, hZs⟩
                  case round =>
                    clear hT hB hZs
                    obtain ⟨m, hm, rfl, hT, hB, hZs⟩ := hrel
                    by_cases hmk : m < k
                    · obtain ⟨x, hx⟩ : ∃ x, es[k]? = some x := ⟨_, List.getElem?_eq_getElem hlt⟩
                      obtain ⟨y, hy⟩ : ∃ y, es[m]? = some y := ⟨_, List.getElem?_eq_getElem (by omega)⟩
                      have hxy : x.2.2.2 ≠ y.2.2.2 := by
                        intro e
                        have h1 : (rowsOf es)[k]? = some x.2.2.2 := by rw [rowsOf, List.getElem?_map, hx]; rfl
                        have h2 : (rowsOf es)[m]? = some x.2.2.2 := by rw [rowsOf, List.getElem?_map, hy, e]; rfl
                        have hl : k < (rowsOf es).length := by simpa [rowsOf] using hlt
                        have := (List.getElem?_inj hl hnd.out).1 (h1.trans h2.symm)
                        omega
                      have HX := Lib.hid (And.intro hx (And.intro hy hxy))
                      clear hx hy hxy
                      go_wp2_with fail
                      refine (at_some k p mb n v es x _ hT.at' HX.out.1 (by omega)).mono ?_
                      rintro e w2 ⟨q, g, cp, M, rfl, hq, hg, hA, HM, hG⟩
                      have hT2 := hT.kept_none hG
                      have hB2 := hB.grown hG hZs (fun k e => by cases e)
                      have hs2 := hG.size
                      clear hT hB hG
                      go_wp2_with fail
                      refine (at_some m p mb n v es y _ hT2.at' HX.out.2.1 (by omega)).mono ?_
                      rintro e w3 ⟨q2, g2, cp2, M2, rfl, hq2, hg2, hA2, HM2, hG⟩
                      have hA3 := hA.kept hG (by simp) (by simp)
                      have hT3 := hT2.kept_none hG
                      have hB3 := hB2.grown hG (by omega) (fun k e => by cases e)
                      have hs3 := hG.size
                      clear hT2 hB2 hG hA
                      go_wp2_with fail
                      refine (same_h hA3 hA2 false (by show (n == n && M == M2) = false; rw [HM.out, HM2.out]; simp [HX.out.2.2])).mono ?_
                      rintro e w4 ⟨rfl, hG⟩
                      have hT4 := hT3.kept_none hG
                      have hB4 := hB3.grown hG (by omega) (fun k e => by cases e)
                      have hs4 := hG.size
                      clear hT3 hB3 hG hA3 hA2
                      go_wp2_with fail
                      go_roundw
                      case rel => exact ⟨m + 1, by omega, by go_num, hT4, hB4, by omega⟩
                      case measure => simp [intOf]; omega
                    · obtain rfl : m = k := by omega
                      go_wp2_with fail
                      go_roundw
                      case rel => exact ⟨m + 1, by omega, by go_num, hT, hB, hZs⟩
                      case measure => simp [intOf]; omega
                · obtain rfl : k = es.length := by omega
                  go_wp2_with fail
                  refine (tlen_any p mb n v es _ hT.at').mono ?_
                  rintro e w' ⟨rfl, rfl⟩
                  go_wp2_with fail
                  refine (tlen_any p mb n v es _ hT.at').mono ?_
                  rintro e w' ⟨rfl, rfl⟩
                  go_wp2_with fail
                  refine (at_none _ p mb n v es _ hT.at' (by omega) (by omega)).mono ?_
                  rintro e w' ⟨rfl, rfl⟩
                  go_wp2_with fail
                  refine (at_none _ p mb n v es _ hT.at' (by omega) (by omega)).mono ?_
                  rintro e w' ⟨rfl, rfl⟩
                  go_wp2_with fail
                  go_ret
                  exact ⟨rfl, by rw [← HZ.out]; exact hB⟩
end Go.Proofs.Ytaagbdncfcdfcaa
