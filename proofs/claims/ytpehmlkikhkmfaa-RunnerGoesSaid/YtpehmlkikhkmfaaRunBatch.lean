/- Runner: a batch is its steps: the walk. -/
import Derived.Test.YtpehmlkikhkmfaaRunReads
namespace Go.Proofs.Ytpehmlkikhkmfaa
open Go.RowKit

theorem mErr_two (P : List ByteArray) (R : List (List Int)) (O : List Int) : mErr P R O = 0 ∨ mErr P R O = 140 := by
  unfold mErr
  split
  · exact Or.inl rfl
  · exact Or.inr rfl

theorem runL_at (P : List ByteArray) (R : List (List Int)) (O : List Int) (E : List (List ByteArray)) (n k : Nat) (hk : k < n) : ((runL P R O E n).map ov)[k]? = some (.int .u8 (O.getD (goS P R (E.take (k + 1))) 0)) := by
  unfold runL
  rw [List.getElem?_map, List.getElem?_map, List.getElem?_range hk]
  rfl
theorem live_off {w : World} {Z p Z' e n : Nat} {v : Value} {xs : List Value} {P : List ByteArray} {R : List (List Int)} {O : List Int} {F : List Bool} {s : Nat} (h : Live w Z p P R O F s) (hr : w.ownsRow Z' e 1 v n xs) (he : e ≠ 106) : v.ownBlock = none ∨ v.ownBlock ≠ some p := by
  obtain ⟨c, fr, hb⟩ := h.blk
  exact own_off hr hb he

set_option maxRecDepth 100000 in
set_option maxHeartbeats 4000000 in
theorem batch_walk (vp vn vo ve : Value) (P : List ByteArray) (R : List (List Int)) (O : List Int) (E : List (List ByteArray)) (w : World) (hM : MooreIn w vp vn vo P R O) (hev : EventsAt w ve E) (hsh : ∀ k, k < E.length → Short (E.getD k [])) :
    Calls Try.prog 6 #[.agg #[vp, vn, vo], ve] w fun e w' => e = .returned (.bool true) ∧ w.grownBy w' none := by
  have hg := World.grownBy_alloc w (.cells #[vp, vn, vo] 27) none
  have c0 := cell3_0 w vp vn vo 27
  have c1 := cell3_1 w vp vn vo 27
  have c2 := cell3_2 w vp vn vo 27
  have hOM := ofmoore_any (hM.props.kept hg) hM.short (hM.next.kept hg) hM.slice (by have := hM.len; omega)
  have hm0 : capN (sizes P) + capN (lens R) + O.length ≤ 500000000000000 := by
    have h1 := short_le hM.short
    have h2 := rows_le hM.next
    have h3 := hM.len
    omega
  have hmO : O.length ≤ capN (sizes P) + capN (lens R) + O.length := by omega
  generalize capN (sizes P) + capN (lens R) + O.length = m0 at hOM hm0 hmO
  have HOM := Lib.hid hOM
  have HM := Lib.hid hM
  have HEv := Lib.hid hev
  have HSh := Lib.hid hsh
  obtain ⟨ae, ce, rfl, hce, hel, _⟩ := hev
  clear hM hOM hsh
  go_enter Try.func6, Try.ntmps6
  go_wp2_with fail
  generalize hw1 : w.alloc (.cells #[vp, vn, vo] 27) = w1 at c0 c1 c2 hg HOM
  clear hw1
  go_wp2_with (go_at_call 10; refine HOM.out.mono ?_; rintro e w2 ⟨rfl, hg2⟩)
  have hG2 := gb_trans hg hg2 (Or.inl rfl)
  have d0 := hg2.cell c0 (by simp)
  have d1 := hg2.cell c1 (by simp)
  have d2 := hg2.cell c2 (by simp)
  clear c0 c1 c2 hg2 HOM
  go_loop [6, 5] (fun i c => ∃ (k n : Nat), k ≤ E.length ∧ i = .int .i64 (k : Int) ∧ c = .int .i64 (n : Int) ∧ n ≤ 1000000000000000 ∧ m0 + k ≤ n) (fun i _ => E.length - (intOf i).toNat)
  case atStart => exact ⟨0, m0, by omega, rfl, rfl, by omega, by omega⟩
  case round =>
    obtain ⟨k, n, hk, rfl, rfl, hn, hmn⟩ := hrel
    by_cases hlt : k < E.length
    · by_cases hb : n ≤ 100000
      · obtain ⟨_, _, hve, _, _, hn3⟩ := HEv.out.kept hG2
        cases hve
        rcases hn3 with rfl | ⟨be, offe, rfl, hn3⟩
        · exact absurd hlt (by simp)
        obtain ⟨u, hu, hTx⟩ := hn3 k hlt
        have HOT := Lib.hid (oftexts_any hTx (HSh.out k hlt))
        have hxl := short_le (HSh.out k hlt)
        generalize capN (sizes (E.getD k [])) = x at HOT hxl
        have hkI : (k : Int) < (E.length : Int) := by omega
        have hbI : (n : Int) ≤ 100000 := by omega
        have e1 : wrap64 ((n : Int) + 1) = (n : Int) + 1 := IntWalk.wrap64_in _ ⟨by omega, by omega⟩
        have e2 : wrap64 ((n : Int) + 1 + (x : Int)) = (n : Int) + 1 + (x : Int) := IntWalk.wrap64_in _ ⟨by omega, by omega⟩
        clear hn3 hTx
        go_wp2_with (go_at_call 19; refine HOT.out.mono ?_; rintro e w3 ⟨rfl, _, rfl⟩)
        go_round
        case rel => exact ⟨k + 1, n + 1 + x, by omega, by go_num, by go_num, by omega, by omega⟩
        case measure => simp [intOf]; omega
      · have hkI : (k : Int) < (E.length : Int) := by omega
        have hbI : ¬ (n : Int) ≤ 100000 := by omega
        have hbJ : (100000 : Int) < (n : Int) := by omega
        go_wp2_with fail
        go_ret
        exact ⟨rfl, hG2⟩
    · obtain rfl : k = E.length := by omega
      by_cases hb : n ≤ 100000
      · have hbI : ¬ (100000 : Int) < (n : Int) := by omega
        have hbK : (n : Int) ≤ 100000 := by omega
        have hMa := (HM.out.mach (by omega)).kept hG2
        have hOl : O.length ≤ 200000 := by omega
        have hEl : E.length ≤ 1000000 := by omega
        clear hmn hmO hm0 hn hlt hk HSh hb
        go_wp2_with (go_at_call 9; refine (known_any w2).mono ?_; rintro e w3 ⟨rfl, hg3⟩; have f0 := hg3.cell d0 (by simp); have f1 := hg3.cell d1 (by simp); have f2 := hg3.cell d2 (by simp))
        have hM3 := hMa.kept hg3
        have hG3 := gb_trans hG2 hg3 (Or.inl rfl)
        clear d0 d1 d2 hMa hg3
        rcases mErr_two P R O with hE | hE
        · have HR := Lib.hid (run_yes vp vn vo (.slice ae E.length ce) P R O E w3 hM3 hE hOl (HEv.out.kept hG3) hEl)
          have HM3 := Lib.hid hM3
          have HE := Lib.hid hE
          clear hM3 hE
          go_wp2_with (go_at_call 21; refine HR.out.mono ?_; rintro e w4 ⟨vl, rfl, hl4, hg4⟩; obtain ⟨al, cl, rfl⟩ := own_val hl4; have f04 := hg4.cell f0 (by simp); have f14 := hg4.cell f1 (by simp); have f24 := hg4.cell f2 (by simp))
          have HN4 := Lib.hid (new_live vp vn vo w4 (HM3.out.kept hg4) HE.out hOl)
          have hG4 := gb_trans hG3 hg4 (Or.inl rfl)
          have hl4' := own_base hl4 hG3.size
          clear hl4 f0 f1 f2 HR
          go_wp2_with (go_at_call 13; refine HN4.out.mono ?_; rintro e w5 ⟨p, F, rfl, hL5, _, hg5, hp5⟩; have f05 := hg5.cell f04 (by simp); have f15 := hg5.cell f14 (by simp); have f25 := hg5.cell f24 (by simp))
          have HN5 := Lib.hid (new_live vp vn vo w5 ((HM3.out.kept hg4).kept hg5) HE.out hOl)
          have hG5 := gb_trans hG4 hg5 (Or.inl rfl)
          have hl5 := hl4'.kept hg5 (Classical.em _)
          have hpw : w.heap.size ≤ p := Nat.le_trans hG4.size hp5
          clear f04 f14 f24 HN4 hl4'
          go_wp2_with (go_at_call 13; refine HN5.out.mono ?_; rintro e w6 ⟨q, F2, rfl, hL6, _, hg6, hp6⟩)
          have hG6 := gb_trans hG5 hg6 (Or.inl rfl)
          have hl6 := hl5.kept hg6 (Classical.em _)
          have hK6 := hL5.kept hg6
          have hpq : p ≠ q := by have := hL5.lt; omega
          have hqw : w.heap.size ≤ q := Nat.le_trans hG5.size hp6
          generalize w5.heap.size = Z5 at hK6
          generalize w6.heap.size = Z6 at hL6
          have HPQ := Lib.hid (And.intro hpq (And.intro hpw hqw))
          clear f05 f15 f25 HN5 hl5 hL5 hp5 hp6 hpw hqw hpq hg5 hg6 hg4 hG4 hG5 HM3 hG2 hG3 hg HM
          go_loopw [14] (fun i wr => ∃ (k : Nat), k ≤ E.length ∧ i = .int .i64 (k : Int) ∧ wr.ownsRow w.heap.size 59 1 (.slice al E.length cl) E.length ((runL P R O E E.length).map ov) ∧ Live wr Z5 p P R O F (goS P R (E.take k)) ∧ Live wr Z6 q P R O F2 (goS P R (E.take k)) ∧ w.grownBy wr none) (fun i _ => E.length - (intOf i).toNat)
          case atStart => exact ⟨0, by omega, rfl, hl6, hK6, hL6, hG6⟩
          case round =>
            obtain ⟨k, hk, rfl, hl, hK, hL, hG⟩ := hrel
            by_cases hlt : k < E.length
            · obtain ⟨_, _, hve, _, _, hn3⟩ := HEv.out
              cases hve
              rcases hn3 with rfl | ⟨be, offe, rfl, hn3⟩
              · exact absurd hlt (by simp)
              obtain ⟨u, hu0, hTx0⟩ := hn3 k hlt
              clear hn3
              obtain ⟨gl, capl, hve2, _, hcl⟩ := own_cell hl k hlt
              cases hve2
              rw [runL_at P R O E E.length k hlt] at hcl
              have HXk := Lib.hid (runL_at P R O E E.length k hlt)
              have hTk : nextF P R (goS P R (E.take k)) (E.getD k []) = goS P R (E.take (k + 1)) := (goS_take P R E k hlt).symm
              have HEvt := Lib.hid (live_event hK HE.out (hTx0.kept hG))
              rw [hTk] at HEvt
              obtain ⟨s2, hs2⟩ : ∃ s2, Hid (s2 = goS P R (E.take (k + 1))) := ⟨_, rfl⟩
              rw [← hs2.out] at HEvt hcl hTk HXk
              have HSt : Hid (∀ w7, Live w7 Z6 q P R O F2 (goS P R (E.take k)) → letF (bitF P) (E.getD k []) < 65536 → Calls Try.prog 29 #[.pointer (some ⟨q, 0, none⟩), .int .u16 (letF (bitF P) (E.getD k []) : Int)] w7 fun e w' => e = .returned (.int .u8 (O.getD s2 0)) ∧ Live w' Z6 q P R O F2 s2 ∧ w7.grownBy w' (some q)) := Lib.hid fun w7 h7 hl7 => by
                have := live_step h7 HE.out (letF (bitF P) (E.getD k [])) (by omega)
                rw [show stepF R P.length (goS P R (E.take k)) (letF (bitF P) (E.getD k [])) = s2 from hTk] at this
                exact this
              have HLe : Hid (∀ w7, Live w7 Z6 q P R O F2 (goS P R (E.take k)) → w.grownBy w7 none → Calls Try.prog 30 #[.pointer (some ⟨q, 0, none⟩), u] w7 fun e w' => e = .returned (.int .u16 (letF (bitF P) (E.getD k []) : Int)) ∧ letF (bitF P) (E.getD k []) < 65536 ∧ w7 = w') := Lib.hid fun w7 h7 hg7 => live_letter h7 (hTx0.kept hg7)
              have HGo : Hid (∀ w8, Live w8 Z6 q P R O F2 s2 → Calls Try.prog 31 #[.pointer (some ⟨q, 0, none⟩), .int .i64 (s2 : Int)] w8 fun e w' => e = .returned (.int .i64 0) ∧ Live w' Z6 q P R O F2 s2 ∧ w8.grownBy w' (some q)) := Lib.hid fun w8 h8 => live_goto h8 s2 h8.st
              have HVe : Hid (∀ w8, Live w8 Z6 q P R O F2 s2 → Calls Try.prog 32 #[.pointer (some ⟨q, 0, none⟩)] w8 fun e w' => e = .returned (.int .u8 (O.getD s2 0)) ∧ Live w' Z6 q P R O F2 s2 ∧ w8.grownBy w' none) := Lib.hid fun w8 h8 => live_verdict h8
              generalize goS P R (E.take k) = s1 at hK hL HSt HLe
              generalize O.getD s2 0 = x at HEvt hcl HSt HVe HXk
              generalize letF (bitF P) (E.getD k []) = l at HSt HLe
              have hu := hG.cell hu0 (by simp)
              have hkI : (k : Int) < (E.length : Int) := by omega
              obtain ⟨au, cu, nu, rfl⟩ : ∃ au cu nu, u = .slice au nu cu := by obtain ⟨au, cu, e, _⟩ := hTx0; exact ⟨au, cu, _, e⟩
              have hglw : gl < wr.heap.size := World.block_lt_of_cell? wr _ hcl
              have hbeu : be < w.heap.size := World.block_lt_of_cell? w _ hu0
              clear hTx0 hTk
              have HK := Lib.hid hK
              have HL := Lib.hid hL
              have Hl := Lib.hid hl
              have HG := Lib.hid hG
              clear hK hL hl hG
              go_wp2_with (go_at_call 28; refine HEvt.out.mono ?_; rintro e w7 ⟨rfl, hK7, hg7⟩; have HL7 := Lib.hid (HL.out.far HK.out HPQ.out.1.symm hg7); have HG7 := Lib.hid (gb_trans HG.out hg7 (Or.inr (Or.inr ⟨p, rfl, HPQ.out.2.1⟩))); have hu7 := HG7.out.cell hu0 (by simp); have Hl7 := Lib.hid (Hl.out.kept hg7 (live_off HK.out Hl.out (by decide))))
              have HK7 := Lib.hid hK7
              clear hK7
              go_wp2_with (go_at_call 30; refine (HLe.out _ HL7.out HG7.out).mono ?_; rintro e w8 ⟨rfl, hlt8, rfl⟩)
              go_wp2_with (go_at_call 29; refine (HSt.out _ HL7.out hlt8).mono ?_; rintro e w8 ⟨rfl, hL8, hg8⟩; have HK8 := Lib.hid (HK7.out.far HL7.out HPQ.out.1 hg8); have Hl8 := Lib.hid (Hl7.out.kept hg8 (live_off HL7.out Hl7.out (by decide))); have hcl8 := (Hl8.out.cellAt k (by omega)).trans HXk.out; have HG8 := Lib.hid (gb_trans HG7.out hg8 (Or.inr (Or.inr ⟨q, rfl, HPQ.out.2.2⟩))); have HL8 := Lib.hid hL8; clear hL8)
              go_wp2_with (go_at_call 18; refine (live_state HL8.out).mono ?_; rintro e w9 ⟨rfl, rfl⟩)
              go_wp2_with (go_at_call 31; refine (HGo.out _ HL8.out).mono ?_; rintro e w9 ⟨rfl, hL9, hg9⟩; have HK9 := Lib.hid (HK8.out.far HL8.out HPQ.out.1 hg9); have Hl9 := Lib.hid (Hl8.out.kept hg9 (live_off HL8.out Hl8.out (by decide))); have HG9 := Lib.hid (gb_trans HG8.out hg9 (Or.inr (Or.inr ⟨q, rfl, HPQ.out.2.2⟩))); have HL9 := Lib.hid hL9; clear hL9)
              go_wp2_with (go_at_call 32; refine (HVe.out _ HL9.out).mono ?_; rintro e w10 ⟨rfl, hL10, hg10⟩; have HL10 := Lib.hid hL10; clear hL10)
              exact ⟨⟨k + 1, by omega, by go_num, Hl9.out.kept hg10 (Classical.em _), by rw [← hs2.out]; exact HK9.out.kept hg10, by rw [← hs2.out]; exact HL10.out, gb_trans HG9.out hg10 (Or.inl rfl)⟩, by simp [intOf]; omega⟩
            · obtain rfl : k = E.length := by omega
              go_wp2_with fail
              go_ret
              exact ⟨rfl, hG⟩
        · have HR := Lib.hid (run_no vp vn vo (.slice ae E.length ce) P R O w3 hM3 hE)
          go_wp2_with (go_at_call 21; refine HR.out.mono ?_; rintro e w4 ⟨rfl, hg4⟩; have f04 := hg4.cell f0 (by simp); have f14 := hg4.cell f1 (by simp); have f24 := hg4.cell f2 (by simp))
          have HN4 := Lib.hid (new_no vp vn vo P R O w4 (hM3.kept hg4) hE)
          go_wp2_with (go_at_call 13; refine HN4.out.mono ?_; rintro e w5 ⟨rfl, hg5⟩; have f05 := hg5.cell f04 (by simp); have f15 := hg5.cell f14 (by simp); have f25 := hg5.cell f24 (by simp))
          have HN5 := Lib.hid (new_no vp vn vo P R O w5 ((hM3.kept hg4).kept hg5) hE)
          go_wp2_with (go_at_call 13; refine HN5.out.mono ?_; rintro e w6 ⟨rfl, hg6⟩)
          go_ret
          exact ⟨by simp, gb_trans (gb_trans (gb_trans hG3 hg4 (Or.inl rfl)) hg5 (Or.inl rfl)) hg6 (Or.inl rfl)⟩
      · have hbJ : (100000 : Int) < (n : Int) := by omega
        go_wp2_with fail
        go_ret
        exact ⟨rfl, hG2⟩
end Go.Proofs.Ytpehmlkikhkmfaa
