/- LexPlaces, walked. -/
import Derived.Test.YtlmpeddacadfkaaLexRows
import Derived.Test.YtlmpeddacadfkaaRefLexPart
import Derived.Test.YtlmpeddacadfkaaLexOwn
namespace Go.Proofs.Ytlmpeddacadfkaa
open Go.RowKit Go.Shelf

theorem not_blank {c : Int} (h : blankB c = true) (h0 : 0 ≤ c) (h1 : c ≤ 255) : c = 32 ∨ c = 9 ∨ c = 10 ∨ c = 13 := by
  rw [blankB_eq h0 h1] at h
  simpa using h
theorem text_size {s : ByteArray} {k : Nat} {t : Tok} (h : TokAt s k t) : t.text.size ≤ s.size := by
  have h1 := congrArg ByteArray.size h.writ
  rw [size_ext h.within] at h1
  have h2 : t.text.size ≤ (writF s t).size := by
    unfold writF
    split
    · rw [ByteArray.size_append, ByteArray.size_append]; omega
    · exact Nat.le_refl _
  have := h.within
  omega
set_option maxRecDepth 100000 in
set_option maxHeartbeats 4000000 in
theorem walk_Places (s : ByteArray) (w : World) : Calls Try.prog 7 #[.string s] w fun e w' => e = .returned (.bool true) ∧ Below w.heap.size w w' := by
  by_cases hs : s.size ≤ 16777216
  · have hsI : ¬ (s.size : Int) > 16777216 := by omega
    have HTk := Lib.hid (tokens_any s · (by omega))
    have HC := Lib.hid (chain_all s (s.size + 1) 0 (by omega) (Nat.zero_le _))
    have HSt := Lib.hid (stop_at s (s.size + 1) 0 (by omega) (Nat.zero_le _))
    obtain ⟨L, er, at', hA⟩ : ∃ L er at', allT s 0 = (L, er, at') := ⟨_, _, _, rfl⟩
    rw [hA] at HTk HC HSt
    clear hA
    by_cases h0 : er = 0
    · subst h0
      have HCh := Lib.hid (HC.out rfl)
      have HAt := Lib.hid (chain_at L 0 HCh.out)
      have hend := chain_end HCh.out
      have HEn := Lib.hid hend
      have HP0 : Hid (prevE L 0 0 = 0) := Lib.hid rfl
      clear HC HSt hend
      go_enter Try.func7, Try.ntmps7
      go_wp2_with (first
        | (go_at_call 10; refine (works_any w).mono ?_; rintro e w1 ⟨rfl, hg1⟩)
        | (go_at_call 13; refine (HTk.out _).mono ?_; rintro e w2 ⟨⟨v, rfl, hv⟩, hg2⟩; replace hv := hv.resolve_right (fun h => h.1 rfl); have HV := Lib.hid (own_row hv.2); obtain ⟨a, cap, rfl⟩ := own_val3 hv.2; clear hv))
      have HB2 := Lib.hid (below_gb hg1 hg2)
      obtain ⟨_, _, hva, hcap, hcm, _⟩ := HV.out
      cases hva
      unfold maxLen at hcm
      clear hg1 hg2
      go_loopw [7, 8] (fun en i wr => ∃ k : Nat, k ≤ L.length ∧ i = .int .i64 (k : Int) ∧ en = .int .i64 ((prevE L 0 k : Nat) : Int) ∧ prevE L 0 k ≤ s.size ∧ Hid (w2.grownBy wr none)) (fun _ i _ => L.length - (intOf i).toNat)
      case atStart => exact ⟨0, Nat.zero_le _, rfl, rfl, Nat.zero_le _, Lib.hid (gb_refl _ _)⟩
      case round =>
        obtain ⟨k, hk, rfl, rfl, hpe, HG⟩ := hrel
        by_cases hlt : k < L.length
        · obtain ⟨_, _, e1, _, _, hr1⟩ := HV.out.grown HG.out
          cases e1
          obtain ⟨g1, rfl, k0, k1, k2, k3⟩ := hr1 k hlt
          have HT := (HAt.out k hlt)
          obtain ⟨hT, hfin⟩ := HT
          have hpn : prevE L 0 (k + 1) = (L.getD k tok0).behind := by unfold prevE; rw [if_neg (by omega)]; rfl
          generalize L.getD k tok0 = t at k1 k2 k3 hT hfin hpn
          generalize hP : prevE L 0 k = p at hpe hT
          clear hP
          have ha := hT.ahead
          have hu := hT.upto
          have hw := hT.within
          have HBl := Lib.hid hT.blanks
          have hts := text_size hT
          have HWc := Lib.hid (written_any s t · (by unfold maxLen; omega) (by omega))
          rw [hT.writ] at HWc
          obtain ⟨n, hn⟩ : ∃ n, t.behind = t.at' + n := ⟨t.behind - t.at', by omega⟩
          rw [hn] at HWc hw hpn
          have hzn : (s.extract t.at' (t.at' + n)).size = n := by rw [size_ext hw]; omega
          have htn : ((t.at' : Int) + (n : Int)).toNat = t.at' + n := by omega
          have hle : (t.at' : Int) ≤ (t.at' : Int) + (n : Int) := by omega
          have hwI : (t.at' : Int) + (n : Int) ≤ (s.size : Int) := by omega
          have HPn := Lib.hid hpn
          have hself : (s.extract t.at' (t.at' + n)).toList == (s.extract t.at' (t.at' + n)).toList := by simp
          clear hn hu hpn
          have hkI : (k : Int) < (L.length : Int) := by omega
          have hx1 : ¬ (t.at' : Int) < (p : Int) := by omega
          have hx2 : ¬ (t.at' : Int) > (s.size : Int) := by omega
          clear hT hr1
          obtain ⟨wo, rfl⟩ : ∃ wo : World, wo = wr := ⟨_, rfl⟩
          go_wp2_with fail
          go_loop [9] (fun j => ∃ m : Nat, p ≤ m ∧ m ≤ t.at' ∧ j = .int .i64 (m : Int)) (fun j => t.at' - (intOf j).toNat)
          case atStart => exact ⟨p, Nat.le_refl _, ha, rfl⟩
          case round =>
            obtain ⟨m, hm1, hm2, rfl⟩ := hrel
            by_cases hmt : m < t.at'
            · have hmI : (m : Int) < (t.at' : Int) := by omega
              have hms : m < s.size := by omega
              have hbl := not_blank (HBl.out m hm1 hmt) (bAt_byte s m).1 (bAt_byte s m).2
              rw [← bAt_get hms] at hbl
              rcases hbl with h | h | h | h
              all_goals go_wp2_with fail
              all_goals exact ⟨⟨m + 1, by omega, by omega, by go_num⟩, by simp [intOf]; omega⟩
            · have hmI : ¬ (m : Int) < (t.at' : Int) := by omega
              have HK : Hid (((t.kind : Int) == 1) = decide (k + 1 = L.length)) := Lib.hid (by rw [Bool.eq_iff_iff]; simp; omega)
              have HJ : Hid ((((k : Int) == (L.length : Int) - 1)) = decide (k + 1 = L.length)) := Lib.hid (by rw [Bool.eq_iff_iff]; simp; omega)
              go_wp2_with fail
              refine (HWc.out _).mono ?_
              rintro e w3 ⟨rfl, hg3⟩
              have j1 : w3.cell? ⟨g1, k * 3, none⟩ = some (.int .u8 (t.kind : Int)) := (World.cell?_of_block (hg3.block g1 k0 (by simp))).trans k1
              have j3 : w3.cell? ⟨g1, k * 3 + 2, none⟩ = some (.int .i64 (t.at' : Int)) := (World.cell?_of_block (hg3.block g1 k0 (by simp))).trans k3
              have hk1 := HK.out
              have hk2 := HJ.out
              have HG3 := Lib.hid (gb_trans HG.out hg3 (Or.inl rfl))
              clear k1 k2 k3 hg3
              go_wp2_with fail
              exact ⟨⟨k + 1, by omega, by go_num, by rw [HPn.out]; go_num, by rw [HPn.out]; omega, HG3⟩, by simp [intOf]; omega⟩
        · obtain rfl : k = L.length := by omega
          have hkI : ¬ (L.length : Int) < (L.length : Int) := by omega
          rw [HEn.out]
          go_wp2_with fail
          go_ret
          exact ⟨rfl, below_gb HB2.out HG.out⟩
    · have h0I : ¬ (er : Int) = 0 := by omega
      obtain ⟨_, hlt0, _, _⟩ := HSt.out h0
      have hlt : at' < s.size := hlt0
      clear hlt0
      have hltI : (at' : Int) < (s.size : Int) := by omega
      clear HC HSt
      go_enter Try.func7, Try.ntmps7
      go_wp2_with (first
        | (go_at_call 10; refine (works_any w).mono ?_; rintro e w1 ⟨rfl, hg1⟩)
        | (go_at_call 13; refine (HTk.out _).mono ?_; rintro e w2 ⟨⟨v, rfl, hv⟩, hg2⟩; obtain rfl := (hv.resolve_left (fun h => h0 h.1)).2; clear hv))
      go_ret
      exact ⟨rfl, below_gb hg1 hg2⟩
  · have hsI : (s.size : Int) > 16777216 := by omega
    go_enter Try.func7, Try.ntmps7
    go_wp2_with (go_at_call 10; refine (works_any w).mono ?_; rintro e w1 ⟨rfl, hg1⟩)
    go_ret
    exact ⟨rfl, hg1⟩
end Go.Proofs.Ytlmpeddacadfkaa
