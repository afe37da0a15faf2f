/- LexSpaced, walked: for texts that are not too great for memory. -/
import Derived.Test.YtlmpeddacadfkaaLexRows
import Derived.Test.YtlmpeddacadfkaaLexLaws2
import Derived.Test.YtlmpeddacadfkaaLexInts
import Derived.Deep.RegionWith
import Derived.Deep.QuietTactic
import Derived.BigQuiet
namespace Go.Proofs.Ytlmpeddacadfkaa
open Go.RowKit Go.Shelf

/-- Which blanks. -/
def blankK (A : List Int) (i : Nat) : Nat := if i < A.length then ((A.getD i 0).tmod 5).natAbs else 0
def blanksL : List ByteArray := [⟨#[32]⟩, ⟨#[10]⟩, ⟨#[9, 32]⟩, ⟨#[13, 10]⟩, ⟨#[32, 32]⟩]
def blankT (A : List Int) (i : Nat) : ByteArray := blanksL.getD (blankK A i) ⟨#[]⟩
theorem blankK_lt (A : List Int) (i : Nat) : blankK A i < 5 := by
  unfold blankK
  split
  · have h1 := Int.tmod_lt_of_pos (A.getD i 0) (show (0 : Int) < 5 by decide)
    have h2 := Int.lt_tmod_of_pos (A.getD i 0) (show (0 : Int) < 5 by decide)
    omega
  · decide
theorem blanks_at : ∀ k, k < 5 → Blanks (blanksL.getD k ⟨#[]⟩) ∧ (blanksL.getD k ⟨#[]⟩).size ≤ 2 := by
  have key : ∀ k : Fin 5, (0 < (blanksL.getD k ⟨#[]⟩).size ∧ (blanksL.getD k ⟨#[]⟩).size ≤ 2) ∧ ∀ j : Fin 2, (j : Nat) < (blanksL.getD k ⟨#[]⟩).size → blankB (bAt (blanksL.getD k ⟨#[]⟩) j) = true := by decide +kernel
  intro k hk
  obtain ⟨⟨h1, h2⟩, h3⟩ := key ⟨k, hk⟩
  exact ⟨⟨h1, fun j hj => h3 ⟨j, by have : j < (blanksL.getD k ⟨#[]⟩).size := hj; have h4 : (blanksL.getD k ⟨#[]⟩).size ≤ 2 := h2; omega⟩ hj⟩, h2⟩
theorem joinS_size {s : ByteArray} {bl : Nat → ByteArray} (hb : ∀ i, (bl i).size ≤ 2) : ∀ (L : List Tok) (k i : Nat), Chain s k L → (joinS s bl i L).size ≤ 2 * L.length + (s.size - k) ∧ L.length ≤ s.size - k + 1
  | [], _, _, h => h.elim
  | t :: r, k, i, h => by
    obtain ⟨hT, hr⟩ := h
    have h2 := hb i
    have hw := writ_size hT
    have h3 := hT.ahead
    have h4 := hT.upto
    have h5 := hT.within
    show (bl i ++ (writF s t ++ joinS s bl (i + 1) r)).size ≤ 2 * (r.length + 1) + (s.size - k) ∧ r.length + 1 ≤ _
    rw [app_size, app_size, hw]
    rcases hr with ⟨_, rfl⟩ | ⟨h1, hr⟩
    · show (bl i).size + (t.behind - t.at' + 0) ≤ _ ∧ _
      refine ⟨?_, by simp⟩
      show _ ≤ 2 * (0 + 1) + _
      omega
    · have ih := joinS_size hb r t.behind (i + 1) hr
      have hp := (hT.part h1).2.2.2.2.2
      omega
theorem joinS_drop {s : ByteArray} {bl : Nat → ByteArray} {L : List Tok} {k : Nat} (hk : k < L.length) : joinS s bl k (L.drop k) = bl k ++ (writF s (L.getD k tok0) ++ joinS s bl (k + 1) (L.drop (k + 1))) := by
  rw [List.drop_eq_getElem_cons hk]
  show bl k ++ (writF s L[k] ++ _) = _
  rw [List.getD_eq_getElem?_getD, List.getElem?_eq_getElem hk]
  rfl
theorem textsT_at {L M : List Tok} (h : textsT L = textsT M) : L.length = M.length ∧ ∀ i, i < L.length → (L.getD i tok0).kind = (M.getD i tok0).kind ∧ (L.getD i tok0).text = (M.getD i tok0).text := by
  have hl : L.length = M.length := by have := congrArg List.length h; simpa [textsT] using this
  refine ⟨hl, fun i hi => ?_⟩
  have h1 := congrArg (fun l => l[i]?) h
  simp only [textsT, List.getElem?_map] at h1
  rw [List.getElem?_eq_getElem hi, List.getElem?_eq_getElem (by omega)] at h1
  simp only [Option.map_some, Option.some.injEq, Prod.mk.injEq] at h1
  rw [List.getD_eq_getElem?_getD, List.getElem?_eq_getElem hi, List.getD_eq_getElem?_getD, List.getElem?_eq_getElem (by omega : i < M.length)]
  exact h1
theorem text_le {s : ByteArray} {k : Nat} {t : Tok} (h : TokAt s k t) : t.text.size ≤ s.size := by
  have h1 := writ_size h
  have h2 : t.text.size ≤ (writF s t).size := by
    unfold writF
    split
    · rw [app_size, app_size]; omega
    · exact Nat.le_refl _
  have := h.within
  omega
theorem run_cat {x y : ByteArray} (h : x.size + y.size ≤ 300000000) (w : World) : (binOp BinOp.add 9 (.string x) (.string y)).run Try.prog w = .ok (.string (x ++ y)) w := by
  have h1 : ¬ ((x.size + y.size : Nat) : Int) > IntKind.i64.max := by
    have : IntKind.i64.max = 9223372036854775807 := by decide
    omega
  simp only [binOp, Op.stringOp]
  rw [if_neg h1]
  rfl
/-- Texts in a row that is known whole. -/
theorem texts_row {w : World} : ∀ k, k < 5 → (w.alloc (.cells #[.string ⟨#[32]⟩, .string ⟨#[10]⟩, .string ⟨#[9, 32]⟩, .string ⟨#[13, 10]⟩, .string ⟨#[32, 32]⟩] 9)).cell? ⟨w.heap.size, k, none⟩ = some (.string (blanksL.getD k ⟨#[]⟩)) := by
  intro k hk
  have h := heap_alloc_new w (.cells #[.string ⟨#[32]⟩, .string ⟨#[10]⟩, .string ⟨#[9, 32]⟩, .string ⟨#[13, 10]⟩, .string ⟨#[32, 32]⟩] 9)
  have e : ∀ j : Fin 5, (#[Value.string ⟨#[32]⟩, .string ⟨#[10]⟩, .string ⟨#[9, 32]⟩, .string ⟨#[13, 10]⟩, .string ⟨#[32, 32]⟩] : Array Value)[(j : Nat)]? = some (.string (blanksL.getD (j : Nat) ⟨#[]⟩)) := by
    intro j
    match j with
    | ⟨0, _⟩ => rfl
    | ⟨1, _⟩ => rfl
    | ⟨2, _⟩ => rfl
    | ⟨3, _⟩ => rfl
    | ⟨4, _⟩ => rfl
  simp only [World.cell?, h]
  simpa using e ⟨k, hk⟩
set_option maxRecDepth 100000 in
set_option maxHeartbeats 4000000 in
theorem walk_Spaced (s : ByteArray) (v : Value) (A : List Int) (w : World) (hA : IntsAt w v A) (hs : s.size ≤ 100000000) : Calls Try.prog 8 #[.string s, v] w fun e w' => e = .returned (.bool true) ∧ Below w.heap.size w w' := by
  have HTk := Lib.hid (tokens_any s · hs)
  have HC := Lib.hid (chain_all s (s.size + 1) 0 (by omega) (Nat.zero_le _))
  obtain ⟨L, er, at', hAl⟩ : ∃ L er at', allT s 0 = (L, er, at') := ⟨_, _, _, rfl⟩
  rw [hAl] at HTk HC
  clear hAl
  by_cases h0 : er = 0
  · subst h0
    by_cases h2 : s.size ≤ 20000
    · have hsI : (s.size : Int) ≤ 20000 := by omega
      have HCh := Lib.hid (HC.out rfl)
      have hjs := joinS_size (s := s) (bl := blankT A) (fun i => (blanks_at _ (blankK_lt A i)).2) L 0 0 HCh.out
      have hlaw := spaced_law s (blankT A) (fun i => (blanks_at _ (blankK_lt A i)).1) L 0 0 HCh.out ⟨#[]⟩
      have hLn : L.length ≤ 20001 := by omega
      have hz : (joinS s (blankT A) 0 L).size ≤ 100000000 := by omega
      rw [show (⟨#[]⟩ : ByteArray) ++ joinS s (blankT A) 0 L = joinS s (blankT A) 0 L from ByteArray.empty_append] at hlaw
      have HT2 := Lib.hid (tokens_any (joinS s (blankT A) 0 L) · hz)
      obtain ⟨M, er2, at2, hAl⟩ : ∃ M er at', allT (joinS s (blankT A) 0 L) 0 = (M, er, at') := ⟨_, _, _, rfl⟩
      have hl2 : (allT (joinS s (blankT A) 0 L) 0).2.1 = 0 ∧ textsT (allT (joinS s (blankT A) 0 L) 0).1 = textsT L := hlaw
      rw [hAl] at HT2 hl2
      obtain ⟨rfl, htx⟩ : er2 = 0 ∧ textsT M = textsT L := hl2
      have HX := Lib.hid (textsT_at htx).2
      have HML := Lib.hid (textsT_at htx).1
      have HZ0 : Hid (joinS s (blankT A) 0 (L.drop 0) = joinS s (blankT A) 0 L) := Lib.hid (by rw [List.drop_zero])
      have HDr := Lib.hid (fun k hk => joinS_drop (s := s) (bl := blankT A) (L := L) (k := k) hk)
      have HAt := Lib.hid (chain_at L 0 HCh.out)
      generalize joinS s (blankT A) 0 L = Z at HT2 HZ0 hz
      clear hAl htx hlaw hjs HC
      have HIn := Lib.hid hA
      obtain ⟨ar, cr, rfl, _, hAl, _⟩ := hA
      go_enter Try.func8, Try.ntmps8
      go_wp2_with (go_at_call 10; refine (works_any w).mono ?_; rintro e w1 ⟨rfl, hg1⟩)
      refine (HTk.out _).mono ?_
      rintro e w2 ⟨⟨v, rfl, hv⟩, hg2⟩
      replace hv := hv.resolve_right (fun h => h.1 rfl)
      have HV := Lib.hid (own_row hv.2)
      obtain ⟨a, cap, rfl⟩ := own_val3 hv.2
      clear hv
      obtain ⟨_, _, e1, hcap, hcm, _⟩ := HV.out
      cases e1
      unfold maxLen at hcm
      have HB2 := Lib.hid (below_gb hg1 hg2)
      have HG1 := Lib.hid (World.grownBy_alloc w2 (.cells #[.string ⟨#[32]⟩, .string ⟨#[10]⟩, .string ⟨#[9, 32]⟩, .string ⟨#[13, 10]⟩, .string ⟨#[32, 32]⟩] 9) none)
      have HTx := Lib.hid (texts_row (w := w2))
      have HV3 := Lib.hid (HV.out.grown HG1.out)
      have HB3 := Lib.hid (below_gb HB2.out HG1.out)
      have hlt2 : w2.heap.size < (w2.alloc (.cells #[.string ⟨#[32]⟩, .string ⟨#[10]⟩, .string ⟨#[9, 32]⟩, .string ⟨#[13, 10]⟩, .string ⟨#[32, 32]⟩] 9)).heap.size := by rw [World.size_alloc]; omega
      clear hg1 hg2 HG1 HB2 HV
      go_wp2_with fail
      generalize w2.alloc (.cells #[.string ⟨#[32]⟩, .string ⟨#[10]⟩, .string ⟨#[9, 32]⟩, .string ⟨#[13, 10]⟩, .string ⟨#[32, 32]⟩] 9) = w3 at HTx HV3 HB3 hlt2 ⊢
      generalize w2.heap.size = b2 at HTx hlt2 ⊢
      go_loopw [10, 11] (fun sv i wr => ∃ (k : Nat) (acc : ByteArray), k ≤ L.length ∧ i = .int .i64 (k : Int) ∧ sv = .string acc ∧ Hid (acc ++ joinS s (blankT A) k (L.drop k) = Z) ∧ Hid (w3.grownBy wr none)) (fun _ i _ => L.length - (intOf i).toNat)
      case atStart => exact ⟨0, ⟨#[]⟩, Nat.zero_le _, rfl, rfl, Lib.hid (by rw [← HZ0.out]; exact ByteArray.empty_append), Lib.hid (gb_refl _ _)⟩
      case round =>
        obtain ⟨k, acc, hk, rfl, rfl, HZ, HG⟩ := hrel
        by_cases hlt : k < L.length
        · have hkI : (k : Int) < (L.length : Int) := by omega
          have hT := (HAt.out k hlt).1
          have hdr := HDr.out k hlt
          have hts : (L.getD k tok0).text.size ≤ 100000000 := by have := text_le hT; omega
          have hz2 : acc.size ≤ 100000000 := by have := congrArg ByteArray.size HZ.out; rw [app_size] at this; omega
          have hz3 : (blankT A k).size ≤ 2 := (blanks_at _ (blankK_lt A k)).2
          have hz4 : (writF s (L.getD k tok0)).size ≤ 100000000 := by rw [writ_size hT]; have := hT.within; omega
          have HZ2 : Hid ((acc ++ blankT A k ++ writF s (L.getD k tok0)) ++ joinS s (blankT A) (k + 1) (L.drop (k + 1)) = Z) := Lib.hid (by
            rw [← HZ.out, hdr, ByteArray.append_assoc, ByteArray.append_assoc])
          clear hdr hT HZ
          obtain ⟨_, _, e1, _, _, hr1⟩ := HV3.out.grown HG.out
          cases e1
          obtain ⟨g1, rfl, k0, k1, k2, k3⟩ := hr1 k hlt
          clear hr1
          generalize L.getD k tok0 = t at k1 k2 k3 hts hz4 HZ2
          have HW := Lib.hid (written_any s t · (by unfold maxLen; omega) hts)
          generalize writF s t = wt at HW hz4 HZ2
          have hm5 := blankK_lt A k
          have hbT : blankT A k = blanksL.getD (blankK A k) ⟨#[]⟩ := rfl
          have hkk : (k < A.length ∧ ∃ b off, ar = some ⟨b, off, none⟩ ∧ wr.cell? ⟨b, off + k, none⟩ = some (.int .i64 (A.getD k 0)) ∧ -9223372036854775808 ≤ A.getD k 0 ∧ A.getD k 0 ≤ 9223372036854775807 ∧ ((A.getD k 0).tmod 5 = (blankK A k : Int) ∨ (A.getD k 0).tmod 5 = -(blankK A k : Int) ∧ (0 : Int) < (blankK A k : Int))) ∨ (A.length ≤ k ∧ blankK A k = 0) := by
            by_cases hkA : k < A.length
            · left
              obtain ⟨_, _, e, hb, _, hc⟩ := HIn.out
              cases e
              rcases hc with rfl | ⟨b, off, rfl, hb0, hc⟩
              · exact absurd hkA (by simp)
              · refine ⟨hkA, b, off, rfl, ?_, (hb k hkA).1, (hb k hkA).2, ?_⟩
                · rw [← hc k hkA]
                  have h1 := HB3.out.cell (p := ⟨b, off + k, none⟩) hb0
                  have h2 := HB3.out.size
                  exact (World.cell?_of_block (HG.out.block b (by omega) (by simp))).trans h1
                · unfold blankK
                  rw [if_pos hkA]
                  omega
            · right
              exact ⟨by omega, by unfold blankK; rw [if_neg hkA]⟩
          rw [hbT] at HZ2 hz3
          have hbc : wr.cell? ⟨b2, blankK A k, none⟩ = some (.string (blanksL.getD (blankK A k) ⟨#[]⟩)) := (World.cell?_of_block (HG.out.block b2 hlt2 (by simp))).trans (HTx.out _ hm5)
          clear hbT
          have HSS : Hid (∀ wx, wr.grownBy wx none → wr.grownBy wx none ∧ wx.cell? ⟨b2, blankK A k, none⟩ = some (.string (blanksL.getD (blankK A k) ⟨#[]⟩)) ∧ wx.cell? ⟨g1, k * 3, none⟩ = some (.int .u8 (t.kind : Int)) ∧ wx.cell? ⟨g1, k * 3 + 1, none⟩ = some (.string t.text) ∧ wx.cell? ⟨g1, k * 3 + 2, none⟩ = some (.int .i64 (t.at' : Int))) := Lib.hid fun wx h => ⟨h, h.cell hbc (by simp), h.cell k1 (by simp), h.cell k2 (by simp), h.cell k3 (by simp)⟩
          clear k1 k2 k3 hbc
          generalize blanksL.getD (blankK A k) ⟨#[]⟩ = bt at HSS HZ2 hz3
          have hA0 := HIn.out
          have hcat1 : ¬ (9223372036854775807 : Int) < (acc.size : Int) + (bt.size : Int) := by omega
          have hcat2 : ¬ (9223372036854775807 : Int) < (acc.size : Int) + (bt.size : Int) + (wt.size : Int) := by omega
          have hcat3 : ¬ (9223372036854775807 : Int) < ((acc ++ bt).size : Int) + (wt.size : Int) := by rw [app_size]; omega
          generalize blankK A k = m at HSS hkk hm5
          have hmI : (m : Int) < 5 := by omega
          rcases hkk with ⟨hkA, b, off, rfl, hrc, hr1, hr2, htm | ⟨htm, hpos⟩⟩ | ⟨hkA, rfl⟩
          · have hkAI : (k : Int) < (A.length : Int) := by omega
            generalize A.getD k 0 = r at hrc hr1 hr2 htm
            clear hA0
            go_wp2_with fail
            have hS0 := HSS.out _ (gb_drew wr none)
            go_region_with (go_at_call 24; refine (HW.out _).mono ?_; rintro e wn ⟨rfl, hgn⟩; have hSn := HSS.out _ (gb_trans (gb_drew wr none) hgn (Or.inl rfl)))
            all_goals go_wp2_with fail
            all_goals exact ⟨⟨k + 1, _, by omega, by go_num, rfl, HZ2, Lib.hid (gb_trans HG.out hSn.1 (Or.inl rfl))⟩, by simp [intOf]; omega⟩
          · have hkAI : (k : Int) < (A.length : Int) := by omega
            generalize A.getD k 0 = r at hrc hr1 hr2 htm
            clear hA0
            go_wp2_with fail
            have hS0 := HSS.out _ (gb_drew wr none)
            go_region_with (go_at_call 24; refine (HW.out _).mono ?_; rintro e wn ⟨rfl, hgn⟩; have hSn := HSS.out _ (gb_trans (gb_drew wr none) hgn (Or.inl rfl)))
            all_goals go_wp2_with fail
            all_goals exact ⟨⟨k + 1, _, by omega, by go_num, rfl, HZ2, Lib.hid (gb_trans HG.out hSn.1 (Or.inl rfl))⟩, by simp [intOf]; omega⟩
          · have hkAI : ¬ (k : Int) < (A.length : Int) := by omega
            clear hA0
            go_wp2_with fail
            have hS0 := HSS.out _ (gb_drew wr none)
            go_region_with (go_at_call 24; refine (HW.out _).mono ?_; rintro e wn ⟨rfl, hgn⟩; have hSn := HSS.out _ (gb_trans (gb_drew wr none) hgn (Or.inl rfl)))
            all_goals go_wp2_with fail
            all_goals exact ⟨⟨k + 1, _, by omega, by go_num, rfl, HZ2, Lib.hid (gb_trans HG.out hSn.1 (Or.inl rfl))⟩, by simp [intOf]; omega⟩
        · obtain rfl : k = L.length := by omega
          have hkI : ¬ (L.length : Int) < (L.length : Int) := by omega
          have hacc : acc = Z := by
            have h1 := HZ.out
            rw [List.drop_of_length_le (Nat.le_refl _)] at h1
            rw [← h1]
            exact ByteArray.append_empty.symm
          subst hacc
          clear HZ HZ0 HDr
          have HB4 := Lib.hid (below_gb HB3.out HG.out)
          have HV4 := Lib.hid (HV3.out.grown HG.out)
          have hAz := HIn.out
          go_wp2_with fail
          refine (HT2.out _).mono ?_
          rintro e w5 ⟨⟨v, rfl, hv⟩, hg5⟩
          replace hv := hv.resolve_right (fun h => h.1 rfl)
          have HVM := Lib.hid (own_row hv.2)
          obtain ⟨am, cm, rfl⟩ := own_val3 hv.2
          clear hv
          have HB5 := Lib.hid (below_gb HB4.out hg5)
          have HV5 := Lib.hid (HV4.out.grown hg5)
          have hml := HML.out
          have hmI : ((M.length : Int) != (L.length : Int)) = false := by rw [hml]; simp
          clear hml hg5 HB4 HV4 hAz
          obtain ⟨_, _, e1, hcapm, hcmm, _⟩ := HVM.out
          cases e1
          unfold maxLen at hcmm
          have hlm : L.length ≤ M.length := by have := HML.out; omega
          go_wp2_with fail
          go_loopw [16] (fun i wx => ∃ (k : Nat), k ≤ L.length ∧ i = .int .i64 (k : Int) ∧ Hid (w5.grownBy wx none)) (fun i _ => L.length - (intOf i).toNat)
          case atStart => exact ⟨0, Nat.zero_le _, rfl, Lib.hid (gb_refl _ _)⟩
          case round =>
            obtain ⟨k, hk2, rfl, HGx⟩ := hrel
            by_cases hlt2 : k < L.length
            · have hkI2 : (k : Int) < (L.length : Int) := by omega
              have hkM2 : (k : Int) < (M.length : Int) := by omega
              obtain ⟨_, _, e1, _, _, hr1⟩ := HV5.out.grown HGx.out
              cases e1
              obtain ⟨g1, rfl, k0, k1, k2, k3⟩ := hr1 k hlt2
              obtain ⟨_, _, e1, _, _, hr2⟩ := HVM.out.grown HGx.out
              cases e1
              obtain ⟨g2, rfl, j0, j1, j2, j3⟩ := hr2 k (by omega)
              obtain ⟨x1, x2⟩ := HX.out k (by omega)
              rw [x1] at j1
              rw [x2] at j2
              clear hr1 hr2 x1 x2 k3 j3
              generalize L.getD k tok0 = t at k1 k2 j1 j2
              go_wp2_with fail
              go_quiet (fail)
              go_wp2_with fail
              go_roundw
              case rel => exact ⟨k + 1, by omega, by go_num, Lib.hid (gb_trans HGx.out (gb_drewN _ _ _) (Or.inl rfl))⟩
              case measure => simp [intOf]; omega
            · have hkI2 : ¬ (k : Int) < (L.length : Int) := by omega
              go_wp2_with fail
              go_ret
              exact ⟨rfl, below_gb HB5.out HGx.out⟩
    · have hsI : (20000 : Int) < (s.size : Int) := by omega
      clear HC
      obtain ⟨ar, cr, rfl, _, hAl, _⟩ := hA
      go_enter Try.func8, Try.ntmps8
      go_wp2_with (go_at_call 10; refine (works_any w).mono ?_; rintro e w1 ⟨rfl, hg1⟩)
      refine (HTk.out _).mono ?_
      rintro e w2 ⟨⟨v, rfl, hv⟩, hg2⟩
      obtain ⟨a, cap, rfl⟩ := own_val3 (hv.resolve_right (fun h => h.1 rfl)).2
      clear hv
      go_wp2_with fail
      go_ret
      exact ⟨rfl, below_gb hg1 hg2⟩
  · have h0I : ¬ (er : Int) = 0 := by omega
    clear HC
    obtain ⟨ar, cr, rfl, _, hAl, _⟩ := hA
    go_enter Try.func8, Try.ntmps8
    go_wp2_with (go_at_call 10; refine (works_any w).mono ?_; rintro e w1 ⟨rfl, hg1⟩)
    refine (HTk.out _).mono ?_
    rintro e w2 ⟨⟨v, rfl, hv⟩, hg2⟩
    obtain rfl := (hv.resolve_left (fun h => h0 h.1)).2
    clear hv
    go_wp2_with fail
    go_ret
    exact ⟨rfl, below_gb hg1 hg2⟩
end Go.Proofs.Ytlmpeddacadfkaa
