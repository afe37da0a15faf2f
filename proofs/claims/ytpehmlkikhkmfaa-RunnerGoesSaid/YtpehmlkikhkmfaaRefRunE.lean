/- The document's Run. -/
import Derived.Test.YtpehmlkikhkmfaaRefStep
import Derived.Test.YtpehmlkikhkmfaaRefLetter
import Derived.Test.YtpehmlkikhkmfaaRunRun
namespace Go.Proofs.Ytpehmlkikhkmfaa
open Go.RowKit

theorem stepF_lt {P : List ByteArray} {R : List (List Int)} {O : List Int} {s : Nat} (hE : mErr P R O = 0) (hs : s < O.length) (l : Nat) : stepF R P.length s l < O.length := by
  have hz := mErr_zero hE
  have hsR : s < R.length := by have := hz.2.2.1; omega
  have hpow := mErr_pow hE s hsR
  have hll : l % 2 ^ P.length < (R.getD s []).length := by rw [hpow]; exact Nat.mod_lt _ (Nat.two_pow_pos _)
  obtain ⟨t, ht, hyt⟩ := inF_nat (rowsF_in hz.2.2.2.1 hsR hll)
  have hst : stepF R P.length s l = t := by unfold stepF; rw [hyt, Int.toNat_natCast]
  rw [hst]
  have := hz.2.2.1
  omega
theorem goS_lt {P : List ByteArray} {R : List (List Int)} {O : List Int} (hE : mErr P R O = 0) (E : List (List ByteArray)) : goS P R E < O.length := by
  have h : ∀ (E : List (List ByteArray)) (s : Nat), s < O.length → E.foldl (nextF P R) s < O.length := by
    intro E
    induction E with
    | nil => intro s hs; exact hs
    | cons x m ih => intro s hs; exact ih _ (stepF_lt hE hs _)
  exact h E 0 (by have := (mErr_zero hE).2.1; omega)

/-- The document's runner, its verdicts' list below Z. -/
def RefV (w : World) (Z q : Nat) (P : List ByteArray) (R : List (List Int)) (O : List Int) (s : Nat) : Prop := ∃ vp vn vo vs, RefAt w 0 q vp vn vo vs P R O s ∧ ∀ b, vo.ownBlock = some b → b < Z
theorem RefV.ref {w : World} {Z q s : Nat} {P : List ByteArray} {R : List (List Int)} {O : List Int} (h : RefV w Z q P R O s) : Ref w q P R O s := by
  obtain ⟨vp, vn, vo, vs, h, _⟩ := h
  exact ⟨vp, vn, vo, vs, h⟩
theorem RefV.kept {w w' : World} {Z q s : Nat} {P : List ByteArray} {R : List (List Int)} {O : List Int} (h : RefV w Z q P R O s) (hg : w.grownBy w' none) : RefV w' Z q P R O s := by
  obtain ⟨vp, vn, vo, vs, h, hz⟩ := h
  exact ⟨vp, vn, vo, vs, h.kept hg, hz⟩
theorem RefV.goes {w : World} {Z q s : Nat} {P : List ByteArray} {R : List (List Int)} {O : List Int} (h : RefV w Z q P R O s) (t : Nat) : RefV (w.setCell ⟨q, 3, none⟩ (.int .i64 (t : Int))) Z q P R O t := by
  obtain ⟨vp, vn, vo, vs, h, hz⟩ := h
  exact ⟨vp, vn, vo, vs, h.goes t, hz⟩
/-- A list of verdicts that lies above has turned. -/
theorem RefV.over {w w' : World} {Z q s Y n : Nat} {P : List ByteArray} {R : List (List Int)} {O : List Int} {u : Value} {xs : List Value} (h : RefV w Z q P R O s) (hu : w.ownsRow Y 59 1 u n xs) (hb : ∀ b, u.ownBlock = some b → Z ≤ b) (hg : w.grownBy w' u.ownBlock) : RefV w' Z q P R O s := by
  obtain ⟨vp, vn, vo, vs, h, hz⟩ := h
  refine ⟨vp, vn, vo, vs, ⟨?_, h.props.kept hg (own_apart hu h.props (by decide)), h.next.kept hg (own_apart hu h.next (by decide)), fun i hi => by obtain ⟨v, hv, hr⟩ := h.each i hi; exact ⟨v, hv, hr.kept hg (own_apart hu hr (by decide))⟩, h.out.kept hg ?_, h.old⟩, hz⟩
  · rw [hg.block q h.lt (fun e => ?_)]
    · exact h.blk
    · rcases own_off hu h.blk (by decide) with h2 | h2
      · rw [h2] at e; cases e
      · exact h2 e.symm
  · rcases hv : vo.ownBlock with _ | b
    · exact Or.inl rfl
    · right
      intro e
      have h1 := hz b hv
      have h2 := hb b e.symm
      omega
set_option maxRecDepth 100000 in
set_option maxHeartbeats 2000000 in
theorem refstep_set {w : World} {q : Nat} {P : List ByteArray} {R : List (List Int)} {O : List Int} {s : Nat} (h : Ref w q P R O s) (hE : mErr P R O = 0) (hs : s < O.length) (l : Nat) (hl : l ≤ 65535) :
    Calls Try.prog 35 #[.pointer (some ⟨q, 0, none⟩), .int .u16 (l : Int)] w fun e w' => e = .returned (.int .u8 (O.getD (stepF R P.length s l) 0)) ∧ (w.setCell ⟨q, 3, none⟩ (.int .i64 (stepF R P.length s l : Int))).grownBy w' none := by
  have hz := mErr_zero hE
  have hpl := listF_len hz.1
  have hsR : s < R.length := by have := hz.2.2.1; omega
  have hpow := mErr_pow hE s hsR
  have hll : l % 2 ^ P.length < (R.getD s []).length := by rw [hpow]; exact Nat.mod_lt _ (Nat.two_pow_pos _)
  obtain ⟨t, ht, hyt⟩ := inF_nat (rowsF_in hz.2.2.2.1 hsR hll)
  have hst : stepF R P.length s l = t := by unfold stepF; rw [hyt, Int.toNat_natCast]
  rw [hst]
  have htO : t < O.length := by have := hz.2.2.1; omega
  have hG := Lib.hid (h.goes t)
  obtain ⟨vp, vn, vo, vs, h⟩ := h
  have hk := fun w' (hg : w.grownBy w' none) => h.kept hg
  obtain ⟨gn, cn, rfl, hcn, hcell⟩ := own_cell h.next s hsR
  obtain ⟨u, hu, hr⟩ := h.each s hsR
  rw [hu] at hcell
  obtain ⟨gr, cr, rfl, hcr, hcl⟩ := own_cell hr (l % 2 ^ P.length) hll
  rw [iv_at hll, hyt] at hcl
  obtain ⟨ap, cp, rfl⟩ := own_val h.props
  obtain ⟨go, co, rfl, hco, hco2⟩ := own_cell h.out t htO
  rw [ov_at htO] at hco2
  have c0 := h.cell0
  have c1 := h.cell1
  have c2 := h.cell2
  have c3 := h.cell3
  have hf := h.frozen 3
  have HX : Hid (∀ wx, w.grownBy wx none → ((wx.setCell ⟨q, 3, none⟩ (.int .i64 (t : Int))).cell? ⟨q, 2, none⟩ = some (.slice (some ⟨go, 0, none⟩) O.length co) ∧ (wx.setCell ⟨q, 3, none⟩ (.int .i64 (t : Int))).cell? ⟨q, 3, none⟩ = some (.int .i64 (t : Int)) ∧ (wx.setCell ⟨q, 3, none⟩ (.int .i64 (t : Int))).cell? ⟨go, t, none⟩ = some (.int .u8 (O.getD t 0)) ∧ Ref (wx.setCell ⟨q, 3, none⟩ (.int .i64 (t : Int))) q P R O t)) := Lib.hid fun wx hg => by
    have h2 := (h.kept hg).goes t
    refine ⟨h2.cell2, h2.cell3, ?_, ⟨_, _, _, _, h2⟩⟩
    obtain ⟨g2, c2, hv, _, hc⟩ := own_cell h2.out t htO
    cases hv
    rw [hc, ov_at htO]
  clear h hk hu hr hG
  have hpb : (2 : Nat) ^ P.length ≤ 2 ^ 8 := Nat.pow_le_pow_right (by decide) hpl
  have hsh : wrap64 ((2 : Int) ^ P.length) = ((2 ^ P.length : Nat) : Int) := wrap_pow _ hpl
  have hp8I : (P.length : Int) ≤ 8 := by omega
  have hn2p : 0 < 2 ^ P.length := Nat.two_pow_pos _
  generalize hlen : (R.getD s []).length = m at hll hcl hcr hpow hcell
  generalize 2 ^ P.length = n2 at hsh hll hcl hpow hpb hn2p
  generalize O.getD t 0 = y at hco2 HX ⊢
  have hn2b : ¬ n2 = 0 := by omega
  have htm : Int.tmod (l : Int) (n2 : Int) = ((l % n2 : Nat) : Int) := by rw [Int.tmod_eq_emod_of_nonneg (Int.natCast_nonneg _)]; rfl
  have hidx : ((l % n2 : Nat) : Int) < (m : Int) := by omega
  generalize l % n2 = i at htm hidx hll hcl
  have hsI : (s : Int) < (R.length : Int) := by omega
  have htI : (t : Int) < (O.length : Int) := by omega
  clear hpow hlen hyt ht hE hz hst
  go_enter Try.func35, Try.ntmps35
  go_wp2_with fail
  go_region
  obtain ⟨x2, x3, xo, xr⟩ := HX.out w (gb_refl w none)
  have HR := Lib.hid xr
  have HG : Hid ((w.setCell ⟨q, 3, none⟩ (.int .i64 (t : Int))).grownBy (w.setCell ⟨q, 3, none⟩ (.int .i64 (t : Int))) none) := Lib.hid (gb_refl _ _)
  generalize hw5 : w.setCell ⟨q, 3, none⟩ (.int .i64 (t : Int)) = w5 at x2 x3 xo HR ⊢
  have HW5 := Lib.hid hw5
  clear hw5 HG
  clear xr c0 c1 c2 c3 hf hcl hcell hco2
  go_wp2_with fail
  go_quiet (fail)
  go_wp2
  go_ret
  exact ⟨rfl, by rw [HW5.out]; exact gb_trans (gb_drew w5 none) (gb_drewN _ _ none) (Or.inl rfl)⟩
theorem refrun_no (vp vn vo ve : Value) (P : List ByteArray) (R : List (List Int)) (O : List Int) (w : World) (hM : MachAt w vp vn vo P R O) (hE : mErr P R O = 140) :
    Calls Try.prog 24 #[.agg #[vp, vn, vo], ve] w fun e w' => e = .returned (.tuple #[.slice none 0 0, .int .i64 170]) ∧ w.grownBy w' none := by
  have hg := World.grownBy_alloc w (.cells #[vp, vn, vo] 27) none
  have c0 := cell3_0 w vp vn vo 27
  have c1 := cell3_1 w vp vn vo 27
  have c2 := cell3_2 w vp vn vo 27
  have HN := Lib.hid (refnew_no vp vn vo P R O _ (hM.kept hg) hE)
  clear hM hE
  go_enter Try.func24, Try.ntmps24
  go_wp2_with (go_at_call 16; refine HN.out.mono ?_; rintro e w1 ⟨rfl, hg1⟩)
  go_ret2
  exact ⟨rfl, gb_trans hg hg1 (Or.inl rfl)⟩

set_option maxHeartbeats 2000000 in
theorem refrun_yes (vp vn vo ve : Value) (P : List ByteArray) (R : List (List Int)) (O : List Int) (E : List (List ByteArray)) (w : World) (hM : MachAt w vp vn vo P R O) (hE : mErr P R O = 0) (hn : O.length ≤ 200000) (hev : EventsAt w ve E) (hel : E.length ≤ 1000000) :
    Calls Try.prog 24 #[.agg #[vp, vn, vo], ve] w fun e w' => ∃ v, e = .returned (.tuple #[v, .int .i64 0]) ∧ w'.ownsRow w.heap.size 59 1 v E.length ((runL P R O E E.length).map ov) ∧ w.grownBy w' none := by
  have hg := World.grownBy_alloc w (.cells #[vp, vn, vo] 27) none
  have c0 := cell3_0 w vp vn vo 27
  have c1 := cell3_1 w vp vn vo 27
  have c2 := cell3_2 w vp vn vo 27
  have HN := Lib.hid (refnew_yes vp vn vo P R O _ (hM.kept hg) hE hn)
  have HEv := Lib.hid hev
  have HE := Lib.hid hE
  obtain ⟨i0, hi, hz0, hz1, hz2⟩ := info_parts Try.info59
  obtain ⟨ae, ce, rfl, hce, _⟩ := hev
  clear hM hE hn
  go_enter Try.func24, Try.ntmps24
  go_wp2_with (go_at_call 16; refine HN.out.mono ?_; rintro e w1 ⟨q, vp', vn', vo', vs', rfl, hr, hg1⟩)
  clear c0 c1 c2
  have hG := gb_trans hg hg1 (Or.inl rfl)
  have hqw : w.heap.size ≤ q := Nat.le_trans hg.size hr.old
  have hL : RefV w1 w1.heap.size q P R O 0 := ⟨_, _, _, _, hr.base (Nat.zero_le _), fun b hb => (hr.out.lt b hb).2⟩
  clear hg hg1 hr HN
  go_loopw [9, 8] (fun i l wr => ∃ (k : Nat), k ≤ E.length ∧ i = .int .i64 (k : Int) ∧ wr.ownsRow w1.heap.size 59 1 l k ((runL P R O E k).map ov) ∧ Hid (RefV wr w1.heap.size q P R O (goS P R (E.take k))) ∧ w.grownBy wr none ∧ w1.heap.size ≤ wr.heap.size) (fun i _ _ => E.length - (intOf i).toNat)
  case atStart => exact ⟨0, by omega, rfl, World.ownsRow_nil _ _ _ _, Lib.hid hL, hG, Nat.le_refl _⟩
  case round =>
    obtain ⟨k, hk, rfl, hown, HLr, hGr, hZr⟩ := hrel
    by_cases hlt : k < E.length
    · obtain ⟨_, _, hve, _, _, hn3⟩ := HEv.out.kept hGr
      cases hve
      rcases hn3 with rfl | ⟨be, offe, rfl, hn3⟩
      · exact absurd hlt (by simp)
      obtain ⟨u, hu, hTx⟩ := hn3 k hlt
      clear hn3
      have HTx := Lib.hid hTx
      obtain ⟨au, cu, rfl⟩ : ∃ au cu, u = .slice au (E.getD k []).length cu := by obtain ⟨au, cu, e, _⟩ := hTx; exact ⟨au, cu, e⟩
      obtain ⟨al, cl, rfl⟩ := own_val hown
      have HLe := Lib.hid (refletter_any HLr.out.ref (mErr_zero HE.out).1 hTx)
      have hlet : letF (bitF P) (E.getD k []) ≤ 65535 := by
        have hPl := listF_len (mErr_zero HE.out).1
        have := refL_lt P (E.getD k []) P.length hPl
        rw [refL_letF (mErr_zero HE.out).1] at this
        omega
      have HS : Hid (∀ wx, RefV wx w1.heap.size q P R O (goS P R (E.take k)) → Calls Try.prog 35 #[.pointer (some ⟨q, 0, none⟩), .int .u16 (letF (bitF P) (E.getD k []) : Int)] wx fun e w' => e = .returned (.int .u8 (O.getD (goS P R (E.take (k + 1))) 0)) ∧ RefV w' w1.heap.size q P R O (goS P R (E.take (k + 1))) ∧ wx.grownBy w' (some q)) := Lib.hid fun wx h => by
        rw [goS_take P R E k hlt]
        exact (refstep_set h.ref HE.out (goS_lt HE.out _) _ hlet).mono fun e w' ⟨he, hg⟩ => ⟨he, (h.goes _).kept hg, gb_trans gb_set hg (Or.inl rfl)⟩
      have HSt := Lib.hid (runL_step P R O E k)
      have hkI : (k : Int) < (E.length : Int) := by omega
      have HOw := Lib.hid hown
      obtain ⟨s2, hs2⟩ : ∃ s2, Hid (s2 = goS P R (E.take (k + 1))) := ⟨_, rfl⟩
      rw [← hs2.out] at HS HSt
      generalize O.getD s2 0 = x at HS HSt
      generalize hlen : (E.getD k []).length = m at hu HLe
      generalize letF (bitF P) (E.getD k []) = lt at HLe HS hlet
      clear hTx hown hlen
      go_wp2_with (first
        | (go_at_call 53; refine HLe.out.mono ?_; rintro e w2 ⟨rfl, hg2⟩; have HL2 := Lib.hid (HLr.out.kept hg2); have HO2 := Lib.hid (HOw.out.kept hg2 (Classical.em _)))
        | (go_at_call 35; refine (HS.out _ HL2.out).mono ?_; rintro e w3 ⟨rfl, hL3, hg3⟩; have HL3 := Lib.hid hL3; have HO3 := Lib.hid (HO2.out.kept hg3 (by obtain ⟨cb, fb, hbb⟩ := HL2.out.ref.blk; exact own_off HO2.out hbb (by decide))); clear hL3)
        | (at_builtin; refine wpList_append_lies _ rfl (.tmp 24) (.tmp 33) 25 rfl w1.heap.size 59 i0 (.int .u8 0) 1 1 Try.underlying25 hi hz0 hz1 hz2 rfl (by decide) (.slice al k cl) k ((runL P R O E k).map ov) rfl (HO3.out.alloc _) ⟨w3.heap.size, 0, none⟩ 1 1 [.int .u8 x] rfl rfl (cell_one_new _ _ _) (by simp [Value.oneCell']) (by decide) (by unfold maxLen; omega) (by omega) (by rw [World.size_alloc]; have := hg2.size; have := hg3.size; omega) _ rfl ?_; intro g5 cap5 w5 hown5 hgr5 hat5 hlt5))
      have hga := World.grownBy_alloc w3 (.cells #[.int .u8 x] 59) none
      rw [← HSt.out] at hown5
      have hv3 := HO3.out.kept hga (Classical.em _)
      have hb5 : ∀ b, (Value.slice al k cl).ownBlock = some b → w1.heap.size ≤ b := fun b hb => (hv3.lt b hb).1
      have hR5 := (HL3.out.kept hga).over hv3 hb5 hgr5
      refine ⟨⟨k + 1, by omega, by go_num, hown5, by rw [← hs2.out]; exact Lib.hid hR5, gb_trans (gb_trans (gb_trans (gb_trans hGr hg2 (Or.inl rfl)) hg3 (Or.inr (Or.inr ⟨q, rfl, hqw⟩))) hga (Or.inl rfl)) hgr5 ?_, ?_⟩, by simp [intOf]; omega⟩
      · rcases e : (Value.slice al k cl).ownBlock with _ | b
        · exact Or.inl rfl
        · exact Or.inr (Or.inr ⟨b, rfl, Nat.le_trans hG.size (hb5 b e)⟩)
      · have h1 := hg2.size
        have h2 := hg3.size
        have h3 := hga.size
        have h4 := hgr5.size
        omega
    · obtain rfl : k = E.length := by omega
      go_wp2_with fail
      go_ret2
      exact ⟨_, rfl, own_base hown hG.size, hGr⟩
end Go.Proofs.Ytpehmlkikhkmfaa
