/- Dfa: the document's step. -/
import Derived.Test.YtcdepblajobemaaBuilds10
set_option maxRecDepth 100000
namespace Go.Proofs.Ytcdepblajobemaa
open Go.RowKit

set_option maxHeartbeats 1000000 in
theorem refgoes_any (x : Edg) (l : Nat) (w : World) (hl : l ≤ 65535) (hm : x.mu ≤ 65535) (hn : x.no ≤ 65535) :
    Calls Try.prog 106 #[.agg #[.int .i64 x.fr, .int .i64 x.tt, .int .u16 (x.mu : Int), .int .u16 (x.no : Int)], .int .u16 (l : Int)] w fun e w' => e = .returned (.bool (goesB x l)) ∧ w.grownBy w' none := by
  have z1 : bits .and .u16 (l : Int) (x.mu : Int) = ((l &&& x.mu : Nat) : Int) := u16_and_nat _ _ (by omega) (by omega)
  have z2 : bits .and .u16 (l : Int) (x.no : Int) = ((l &&& x.no : Nat) : Int) := u16_and_nat _ _ (by omega) (by omega)
  have hbx := heap_alloc_new w (.cells #[.int .i64 x.fr, .int .i64 x.tt, .int .u16 (x.mu : Int), .int .u16 (x.no : Int)] 61)
  have hgx := World.grownBy_alloc w (.cells #[.int .i64 x.fr, .int .i64 x.tt, .int .u16 (x.mu : Int), .int .u16 (x.no : Int)] 61) none
  have HGo : Hid (goesB x l = (decide (l &&& x.mu = x.mu) && decide (l &&& x.no = 0))) := Lib.hid rfl
  generalize goesB x l = gb at HGo
  obtain ⟨b0, b1, b2, b3⟩ := edge_cells hbx
  by_cases q1 : l &&& x.mu = x.mu
  · rw [q1] at z1
    by_cases q2 : l &&& x.no = 0
    · rw [q2] at z2
      have HGb : Hid (gb = true) := Lib.hid (by rw [HGo.out, decide_eq_true q1, decide_eq_true q2]; rfl)
      clear q1 q2 HGo
      go_enter Try.func106, Try.ntmps106
      go_wp2_with fail
      go_ret
      exact ⟨by rw [HGb.out]; rfl, hgx⟩
    · have HGb : Hid (gb = false) := Lib.hid (by rw [HGo.out, decide_eq_false q2, Bool.and_false])
      have t2 : (((l &&& x.no : Nat) : Int) == 0) = false := by simpa using q2
      clear q1 q2 HGo
      go_enter Try.func106, Try.ntmps106
      go_wp2_with fail
      go_ret
      exact ⟨by rw [HGb.out]; rfl, hgx⟩
  · have HGb : Hid (gb = false) := Lib.hid (by rw [HGo.out, decide_eq_false q1, Bool.false_and])
    have t1 : (((l &&& x.mu : Nat) : Int) == (x.mu : Int)) = false := by rw [beq_eq_false_iff_ne]; omega
    clear q1 HGo
    go_enter Try.func106, Try.ntmps106
    go_wp2_with fail
    go_ret
    exact ⟨by rw [HGb.out]; rfl, hgx⟩
end Go.Proofs.Ytcdepblajobemaa
namespace Go.Proofs.Ytcdepblajobemaa
open Go.RowKit

theorem yes_get (n : Nat) (L : List Nat) {i : Nat} (h : i < n) : (yesL n L n)[i]? = some (bit L i) := by
  unfold yesL hasI
  rw [List.getElem?_map, List.getElem?_range h]
  simp only [Option.map_some]
  rw [if_pos ⟨by omega, by omega⟩]
  rfl
theorem yes_getD (n : Nat) (L : List Nat) {i : Nat} (h : i < n) : (yesL n L n).getD i false = bit L i := by
  rw [List.getD_eq_getElem?_getD, yes_get n L h]
  rfl
theorem yes_ext {n : Nat} {A : List Bool} {L : List Nat} (hl : A.length = n) (h : ∀ i, i < n → A[i]? = some (bit L i)) : A = yesL n L n := by
  refine List.ext_getElem? fun j => ?_
  by_cases hj : j < n
  · rw [h j hj, yes_get n L hj]
  · rw [List.getElem?_eq_none (by omega), List.getElem?_eq_none (by rw [yesL_len]; omega)]
theorem yes_put {n : Nat} {M : List Nat} (g : Good n M) {t : Nat} (ht : t < n) : (yesL n M n).set t true = yesL n (put1 n M (t : Int)) n := by
  rw [put1_yes ht]
  refine yes_ext (by rw [List.length_set, yesL_len]) fun i hi => ?_
  rw [bit_put g ht]
  by_cases e : t = i
  · subst e
    rw [List.getElem?_set_self (by rw [yesL_len]; exact ht), decide_eq_true rfl, Bool.or_true]
  · rw [List.getElem?_set_ne e, yes_get n M hi, decide_eq_false e, Bool.or_false]
theorem yes_and (n : Nat) (L M : List Nat) : withL (yesL n L n) (yesL n M n) = yesL n (andL L M) n := by
  refine yes_ext (by rw [withL_len, yesL_len]) fun i hi => ?_
  unfold withL
  rw [List.getElem?_map, List.getElem?_range (by rw [yesL_len]; exact hi)]
  simp only [Option.map_some]
  rw [yes_getD n L hi, yes_getD n M hi, bit_and]
theorem yes_inj {n : Nat} {L M : List Nat} (g : Good n L) (h : Good n M) (e : yesL n L n = yesL n M n) : L = M :=
  good_ext g h fun i hi => by
    have h1 := yes_get n L hi
    rw [e, yes_get n M hi] at h1
    exact (Option.some.inj h1).symm
theorem yes_none (n m : Nat) : List.replicate n false = yesL n (List.replicate m 0) n :=
  yes_ext (by simp) fun i hi => by rw [List.getElem?_replicate, if_pos hi, bit_none]
/-- The document's step. -/
def stepY (A : List Bool) (l : Nat) (M : List Bool) (e : Edg) : List Bool := if (A.getD e.fr.toNat false && goesB e l) = true then M.set e.tt.toNat true else M
theorem yes_stepOne {n : Nat} {L M : List Nat} {l : Nat} {e : Edg} (g : Good n M) (h1 : 0 ≤ e.fr ∧ e.fr < n) (h2 : 0 ≤ e.tt ∧ e.tt < n) : stepY (yesL n L n) l (yesL n M n) e = yesL n (stepOne n L l M e) n := by
  unfold stepY stepOne
  rw [yes_getD n L (by omega), show hasI n L e.fr = bit L e.fr.toNat from by unfold hasI; rw [if_pos h1], Bool.and_comm]
  split
  · have := yes_put g (show e.tt.toNat < n by omega)
    rw [Int.toNat_of_nonneg h2.1] at this
    exact this
  · rfl
theorem yes_stepL {n : Nat} (hn : n ≤ 65536) {L : List Nat} {l : Nat} : ∀ (E : List Edg) (M : List Nat), Good n M → (∀ e ∈ E, (0 ≤ e.fr ∧ e.fr < n) ∧ (0 ≤ e.tt ∧ e.tt < n)) → E.foldl (stepY (yesL n L n) l) (yesL n M n) = yesL n (E.foldl (stepOne n L l) M) n
  | [], _, _, _ => rfl
  | e :: E, M, g, h => by
    have he := h e (by simp)
    rw [List.foldl_cons, List.foldl_cons, yes_stepOne g he.1 he.2]
    refine yes_stepL hn E _ ?_ (fun x hx => h x (by simp [hx]))
    unfold stepOne
    split
    · exact good_put1 g _
    · exact g
end Go.Proofs.Ytcdepblajobemaa
namespace Go.Proofs.Ytcdepblajobemaa
open Go.RowKit

def stepsY (n : Nat) (A : List Bool) (l : Nat) (E : List Edg) : List Bool := E.foldl (stepY A l) (List.replicate n false)
theorem stepsY_take {n : Nat} {A : List Bool} {l : Nat} {E : List Edg} {k : Nat} (h : k < E.length) : stepsY n A l (E.take (k + 1)) = stepY A l (stepsY n A l (E.take k)) (E.getD k edg0) := by
  unfold stepsY
  rw [List.take_succ_eq_append_getElem h, List.foldl_append, List.getD_eq_getElem?_getD, List.getElem?_eq_getElem h]
  rfl
theorem stepY_len (A : List Bool) (l : Nat) (M : List Bool) (e : Edg) : (stepY A l M e).length = M.length := by
  unfold stepY
  split
  · rw [List.length_set]
  · rfl
theorem stepsY_len (A : List Bool) (l : Nat) : ∀ (E : List Edg) (M : List Bool), (E.foldl (stepY A l) M).length = M.length
  | [], _ => rfl
  | e :: E, M => by rw [List.foldl_cons, stepsY_len A l E, stepY_len]
set_option maxHeartbeats 4000000 in
theorem refstep10 (vp vi ve vf v : Value) (a : Aut) (n : Nat) (hn : a.n = (n : Int)) (h65 : n ≤ 65536) (A : List Bool) (l : Nat) (hl : l ≤ 65535) (w : World) (h : AutAt w vp vi ve vf a) (hv : BoolsAt w v A) (hA : A.length = n) (hE : ∀ k, k < a.E.length → (0 ≤ (a.E.getD k edg0).fr ∧ (a.E.getD k edg0).fr < n) ∧ (0 ≤ (a.E.getD k edg0).tt ∧ (a.E.getD k edg0).tt < n)) :
    Calls Try.prog 66 #[autV vp vi ve vf a.n, v, .int .u16 (l : Int)] w fun e w' => ∃ x, e = .returned x ∧ w'.ownsRow w.heap.size 4 1 x n ((stepsY n A l a.E).map tv01) ∧ w.grownBy w' none := by
  obtain ⟨i0, hi, hz0, hz1, hz2⟩ := info_parts Try.info4
  have HA := Lib.hid h
  have HV := Lib.hid hv
  obtain ⟨ap, cp, rfl, _⟩ := h.p
  obtain ⟨ai, ci, rfl, _⟩ := h.i
  obtain ⟨ae, ce, rfl, hce, hbe, hle, _⟩ := h.e
  obtain ⟨af, cf, rfl, _⟩ := h.f
  obtain ⟨av, cv, rfl, -⟩ := hv
  have HBe := Lib.hid hbe
  have HE := Lib.hid hE
  clear h hbe hE
  rw [hn]
  clear hn
  have hga := World.grownBy_alloc w (.cells #[.slice ap a.P.length cp, .int .i64 (n : Int), .slice ai a.I.length ci, .slice ae a.E.length ce, .slice af a.F.length cf] 47) none
  have hba := heap_alloc_new w (.cells #[.slice ap a.P.length cp, .int .i64 (n : Int), .slice ai a.I.length ci, .slice ae a.E.length ce, .slice af a.F.length cf] 47)
  have c1 : (w.alloc (.cells #[.slice ap a.P.length cp, .int .i64 (n : Int), .slice ai a.I.length ci, .slice ae a.E.length ce, .slice af a.F.length cf] 47)).cell? ⟨w.heap.size, 1, none⟩ = some (.int .i64 (n : Int)) := by simp only [World.cell?, hba]; rfl
  unfold autV
  have hA1 : A.length ≤ n ∧ n ≤ A.length := by omega
  clear hA
  obtain ⟨hA1, hA2⟩ := hA1
  go_enter Try.func66, Try.ntmps66
  have hsz0 : (w.alloc (.cells #[.slice ap a.P.length cp, .int .i64 (n : Int), .slice ai a.I.length ci, .slice ae a.E.length ce, .slice af a.F.length cf] 47)).heap.size = w.heap.size + 1 := World.size_alloc _ _
  go_wp2_with (at_make; refine wpList_make_full _ rfl _ _ 25 rfl w.heap.size 4 i0 (.bool false) 1 Try.underlying25 hi hz0 hz1 .i64 .i64 _ _ n rfl rfl (by omega) (by omega) (by rw [hz2]; omega) (by unfold maxLen; omega) (by omega) ?_; intro w0 hown0 hgrow0)
  rw [Nat.mul_one, show (Value.bool false).cells = #[Value.bool false] from rfl, toList_madeCells_one] at hown0
  have c3 : w0.cell? ⟨w.heap.size, 3, none⟩ = some (.slice ae a.E.length ce) := by
    have : (w.alloc (.cells #[.slice ap a.P.length cp, .int .i64 (n : Int), .slice ai a.I.length ci, .slice ae a.E.length ce, .slice af a.F.length cf] 47)).cell? ⟨w.heap.size, 3, none⟩ = some (.slice ae a.E.length ce) := by simp only [World.cell?, hba]; rfl
    exact hgrow0.cell this (by simp)
  have HG0 := Lib.hid (gb_trans hga hgrow0 (Or.inl rfl))
  rw [hsz0] at hown0
  try rw [hsz0]
  have HO0 : Hid (w0.ownsRow w.heap.size 4 1 (.slice (some ⟨w.heap.size + 1, 0, none⟩) n n) n ((stepsY n A l (a.E.take 0)).map tv01)) := Lib.hid (by
    unfold stepsY
    rw [List.take_zero, List.foldl_nil, List.map_replicate]
    exact hown0)
  have HC3 : Hid (w0.cell? ⟨w.heap.size, 3, none⟩ = some (.slice ae a.E.length ce)) := Lib.hid c3
  have HGr := Lib.hid (gb_refl w0 none)
  clear hown0 hgrow0 hga hba c1 hsz0 c3
  go_loopw [8] (fun i wr => ∃ k : Nat, k ≤ a.E.length ∧ i = .int .i64 (k : Int) ∧ Hid (wr.ownsRow w.heap.size 4 1 (.slice (some ⟨w.heap.size + 1, 0, none⟩) n n) n ((stepsY n A l (a.E.take k)).map tv01)) ∧ Hid (w.grownBy wr none) ∧ Hid (wr.cell? ⟨w.heap.size, 3, none⟩ = some (.slice ae a.E.length ce))) (fun i _ => a.E.length - (intOf i).toNat)
  case atStart => exact ⟨0, Nat.zero_le _, rfl, HO0, HG0, HC3⟩
  case round =>
    obtain ⟨k, hk, rfl, HO, HG, HC⟩ := hrel
    have c3 := HC.out
    by_cases hlt : k < a.E.length
    · have hkI : (k : Int) < (a.E.length : Int) := by omega
      obtain ⟨_, _, e1, _, _, _, hc⟩ := HA.out.e.kept HG.out
      cases e1
      rcases hc with hc | ⟨b, off, rfl, hc⟩
      · rw [hc] at hlt; exact absurd hlt (by simp)
      obtain ⟨d0, d1, d2, d3⟩ := hc k hlt
      obtain ⟨⟨r1, r2⟩, ⟨r3, r4⟩, r5, r6⟩ := HBe.out k hlt
      obtain ⟨⟨u1, u2⟩, ⟨u3, u4⟩⟩ := HE.out k hlt
      have HT := Lib.hid (stepsY_take (n := n) (A := A) (l := l) hlt)
      clear hc
      generalize a.E.getD k edg0 = x at d0 d1 d2 d3 r1 r2 r3 r4 r5 r6 u1 u2 u3 u4 HT
      have hMl : (stepsY n A l (a.E.take k)).length = n := by unfold stepsY; rw [stepsY_len]; simp
      generalize stepsY n A l (a.E.take k) = M at HO HT hMl
      obtain ⟨M', HT0⟩ : ∃ M', Hid (stepsY n A l (a.E.take (k + 1)) = M') := ⟨_, rfl⟩
      rw [HT0.out] at HT
      have hbx := heap_alloc_new wr (.cells #[.int .i64 x.fr, .int .i64 x.tt, .int .u16 (x.mu : Int), .int .u16 (x.no : Int)] 61)
      have hgx := World.grownBy_alloc wr (.cells #[.int .i64 x.fr, .int .i64 x.tt, .int .u16 (x.mu : Int), .int .u16 (x.no : Int)] 61) none
      have HHx : Hid (∀ wx, Calls Try.prog 106 #[.agg #[.int .i64 x.fr, .int .i64 x.tt, .int .u16 (x.mu : Int), .int .u16 (x.no : Int)], .int .u16 (l : Int)] wx fun e w' => e = .returned (.bool (goesB x l)) ∧ wx.grownBy w' none) := Lib.hid fun wx => refgoes_any x l wx hl r5 r6
      have HGx : Hid (w.grownBy (wr.alloc (.cells #[.int .i64 x.fr, .int .i64 x.tt, .int .u16 (x.mu : Int), .int .u16 (x.no : Int)] 61)) none) := Lib.hid (gb_trans HG.out hgx (Or.inl rfl))
      have HOx := Lib.hid (HO.out.kept hgx (Classical.em _))
      have HCx : Hid ((wr.alloc (.cells #[.int .i64 x.fr, .int .i64 x.tt, .int .u16 (x.mu : Int), .int .u16 (x.no : Int)] 61)).cell? ⟨w.heap.size, 3, none⟩ = some (.slice (some ⟨b, off, none⟩) a.E.length ce)) := Lib.hid (hgx.cell HC.out (by simp))
      have HBx := Lib.hid hbx
      obtain ⟨b0, b1, b2, b3⟩ := edge_cells hbx
      obtain ⟨fr, hfr⟩ : ∃ fr : Nat, x.fr = (fr : Int) := ⟨x.fr.toNat, (Int.toNat_of_nonneg u1).symm⟩
      obtain ⟨tt, htt⟩ : ∃ tt : Nat, x.tt = (tt : Int) := ⟨x.tt.toNat, (Int.toNat_of_nonneg u3).symm⟩
      have hfn : fr < A.length := by omega
      have htn : tt < n := by omega
      have HO2 : Hid (stepY A l M x = if (A.getD fr false && goesB x l) = true then M.set tt true else M) := Lib.hid (by unfold stepY; rw [hfr, htt]; rfl)
      rw [hfr] at b0 b1 b2 b3 d0 HHx HGx HOx HCx HBx
      rw [htt] at b0 b1 b2 b3 d1 HHx HGx HOx HCx HBx
      have HVx := Lib.hid (HV.out.kept HGx.out)
      obtain ⟨ba, oa, rfl, hca⟩ := bools_cell HVx.out hfn
      have hfnI : (fr : Int) < (A.length : Int) := by omega
      cases hb : A.getD fr false
      · rw [hb] at hca HO2
        have HM1 : Hid (M' = M) := Lib.hid (by rw [HT.out, HO2.out, Bool.false_and]; rfl)
        clear HO2 HHx
        go_wp2_with fail
        exact ⟨⟨k + 1, by omega, by go_num, Lib.hid (by rw [HT0.out, HM1.out]; exact HOx.out), HGx, HCx⟩, by simp [intOf]; omega⟩
      · rw [hb, Bool.true_and] at HO2
        rw [hb] at hca
        cases hgo : goesB x l
        · rw [hgo] at HO2 HHx
          have HM1 : Hid (M' = M) := Lib.hid (by rw [HT.out, HO2.out]; rfl)
          clear HO2
          go_wp2_with (go_at_call 106; refine (HHx.out _).mono ?_; rintro e w2 ⟨rfl, hg2⟩)
          exact ⟨⟨k + 1, by omega, by go_num, Lib.hid (by rw [HT0.out, HM1.out]; exact HOx.out.kept hg2 (Classical.em _)), Lib.hid (gb_trans HGx.out hg2 (Or.inl rfl)), Lib.hid (hg2.cell HCx.out (by simp))⟩, by simp [intOf]; omega⟩
        · rw [hgo] at HO2 HHx
          have HM1 : Hid (M' = M.set tt true) := Lib.hid (by rw [HT.out, HO2.out]; rfl)
          clear HO2
          have htl : tt < (M.map tv01).length := by rw [List.length_map, hMl]; exact htn
          go_wp2_with (go_at_call 106; refine (HHx.out _).mono ?_; rintro e w2 ⟨rfl, hg2⟩; have b1' := hg2.cell b1 (by simp); have hO2 := HOx.out.kept hg2 (Classical.em _); obtain ⟨u0, hu0⟩ : ∃ u, w2.cell? ⟨w.heap.size + 1, tt, none⟩ = some u := ⟨_, (hO2.cellAt tt (by omega)).trans (List.getElem?_eq_getElem htl)⟩; have hf0 := hO2.frozenAt tt; have HSt := Lib.hid (hO2.stored tt (.bool true)); clear hO2)
          exact ⟨⟨k + 1, by omega, by go_num, Lib.hid (by rw [HT0.out, HM1.out, List.map_set]; exact HSt.out.1), Lib.hid (gb_trans (gb_trans HGx.out hg2 (Or.inl rfl)) HSt.out.2 (Or.inr (Or.inr ⟨_, rfl, by omega⟩))), Lib.hid (HSt.out.2.cell (hg2.cell HCx.out (by simp)) (by simp))⟩, by simp [intOf]; omega⟩
    · obtain rfl : k = a.E.length := by omega
      have hkI : ¬ (a.E.length : Int) < (a.E.length : Int) := by omega
      have HOe := HO.out
      rw [List.take_length] at HOe
      have HOf := Lib.hid HOe
      clear HOe
      go_wp2_with fail
      go_ret
      exact ⟨_, rfl, HOf.out, HG.out⟩
end Go.Proofs.Ytcdepblajobemaa
namespace Go.Proofs.Ytcdepblajobemaa
open Go.RowKit

def litY (n : Nat) (L : List Nat) : Lit := .string ((textL (yesL n L n)).map UInt8.ofNat)
theorem litY_inj {n : Nat} {L M : List Nat} (g : Good n L) (h : Good n M) (e : litY n L = litY n M) : L = M := by
  refine yes_inj g h (textS_inj ?_)
  simp only [litY, Lit.string.injEq] at e
  simp [textS, e]
theorem isKeyY (n : Nat) (L : List Nat) : WideAt.IsKeyLit (litY n L) := trivial

structure IdxMapY (n : Nat) (Ls : List (List Nat)) (D : DataW Unit) : Prop where
  isMap : Maps.IsMap D
  hit : ∀ (i : Nat) (L : List Nat), Ls[i]? = some L → (∀ z, D.atKey (litY n L) z = .lit (.int .i64 (i : Int))) ∧ Maps.has D (litY n L) = true
  miss : ∀ L, Good n L → L ∉ Ls → Maps.has D (litY n L) = false

theorem IdxMapY.none (n : Nat) : IdxMapY n [] (.map [] : DataW Unit) := ⟨⟨[], rfl⟩, fun i L h => by simp at h, fun L _ _ => rfl⟩
theorem IdxMapY.put {n : Nat} {Ls : List (List Nat)} {D : DataW Unit} (h : IdxMapY n Ls D) (hg : ∀ L ∈ Ls, Good n L) {L : List Nat} (g : Good n L) (hL : L ∉ Ls) :
    IdxMapY n (Ls ++ [L]) (D.put (litY n L) (.lit (.int .i64 (Ls.length : Int)))) := by
  refine ⟨h.isMap.put _ _, fun i M hM => ?_, fun M gM hM => ?_⟩
  · rw [List.getElem?_append] at hM
    by_cases hi : i < Ls.length
    · rw [if_pos hi] at hM
      have hmem : M ∈ Ls := List.mem_of_getElem? hM
      have hne : litY n M ≠ litY n L := fun e => hL (litY_inj (hg M hmem) g e ▸ hmem)
      refine ⟨fun z => ?_, ?_⟩
      · rw [Maps.atKey_put_other hne]; exact (h.hit i M hM).1 z
      · rw [Maps.has_put_other hne]; exact (h.hit i M hM).2
    · rw [if_neg hi] at hM
      have hi2 : i = Ls.length := by
        have := (List.getElem?_eq_some_iff.1 hM).1
        simp at this
        omega
      subst hi2
      simp at hM
      subst hM
      exact ⟨fun z => Maps.atKey_put_same h.isMap (isKeyY n L) _ z, Maps.has_put_same h.isMap (isKeyY n L) _⟩
  · simp at hM
    have hne : litY n M ≠ litY n L := fun e => hM.2 (litY_inj gM g e)
    rw [Maps.has_put_other hne]
    exact h.miss M gM hM.1
theorem keyOf_text {n : Nat} (h : n ≤ 65536) (L : List Nat) : keyOf Try.prog 9 (.string (textS (yesL n L n))) = some (litY n L) := by
  have h2 : (textS (yesL n L n)).size ≤ maxLen := by
    have : (textS (yesL n L n)).size = n := by simp [textS, textL, ByteArray.size, yesL_len]
    rw [this]; unfold maxLen; omega
  rw [WideMaps.keyOf_string_mk Try.underlying9 h2]
  simp [litY, textS]
/-- The rows' places. -/
def TabY (w : World) (mb n : Nat) (Rs : List (List Nat)) : Prop := ∃ D, ownsBy w mb Rs.length D ∧ IdxMapY n Rs D
theorem TabY.kept {w w' : World} {mb n : Nat} {Rs : List (List Nat)} {r : Option Nat} (h : TabY w mb n Rs) (hg : w.grownBy w' r) (hne : some mb ≠ r) : TabY w' mb n Rs := by
  obtain ⟨D, hD, hI⟩ := h
  exact ⟨D, hD.kept hg hne, hI⟩
theorem TabY.blk {w : World} {mb n : Nat} {Rs : List (List Nat)} (h : TabY w mb n Rs) : ∃ es c, w.heap[mb]? = some (.map es c) := by
  obtain ⟨D, ⟨es, c, hb, _⟩, _⟩ := h
  exact ⟨es, c, hb⟩
theorem TabY.ne {w : World} {mb n k : Nat} {Rs : List (List Nat)} {c : Array Value} {e : TypeId} {fr : Nat × Nat} (h : TabY w mb n Rs) (hk : w.heap[k]? = some (.cells c e fr)) : mb ≠ k := by
  rintro rfl
  obtain ⟨es, c, hb⟩ := h.blk
  rw [hb] at hk
  simp at hk
theorem TabY.off {w : World} {mb n Z e m : Nat} {Rs : List (List Nat)} {v : Value} {xs : List Value} (h : TabY w mb n Rs) (ho : w.ownsRow Z e 1 v m xs) : some mb ≠ v.ownBlock := by
  intro e2
  obtain ⟨cur, hc⟩ := own_blk' ho e2.symm
  exact h.ne hc rfl
theorem look_y {w : World} {mb n : Nat} {Rs : List (List Nat)} (h : TabY w mb n Rs) (hn : n ≤ 65536) {L : List Nat} (g : Good n L) (s : ByteArray) (hs : textS (yesL n L n) = s) :
    ∃ c : Int, (Instr.lookup 114 (.map (some mb)) (.string s) true).run Try.prog w = .ok (.tuple #[.int .i64 c, .bool (decide (L ∈ Rs))]) w ∧ (L ∈ Rs → c = (Rs.idxOf L : Int)) := by
  obtain ⟨D, hD, hI⟩ := h
  obtain ⟨u, ps, hrun, hv⟩ := hD.look_ok strKeyed Try.underlying114 (Try.zeroValue3 w) (plainElem_int Try.underlying3 (by decide)) (keyOf_text hn L)
  obtain ⟨c, rfl, hc, _⟩ := plainElem_int_inv Try.underlying3 hv
  rw [hs] at hrun
  have hc1 := congrArg Prod.fst hc
  by_cases hm : L ∈ Rs
  · have hlt := List.idxOf_lt_length_iff.2 hm
    have hit := hI.hit (Rs.idxOf L) L (by rw [List.getElem?_eq_getElem hlt, List.getElem_idxOf])
    rw [hit.2] at hrun
    rw [hit.1] at hc1
    refine ⟨c, by simpa [hm] using hrun, fun _ => ?_⟩
    simp only [DataW.lit.injEq, Lit.int.injEq, true_and] at hc1
    exact hc1.symm
  · rw [hI.miss L g hm] at hrun
    exact ⟨c, by simpa [hm] using hrun, fun h' => absurd h' hm⟩
theorem put_y {w : World} {mb n : Nat} {Rs : List (List Nat)} (h : TabY w mb n Rs) (hn : n ≤ 65536) (hl : Rs.length ≤ 1000000) (hg : ∀ L ∈ Rs, Good n L) {L : List Nat} (g : Good n L) (hL : L ∉ Rs) (s : ByteArray) (hs : textS (yesL n L n) = s) :
    ∃ w', (Instr.mapUpdate 114 (.map (some mb)) (.string s) (.int .i64 (Rs.length : Int))).run Try.prog w = .ok () w' ∧ TabY w' mb n (Rs ++ [L]) ∧ w.grownBy w' (some mb) := by
  obtain ⟨D, hD, hI⟩ := h
  obtain ⟨w3, hrun, hD3, hg3⟩ := hD.update strKeyed Try.underlying114 (by unfold maxLen; omega) (keyOf_text hn L) (plainElem_int (e := 3) (q := .i64) (a := (Rs.length : Int)) Try.underlying3 (WalkArith.wf_i64 (by omega)))
  rw [hs] at hrun
  refine ⟨w3, hrun, ⟨_, ?_, hI.put hg g hL⟩, hg3⟩
  rw [List.length_append, List.length_singleton]
  exact hD3
end Go.Proofs.Ytcdepblajobemaa
namespace Go.Proofs.Ytcdepblajobemaa
open Go.RowKit

/-- All that it has at hand, but the rows' places. -/
structure RfAt (Z bx bz bd : Nat) (A : Array Value) (n : Nat) (w : World) (Rs : List (List Nat)) (vt : Value) (ts : List Value) (vp vn vl : Value) (us : List Value) (P : List ByteArray) (R : List (List Int)) (B : List Bool) : Prop where
  row : w.ownsRow Z 25 1 vt Rs.length ts
  tl : ts.length = Rs.length
  each : ∀ k, k < Rs.length → w.ownsRow Z 4 1 (ts.getD k default) n ((yesL n (Rs.getD k []) n).map tv01)
  sep : ∀ k, k < Rs.length → Sep (ts.getD k default) vl
  box : w.heap[bx]? = some (.cells A 47 (0, 0))
  zero : w.heap[bz]? = some (.cells #[nilS, nilS, nilS] 27 (0, 0))
  dfa : w.heap[bd]? = some (.cells #[vp, vn, vl] 27 (0, 0))
  ne : bz ≠ bd
  zd : Z ≤ bd
  out : BuiltAt Z w vp vn vl us P R B

section
variable {Z bx bz bd n : Nat} {A : Array Value} {w w' : World} {Rs : List (List Nat)} {vt : Value} {ts : List Value} {vp vn vl : Value} {us : List Value} {P : List ByteArray} {R : List (List Int)} {B : List Bool}
theorem getD_new {α : Type} {l : List α} {x d : α} {k : Nat} (h : k = l.length) : (l ++ [x]).getD k d = x := by
  subst h
  rw [List.getD_eq_getElem?_getD, List.getElem?_append_right (Nat.le_refl _), Nat.sub_self]
  rfl
theorem getD_old {α : Type} {l : List α} {x d : α} {k : Nat} (h : k < l.length) : (l ++ [x]).getD k d = l.getD k d := by
  rw [List.getD_eq_getElem?_getD, List.getD_eq_getElem?_getD, List.getElem?_append_left h]
namespace RfAt
theorem turn {S : Nat → Prop} (h : RfAt Z bx bz bd A n w Rs vt ts vp vn vl us P R B) (hf : Fr S w w') (h1 : ∀ b, vt.ownBlock = some b → ¬ S b) (h2 : ∀ k, k < Rs.length → ∀ b, (ts.getD k default).ownBlock = some b → ¬ S b)
    (h3 : ¬ S bx) (h4 : ¬ S bz) (h5 : ¬ S bd) (ho : BuiltAt Z w' vp vn vl us P R B) : RfAt Z bx bz bd A n w' Rs vt ts vp vn vl us P R B := by
  have hk : ∀ {k : Nat} {c : Array Value} {e : TypeId} {fr : Nat × Nat}, w.heap[k]? = some (.cells c e fr) → ¬ S k → w'.heap[k]? = some (.cells c e fr) := fun {k c e fr} h1 h2 => by
    rw [hf.block k (Array.getElem?_eq_some_iff.1 h1).1 h2]
    exact h1
  exact ⟨hf.row h.row h1, h.tl, fun k hk => hf.row (h.each k hk) (h2 k hk), h.sep, hk h.box h3, hk h.zero h4, hk h.dfa h5, h.ne, h.zd, ho⟩
theorem kept (h : RfAt Z bx bz bd A n w Rs vt ts vp vn vl us P R B) (hg : w.grownBy w' none) : RfAt Z bx bz bd A n w' Rs vt ts vp vn vl us P R B :=
  h.turn (S := fun _ => False) (Fr.of_none hg) (fun _ _ h => h) (fun _ _ _ _ h => h) (fun h => h) (fun h => h) (fun h => h) (h.out.kept hg)
/-- The map is written. -/
theorem mapd {mb : Nat} {es : Array MapEntry} {c : Nat} (h : RfAt Z bx bz bd A n w Rs vt ts vp vn vl us P R B) (hm : w.heap[mb]? = some (.map es c)) (hg : w.grownBy w' (some mb)) : RfAt Z bx bz bd A n w' Rs vt ts vp vn vl us P R B := by
  have hf : Fr (· = mb) w w' := Fr.of_gb hg (fun k e => by cases e; rfl)
  have hc : ∀ {k : Nat} {c : Array Value} {e : TypeId} {fr : Nat × Nat}, w.heap[k]? = some (.cells c e fr) → ¬ k = mb := fun {k c e fr} h1 h2 => by
    subst h2; rw [hm] at h1; simp at h1
  have ho : ∀ {e m : Nat} {u : Value} {xs : List Value}, w.ownsRow Z e 1 u m xs → ∀ b, u.ownBlock = some b → ¬ b = mb := fun {e m u xs} h1 b hb => by
    obtain ⟨cur, hcu⟩ := own_blk' h1 hb
    exact hc hcu
  exact h.turn hf (ho h.row) (fun k hk => ho (h.each k hk)) (hc h.box) (hc h.zero) (hc h.dfa) (h.out.keptS hf (ho h.out.p) (ho h.out.n) (ho h.out.b) (fun k hk => ho (h.out.each k (by have := h.out.u; omega))))
/-- A block of numbers that is none of these is written. -/
theorem far {b : Nat} {c : Array Value} {fr : Nat × Nat} (h : RfAt Z bx bz bd A n w Rs vt ts vp vn vl us P R B) (hg : w.grownBy w' (some b)) (hb : w.heap[b]? = some (.cells c 3 fr))
    (hu : ∀ k, k < us.length → (us.getD k default).ownBlock ≠ some b) : RfAt Z bx bz bd A n w' Rs vt ts vp vn vl us P R B := by
  have hf : Fr (· = b) w w' := Fr.of_gb hg (fun k e => by cases e; rfl)
  refine h.turn hf (fun k hk (e : k = b) => own_off' h.row hb (by decide) (e ▸ hk)) (fun j hj k hk (e : k = b) => own_off' (h.each j hj) hb (by decide) (e ▸ hk)) (fun (e : bx = b) => blk_ne h.box hb (by decide) (by rw [e])) (fun (e : bz = b) => blk_ne h.zero hb (by decide) (by rw [e])) (fun (e : bd = b) => blk_ne h.dfa hb (by decide) (by rw [e])) (h.out.far hg hb (by decide) hu)
theorem size (h : RfAt Z bx bz bd A n w Rs vt ts vp vn vl us P R B) : Z ≤ w.heap.size := by have := (Array.getElem?_eq_some_iff.1 h.dfa).1; have := h.zd; omega
theorem ulim (h : RfAt Z bx bz bd A n w Rs vt ts vp vn vl us P R B) : ∀ k, k < us.length → ∀ b, (us.getD k default).ownBlock = some b → Z ≤ b ∧ b < w.heap.size := fun k hk b hb => (h.out.each k (by have := h.out.u; omega)).lt b hb
theorem cellsA {x0 x1 x2 x3 x4 : Value} (h : RfAt Z bx bz bd #[x0, x1, x2, x3, x4] n w Rs vt ts vp vn vl us P R B) : w.cell? ⟨bx, 0, none⟩ = some x0 ∧ w.cell? ⟨bx, 1, none⟩ = some x1 ∧ w.cell? ⟨bx, 2, none⟩ = some x2 ∧ w.cell? ⟨bx, 3, none⟩ = some x3 ∧ w.cell? ⟨bx, 4, none⟩ = some x4 := buchi_cells h.box
theorem at_ (h : RfAt Z bx bz bd A n w Rs vt ts vp vn vl us P R B) {k : Nat} (hk : k < Rs.length) : ∃ g c, vt = .slice (some ⟨g, 0, none⟩) Rs.length c ∧ w.cell? ⟨g, k, none⟩ = some (ts.getD k default) ∧ w.ownsRow Z 4 1 (ts.getD k default) n ((yesL n (Rs.getD k []) n).map tv01) := by
  obtain ⟨g, c, e, _, hc⟩ := own_cell h.row k hk
  have htl := h.tl
  have he : ts[k]? = some (ts.getD k default) := by rw [List.getD_eq_getElem?_getD, List.getElem?_eq_getElem (by omega)]; rfl
  exact ⟨g, c, e, hc.trans he, h.each k hk⟩
/-- A row is set behind the others. -/
theorem rowd {w2 w5 : World} {v : Value} {L : List Nat} {g c : Nat} (h : RfAt Z bx bz bd A n w Rs vt ts vp vn vl us P R B) (hv : w.ownsRow Z 4 1 v n ((yesL n L n).map tv01)) (hs : Sep v vl) (h2 : w2 = w.alloc (.cells #[v] 25))
    (h5 : w5.ownsRow Z 25 1 (.slice (some ⟨g, 0, none⟩) (Rs.length + 1) c) (Rs.length + 1) (ts ++ [v])) (h6 : w2.grownBy w5 vt.ownBlock) :
    RfAt Z bx bz bd A n w5 (Rs ++ [L]) (.slice (some ⟨g, 0, none⟩) (Rs.length + 1) c) (ts ++ [v]) vp vn vl us P R B ∧ w.grownBy w5 vt.ownBlock := by
  subst h2
  have hg : w.grownBy w5 vt.ownBlock := gb_trans (gb_any (World.grownBy_alloc w _ none) _) h6 (Or.inr (Or.inl rfl))
  have hn := h.row
  have tk : ∀ {k : Nat} {c : Array Value} {e : TypeId} {fr : Nat × Nat}, w.heap[k]? = some (.cells c e fr) → 25 ≠ e → w5.heap[k]? = some (.cells c e fr) := fun {k c e fr} h1 h2 => blk_kept h1 hg (fun e2 => own_off' hn h1 h2 e2.symm)
  have rw5 : ∀ {e m : Nat} {u : Value} {xs : List Value}, w.ownsRow Z e 1 u m xs → e ≠ 25 → w5.ownsRow Z e 1 u m xs := fun {e m u xs} h1 h2 => h1.kept hg (own_apart hn h1 (fun e2 => h2 e2.symm))
  refine ⟨⟨?_, by simp [h.tl], ?_, ?_, tk h.box (by decide), tk h.zero (by decide), tk h.dfa (by decide), h.ne, h.zd, ⟨rw5 h.out.p (by decide), rw5 h.out.n (by decide), h.out.u, fun k hk => rw5 (h.out.each k hk) (by decide), h.out.sep, rw5 h.out.b (by decide)⟩⟩, hg⟩
  · rw [List.length_append, List.length_singleton]; exact h5
  · intro k hk
    rw [List.length_append, List.length_singleton] at hk
    have htl := h.tl
    by_cases e1 : k < Rs.length
    · rw [getD_old (by omega), getD_old e1]
      exact rw5 (h.each k e1) (by decide)
    · rw [getD_new (by omega), getD_new (by omega)]
      exact rw5 hv (by decide)
  · intro k hk
    rw [List.length_append, List.length_singleton] at hk
    have htl := h.tl
    by_cases e1 : k < Rs.length
    · rw [getD_old (by omega)]
      exact h.sep k e1
    · rw [getD_new (by omega)]
      exact hs
/-- A row of numbers is set behind the others. -/
theorem next {w2 w5 : World} {v : Value} {A1 : List Int} {g c : Nat} (h : RfAt Z bx bz bd A n w Rs vt ts vp vn vl us P R B) (hv : w.ownsRow Z 3 1 v A1.length (A1.map iv)) (hs : ∀ k, k < us.length → Sep (us.getD k default) v) (h2 : w2 = w.alloc (.cells #[v] 43))
    (h5 : w5.ownsRow Z 43 1 (.slice (some ⟨g, 0, none⟩) (R.length + 1) c) (R.length + 1) (us ++ [v])) (h6 : w2.grownBy w5 vn.ownBlock) :
    RfAt Z bx bz bd A n (w5.setCell ⟨bd, 1, none⟩ (.slice (some ⟨g, 0, none⟩) (R.length + 1) c)) Rs vt ts vp (.slice (some ⟨g, 0, none⟩) (R.length + 1) c) vl (us ++ [v]) P (R ++ [A1]) B ∧ w.grownBy w5 vn.ownBlock ∧ w5.cell? ⟨bd, 1, none⟩ = some vn ∧ w5.frozen? ⟨bd, 1, none⟩ = false := by
  subst h2
  have hg : w.grownBy w5 vn.ownBlock := gb_trans (gb_any (World.grownBy_alloc w _ none) _) h6 (Or.inr (Or.inl rfl))
  have hn := h.out.n
  have tk : ∀ {k : Nat} {c : Array Value} {e : TypeId} {fr : Nat × Nat}, w.heap[k]? = some (.cells c e fr) → 43 ≠ e → w5.heap[k]? = some (.cells c e fr) := fun {k c e fr} h1 h2 => blk_kept h1 hg (fun e2 => own_off' hn h1 h2 e2.symm)
  have hd5 := tk h.dfa (by decide)
  have hgs : w5.grownBy (w5.setCell ⟨bd, 1, none⟩ (.slice (some ⟨g, 0, none⟩) (R.length + 1) c)) (some bd) := gb_set
  have tk2 : ∀ {k : Nat} {c' : Array Value} {e : TypeId} {fr : Nat × Nat}, w5.heap[k]? = some (.cells c' e fr) → e ≠ 27 → (w5.setCell ⟨bd, 1, none⟩ (.slice (some ⟨g, 0, none⟩) (R.length + 1) c)).heap[k]? = some (.cells c' e fr) := fun {k c' e fr} h1 h2 => blk_kept h1 hgs (blk_ne h1 hd5 h2)
  have rw5 : ∀ {e m : Nat} {u : Value} {xs : List Value}, w.ownsRow Z e 1 u m xs → e ≠ 43 → e ≠ 27 → (w5.setCell ⟨bd, 1, none⟩ (.slice (some ⟨g, 0, none⟩) (R.length + 1) c)).ownsRow Z e 1 u m xs := fun {e m u xs} h1 h2 h3 => by
    have h4 := h1.kept hg (own_apart hn h1 (fun e2 => h2 e2.symm))
    exact h4.kept hgs (own_off h4 hd5 h3)
  refine ⟨⟨rw5 h.row (by decide) (by decide), h.tl, fun k hk => rw5 (h.each k hk) (by decide) (by decide), h.sep, tk2 (tk h.box (by decide)) (by decide), ?_, ?_, h.ne, h.zd, ⟨rw5 h.out.p (by decide) (by decide), ?_, by simp [h.out.u], ?_, ?_, rw5 h.out.b (by decide) (by decide)⟩⟩, hg, ?_, ?_⟩
  · exact blk_kept (tk h.zero (by decide)) hgs (fun e => h.ne (Option.some.inj e))
  · exact heap_setCell_same w5 bd 1 _ _ _ hd5
  · rw [List.length_append, List.length_singleton]
    exact h5.kept hgs (own_off h5 hd5 (by decide))
  · intro k hk
    rw [List.length_append, List.length_singleton] at hk
    have hul := h.out.u
    by_cases e1 : k < R.length
    · rw [getD_old (by omega), getD_old e1]
      exact rw5 (h.out.each k e1) (by decide) (by decide)
    · rw [getD_new (by omega), getD_new (by omega)]
      exact rw5 hv (by decide) (by decide)
  · have key : ∀ i j, i < us.length + 1 → j < us.length + 1 → i < j → Sep ((us ++ [v]).getD i default) ((us ++ [v]).getD j default) := fun i j hi hj hij => by
      rw [getD_old (by omega)]
      by_cases e1 : j < us.length
      · rw [getD_old e1]
        exact h.out.sep i j (by omega) e1 (by omega)
      · rw [getD_new (by omega)]
        exact hs i (by omega)
    intro i j hi hj hne
    rw [List.length_append, List.length_singleton] at hi hj
    rcases Nat.lt_or_gt_of_ne hne with h1 | h1
    · exact key i j hi hj h1
    · exact (key j i hj hi h1).symm
  · simp [World.cell?, hd5]
  · simp [World.frozen?, hd5]
/-- Whether a row lives is set behind the others. -/
theorem live {w2 w5 : World} {x : Bool} {g c : Nat} (h : RfAt Z bx bz bd A n w Rs vt ts vp vn vl us P R B) (h2 : w2 = w.alloc (.cells #[.bool x] 4))
    (h5 : w5.ownsRow Z 4 1 (.slice (some ⟨g, 0, none⟩) (B.length + 1) c) (B.length + 1) (B.map tv01 ++ [.bool x])) (h6 : w2.grownBy w5 vl.ownBlock) (h7 : vl.ownBlock = some g ∨ g = w2.heap.size) :
    RfAt Z bx bz bd A n (w5.setCell ⟨bd, 2, none⟩ (.slice (some ⟨g, 0, none⟩) (B.length + 1) c)) Rs vt ts vp vn (.slice (some ⟨g, 0, none⟩) (B.length + 1) c) us P R (B ++ [x]) ∧ w.grownBy w5 vl.ownBlock ∧ w5.cell? ⟨bd, 2, none⟩ = some vl ∧ w5.frozen? ⟨bd, 2, none⟩ = false := by
  subst h2
  have hg : w.grownBy w5 vl.ownBlock := gb_trans (gb_any (World.grownBy_alloc w _ none) _) h6 (Or.inr (Or.inl rfl))
  have hn := h.out.b
  have tk : ∀ {k : Nat} {c : Array Value} {e : TypeId} {fr : Nat × Nat}, w.heap[k]? = some (.cells c e fr) → 4 ≠ e → w5.heap[k]? = some (.cells c e fr) := fun {k c e fr} h1 h2 => blk_kept h1 hg (fun e2 => own_off' hn h1 h2 e2.symm)
  have hd5 := tk h.dfa (by decide)
  have hgs : w5.grownBy (w5.setCell ⟨bd, 2, none⟩ (.slice (some ⟨g, 0, none⟩) (B.length + 1) c)) (some bd) := gb_set
  have tk2 : ∀ {k : Nat} {c' : Array Value} {e : TypeId} {fr : Nat × Nat}, w5.heap[k]? = some (.cells c' e fr) → e ≠ 27 → (w5.setCell ⟨bd, 2, none⟩ (.slice (some ⟨g, 0, none⟩) (B.length + 1) c)).heap[k]? = some (.cells c' e fr) := fun {k c' e fr} h1 h2 => blk_kept h1 hgs (blk_ne h1 hd5 h2)
  have rw5 : ∀ {e m : Nat} {u : Value} {xs : List Value}, w.ownsRow Z e 1 u m xs → e ≠ 4 → e ≠ 27 → (w5.setCell ⟨bd, 2, none⟩ (.slice (some ⟨g, 0, none⟩) (B.length + 1) c)).ownsRow Z e 1 u m xs := fun {e m u xs} h1 h2 h3 => by
    have h4 := h1.kept hg (own_apart hn h1 (fun e2 => h2 e2.symm))
    exact h4.kept hgs (own_off h4 hd5 h3)
  refine ⟨⟨rw5 h.row (by decide) (by decide), h.tl, fun k hk => ?_, fun k hk b hb e => ?_, tk2 (tk h.box (by decide)) (by decide), ?_, ?_, h.ne, h.zd, ⟨rw5 h.out.p (by decide) (by decide), rw5 h.out.n (by decide) (by decide), h.out.u, fun k hk => rw5 (h.out.each k hk) (by decide) (by decide), h.out.sep, ?_⟩⟩, hg, ?_, ?_⟩
  · have h4 := (h.each k hk).kept hg (Sep.off' (h.sep k hk).symm)
    exact h4.kept hgs (own_off h4 hd5 (by decide))
  · obtain rfl : g = b := by simpa [Value.ownBlock] using e
    rcases h7 with h8 | h8
    · exact h.sep k hk _ hb h8
    · have := ((h.each k hk).lt _ hb).2
      rw [World.size_alloc] at h8
      omega
  · exact blk_kept (tk h.zero (by decide)) hgs (fun e => h.ne (Option.some.inj e))
  · exact heap_setCell_same w5 bd 2 _ _ _ hd5
  · rw [List.length_append, List.length_singleton, List.map_append]
    exact h5.kept hgs (own_off h5 hd5 (by decide))
  · simp [World.cell?, hd5]
  · simp [World.frozen?, hd5]
end RfAt
end

/-- What holds ahead of a round over the rows. -/
structure BIv (w : World) (a : Aut) (n : Nat) (V : List Nat) (A : Array Value) (bd mb : Nat) (vp : Value) (k : Nat) (vt : Value) (ts : List Value) (vn vl : Value) (us : List Value) (wr : World) : Prop where
  bld : RfAt w.heap.size w.heap.size (w.heap.size + 1) bd A n wr (growB a n V k) vt ts vp vn vl us a.P (outR a n V k) (outB a n V k)
  tab : TabY wr mb n (growB a n V k)
  mz : w.heap.size ≤ mb
  grown : w.grownBy wr none
  le : k ≤ (growB a n V k).length
/-- .. ahead of a round over the letters: l rows are there, m numbers are put down. -/
structure LIv (w : World) (a : Aut) (n : Nat) (V : List Nat) (A : Array Value) (bd mb : Nat) (vp : Value) (k l m : Nat) (vt : Value) (ts : List Value) (vn vl : Value) (us : List Value) (vr : Value) (wx : World) : Prop where
  bld : RfAt w.heap.size w.heap.size (w.heap.size + 1) bd A n wx (growL a n V k l) vt ts vp vn vl us a.P (outR a n V k) (outB a n V k)
  tab : TabY wx mb n (growL a n V k l)
  mz : w.heap.size ≤ mb
  grown : w.grownBy wx none
  row : wx.ownsRow w.heap.size 3 1 vr m (((numsB a n V k).take m).map iv)
  sep : ∀ j, j < us.length → Sep (us.getD j default) vr
  lt : k < (growB a n V k).length
section
variable {w : World} {a : Aut} {n : Nat} {V : List Nat} {A : Array Value} {bd mb : Nat} {vp : Value} {k l m : Nat} {vt : Value} {ts : List Value} {vn vl : Value} {us : List Value} {vr : Value} {wr wx : World}
theorem BIv.start (h : BIv w a n V A bd mb vp k vt ts vn vl us wr) (hlt : k < (growB a n V k).length) : LIv w a n V A bd mb vp k 0 0 vt ts vn vl us (.slice none 0 0) wr :=
  ⟨h.bld, h.tab, h.mz, h.grown, World.ownsRow_nil _ _ _ _, fun j hj b hb e => (by cases e), hlt⟩
theorem LIv.kept {w' : World} (h : LIv w a n V A bd mb vp k l m vt ts vn vl us vr wx) (hg : wx.grownBy w' none) : LIv w a n V A bd mb vp k l m vt ts vn vl us vr w' :=
  ⟨h.bld.kept hg, h.tab.kept hg (by simp), h.mz, gb_trans h.grown hg (Or.inl rfl), h.row.kept hg (Classical.em _), h.sep, h.lt⟩
/-- The row at hand, out of the list of all. -/
theorem LIv.from_ (h : LIv w a n V A bd mb vp k l m vt ts vn vl us vr wx) : ∃ g c, vt = .slice (some ⟨g, 0, none⟩) (growL a n V k l).length c ∧ wx.cell? ⟨g, k, none⟩ = some (ts.getD k default) ∧ wx.ownsRow w.heap.size 4 1 (ts.getD k default) n ((yesL n ((growB a n V k).getD k []) n).map tv01) ∧ k < (growL a n V k l).length := by
  have h1 := (growL_from (a := a) (n := n) (V := V) k l)
  have hk : k < (growL a n V k l).length := Nat.lt_of_lt_of_le h.lt h1.length_le
  obtain ⟨g, c, e, hc, h2⟩ := h.bld.at_ hk
  rw [prefix_getD h1 h.lt] at h2
  exact ⟨g, c, e, hc, h2, hk⟩
theorem LIv.old (h : LIv w a n V A bd mb vp k l m vt ts vn vl us vr wx) (hM : transF a n V ((growB a n V k).getD k []) l ∈ growL a n V k l) : LIv w a n V A bd mb vp k (l + 1) m vt ts vn vl us vr wx := by
  have e : growL a n V k (l + 1) = growL a n V k l := by rw [growL_succ]; unfold addR; rw [if_pos hM]
  exact ⟨by rw [e]; exact h.bld, by rw [e]; exact h.tab, h.mz, h.grown, h.row, h.sep, h.lt⟩
theorem LIv.new {x4 x5 : World} {v : Value} {g c : Nat} {M : List Nat} (h : LIv w a n V A bd mb vp k l m vt ts vn vl us vr wx) (hv : wx.ownsRow w.heap.size 4 1 v n ((yesL n M n).map tv01)) (hs : Sep v vl) (hM : M = transF a n V ((growB a n V k).getD k []) l) (hL : M ∉ growL a n V k l)
    (ht : TabY x4 mb n (growL a n V k l ++ [M])) (hg : wx.grownBy x4 (some mb)) (h5 : x5.ownsRow w.heap.size 25 1 (.slice (some ⟨g, 0, none⟩) ((growL a n V k l).length + 1) c) ((growL a n V k l).length + 1) (ts ++ [v])) (h6 : (x4.alloc (.cells #[v] 25)).grownBy x5 vt.ownBlock) :
    LIv w a n V A bd mb vp k (l + 1) m (.slice (some ⟨g, 0, none⟩) ((growL a n V k l).length + 1) c) (ts ++ [v]) vn vl us vr x5 := by
  have e : growL a n V k (l + 1) = growL a n V k l ++ [M] := by rw [growL_succ, ← hM]; unfold addR; rw [if_neg hL]
  obtain ⟨es, cl, hm⟩ := h.tab.blk
  have hoff : ∀ {e m : Nat} {u : Value} {xs : List Value}, wx.ownsRow w.heap.size e 1 u m xs → u.ownBlock = none ∨ u.ownBlock ≠ some mb := fun h1 => Or.inr (fun e2 => h.tab.off h1 e2.symm)
  have b4 := h.bld.mapd hm hg
  have v4 := hv.kept hg (hoff hv)
  obtain ⟨b5, hg5⟩ := b4.rowd v4 hs rfl h5 h6
  have r4 := h.row.kept hg (hoff h.row)
  have r5 := r4.kept hg5 (own_apart b4.row r4 (by decide))
  refine ⟨by rw [e]; exact b5, by rw [e]; exact ht.kept hg5 (ht.off b4.row), h.mz, ?_, r5, h.sep, h.lt⟩
  refine gb_trans (gb_trans h.grown hg (Or.inr (Or.inr ⟨mb, rfl, h.mz⟩))) hg5 ?_
  rcases hv2 : vt.ownBlock with _ | b
  · exact Or.inl rfl
  · exact Or.inr (Or.inr ⟨b, rfl, (h.bld.row.lt b hv2).1⟩)
/-- The number is put down. -/
theorem LIv.push {x4 x5 : World} {g c : Nat} (h : LIv w a n V A bd mb vp k l m vt ts vn vl us vr wx) (hl : m < 2 ^ a.P.length) (x : Int) (hx : x = (numsB a n V k).getD m 0) (h4 : x4 = wx.alloc (.cells #[.int .i64 x] 3))
    (h5 : x5.ownsRow w.heap.size 3 1 (.slice (some ⟨g, 0, none⟩) (m + 1) c) (m + 1) (((numsB a n V k).take m).map iv ++ [.int .i64 x])) (h6 : x4.grownBy x5 vr.ownBlock) (hg : vr.ownBlock = some g ∨ g = x4.heap.size) :
    LIv w a n V A bd mb vp k l (m + 1) vt ts vn vl us (.slice (some ⟨g, 0, none⟩) (m + 1) c) x5 := by
  subst h4
  have hga := World.grownBy_alloc wx (.cells #[.int .i64 x] 3) none
  have b4 := h.bld.kept hga
  have t4 := h.tab.kept hga (by simp)
  have r4 := h.row.kept hga (Classical.em _)
  have hrow : x5.ownsRow w.heap.size 3 1 (.slice (some ⟨g, 0, none⟩) (m + 1) c) (m + 1) (((numsB a n V k).take (m + 1)).map iv) := by
    rw [take_nums (by rw [numsB_len]; exact hl), ← hx]
    exact h5
  have hsep : ∀ j, j < us.length → Sep (us.getD j default) (.slice (some ⟨g, 0, none⟩) (m + 1) c) := fun j hj b hb e => by
    obtain rfl : g = b := by simpa [Value.ownBlock] using e
    rcases hg with h7 | h7
    · exact h.sep j hj _ hb h7
    · have := (h.bld.ulim j hj _ hb).2
      have := hga.size
      omega
  rcases hv : vr.ownBlock with _ | b
  · rw [hv] at h6
    exact ⟨b4.kept h6, t4.kept h6 (by simp), h.mz, gb_trans (gb_trans h.grown hga (Or.inl rfl)) h6 (Or.inl rfl), hrow, hsep, h.lt⟩
  · have hmo := t4.off r4
    rw [hv] at h6 hmo
    obtain ⟨cur, hc⟩ := own_blk' r4 hv
    have hbZ := (r4.lt b hv).1
    exact ⟨b4.far h6 hc (fun j hj e => h.sep j hj b e hv), t4.kept h6 hmo, h.mz, gb_trans (gb_trans h.grown hga (Or.inl rfl)) h6 (Or.inr (Or.inr ⟨b, rfl, hbZ⟩)), hrow, hsep, h.lt⟩
/-- The row of numbers stands behind the others; whether it lives is not yet told. -/
structure NIv (w : World) (a : Aut) (n : Nat) (V : List Nat) (A : Array Value) (bd mb : Nat) (vp : Value) (k : Nat) (vt : Value) (ts : List Value) (vn vl : Value) (us : List Value) (wx : World) : Prop where
  bld : RfAt w.heap.size w.heap.size (w.heap.size + 1) bd A n wx (growB a n V (k + 1)) vt ts vp vn vl us a.P (outR a n V (k + 1)) (outB a n V k)
  tab : TabY wx mb n (growB a n V (k + 1))
  mz : w.heap.size ≤ mb
  grown : w.grownBy wx none
  lt : k < (growB a n V k).length
theorem LIv.put {y2 : World} {g c : Nat} (h : LIv w a n V A bd mb vp k (2 ^ a.P.length) (2 ^ a.P.length) vt ts vn vl us vr wx) (h2 : y2.ownsRow w.heap.size 43 1 (.slice (some ⟨g, 0, none⟩) (k + 1) c) (k + 1) (us ++ [vr])) (h3 : (wx.alloc (.cells #[vr] 43)).grownBy y2 vn.ownBlock) :
    NIv w a n V A bd mb vp k vt ts (.slice (some ⟨g, 0, none⟩) (k + 1) c) vl (us ++ [vr]) (y2.setCell ⟨bd, 1, none⟩ (.slice (some ⟨g, 0, none⟩) (k + 1) c)) ∧ y2.cell? ⟨bd, 1, none⟩ = some vn ∧ y2.frozen? ⟨bd, 1, none⟩ = false := by
  have hor := outR_len a n V k
  have hnl := numsB_len a n V k
  have hrow := h.row
  rw [List.take_of_length_le (by omega)] at hrow
  have hN := h.bld.next (A1 := numsB a n V k) (w5 := y2) (g := g) (c := c) (by rw [hnl]; exact hrow) h.sep rfl (by rw [hor]; exact h2) h3
  rw [hor] at hN
  obtain ⟨b1, f1, c1, c2⟩ := hN
  have e1 : w.grownBy y2 none := gb_trans h.grown f1 (by
    rcases hv : vn.ownBlock with _ | b
    · exact Or.inl rfl
    · exact Or.inr (Or.inr ⟨b, rfl, (h.bld.out.n.lt b hv).1⟩))
  have t5 := h.tab.kept f1 (h.tab.off h.bld.out.n)
  have hd5 : y2.heap[bd]? = some (.cells #[vp, vn, vl] 27 (0, 0)) := blk_kept h.bld.dfa f1 (fun e2 => own_off' h.bld.out.n h.bld.dfa (by decide) e2.symm)
  have t6 := t5.kept (w' := y2.setCell ⟨bd, 1, none⟩ (.slice (some ⟨g, 0, none⟩) (k + 1) c)) gb_set (fun e => t5.ne hd5 (Option.some.inj e))
  rw [growL_end h.lt] at b1 t6
  exact ⟨⟨by rw [outR_succ]; exact b1, t6, h.mz, gb_trans e1 gb_set (Or.inr (Or.inr ⟨bd, rfl, h.bld.zd⟩)), h.lt⟩, c1, c2⟩
theorem NIv.from_ (h : NIv w a n V A bd mb vp k vt ts vn vl us wx) : ∃ g c, vt = .slice (some ⟨g, 0, none⟩) (growB a n V (k + 1)).length c ∧ wx.cell? ⟨g, k, none⟩ = some (ts.getD k default) ∧ wx.ownsRow w.heap.size 4 1 (ts.getD k default) n ((yesL n ((growB a n V k).getD k []) n).map tv01) ∧ k < (growB a n V (k + 1)).length := by
  have h1 : growB a n V k <+: growB a n V (k + 1) := by
    rw [← growL_end h.lt]
    exact growL_from k (2 ^ a.P.length)
  have hk : k < (growB a n V (k + 1)).length := Nat.lt_of_lt_of_le h.lt h1.length_le
  obtain ⟨g, c, e, hc, h2⟩ := h.bld.at_ hk
  rw [prefix_getD h1 h.lt] at h2
  exact ⟨g, c, e, hc, h2, hk⟩
theorem NIv.put {y4 : World} {g' c' : Nat} {x : Bool} (hn : n ≤ 14) (h : NIv w a n V A bd mb vp k vt ts vn vl us wx) (hx : x = true ↔ 0 < ones ((growB a n V k).getD k []))
    (h5 : y4.ownsRow w.heap.size 4 1 (.slice (some ⟨g', 0, none⟩) (k + 1) c') (k + 1) ((outB a n V k).map tv01 ++ [.bool x])) (h6 : (wx.drew.alloc (.cells #[.bool x] 4)).grownBy y4 vl.ownBlock) (h7 : vl.ownBlock = some g' ∨ g' = (wx.drew.alloc (.cells #[.bool x] 4)).heap.size) :
    BIv w a n V A bd mb vp (k + 1) vt ts vn (.slice (some ⟨g', 0, none⟩) (k + 1) c') us (y4.setCell ⟨bd, 2, none⟩ (.slice (some ⟨g', 0, none⟩) (k + 1) c')) ∧ y4.cell? ⟨bd, 2, none⟩ = some vl ∧ y4.frozen? ⟨bd, 2, none⟩ = false := by
  have hall := growB_all (a := a) (V := V) (n := n) (by omega) k
  have hka : k < (allB a n V).length := Nat.lt_of_lt_of_le h.lt hall.length_le
  have hob := outB_len a n V k (by omega)
  have hxx : x = decide (0 < ones ((growB a n V k).getD k [])) := by
    rw [Bool.eq_iff_iff, decide_eq_true_iff]
    exact hx
  have b0 := h.bld.kept (gb_drew wx none)
  have t0 := h.tab.kept (gb_drew wx none) (by simp)
  have hL := b0.live (w5 := y4) (x := x) (g := g') (c := c') rfl (by rw [hob]; exact h5) h6 h7
  rw [hob] at hL
  obtain ⟨b3, f2, c1, c2⟩ := hL
  have e3 : w.grownBy y4 none := gb_trans (gb_trans h.grown (gb_drew wx none) (Or.inl rfl)) f2 (by
    rcases hv : vl.ownBlock with _ | b
    · exact Or.inl rfl
    · exact Or.inr (Or.inr ⟨b, rfl, (h.bld.out.b.lt b hv).1⟩))
  have t5 := t0.kept f2 (t0.off b0.out.b)
  have hd5 : y4.heap[bd]? = some (.cells #[vp, vn, vl] 27 (0, 0)) := blk_kept b0.dfa f2 (fun e2 => own_off' b0.out.b b0.dfa (by decide) e2.symm)
  have t6 := t5.kept (w' := y4.setCell ⟨bd, 2, none⟩ (.slice (some ⟨g', 0, none⟩) (k + 1) c')) gb_set (fun e => t5.ne hd5 (Option.some.inj e))
  refine ⟨⟨?_, t6, h.mz, gb_trans e3 gb_set (Or.inr (Or.inr ⟨bd, rfl, h.bld.zd⟩)), ?_⟩, c1, c2⟩
  · rw [outB_succ a n V k hka, prefix_getD hall h.lt, ← hxx]
    exact b3
  · have h8 : (growB a n V k).length ≤ (growB a n V (k + 1)).length := by
      rw [← growL_end h.lt]
      exact (growL_from k (2 ^ a.P.length)).length_le
    have := h.lt
    omega
/-- All rows are done. -/
theorem BIv.whole (hn : n ≤ 14) (h : BIv w a n V A bd mb vp k vt ts vn vl us wr) (hk : ¬ k < (growB a n V k).length) : growB a n V k = allB a n V ∧ BuiltAt w.heap.size wr vp vn vl us (bldD a n V).P (bldD a n V).R (bldD a n V).B := by
  have h1 := growB_end (a := a) (n := n) (V := V) (by omega) (i := k) (by omega)
  have h2 := h.le
  rw [h1] at h2 hk
  obtain rfl : k = (allB a n V).length := by omega
  refine ⟨h1, ?_⟩
  have h3 := h.bld.out
  unfold outB outR at h3
  rw [List.take_length] at h3
  exact h3
theorem BIv.fin {c0 c1 c2 : Value} {wz : World} (h : BIv w a n V A bd mb vp k vt ts vn vl us wr) (hz : wz = (((wr.setCell ⟨w.heap.size + 1, 0, none⟩ c0).setCell ⟨w.heap.size + 1, 1, none⟩ c1).setCell ⟨w.heap.size + 1, 2, none⟩ c2)) : wz.heap[w.heap.size + 1]? = some (.cells #[c0, c1, c2] 27 (0, 0)) ∧ w.grownBy wz none ∧ wr.grownBy wz (some (w.heap.size + 1)) := by
  subst hz
  obtain ⟨h1, h2⟩ := set3 h.bld.zero c0 c1 c2
  exact ⟨h1, gb_trans h.grown h2 (Or.inr (Or.inr ⟨_, rfl, Nat.le_succ _⟩)), h2⟩
theorem BIv.over (hn : n ≤ 14) (_h : BIv w a n V A bd mb vp k vt ts vn vl us wr) {most : Int} (hm : most < ((growB a n V k).length : Int)) : most < ((allB a n V).length : Int) := by
  have h1 := (growB_all (a := a) (n := n) (V := V) (by omega) k).length_le
  omega
theorem idx_y (hn : n ≤ 14) (h : LIv w a n V A bd mb vp k l m vt ts vn vl us vr wx) (hl : l < 2 ^ a.P.length) : (numsB a n V k).getD l 0 = ((if transF a n V ((growB a n V k).getD k []) l ∈ growL a n V k l then (growL a n V k l).idxOf (transF a n V ((growB a n V k).getD k []) l) else (growL a n V k l).length : Nat) : Int) := nums_one (by omega) h.lt hl
end
theorem sum_pos : ∀ l : List Nat, 0 < l.sum ↔ ∃ x, x ∈ l ∧ 0 < x
  | [] => by simp
  | y :: l => by
    rw [List.sum_cons]
    have ih := sum_pos l
    constructor
    · intro h
      by_cases hy : 0 < y
      · exact ⟨y, by simp, hy⟩
      · obtain ⟨x, h1, h2⟩ := ih.1 (by omega)
        exact ⟨x, by simp [h1], h2⟩
    · rintro ⟨x, h1, h2⟩
      rcases List.mem_cons.1 h1 with rfl | h1
      · omega
      · have := ih.2 ⟨x, h1, h2⟩
        omega
theorem yes_some {n : Nat} {L : List Nat} (g : Good n L) : (yesL n L n).any id = true ↔ 0 < ones L := by
  rw [ones_eq, sum_pos, List.any_eq_true]
  constructor
  · rintro ⟨x, hx, hx2⟩
    obtain ⟨i, hi, rfl⟩ := List.mem_iff_getElem.1 hx
    have hi2 : i < n := by rw [yesL_len] at hi; exact hi
    have h1 := yes_get n L hi2
    rw [List.getElem?_eq_getElem hi] at h1
    have h2 := Option.some.inj h1
    rw [h2] at hx2
    have hb : bit L i = true := hx2
    refine ⟨1, List.mem_map.2 ⟨i, List.mem_range.2 (by rw [g.len]; omega), by rw [hb]; rfl⟩, by omega⟩
  · rintro ⟨x, hx, hx2⟩
    obtain ⟨i, hi, rfl⟩ := List.mem_map.1 hx
    rw [List.mem_range, g.len] at hi
    have hb : bit L i = true := by
      cases hc : bit L i
      · rw [hc] at hx2; exact absurd hx2 (by decide)
      · rfl
    have hn : i < n := by
      rcases Nat.lt_or_ge i n with h1 | h1
      · exact h1
      · have hq := g.top i h1
        rw [hb] at hq; cases hq
    have h1 := yes_get n L hn
    refine ⟨true, ?_, rfl⟩
    rw [hb] at h1
    exact List.mem_of_getElem? h1
end Go.Proofs.Ytcdepblajobemaa
