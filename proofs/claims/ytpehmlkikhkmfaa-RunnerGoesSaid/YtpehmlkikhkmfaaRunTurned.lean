/- Runner: 'turned' walked. -/
import Derived.Test.YtpehmlkikhkmfaaRunBack
namespace Go.Proofs.Ytpehmlkikhkmfaa
open Go.RowKit

def tStep (s : Nat) (B : List (List Int)) (n : Int) : List (List Int) := B.set n.toNat (B.getD n.toNat [] ++ [(s : Int)])
def tRow (s : Nat) (l : List Int) (B : List (List Int)) : List (List Int) := l.foldl (tStep s) B
def tAll (R : List (List Int)) : Nat → List (List Int)
  | 0 => List.replicate R.length []
  | k + 1 => tRow k (R.getD k []) (tAll R k)
/-- The edges, turned round. -/
def turnF (R : List (List Int)) : List (List Int) := tAll R R.length

theorem tRow_take (s : Nat) (l : List Int) (B : List (List Int)) (j : Nat) (hj : j < l.length) : tRow s (l.take (j + 1)) B = tStep s (tRow s (l.take j) B) (l.getD j 0) := by
  unfold tRow
  rw [List.take_add_one, List.foldl_append]
  have e : l[j]?.toList = [l.getD j 0] := by rw [List.getD_eq_getElem?_getD, List.getElem?_eq_getElem hj]; rfl
  rw [e]
  rfl

/-- At most so long. -/
def Most (m : Nat) (B : List (List Int)) : Prop := ∀ i, (B.getD i []).length ≤ m
theorem Most.step {m s : Nat} {B : List (List Int)} (h : Most m B) (n : Int) : Most (m + 1) (tStep s B n) := by
  intro i
  unfold tStep
  rw [List.getD_eq_getElem?_getD, List.getElem?_set]
  split
  · split
    · simp only [Option.getD_some, List.length_append, List.length_cons, List.length_nil]
      have := h n.toNat
      omega
    · simp
  · rw [← List.getD_eq_getElem?_getD]
    have := h i
    omega

theorem BackAt.mid {w w5 : World} {Z g cap i : Nat} {vs : List Value} {B : List (List Int)} {v : Value} {x : Int} (h : BackAt w Z g cap vs B) (hi : i < B.length) (hv : vs[i]? = some v)
    (h6 : (w.alloc (.cells #[.int .i64 x] 3)).grownBy w5 v.ownBlock) : w5.cell? ⟨g, i, none⟩ = some v ∧ w5.frozen? ⟨g, i, none⟩ = false := by
  obtain ⟨v', hv', hrv⟩ := h.each i hi
  obtain rfl : v' = v := Option.some.inj (hv'.symm.trans hv)
  have hr5 := (h.row.kept (World.grownBy_alloc w (.cells #[.int .i64 x] 3) none) (Or.inr (by simp [Value.ownBlock]))).kept h6 (Or.inr (fun e => own_ne h.row hrv e.symm rfl))
  exact ⟨(hr5.cellAt i (by omega)).trans hv, hr5.frozenAt i⟩
theorem own_val {w : World} {Z e n : Nat} {v : Value} {xs : List Value} (h : w.ownsRow Z e 1 v n xs) : ∃ a cap, v = .slice a n cap := by
  rcases h.2 with ⟨rfl, h0⟩ | ⟨g, cap, cur, rfl, _⟩
  · exact ⟨none, 0, by rw [h0]⟩
  · exact ⟨_, _, rfl⟩

theorem inF_nat {n : Nat} {i : Int} (h : inF n i = true) : ∃ m : Nat, m < n ∧ i = m := by
  unfold inF at h
  simp only [Bool.and_eq_true, decide_eq_true_eq] at h
  exact ⟨i.toNat, by omega, by omega⟩
theorem rowsF_in {R : List (List Int)} (h : rowsF R = true) {k j : Nat} (hk : k < R.length) (hj : j < (R.getD k []).length) : inF R.length ((R.getD k []).getD j 0) = true := by
  by_cases e : inF R.length ((R.getD k []).getD j 0) = true
  · exact e
  · rw [rowsF_bad hk hj (by simpa using e)] at h
    cases h

def Turned (w : World) (R : List (List Int)) (e : Ending) (w' : World) : Prop :=
  ∃ g cap vs B, e = .returned (.slice (some ⟨g, 0, none⟩) R.length cap) ∧ BackAt w' w.heap.size g cap vs B ∧ B.length = R.length ∧ Hid (B = turnF R) ∧ Most (256 * R.length) B ∧ Below w.heap.size w w'

theorem back_made {w w0 : World} {n : Nat} (h : w0.ownsRow w.heap.size 107 1 (.slice (some ⟨w.heap.size, 0, none⟩) n n) n (madeCells (Value.slice none 0 0).cells (n * 1)).toList) :
    BackAt w0 w.heap.size w.heap.size n (List.replicate n (.slice none 0 0)) (List.replicate n []) := by
  have hz : (madeCells (Value.slice none 0 0).cells (n * 1)).toList = List.replicate n (.slice none 0 0) := by
    rw [Nat.mul_one, show (Value.slice none 0 0).cells = #[Value.slice none 0 0] from rfl, toList_madeCells_one]
  rw [hz] at h
  refine ⟨by rw [List.length_replicate]; exact h, fun i hi => ?_, fun i j v u hi hj _ hv _ k hk => ?_⟩
  · rw [List.length_replicate] at hi
    refine ⟨.slice none 0 0, by rw [List.getElem?_replicate, if_pos hi], ?_⟩
    have : (List.replicate n ([] : List Int)).getD i [] = [] := by rw [List.getD_eq_getElem?_getD, List.getElem?_replicate, if_pos hi]; rfl
    rw [this]
    exact World.ownsRow_nil _ _ _ _
  · rw [List.length_replicate] at hi
    rw [List.getElem?_replicate, if_pos hi] at hv
    cases hv
    simp [Value.ownBlock] at hk

set_option maxHeartbeats 4000000 in
theorem turned_any (v : Value) (R : List (List Int)) (w : World) (hR : RowsAt w v R) (hin : rowsF R = true) (hn : R.length ≤ 200000) (hm : ∀ k, k < R.length → (R.getD k []).length ≤ 256) :
    Calls Try.prog 75 #[v] w (Turned w R) := by
  obtain ⟨i1, hi1, hy0, hy1, hy2⟩ := info_parts Try.info107
  have HRR := Lib.hid hR
  obtain ⟨a, cap, rfl, hcap, hlen, _⟩ := hR
  have HIn := Lib.hid hin
  have HM := Lib.hid hm
  clear hin hm
  go_enter Try.func75, Try.ntmps75
  go_wp2_with (at_make; refine wpList_make_full _ rfl _ _ 24 rfl w.heap.size 107 i1 (.slice none 0 0) 1 Try.underlying24 hi1 hy0 hy1 .i64 .i64 _ _ R.length rfl rfl (by omega) (by omega) (by rw [hy2]; omega) (by unfold maxLen; omega) (Nat.le_refl _) ?_; intro w0 hown0 hgrow0)
  have hB0 := back_made hown0
  have hb0 : Below w.heap.size w w0 := (Below.refl _ _).grown hgrow0 (Nat.le_refl _) (fun k e => by cases e)
  clear hown0 hgrow0
  obtain ⟨i0, hi0, hz0, hz1, hz2⟩ := info_parts Try.info3
  obtain ⟨Z, hZ⟩ : ∃ Z, Z = w.heap.size := ⟨_, rfl⟩
  have HZ := Lib.hid hZ
  rw [← hZ] at hB0 hb0
  clear hZ
  rw [← HZ.out]
  go_loopw [13] (fun i wr => ∃ (k : Nat) (vs : List Value) (B : List (List Int)), k ≤ R.length ∧ i = .int .i64 (k : Int) ∧ BackAt wr Z Z R.length vs B ∧ B.length = R.length ∧ Hid (B = tAll R k) ∧ Hid (Most (256 * k) B) ∧ Hid (Below Z w wr)) (fun i _ => R.length - (intOf i).toNat)
  case atStart =>
    refine ⟨0, _, List.replicate R.length [], by omega, rfl, hB0, List.length_replicate, rfl, fun i => ?_, hb0⟩
    rw [List.getD_eq_getElem?_getD, List.getElem?_replicate]
    split <;> simp
  case round =>
    obtain ⟨wo, rfl⟩ : ∃ wo : World, wo = wr := ⟨_, rfl⟩
    obtain ⟨k, vs, B, hk, rfl, hB, hBl, HT, HMo, HBel⟩ := hrel
    by_cases hlt : k < R.length
    · obtain ⟨a', cap', hve, _, _, hn3⟩ := HRR.out
      cases hve
      rcases hn3 with rfl | ⟨bn, offn, rfl, hn3⟩
      · exact absurd hlt (by simp)
      obtain ⟨u, hu, ar, cr, rfl, hcr, _, hal, hcell⟩ := hn3 k hlt
      have HCell := Lib.hid hcell
      have HInk : Hid (∀ j, j < (R.getD k []).length → inF R.length ((R.getD k []).getD j 0) = true) := Lib.hid fun j hj => rowsF_in HIn.out hlt hj
      have hmk := HM.out k hlt
      have HNx : Hid (tAll R (k + 1) = tRow k (R.getD k []) (tAll R k)) := Lib.hid rfl
      have hbel := HBel.out
      rw [HZ.out] at hbel
      have hu' := (hbel.cell (p := ⟨bn, offn + k, none⟩) (World.block_lt_of_cell? w _ hu)).trans hu
      clear hn3 hcell hu hbel
      generalize R.getD k [] = A at hu' hcr hal HCell HInk hmk HNx
      go_wp2_with fail
      go_loopw [20] (fun i wr => ∃ (j : Nat) (vs : List Value) (B' : List (List Int)), j ≤ A.length ∧ i = .int .i64 (j : Int) ∧ BackAt wr Z Z R.length vs B' ∧ B'.length = R.length ∧ Hid (B' = tRow k (A.take j) B) ∧ Hid (Most (256 * k + j) B') ∧ Hid (Below Z w wr)) (fun i _ => A.length - (intOf i).toNat)
      case atStart => exact ⟨0, vs, B, by omega, rfl, hB, hBl, rfl, HMo.out, HBel.out⟩
      case round =>
        obtain ⟨j, vs2, B2, hj, rfl, hB2, hBl2, HT2, HMo2, HBel2⟩ := hrel
        by_cases hjl : j < A.length
        · rcases HCell.out with rfl | ⟨b2, off2, rfl, hcell⟩
          · exact absurd hjl (by simp)
          have hx := hcell j hjl
          have hbel := HBel2.out
          rw [HZ.out] at hbel
          have hx' := (hbel.cell (p := ⟨b2, off2 + j, none⟩) (World.block_lt_of_cell? w _ hx)).trans hx
          clear hx hcell hbel
          obtain ⟨m, hm, hxm⟩ := inF_nat (HInk.out j hjl)
          have HNj := Lib.hid (tRow_take k A B j hjl)
          rw [hxm] at hx' HNj
          clear hxm
          have HMB := HMo2.out m
          obtain ⟨v, hvm, hrow⟩ := hB2.each m (by omega)
          obtain ⟨av, cv, hvv⟩ := own_val hrow
          have hcm := (hB2.row.cellAt m (by omega)).trans hvm
          have hZs : Z ≤ wr.heap.size := by rw [HZ.out]; exact HBel2.out.size
          have HMid : Hid (∀ w5, (wr.alloc (.cells #[.int .i64 (k : Int)] 3)).grownBy w5 v.ownBlock → w5.cell? ⟨Z, m, none⟩ = some v ∧ w5.frozen? ⟨Z, m, none⟩ = false) := Lib.hid fun w5 h6 => hB2.mid (by omega) hvm h6
          have HPut := Lib.hid (fun (w5 : World) (g5 cap5 : Nat) h5 h6 h7 => hB2.put (w5 := w5) (g5 := g5) (cap5 := cap5) (x := (k : Int)) (by omega) hvm hZs h5 h6 h7)
          have HL : Hid ((B2.set m (B2.getD m [] ++ [(k : Int)])).length = R.length) := Lib.hid (by rw [List.length_set]; exact hBl2)
          have HSt : Hid (tStep k B2 (m : Int) = B2.set m (B2.getD m [] ++ [(k : Int)])) := Lib.hid (by unfold tStep; rw [Int.toNat_natCast])
          have HMs := Lib.hid (HMo2.out.step (s := k) (m : Int))
          generalize B2.getD m [] = rm at hvv HMB hrow HPut HL HSt
          generalize hset : B2.set m (rm ++ [(k : Int)]) = B3 at HPut HL HSt
          clear hset
          have HRow := Lib.hid hrow
          clear hrow hB2
          rw [hvv] at hcm
          have HVV := Lib.hid hvv
          clear hvv hvm
          have hmR : (m : Int) < (R.length : Int) := by omega
          go_wp2_with (at_builtin; refine wpList_append_lies _ rfl (.tmp 29) (.tmp 31) 107 rfl Z 3 i0 (.int .i64 0) 1 8 Try.underlying107 hi0 hz0 hz1 hz2 rfl (by decide) v rm.length (rm.map iv) HVV.out.symm (HRow.out.alloc _) ⟨wr.heap.size, 0, none⟩ 1 1 [.int .i64 (k : Int)] rfl rfl (cell_one_new _ _ _) (by simp [Value.oneCell']) (by decide) (by unfold maxLen; omega) (by omega) (by rw [World.size_alloc]; omega) _ rfl ?_; intro g5 cap5 w5 hown5 hgr5 hat5 hlt5; have hmid := HMid.out _ hgr5; have hc5 := hmid.1; have hf5 := hmid.2; rw [HVV.out] at hc5; have HP := Lib.hid (HPut.out _ _ _ hown5 hgr5 hat5); clear hown5 hgr5 hat5 hmid)
          have HMs' := HMs.out
          rw [HSt.out] at HMs'
          exact ⟨⟨j + 1, _, B3, by omega, by go_num, HP.out.1, HL.out, Lib.hid (by rw [HNj.out, ← HT2.out, HSt.out]), Lib.hid HMs', Lib.hid (HBel2.out.trans HP.out.2)⟩, by simp [intOf]; omega⟩
        · obtain rfl : j = A.length := by omega
          rw [List.take_length] at HT2
          go_wp2_with fail
          exact ⟨⟨k + 1, vs2, B2, by omega, by go_num, hB2, hBl2, Lib.hid (by rw [HT2.out, HT.out, HNx.out]), Lib.hid (fun i => by have := HMo2.out i; omega), HBel2⟩, by simp [intOf]; omega⟩
    · obtain rfl : k = R.length := by omega
      go_wp2
      go_ret
      exact ⟨Z, R.length, vs, B, rfl, by rw [← HZ.out]; exact hB, hBl, HT, HMo.out, by rw [← HZ.out]; exact HBel.out⟩
end Go.Proofs.Ytpehmlkikhkmfaa
