/- Runner: 'finals' walked. -/
import Derived.Test.YtpehmlkikhkmfaaRunFin
namespace Go.Proofs.Ytpehmlkikhkmfaa
open Go.RowKit

def bv (x : Bool) : Value := .bool x
theorem Try.info4 : (Try.prog.info? 4).map (fun i => (i.zero, i.size, i.bytes)) = some (some (.bool false), 1, 1) := by kernel_rfl

theorem MachAt.below {w w' : World} {vp vn vo : Value} {P : List ByteArray} {R : List (List Int)} {O : List Int} (h : MachAt w vp vn vo P R O) (hb : Below w.heap.size w w') : MachAt w' vp vn vo P R O :=
  h.kept ⟨hb.os, hb.tape, hb.output, hb.size, fun k hk _ => hb.block k hk⟩

theorem bools_made {w0 : World} {Z g n : Nat} (h : w0.ownsRow Z 4 1 (.slice (some ⟨g, 0, none⟩) n n) n (madeCells (Value.bool false).cells (n * 1)).toList) :
    w0.ownsRow Z 4 1 (.slice (some ⟨g, 0, none⟩) n n) n ((List.replicate n false).map bv) := by
  have hz : (madeCells (Value.bool false).cells (n * 1)).toList = (List.replicate n false).map bv := by
    rw [Nat.mul_one, show (Value.bool false).cells = #[Value.bool false] from rfl, toList_madeCells_one, List.map_replicate]; rfl
  rwa [hz] at h

/-- What stands through the outer rounds. -/
structure FinAt (Y n g gt : Nat) (B : List (List Int)) (O : List Int) (k : Nat) (w1 wr : World) (F : List Bool) : Prop where
  out : wr.ownsRow Y 4 1 (.slice (some ⟨g, 0, none⟩) n n) n (F.map bv)
  len : F.length = n
  fins : Fins O B k F
  bel : Below Y w1 wr
  tri : ∀ j, j < 3 → wr.cell? ⟨gt, j, none⟩ = some (.int .u8 ((j + 1 : Nat) : Int))
  lt : gt < wr.heap.size

/-- What stands through an inner round: what is told already, what is to be looked at. -/
structure RoundAt (Z n g : Nat) (wo wr : World) (vw : Value) (T : List Bool) (W : List Int) : Prop where
  told : wr.ownsRow Z 4 1 (.slice (some ⟨g, 0, none⟩) n n) n (T.map bv)
  len : T.length = n
  win : Win wr Z 3 vw (W.map iv)
  bel : Below Z wo wr
  zs : Z ≤ wr.heap.size
theorem RoundAt.cell {Z n g : Nat} {wo wr : World} {vw : Value} {T : List Bool} {W : List Int} (h : RoundAt Z n g wo wr vw T W) (k : Nat) (hk : k < n) : wr.cell? ⟨g, k, none⟩ = some (.bool (T.getD k false)) := by
  have hl := h.len
  rw [h.told.cellAt k (by omega), List.getElem?_map, List.getElem?_eq_getElem (by omega), List.getD_eq_getElem?_getD, List.getElem?_eq_getElem (by omega)]
  rfl
theorem RoundAt.put {Z n g k : Nat} {wo wr w5 : World} {vw v5 : Value} {T : List Bool} {W : List Int} {x : Int} (h : RoundAt Z n g wo wr vw T W) (_hk : k < n)
    (h5 : Win w5 Z 3 v5 (W.map iv ++ [.int .i64 x])) (h6 : ((wr.setCell ⟨g, k, none⟩ (.bool true)).alloc (.cells #[.int .i64 x] 3)).grownBy w5 vw.ownBlock) :
    RoundAt Z n g wo w5 v5 (T.set k true) (W ++ [x]) := by
  have hs := h.told.stored k (.bool true)
  have hg : Z ≤ g ∧ g < wr.heap.size := h.told.lt g rfl
  have hne : vw.ownBlock ≠ some g := fun e => by
    obtain ⟨c, hc⟩ := h.win.blk e
    obtain ⟨d, hd⟩ := own_blk h.told
    rw [hc] at hd
    simp at hd
  have hz : (wr.setCell ⟨g, k, none⟩ (.bool true)).heap.size = wr.heap.size := by simp [World.setCell]
  have hb1 : Below Z wo (wr.setCell ⟨g, k, none⟩ (.bool true)) := h.bel.setCell hg.1 _
  have hzz := h.zs
  have hb2 := (hb1.alloc (by omega) (.cells #[.int .i64 x] 3)).grown h6 (by rw [World.size_alloc]; omega) (fun j e => (h.win.lt j e).1)
  have hr := (hs.1.kept (World.grownBy_alloc _ (.cells #[.int .i64 x] 3) none) (Or.inr (by simp [Value.ownBlock]))).kept h6 (Or.inr (fun e => hne (by simpa [Value.ownBlock] using e.symm)))
  refine ⟨?_, by rw [List.length_set]; exact h.len, by rw [List.map_append]; exact h5, hb2, ?_⟩
  · rw [List.map_set]; exact hr
  · have := h6.size; rw [World.size_alloc] at this; omega

theorem own_base {w : World} {Z Z' e n : Nat} {v : Value} {xs : List Value} (h : w.ownsRow Z e 1 v n xs) (hz : Z' ≤ Z) : w.ownsRow Z' e 1 v n xs := by
  refine ⟨h.1, ?_⟩
  rcases h.2 with h2 | ⟨g, cap, cur, hv, hb, rest⟩
  · exact Or.inl h2
  · exact Or.inr ⟨g, cap, cur, hv, by omega, rest⟩

def countF (wr : World) (g n : Nat) : Nat := ((List.range n).filter fun i => match wr.cell? ⟨g, i, none⟩ with | some (.bool false) => true | _ => false).length
def lenOf : Value → Nat
  | .slice _ n _ => n
  | _ => 0
theorem countF_eq {Z n g : Nat} {wo wr : World} {vw : Value} {T : List Bool} {W : List Int} (h : RoundAt Z n g wo wr vw T W) : countF wr g n = falses T := by
  have hT : T = (List.range n).map fun i => T.getD i false := by
    apply ext_getD (by simp [h.len])
    intro s hs
    rw [h.len] at hs
    rw [List.getD_eq_getElem?_getD (l := List.map _ _), List.getElem?_map, List.getElem?_range hs]
    rfl
  unfold countF falses
  rw [List.count_eq_countP]
  conv => rhs; rw [hT, List.countP_map, List.countP_eq_length_filter]
  congr 1
  apply List.filter_congr
  intro i hi
  rw [h.cell i (List.mem_range.1 hi)]
  show _ = (T.getD i false == false)
  cases T.getD i false <;> rfl
theorem lenOf_eq {Z n g : Nat} {wo wr : World} {vw : Value} {T : List Bool} {W : List Int} (h : RoundAt Z n g wo wr vw T W) : lenOf vw = W.length := by
  obtain ⟨a, cap, rfl, _⟩ := h.win.val
  simp [lenOf]
theorem startW_in (O : List Int) (v : Int) (k n : Nat) (hk : k ≤ n) : ∀ x ∈ startW O v k, inF n x = true := by
  intro x hx
  unfold startW at hx
  simp only [List.mem_map, List.mem_filter, List.mem_range] at hx
  obtain ⟨s, ⟨hs, _⟩, rfl⟩ := hx
  unfold inF
  simp
  omega

/-- A walk round writes no more than that. -/
theorem RoundAt.push {Z n g : Nat} {wo wr : World} {vw : Value} {T : List Bool} {x : Int} {W : List Int} (h : RoundAt Z n g wo wr vw T (x :: W)) :
    ∃ b off cap, vw = .slice (some ⟨b, off, none⟩) (W.length + 1) cap ∧ W.length + 1 ≤ cap ∧ wr.cell? ⟨b, off, none⟩ = some (.int .i64 x) ∧ RoundAt Z n g wo wr (.slice (if cap = 1 then some ⟨b, off, none⟩ else some ⟨b, off + 1, none⟩) W.length (cap - 1)) T W := by
  have hw := h.win
  rw [List.map_cons] at hw
  obtain ⟨b, off, cap, hv, hc, hx, ht⟩ := hw.head
  rw [List.length_map] at hv hc ht
  exact ⟨b, off, cap, hv, hc, hx, h.told, h.len, ht, h.bel, h.zs⟩

def InB (n : Nat) (B : List (List Int)) : Prop := ∀ i, ∀ y ∈ B.getD i [], inF n y = true
theorem InB.step {n s : Nat} {B : List (List Int)} (h : InB n B) (hs : s < n) (m : Int) : InB n (tStep s B m) := by
  intro i y hy
  unfold tStep at hy
  rw [List.getD_eq_getElem?_getD, List.getElem?_set] at hy
  split at hy
  · split at hy
    · rcases List.mem_append.1 hy with hy | hy
      · exact h _ y hy
      · rw [List.mem_singleton] at hy
        subst hy
        unfold inF
        simp
        omega
    · simp at hy
  · rw [← List.getD_eq_getElem?_getD] at hy
    exact h i y hy
theorem InB.row {n s : Nat} (hs : s < n) : ∀ (l : List Int) {B : List (List Int)}, InB n B → InB n (tRow s l B)
  | [], _, h => h
  | x :: l, _, h => InB.row hs l (h.step hs x)
theorem InB.all (R : List (List Int)) : ∀ k, k ≤ R.length → InB R.length (tAll R k)
  | 0, _ => fun i y hy => by
    unfold tAll at hy
    rw [List.getD_eq_getElem?_getD, List.getElem?_replicate] at hy
    split at hy <;> simp at hy
  | k + 1, hk => InB.row (by omega) _ (InB.all R k (by omega))

/-- What stands through the last inner loop. -/
structure MixAt (Y Z n gt : Nat) (w1 wr : World) (F T : List Bool) : Prop where
  out : wr.ownsRow Y 4 1 (.slice (some ⟨Y, 0, none⟩) n n) n (F.map bv)
  len : F.length = n
  told : wr.ownsRow Z 4 1 (.slice (some ⟨Z, 0, none⟩) n n) n (T.map bv)
  tlen : T.length = n
  bel : Below Y w1 wr
  tri : ∀ j, j < 3 → wr.cell? ⟨gt, j, none⟩ = some (.int .u8 ((j + 1 : Nat) : Int))
  lt : gt < wr.heap.size
theorem bool_cell {wr : World} {Z g n : Nat} {T : List Bool} (h : wr.ownsRow Z 4 1 (.slice (some ⟨g, 0, none⟩) n n) n (T.map bv)) (hl : T.length = n) (k : Nat) (hk : k < n) : wr.cell? ⟨g, k, none⟩ = some (.bool (T.getD k false)) := by
  rw [h.cellAt k (by omega), List.getElem?_map, List.getElem?_eq_getElem (by omega), List.getD_eq_getElem?_getD, List.getElem?_eq_getElem (by omega)]
  rfl
theorem MixAt.put {Y Z n gt k : Nat} {w1 wr : World} {F T : List Bool} (h : MixAt Y Z n gt w1 wr F T) (x : Bool) (hz : Y ≠ Z) (hg : gt ≠ Y) : MixAt Y Z n gt w1 (wr.setCell ⟨Y, k, none⟩ (.bool x)) (F.set k x) T := by
  have hs := h.out.stored k (.bool x)
  refine ⟨by rw [List.map_set]; exact hs.1, by rw [List.length_set]; exact h.len, h.told.kept hs.2 (Or.inr (by simp [Value.ownBlock]; omega)), h.tlen, h.bel.setCell (Nat.le_refl _) _, fun j hj => hs.2.cell (h.tri j hj) (by simp; omega), by have := hs.2.size; have := h.lt; omega⟩

def Finals (w : World) (R : List (List Int)) (O : List Int) (e : Ending) (w' : World) : Prop :=
  ∃ g F, e = .returned (.slice (some ⟨g, 0, none⟩) O.length O.length) ∧ w'.ownsRow w.heap.size 4 1 (.slice (some ⟨g, 0, none⟩) O.length O.length) O.length (F.map bv) ∧ F.length = O.length ∧ Hid (Fins O (turnF R) 3 F) ∧ Below w.heap.size w w'

set_option maxRecDepth 100000 in
set_option maxHeartbeats 8000000 in
theorem finals_any (vp vn vo : Value) (P : List ByteArray) (R : List (List Int)) (O : List Int) (w : World) (hM : MachAt w vp vn vo P R O) (hin : rowsF R = true) (hRO : R.length = O.length) (hn : O.length ≤ 200000) (hm : ∀ k, k < R.length → (R.getD k []).length ≤ 256) :
    Calls Try.prog 46 #[.agg #[vp, vn, vo]] w (Finals w R O) := by
  obtain ⟨ib, hib, hb0, hb1, hb2⟩ := info_parts Try.info4
  obtain ⟨i0, hi0, hz0, hz1, hz2⟩ := info_parts Try.info3
  have hbA := World.grownBy_alloc w (.cells #[vp, vn, vo] 27) none
  have HbA := Lib.hid hbA
  have HM := Lib.hid (hM.kept hbA)
  have HTu := Lib.hid (turned_any vn R _ (hM.kept hbA).next hin (by omega) hm)
  have HRO := Lib.hid hRO
  have HIn := Lib.hid hin
  clear hbA hin hm hRO
  obtain ⟨_, _, ⟨ao, co, rfl, hoc, _, hol, _⟩⟩ := hM
  go_enter Try.func46, Try.ntmps46
  go_wp2_with (first | (go_at_call 75; refine HTu.out.mono ?_; rintro e w1 ⟨gb, cb, vs, B, rfl, hB, hBl, HT, hMo, hBel⟩; have c2 := (hBel.cell (p := ⟨w.heap.size, 2, none⟩) (by simp)).trans (cell3_2 w _ _ _ _)) | (at_make; refine wpList_make_full _ rfl _ _ 102 rfl w1.heap.size 4 ib (.bool false) 1 Try.underlying102 hib hb0 hb1 .i64 .i64 _ _ O.length rfl rfl (by omega) (by omega) (by rw [hb2]; omega) (by unfold maxLen; omega) (Nat.le_refl _) ?_; intro w2 hown2 hgrow2))
  have hown2' := bools_made hown2
  clear hown2
  have HOut : Hid (∀ wr, Below w1.heap.size w1 wr → BytesAt wr (.slice ao O.length co) O) := Lib.hid fun wr hb => ((HM.out.below hBel).below hb).out
  have HBox : Hid (∀ wr, Below w1.heap.size w1 wr → wr.cell? ⟨w.heap.size, 2, none⟩ = some (.slice ao O.length co)) := Lib.hid fun wr hb => (hb.cell (p := ⟨w.heap.size, 2, none⟩) (World.block_lt_of_cell? w1 _ c2)).trans c2
  have HBack : Hid (∀ wr, Below w1.heap.size w1 wr → BackAt wr (w.alloc (.cells #[vp, vn, .slice ao O.length co] 27)).heap.size gb cb vs B) := Lib.hid fun wr hb => hB.kept ⟨hb.os, hb.tape, hb.output, hb.size, fun k hk _ => hb.block k hk⟩
  have HBel := Lib.hid hBel
  have HMo := Lib.hid hMo
  have HBl := Lib.hid hBl
  clear c2 hB hBel hMo hBl HTu
  have hF0 : FinAt w1.heap.size O.length w1.heap.size w2.heap.size B O 0 w1 (w2.alloc (.cells #[.int .u8 1, .int .u8 2, .int .u8 3] 59)) (List.replicate O.length false) :=
    ⟨hown2'.alloc _, by simp, Fins.zero, ((Below.refl _ _).grown hgrow2 (Nat.le_refl _) (fun k e => by cases e)).alloc hgrow2.size _, fun j hj => by match j, hj with | 0, _ => simp | 1, _ => simp | 2, _ => simp, by rw [World.size_alloc]; omega⟩
  have HGY : Hid (w2.heap.size ≠ w1.heap.size) := Lib.hid (fun e => by have := (hown2'.lt w1.heap.size rfl).2; rw [e] at this; exact absurd this (Nat.lt_irrefl _))
  clear hown2' hgrow2
  obtain ⟨Y, hY⟩ : ∃ Y, Y = w1.heap.size := ⟨_, rfl⟩
  rw [← hY] at hF0 HOut HBox HBack HGY
  rw [← hY]
  have HY := Lib.hid hY
  clear hY
  go_loopw [22] (fun i wr => ∃ (k : Nat) (F : List Bool), k ≤ 3 ∧ i = .int .i64 (k : Int) ∧ Hid (FinAt Y O.length Y w2.heap.size B O k w1 wr F)) (fun i _ => 3 - (intOf i).toNat)
  case atStart => exact ⟨0, _, by omega, rfl, hF0⟩
  case round =>
    obtain ⟨wo, rfl⟩ : ∃ wo : World, wo = wr := ⟨_, rfl⟩
    obtain ⟨k, F, hk, rfl, HF⟩ := hrel
    by_cases hlt : k < 3
    · have ct := HF.out.tri k hlt
      have cb2 := HBox.out _ HF.out.bel
      have hzo : Y ≤ wo.heap.size := by rw [HY.out]; exact HF.out.bel.size
      have hv0 : (0 : Int) ≤ ((k + 1 : Nat) : Int) := by omega
      have hv1 : ((k + 1 : Nat) : Int) ≤ 255 := by omega
      generalize hvv : ((k + 1 : Nat) : Int) = v at ct hv0 hv1
      have HVV := Lib.hid hvv
      clear hvv
      go_wp2_with (at_make; refine wpList_make_full _ rfl _ _ 102 rfl wo.heap.size 4 ib (.bool false) 1 Try.underlying102 hib hb0 hb1 .i64 .i64 _ _ O.length rfl rfl (by omega) (by omega) (by rw [hb2]; omega) (by unfold maxLen; omega) (Nat.le_refl _) ?_; intro w3 hown3 hgrow3; have hown3' := bools_made hown3; have cb3 := hgrow3.cell cb2 (by simp))
      have hR0 : RoundAt wo.heap.size O.length wo.heap.size wo w3 (.slice none 0 0) (startT O v O.length 0) [] := by
        have e0 : startT O v O.length 0 = List.replicate O.length false := by
          apply ext_getD (by simp [startT])
          intro s hs
          rw [startT_length] at hs
          have e : (List.replicate O.length false).getD s false = false := by rw [List.getD_eq_getElem?_getD, List.getElem?_replicate, if_pos hs]; rfl
          rw [startT_get _ _ _ _ _ hs, e]
          simp
        rw [e0]
        exact ⟨hown3', by simp, Win.nil _ _ _, (Below.refl _ _).grown hgrow3 (Nat.le_refl _) (fun k e => by cases e), hgrow3.size⟩
      clear hown3 hown3' hgrow3 cb3
      obtain ⟨Z, hZ⟩ : ∃ Z, Z = wo.heap.size := ⟨_, rfl⟩
      rw [← hZ] at hR0 hzo
      rw [← hZ]
      have HZ := Lib.hid hZ
      clear hZ
      go_loopw [8, 33] (fun vw i wr => ∃ (s : Nat) (T : List Bool) (W : List Int), s ≤ O.length ∧ i = .int .i64 (s : Int) ∧ Hid (T = startT O v O.length s) ∧ Hid (W = startW O v s) ∧ W.length ≤ s ∧ Hid (RoundAt Z O.length Z wo wr vw T W)) (fun _ i _ => O.length - (intOf i).toNat)
      case atStart => exact ⟨0, _, [], by omega, rfl, rfl, rfl, by simp, hR0⟩
      case round =>
        obtain ⟨s, T, W, hs, rfl, HT1, HW1, hWl, HR⟩ := hrel
        have hbY : Below Y w1 wr := HF.out.bel.trans (HR.out.bel.mono hzo)
        have cbw := HBox.out _ hbY
        by_cases hsl : s < O.length
        · obtain ⟨ao', co', hve, _, hrg, _, hcs⟩ := HOut.out _ hbY
          cases hve
          rcases hcs with rfl | ⟨bo, offo, rfl, hcs⟩
          · exact absurd hsl (by simp)
          have hx := hcs s hsl
          have hxr := hrg s hsl
          clear hcs hrg hbY
          have hcell := HR.out.cell s hsl
          have hfz := HR.out.told.frozenAt s
          have HTy := Lib.hid (startT_yes O v O.length s hsl)
          have HTn := Lib.hid (startT_no O v O.length s hsl)
          have HWy := Lib.hid (startW_yes O v s)
          have HWn := Lib.hid (startW_no O v s)
          generalize O.getD s 0 = x at hx hxr HTy HTn HWy HWn
          cases hxv : (x != v)
          · have HTn2 := Lib.hid (HTn.out hxv)
            have HWn2 := Lib.hid (HWn.out hxv)
            go_wp2_with fail
            exact ⟨⟨s + 1, T, W, by omega, by go_num, Lib.hid (by rw [HTn2.out]; exact HT1.out), Lib.hid (by rw [HWn2.out]; exact HW1.out), by omega, HR⟩, by simp [intOf]; omega⟩
          · have HTy2 := Lib.hid (HTy.out hxv)
            have HWy2 := Lib.hid (HWy.out hxv)
            generalize T.getD s false = tb at hcell
            have HWin : Hid (Win (wr.setCell ⟨Z, s, none⟩ (.bool true)) Z 3 u8 (W.map iv)) := Lib.hid (by
              have hs1 := (HR.out.told.stored s (.bool true)).2
              exact HR.out.win.kept hs1 (Or.inr (fun e => by
                obtain ⟨c, hc⟩ := HR.out.win.blk e
                obtain ⟨d, hd⟩ := own_blk HR.out.told
                rw [hc] at hd
                simp at hd)))
            have hzs := HR.out.zs
            have hz5 : (wr.setCell ⟨Z, s, none⟩ (.bool true)).heap.size = wr.heap.size := by simp [World.setCell]
            have hcn := cell_one_new (wr.setCell ⟨Z, s, none⟩ (.bool true)) (.int .i64 (s : Int)) 3 0 _ rfl
            rw [hz5] at hcn
            have HCn := Lib.hid hcn
            have HZ5 := Lib.hid hz5
            clear hcn hz5
            go_wp2_with (at_builtin; refine wpList_append_win rfl (.tmp 46) (.tmp 48) 107 rfl Z 3 i0 (.int .i64 0) 8 Try.underlying107 hi0 hz0 hz1 hz2 rfl _ (W.map iv) rfl (HWin.out.kept (World.grownBy_alloc _ _ none) (Classical.em _)) ⟨wr.heap.size, 0, none⟩ 1 (.int .i64 (s : Int)) rfl HCn.out rfl (by rw [List.length_map]; unfold maxLen; omega) (by rw [List.length_map]; omega) (by rw [World.size_alloc, HZ5.out]; omega) _ rfl ?_; intro g5 off5 cap5 w5 hwin5 hgr5 hat5 hlt5; have HP := Lib.hid (HR.out.put hsl hwin5 hgr5); clear hwin5 hgr5 hat5 hlt5)
            exact ⟨⟨s + 1, T.set s true, W ++ [(s : Int)], by omega, by go_num, Lib.hid (by rw [HTy2.out, ← HT1.out]), Lib.hid (by rw [HWy2.out, ← HW1.out]), by simp; omega, Lib.hid (by have h := HP.out; rw [List.length_map] at h; exact h)⟩, by simp [intOf]; omega⟩
        · obtain rfl : s = O.length := by omega
          have HSt : Hid (W.length + falses T ≤ O.length) := Lib.hid (by rw [HT1.out, HW1.out, falses_start O v O.length O.length (Nat.le_refl _)]; exact Nat.le_refl _)
          have HIn0 : Hid (∀ x ∈ W, inF O.length x = true) := Lib.hid (by rw [HW1.out]; exact startW_in O v _ _ (Nat.le_refl _))
          have HSw0 : Hid (∀ T', Sweep B T W T' → Sweep B (startT O v O.length O.length) (startW O v O.length) T') := Lib.hid (by rw [HT1.out, HW1.out]; exact fun _ h => h)
          clear hbY cbw
          go_wp2_with fail
          go_loopw [8] (fun vw wr => ∃ (T : List Bool) (W : List Int), Hid (∀ T', Sweep B T W T' → Sweep B (startT O v O.length O.length) (startW O v O.length) T') ∧ Hid (W.length + falses T ≤ O.length) ∧ Hid (∀ x ∈ W, inF O.length x = true) ∧ Hid (RoundAt Z O.length Z wo wr vw T W)) (fun vw wr => 2 * countF wr Z O.length + lenOf vw)
          case atStart => exact ⟨T, W, HSw0, HSt, HIn0, HR⟩
          case round =>
            obtain ⟨wr2, hwr2⟩ : ∃ wr2 : World, wr2 = wr := ⟨_, rfl⟩
            obtain ⟨T2, W2, HSw, HSt2, HIn2, HR2⟩ := hrel
            have hbY2 : Below Y w1 wr := HF.out.bel.trans (HR2.out.bel.mono hzo)
            cases W2 with
            | nil =>
              obtain ⟨av, cv, hvw, _⟩ := HR2.out.win.val
              rw [List.map_nil, List.length_nil] at hvw
              subst hvw
              have hYZ : Y < Z := by
                have := (HF.out.out.lt Y rfl).2
                rw [HZ.out]
                exact this
              have hgY : w2.heap.size ≠ Y := HGY.out
              have HSwT := Lib.hid (HSw.out T2 (Sweep.done T2))
              have hltZ : w2.heap.size < Z := by rw [HZ.out]; exact HF.out.lt
              have HMx : MixAt Y Z O.length w2.heap.size w1 wr F T2 := by
                refine ⟨?_, HF.out.len, HR2.out.told, HR2.out.len, hbY2, fun j hj => ?_, by have := HR2.out.zs; omega⟩
                · have hbz := HR2.out.bel
                  rw [HZ.out] at hbz
                  exact HF.out.out.kept (row := none) ⟨hbz.os, hbz.tape, hbz.output, hbz.size, fun k hk _ => hbz.block k hk⟩ (Or.inr (by simp [Value.ownBlock]))
                · exact (HR2.out.bel.cell (p := ⟨w2.heap.size, j, none⟩) hltZ).trans (HF.out.tri j hj)
              have HM0 := Lib.hid HMx
              clear HMx
              have cbx := HBox.out _ hbY2
              go_wp2_with fail
              go_loopw [83] (fun i wr => ∃ (s : Nat) (F2 : List Bool), s ≤ O.length ∧ i = .int .i64 (s : Int) ∧ Hid (F2 = mixF O v T2 F O.length s) ∧ Hid (MixAt Y Z O.length w2.heap.size w1 wr F2 T2)) (fun i _ => O.length - (intOf i).toNat)
              case atStart => exact ⟨0, F, by omega, rfl, Lib.hid (mixF_zero O v T2 F O.length HF.out.len).symm, HM0⟩
              case round =>
                obtain ⟨s, F2, hs, rfl, HF2, HMi⟩ := hrel
                by_cases hsl : s < O.length
                · have hbY4 := HMi.out.bel
                  have cb4 := HBox.out _ hbY4
                  obtain ⟨ao', co', hve, _, hrg, _, hcs⟩ := HOut.out _ hbY4
                  cases hve
                  rcases hcs with rfl | ⟨bo, offo, rfl, hcs⟩
                  · exact absurd hsl (by simp)
                  have hx := hcs s hsl
                  have hxr := hrg s hsl
                  clear hcs hrg hbY4
                  have hcF := bool_cell HMi.out.out HMi.out.len s hsl
                  have hcT := bool_cell HMi.out.told HMi.out.tlen s hsl
                  have hfz := HMi.out.out.frozenAt s
                  have HSp := Lib.hid (mixF_step O v T2 F O.length s hsl)
                  have HFe : Hid (F2.getD s false = F.getD s false) := Lib.hid (by rw [HF2.out, mixF_get _ _ _ _ _ _ _ hsl]; simp)
                  rw [← HFe.out] at HSp
                  have HPut := Lib.hid (fun x => HMi.out.put (k := s) x (by omega) hgY)
                  generalize O.getD s 0 = x at hx hxr HSp
                  generalize T2.getD s false = tb at hcT HSp
                  generalize F2.getD s false = fb at hcF HSp
                  clear HFe
                  cases hxv : (x == v)
                  all_goals rw [hxv] at HSp
                  all_goals cases fb
                  all_goals cases tb
                  all_goals go_wp2_with fail
                  all_goals exact ⟨⟨s + 1, _, by omega, by go_num, Lib.hid (by rw [HSp.out, ← HF2.out]; rfl), Lib.hid (HPut.out _)⟩, by simp [intOf]; omega⟩
                · obtain rfl : s = O.length := by omega
                  go_wp2_with fail
                  exact ⟨⟨k + 1, F2, by omega, by go_num, Lib.hid ⟨HMi.out.out, HMi.out.len, by rw [HF2.out, ← HVV.out]; exact Fins.next k F T2 HF.out.fins (by rw [HVV.out]; exact HSwT.out), HMi.out.bel, HMi.out.tri, HMi.out.lt⟩⟩, by simp [intOf]; omega⟩
            | cons x W2 =>
              obtain ⟨gw, ow, cw, hvw, hcw, hcx, _⟩ := HR2.out.push
              have HVW := Lib.hid hvw
              obtain ⟨m, hm, hxm⟩ := inF_nat (HIn2.out x (by simp))
              subst hxm
              obtain ⟨vm, hvm, hrow⟩ := (HBack.out _ hbY2).each m (by rw [HBl.out, HRO.out]; exact hm)
              have hcm := ((HBack.out _ hbY2).row.cellAt m (by rw [HBl.out, HRO.out]; omega)).trans hvm
              obtain ⟨am, cm, hvmm⟩ := own_val hrow
              have hmR : (m : Int) < (R.length : Int) := by rw [HRO.out]; omega
              have HInR : Hid (∀ y ∈ B.getD m [], inF O.length y = true) := Lib.hid (by rw [HT.out, ← HRO.out]; exact InB.all R R.length (Nat.le_refl _) m)
              have HMr : Hid ((B.getD m []).length ≤ 256 * R.length) := Lib.hid (HMo.out m)
              have HRow : Hid (∀ wr, Below Y w1 wr → wr.ownsRow (w.alloc (.cells #[vp, vn, .slice ao O.length co] 27)).heap.size 3 1 vm (B.getD m []).length ((B.getD m []).map iv)) := Lib.hid fun wr hb => by
                obtain ⟨v', hv', hr'⟩ := (HBack.out _ hb).each m (by rw [HBl.out, HRO.out]; exact hm)
                obtain rfl : v' = vm := Option.some.inj (hv'.symm.trans hvm)
                exact hr'
              have HStep := Lib.hid (fun T' h => HSw.out T' (Sweep.step (B := B) T2 T' (m : Int) W2 h))
              rw [Int.toNat_natCast] at HStep
              generalize B.getD m [] = l at hrow hvmm HInR HMr HRow HStep
              rw [hvmm] at hcm
              have HVM := Lib.hid hvmm
              clear hrow hvm hvmm
              subst hvw
              have hl200 := HMr.out
              have hRl := HRO.out ▸ hn
              have hl10 : l.length ≤ 51200000 := by omega
              clear hl200 hRl
              have HIn2' := HIn2
              have HM0 := Lib.hid (countF_eq HR2.out)
              go_wp2_with fail
              go_loopw [8, 63] (fun vw i wr => ∃ (j : Nat) (T3 : List Bool) (W3 : List Int), j ≤ l.length ∧ i = .int .i64 (j : Int) ∧ Hid ((T3, W3) = spreads (T2, W2) (l.take j)) ∧ Hid (W3.length + 1 + falses T3 ≤ O.length) ∧ Hid (2 * falses T3 + W3.length ≤ 2 * falses T2 + W2.length) ∧ Hid (∀ y ∈ W3, inF O.length y = true) ∧ Hid (RoundAt Z O.length Z wo wr vw T3 ((m : Int) :: W3))) (fun _ i _ => l.length - (intOf i).toNat)
              case atStart => exact ⟨0, T2, W2, by omega, rfl, rfl, Lib.hid (by have := HSt2.out; simp only [List.length_cons] at this; omega), Lib.hid (Nat.le_refl _), Lib.hid (fun y hy => HIn2.out y (by simp [hy])), HR2⟩
              case round =>
                obtain ⟨j, T3, W3, hj, rfl, HSp, HL3, HMs, HIn3, HR3⟩ := hrel
                by_cases hjl : j < l.length
                · have hbY3 : Below Y w1 wr := HF.out.bel.trans (HR3.out.bel.mono hzo)
                  have hrow3 := HRow.out _ hbY3
                  obtain ⟨gm, cm', hvm3, _, _⟩ := hrow3.form (by omega)
                  have hvm4 := HVM.out.symm.trans hvm3
                  cases hvm4
                  have hc3 := hrow3.cells (g := gm) (by rw [hvm3]; rfl) j (iv (l.getD j 0)) (by rw [List.getElem?_map, List.getElem?_eq_getElem hjl, List.getD_eq_getElem?_getD, List.getElem?_eq_getElem hjl]; rfl)
                  rw [Addr.add_lit, Nat.zero_add] at hc3
                  obtain ⟨q, hq, hyq⟩ := inF_nat (HInR.out _ (getD_mem hjl))
                  have HTk := Lib.hid (spreads_take (T2, W2) l j hjl)
                  rw [hyq] at hc3 HTk
                  clear hrow3 hvm3 hyq
                  have hcell := HR3.out.cell q hq
                  have hfz := HR3.out.told.frozenAt q
                  have HSpr : Hid (spreads (T2, W2) (l.take (j + 1)) = if T3.getD q false then (T3, W3) else (T3.set q true, W3 ++ [(q : Int)])) := Lib.hid (by rw [HTk.out, ← HSp.out]; unfold spread; rw [Int.toNat_natCast])
                  have HFs := Lib.hid (fun h => falses_set (T := T3) (k := q) (by rw [HR3.out.len]; exact hq) h)
                  unfold iv at hc3
                  cases htb : T3.getD q false
                  · rw [htb] at hcell
                    have HFs2 := HFs.out htb
                    have hl3 := HL3.out
                    have hms := HMs.out
                    have HSpr2 := HSpr.out
                    rw [htb] at HSpr2
                    have HSpr3 := Lib.hid HSpr2
                    clear HSpr HSpr2 htb HFs HTk
                    obtain ⟨ab, cb3, hvw3, _⟩ := HR3.out.win.val
                    have HWin : Hid (Win (wr.setCell ⟨Z, q, none⟩ (.bool true)) Z 3 u8 (((m : Int) :: W3).map iv)) := Lib.hid (by
                      have hs1 := (HR3.out.told.stored q (.bool true)).2
                      exact HR3.out.win.kept hs1 (Or.inr (fun e => by
                        obtain ⟨c, hc⟩ := HR3.out.win.blk e
                        obtain ⟨d, hd⟩ := own_blk HR3.out.told
                        rw [hc] at hd
                        simp at hd)))
                    clear hvw3
                    have hzs := HR3.out.zs
                    have hz5 : (wr.setCell ⟨Z, q, none⟩ (.bool true)).heap.size = wr.heap.size := by simp [World.setCell]
                    have hcn := cell_one_new (wr.setCell ⟨Z, q, none⟩ (.bool true)) (.int .i64 (q : Int)) 3 0 _ rfl
                    rw [hz5] at hcn
                    have HCn := Lib.hid hcn
                    have HZ5 := Lib.hid hz5
                    have HFx := Lib.hid HFs2
                    have HW3 : Hid (W3.length + 1 ≤ 200000) := Lib.hid (by omega)
                    have HMs3 : Hid (2 * falses (T3.set q true) + (W3 ++ [(q : Int)]).length ≤ 2 * falses T2 + W2.length) := Lib.hid (by rw [List.length_append, List.length_singleton]; omega)
                    have HL33 : Hid ((W3 ++ [(q : Int)]).length + 1 + falses (T3.set q true) ≤ O.length) := Lib.hid (by rw [List.length_append, List.length_singleton]; omega)
                    clear hcn hz5 HFs2 hl3 hms
                    go_wp2_with (at_builtin; refine wpList_append_win rfl (.tmp 75) (.tmp 77) 107 rfl Z 3 i0 (.int .i64 0) 8 Try.underlying107 hi0 hz0 hz1 hz2 rfl _ (((m : Int) :: W3).map iv) rfl (HWin.out.kept (World.grownBy_alloc _ _ none) (Classical.em _)) ⟨wr.heap.size, 0, none⟩ 1 (.int .i64 (q : Int)) rfl HCn.out rfl (by have := HW3.out; rw [List.length_map, List.length_cons]; unfold maxLen; omega) (by have := HW3.out; rw [List.length_map, List.length_cons]; omega) (by rw [World.size_alloc, HZ5.out]; omega) _ rfl ?_; intro g5 off5 cap5 w5 hwin5 hgr5 hat5 hlt5; have HP := Lib.hid (HR3.out.put hq hwin5 hgr5); clear hwin5 hgr5 hat5 hlt5)
                    exact ⟨⟨j + 1, T3.set q true, W3 ++ [(q : Int)], by omega, by go_num, Lib.hid (by rw [HSpr3.out]; rfl), HL33, HMs3, Lib.hid (fun y hy => by
                      rcases List.mem_append.1 hy with hy | hy
                      · exact HIn3.out y hy
                      · rw [List.mem_singleton] at hy; subst hy; unfold inF; simp; omega), Lib.hid (by have h := HP.out; rw [List.length_map] at h; exact h)⟩, by simp [intOf]; omega⟩
                  · rw [htb] at hcell
                    have HSpr2 := HSpr.out
                    rw [htb] at HSpr2
                    have HSpr3 := Lib.hid HSpr2
                    clear HSpr HSpr2 htb HFs HTk
                    go_wp2_with fail
                    exact ⟨⟨j + 1, T3, W3, by omega, by go_num, Lib.hid (by rw [HSpr3.out]; rfl), HL3, HMs, HIn3, HR3⟩, by simp [intOf]; omega⟩
                · obtain rfl : j = l.length := by omega
                  rw [List.take_length] at HSp
                  obtain ⟨b3, o3, c3, hv3, hc33, _, HR4⟩ := HR3.out.push
                  subst hv3
                  go_wp2_with fail
                  exact ⟨⟨T3, W3, Lib.hid (fun T' h => HStep.out T' (by rw [← HSp.out]; exact h)), Lib.hid (by have := HL3.out; omega), HIn3, HR4⟩, by rw [countF_eq HR3.out, HM0.out]; simp only [lenOf]; have := HMs.out; omega⟩
    · obtain rfl : k = 3 := by omega
      go_wp2
      go_ret
      have hwy : w.heap.size ≤ Y := by rw [HY.out]; have := HBel.out.size; rw [World.size_alloc] at this; omega
      exact ⟨Y, F, rfl, own_base HF.out.out hwy, HF.out.len, by rw [← HT.out]; exact HF.out.fins, (((Below.refl _ w).alloc (Nat.le_refl _) _).trans (HBel.out.mono (by rw [World.size_alloc]; omega))).trans (HF.out.bel.mono hwy)⟩
end Go.Proofs.Ytpehmlkikhkmfaa
