/- Runner: runners side by side, every call in every order: the walk. -/
import Derived.Test.YtpehmlkikhkmfaaRunPStep
import Derived.Test.YtpehmlkikhkmfaaRunBatch
import Derived.Test.YtpehmlkikhkmfaaLentMachine
import Derived.Test.YtpehmlkikhkmfaaRefNew
namespace Go.Proofs.Ytpehmlkikhkmfaa
open Go.RowKit

theorem sumN_mem {l : List Nat} {i : Nat} (hi : i < l.length) : l.getD i 0 ≤ sumN l := by
  have h : ∀ (m : List Nat) (a : Nat), a ≤ m.foldl (fun n s => n + (1 + s)) a := fun m a => Nat.le_trans (Nat.le_add_right _ _) (sumN_ge m a)
  have h1 := sumN_take l i hi
  have h2 : l = l.take (i + 1) ++ l.drop (i + 1) := (List.take_append_drop _ l).symm
  have h3 : sumN (l.take (i + 1)) ≤ sumN l := by
    conv => rhs; rw [h2]
    unfold sumN
    rw [List.foldl_append]
    exact h _ _
  omega
theorem row_small {R : List (List Int)} (h : capN (lens R) ≤ 100000) {i : Nat} (hi : i < R.length) : (R.getD i []).length ≤ 100000 := by
  have h1 := capN_sum (l := lens R) (by omega)
  have h2 : (lens R).getD i 0 ≤ sumN (lens R) := sumN_mem (by unfold lens; rw [List.length_map]; exact hi)
  have h3 : (lens R).getD i 0 = (R.getD i []).length := by
    unfold lens
    rw [List.getD_eq_getElem?_getD, List.getElem?_map, List.getD_eq_getElem?_getD, List.getElem?_eq_getElem hi]
    rfl
  omega
theorem Spared.below {Y Z B : Nat} {a w w' : World} (h : Spared Y Z w w') (hb : Below B a w) (hB : B ≤ Y) (hs : B ≤ w.heap.size) : Below B a w' :=
  hb.trans ⟨h.os, h.tape, h.output, h.size, fun k hk => h.block k (by omega) (Or.inl (by omega))⟩

theorem moore_box (w : World) : (w.alloc (Obj.cells #[Value.slice none 0 0, Value.slice none 0 0, Value.slice none 0 0] 27)).cell? ⟨w.heap.size, 0, none⟩ = some (Value.slice none 0 0) ∧ (w.alloc (Obj.cells #[Value.slice none 0 0, Value.slice none 0 0, Value.slice none 0 0] 27)).cell? ⟨w.heap.size, 1, none⟩ = some (Value.slice none 0 0) ∧ (w.alloc (Obj.cells #[Value.slice none 0 0, Value.slice none 0 0, Value.slice none 0 0] 27)).cell? ⟨w.heap.size, 2, none⟩ = some (Value.slice none 0 0)
    ∧ (w.alloc (Obj.cells #[Value.slice none 0 0, Value.slice none 0 0, Value.slice none 0 0] 27)).frozen? ⟨w.heap.size, 0, none⟩ = false ∧ (w.alloc (Obj.cells #[Value.slice none 0 0, Value.slice none 0 0, Value.slice none 0 0] 27)).frozen? ⟨w.heap.size, 1, none⟩ = false ∧ (w.alloc (Obj.cells #[Value.slice none 0 0, Value.slice none 0 0, Value.slice none 0 0] 27)).frozen? ⟨w.heap.size, 2, none⟩ = false := by
  have hf : ∀ k, (w.alloc (Obj.cells #[Value.slice none 0 0, Value.slice none 0 0, Value.slice none 0 0] 27)).frozen? ⟨w.heap.size, k, none⟩ = false := fun k => by
    unfold World.frozen?
    rw [show (w.alloc (Obj.cells #[Value.slice none 0 0, Value.slice none 0 0, Value.slice none 0 0] 27)).heap[w.heap.size]? = _ from heap_alloc_new _ _]
    simp
  exact ⟨cell3_0 _ _ _ _ _, cell3_1 _ _ _ _ _, cell3_2 _ _ _ _ _, hf 0, hf 1, hf 2⟩

theorem play_start {w : World} {Y Z p q : Nat} {P : List ByteArray} {R : List (List Int)} {O : List Int} {F : List Bool} (hl : Live w Z p P R O F 0) (hf : Hid (Fins O (turnF R) 3 F)) (hr : Ref w q P R O 0) (hp : Y ≤ p) (hq : Y ≤ q) (hY : Y ≤ w.heap.size) :
    PlayAt (((w.alloc (.cells #[ptrV p] 32)).alloc (.cells #[ptrV q] 38)).alloc (.cells #[.slice (some ⟨w.heap.size, 0, none⟩) 1 1, .slice (some ⟨w.heap.size + 1, 0, none⟩) 1 1] 45)) Y (w.heap.size + 1 + 1) (.slice (some ⟨w.heap.size, 0, none⟩) 1 1) (.slice (some ⟨w.heap.size + 1, 0, none⟩) 1 1) [⟨p, q, 0, 0⟩] P R O
      ∧ w.grownBy (((w.alloc (.cells #[ptrV p] 32)).alloc (.cells #[ptrV q] 38)).alloc (.cells #[.slice (some ⟨w.heap.size, 0, none⟩) 1 1, .slice (some ⟨w.heap.size + 1, 0, none⟩) 1 1] 45)) none := by
  have g1 := World.grownBy_alloc w (.cells #[ptrV p] 32) none
  have g2 := World.grownBy_alloc (w.alloc (.cells #[ptrV p] 32)) (.cells #[ptrV q] 38) none
  have g3 := World.grownBy_alloc ((w.alloc (.cells #[ptrV p] 32)).alloc (.cells #[ptrV q] 38)) (.cells #[.slice (some ⟨w.heap.size, 0, none⟩) 1 1, .slice (some ⟨w.heap.size + 1, 0, none⟩) 1 1] 45) none
  have b := heap_alloc_new ((w.alloc (.cells #[ptrV p] 32)).alloc (.cells #[ptrV q] 38)) (.cells #[.slice (some ⟨w.heap.size, 0, none⟩) 1 1, .slice (some ⟨w.heap.size + 1, 0, none⟩) 1 1] 45)
  have r1 : (w.alloc (.cells #[ptrV p] 32)).ownsRow Y 32 1 (.slice (some ⟨w.heap.size, 0, none⟩) 1 1) 1 [ptrV p] := World.ownsRow_lit w #[ptrV p] 1 hY (by unfold maxLen; omega) rfl
  have r2 : ((w.alloc (.cells #[ptrV p] 32)).alloc (.cells #[ptrV q] 38)).ownsRow Y 38 1 (.slice (some ⟨w.heap.size + 1, 0, none⟩) 1 1) 1 [ptrV q] := by
    have := World.ownsRow_lit (base := Y) (e := 38) (size := 1) (w.alloc (.cells #[ptrV p] 32)) #[ptrV q] 1 (by rw [World.size_alloc]; omega) (by unfold maxLen; omega) rfl
    rw [World.size_alloc] at this
    exact this
  rw [World.size_alloc, World.size_alloc] at b
  refine ⟨⟨b, (r1.kept g2 (Classical.em _)).kept g3 (Classical.em _), r2.kept g3 (Classical.em _), fun i hi => ?_, fun i j hi hj hij => ?_, fun i j hi hj hij => ?_, fun i hi => ?_, by omega⟩, gb_trans (gb_trans g1 g2 (Or.inl rfl)) g3 (Or.inl rfl)⟩
  · obtain rfl : i = 0 := by simp at hi; omega
    exact ⟨⟨Z, F, ((hl.kept g1).kept g2).kept g3, hf⟩, ((hr.kept g1).kept g2).kept g3⟩
  · simp at hi hj; omega
  · simp at hi hj; omega
  · obtain rfl : i = 0 := by simp at hi; omega
    exact ⟨hp, hq⟩

set_option maxRecDepth 100000 in
set_option maxHeartbeats 8000000 in
theorem does_walk (vp vn vo vs : Value) (P : List ByteArray) (R : List (List Int)) (O : List Int) (S : List OpD) (w : World) (hM : MooreIn w vp vn vo P R O) (hS : OpsAt w vs S) :
    Calls Try.prog 4 #[.agg #[vp, vn, vo], vs] w fun e w' => e = .returned (.bool true) ∧ Below w.heap.size w w' := by
  have hg := World.grownBy_alloc w (.cells #[vp, vn, vo] 27) none
  have c0 := cell3_0 w vp vn vo 27
  have c1 := cell3_1 w vp vn vo 27
  have c2 := cell3_2 w vp vn vo 27
  have hOM := ofmoore_any (hM.props.kept hg) hM.short (hM.next.kept hg) hM.slice (by have := hM.len; omega)
  have hm0 : capN (sizes P) + capN (lens R) + O.length ≤ 500000000000000 := by
    have h1 := short_le hM.short
    have h2 := rows_le hM.next
    have h3 := hM.len
    omega
  have HX : Hid (∀ m, m = capN (sizes P) + capN (lens R) + O.length → m ≤ 100000 → P.length ≤ 100000 ∧ (∀ i, i < R.length → (R.getD i []).length ≤ 100000) ∧ O.length ≤ 100000) := Lib.hid fun m e h => by
    refine ⟨?_, fun i hi => row_small (by omega) hi, by omega⟩
    have h1 := capN_sum (l := sizes P) (by omega)
    have h2 := sumN_len (sizes P)
    rw [show (sizes P).length = P.length by unfold sizes; rw [List.length_map]] at h2
    omega
  obtain ⟨m0, hm⟩ : ∃ m, Hid (m = capN (sizes P) + capN (lens R) + O.length) := ⟨_, rfl⟩
  rw [← hm.out] at hOM hm0
  have HX0 := Lib.hid (HX.out m0 hm.out)
  clear HX hm
  have HOM := Lib.hid hOM
  have HM := Lib.hid hM
  have HS := Lib.hid hS
  have HMu : Hid (∀ wx, w.grownBy wx none → Calls Try.prog 11 #[vs] wx fun e w' => e = .returned (.int .i64 (muchF S : Int)) ∧ muchF S ≤ 200000000000000 ∧ wx = w') := Lib.hid fun wx h => much_any (hS.kept h)
  obtain ⟨asl, cs, rfl, hcs, hsl, _⟩ := hS
  obtain ⟨an, cn, rfl, hcn, hnl, _⟩ := hM.next
  clear hM hOM
  go_enter Try.func4, Try.ntmps4
  go_wp2_with fail
  generalize hw1 : w.alloc (.cells #[vp, .slice an R.length cn, vo] 27) = w1 at c0 c1 c2 hg HOM
  have hs1 : w1.heap.size = w.heap.size + 1 := by rw [← hw1, World.size_alloc]
  clear hw1
  by_cases hb0 : 100000 < m0
  · have hbI : (100000 : Int) < (m0 : Int) := by omega
    go_wp2_with (go_at_call 10; refine HOM.out.mono ?_; rintro e w2 ⟨rfl, hg2⟩)
    go_ret
    exact ⟨rfl, gb_below (gb_trans hg hg2 (Or.inl rfl))⟩
  have hb0I : ¬ (100000 : Int) < (m0 : Int) := by omega
  by_cases hb1 : 300 < R.length
  · have hbI : (300 : Int) < (R.length : Int) := by omega
    go_wp2_with (go_at_call 10; refine HOM.out.mono ?_; rintro e w2 ⟨rfl, hg2⟩; have d1 := hg2.cell c1 (by simp))
    go_ret
    exact ⟨rfl, gb_below (gb_trans hg hg2 (Or.inl rfl))⟩
  have hb1I : ¬ (300 : Int) < (R.length : Int) := by omega
  by_cases hb2 : 300 < S.length
  · have hbI : (300 : Int) < (S.length : Int) := by omega
    go_wp2_with (go_at_call 10; refine HOM.out.mono ?_; rintro e w2 ⟨rfl, hg2⟩; have d1 := hg2.cell c1 (by simp))
    go_ret
    exact ⟨rfl, gb_below (gb_trans hg hg2 (Or.inl rfl))⟩
  have hb2I : ¬ (300 : Int) < (S.length : Int) := by omega
  have hmu := HMu.out w (gb_refl _ _)
  obtain ⟨mu, hmuE⟩ : ∃ mu, Hid (mu = muchF S) := ⟨_, rfl⟩
  rw [← hmuE.out] at HMu
  clear hmu
  by_cases hb3 : 100000 < mu
  · have hbI : (100000 : Int) < (mu : Int) := by omega
    go_wp2_with (first | (go_at_call 10; refine HOM.out.mono ?_; rintro e w2 ⟨rfl, hg2⟩; have d1 := hg2.cell c1 (by simp); have hG2 := gb_trans hg hg2 (Or.inl rfl)) | (go_at_call 11; refine (HMu.out _ hG2).mono ?_; rintro e w3 ⟨rfl, _, rfl⟩))
    go_ret
    exact ⟨rfl, gb_below hG2⟩
  have hb3I : ¬ (100000 : Int) < (mu : Int) := by omega
  go_wp2_with (first | (go_at_call 10; refine HOM.out.mono ?_; rintro e w2 ⟨rfl, hg2⟩; have d1 := hg2.cell c1 (by simp); have d0 := hg2.cell c0 (by simp); have d2 := hg2.cell c2 (by simp); have hG2 := gb_trans hg hg2 (Or.inl rfl); have hY2 := hg2) | (go_at_call 11; refine (HMu.out _ hG2).mono ?_; rintro e w3 ⟨rfl, _, rfl⟩))
  go_wp2_with (go_at_call 9; refine (known_any w2).mono ?_; rintro e w3 ⟨rfl, hg3⟩; have f0 := hg3.cell d0 (by simp); have f1 := hg3.cell d1 (by simp); have f2 := hg3.cell d2 (by simp); have hG3 := gb_trans hG2 hg3 (Or.inl rfl); have hY3 := gb_trans hY2 hg3 (Or.inl rfl); clear d0 d1 d2 hg3 hG2 hY2)
  obtain ⟨hPl, hRl, hOl⟩ := HX0.out (by omega)
  have hMm := (HM.out.mach (by omega)).kept hg
  have HMm := Lib.hid hMm
  have HLm := Lib.hid (lent_moore (hMm.kept hY3) (by omega) (by omega) (fun i hi => by have := hRl i hi; omega) (by omega))
  have hz3 : w.heap.size < w3.heap.size := by have := hY3.size; omega
  clear hMm HOM HMu hRl HX0 hg2
  go_wp2_with (go_at_call 12; refine HLm.out.mono ?_; rintro e w4 ⟨up, un, uo, rfl, hL4, hg4⟩; obtain ⟨g0, g1, g2, g3, g4, g5⟩ := moore_box w4; have HL4 := Lib.hid hL4; obtain ⟨⟨ga, ca, rfl, _⟩, ⟨gb, cb, _, _, rfl, _⟩, ⟨gc, cc, rfl, _⟩⟩ := hL4)
  have hg5 := World.grownBy_alloc w4 (Obj.cells #[.slice (some ⟨ga, 0, none⟩) P.length ca, .slice (some ⟨gb, 0, none⟩) R.length cb, .slice (some ⟨gc, 0, none⟩) O.length cc] 27) none
  have hb5 := heap_alloc_new w4 (Obj.cells #[.slice (some ⟨ga, 0, none⟩) P.length ca, .slice (some ⟨gb, 0, none⟩) R.length cb, .slice (some ⟨gc, 0, none⟩) O.length cc] 27)
  generalize w4.alloc (Obj.cells #[.slice (some ⟨ga, 0, none⟩) P.length ca, .slice (some ⟨gb, 0, none⟩) R.length cb, .slice (some ⟨gc, 0, none⟩) O.length cc] 27) = w5 at hg5 hb5 ⊢
  have hz5 := hg5.size
  have hz4 := hg4.size
  have hl5 : w4.heap.size < w5.heap.size := (Array.getElem?_eq_some_iff.1 hb5).1
  have hY4 := gb_trans hY3 hg4 (Or.inl rfl)
  have hY5 := gb_trans hY4 hg5 (Or.inl rfl)
  have HL5 := Lib.hid (HL4.out.kept hg5)
  have HM5 := Lib.hid (HL5.out.at (HMm.out.kept hY5))
  -- what stands in every later world: the machine as it came in
  have HC : Hid (∀ wx, Below w1.heap.size w1 wx → wx.cell? ⟨w.heap.size, 0, none⟩ = some vp ∧ wx.cell? ⟨w.heap.size, 1, none⟩ = some (.slice an R.length cn) ∧ wx.cell? ⟨w.heap.size, 2, none⟩ = some vo) := Lib.hid fun wx h => ⟨(h.cell (World.block_lt_of_cell? w1 _ c0)).trans c0, (h.cell (World.block_lt_of_cell? w1 _ c1)).trans c1, (h.cell (World.block_lt_of_cell? w1 _ c2)).trans c2⟩
  -- the lent machine's box, in every world that has grown
  have HB : Hid (∀ wx, w5.grownBy wx none → wx.cell? ⟨w4.heap.size, 0, none⟩ = some (.slice (some ⟨ga, 0, none⟩) P.length ca) ∧ wx.cell? ⟨w4.heap.size, 1, none⟩ = some (.slice (some ⟨gb, 0, none⟩) R.length cb) ∧ wx.cell? ⟨w4.heap.size, 2, none⟩ = some (.slice (some ⟨gc, 0, none⟩) O.length cc)) := Lib.hid fun wx h => by
    have e : wx.heap[w4.heap.size]? = _ := (h.block _ hl5 (by simp)).trans hb5
    exact ⟨by simp [World.cell?, e], by simp [World.cell?, e], by simp [World.cell?, e]⟩
  have HY5 := Lib.hid hY5
  have hg5w : w1.heap.size ≤ w5.heap.size := hY5.size
  have HY4 := Lib.hid hY4
  have HG4 := Lib.hid hg5
  have HYb : Hid (∀ wx, w5.grownBy wx none → Below w1.heap.size w1 wx) := Lib.hid fun wx h => gb_below (gb_trans hY5 h (Or.inl rfl))
  have HSp : Hid (∀ wx wy, w5.grownBy wx none → Spared w3.heap.size w4.heap.size wx wy → Below w1.heap.size w1 wy) := Lib.hid fun wx wy h k => k.below (gb_below (gb_trans hY5 h (Or.inl rfl))) (by have := hY3.size; omega) (by have := hY5.size; have := h.size; omega)
  have HEnd : Hid (∀ wx, Below w1.heap.size w1 wx → Below w.heap.size w wx) := Lib.hid fun wx h => (gb_below hg).trans (h.mono (by omega))
  clear f0 f1 f2 hG3 hY3 hY4 hY5 hg4 hg5 g0 g1 g2 g3 g4 g5 c0 c1 c2 hb5 HLm
  rcases mErr_two P R O with hE | hE
  rotate_left
  · have HN := Lib.hid (new_no _ _ _ P R O w5 HM5.out hE)
    go_wp2_with (go_at_call 13; (refine HN.out.mono ?_; rintro e w6 ⟨rfl, hg6⟩; obtain ⟨k0, k1, k2⟩ := HB.out _ hg6; obtain ⟨m0, m1, m2⟩ := HC.out _ (HYb.out _ hg6)))
    have HWh := Lib.hid (whole_moore (HL5.out.kept hg6) (HMm.out.kept (gb_trans HY5.out hg6 (Or.inl rfl))))
    go_wp2_with (go_at_call 14; refine HWh.out.mono ?_; rintro e w7 ⟨rfl, hg67⟩; have hg7 := gb_trans hg6 hg67 (Or.inl rfl); obtain ⟨k70, k71, k72⟩ := HB.out _ hg7)
    have HSpl := Lib.hid (spoil_moore HL4.out (gb_trans HG4.out hg7 (Or.inl rfl)))
    go_wp2_with (go_at_call 15; refine HSpl.out.mono ?_; rintro e w8 ⟨rfl, hs8⟩; have hb8 := HSp.out _ _ hg7 hs8; obtain ⟨m80, m81, m82⟩ := HC.out _ hb8)
    have HRn := Lib.hid (refnew_no vp (.slice an R.length cn) vo P R O w8 (HMm.out.below hb8) hE)
    go_wp2_with (go_at_call 16; refine HRn.out.mono ?_; rintro e w9 ⟨rfl, hg9⟩)
    go_ret
    exact ⟨rfl, HEnd.out _ (hb8.grown hg9 hb8.size (fun _ e => by cases e))⟩
  have HE := Lib.hid hE
  have HN := Lib.hid (new_stay _ _ _ w5 HM5.out hE (by omega))
  clear hE
  go_wp2_with (go_at_call 13; refine HN.out.mono ?_; rintro e w6 ⟨p, F, rfl, hLv6, HFn, hg6, hp6, HSt⟩; obtain ⟨k0, k1, k2⟩ := HB.out _ hg6; obtain ⟨m0, m1, m2⟩ := HC.out _ (HYb.out _ hg6))
  have HWh := Lib.hid (whole_moore (HL5.out.kept hg6) (HMm.out.kept (gb_trans HY5.out hg6 (Or.inl rfl))))
  go_wp2_with (go_at_call 14; refine HWh.out.mono ?_; rintro e w7 ⟨rfl, hg67⟩; have hg7 := gb_trans hg6 hg67 (Or.inl rfl); obtain ⟨k70, k71, k72⟩ := HB.out _ hg7)
  have HSpl := Lib.hid (spoil_moore HL4.out (gb_trans HG4.out hg7 (Or.inl rfl)))
  go_wp2_with (go_at_call 15; refine HSpl.out.mono ?_; rintro e w8 ⟨rfl, hs8⟩; have hb8 := HSp.out _ _ hg7 hs8; obtain ⟨m80, m81, m82⟩ := HC.out _ hb8)
  have hl8 := HSt.out w8 ⟨Nat.le_trans hg67.size hs8.size, fun k h1 h2 => by rw [hs8.block k (Nat.lt_of_lt_of_le h2 hg67.size) (Or.inr (by omega)), hg67.block k h2 (by simp)]⟩
  have HL8 := Lib.hid hl8
  have HRn := Lib.hid (refnew_yes vp (.slice an R.length cn) vo P R O w8 (HMm.out.below hb8) HE.out (by omega))
  go_wp2_with (go_at_call 16; refine HRn.out.mono ?_; rintro e w9 ⟨q, vp', vn', vo', vs', rfl, hr9, hg9⟩)
  have hY8 : w1.heap.size ≤ w8.heap.size := hb8.size
  have hps := play_start (Y := w1.heap.size) (HL8.out.kept hg9) HFn ⟨_, _, _, _, hr9.base (Nat.zero_le _)⟩ (by have := hg5w; omega) (Nat.le_trans hY8 hr9.old) (Nat.le_trans hY8 hg9.size)
  have hB10 := (hb8.grown hg9 hY8 (fun _ e => by cases e)).grown hps.2 (Nat.le_trans hY8 hg9.size) (fun _ e => by cases e)
  unfold ptrV at hps hB10
  generalize w9.heap.size + 1 + 1 = pp at hps hB10 ⊢
  generalize ((w9.alloc (Obj.cells #[Value.pointer (some ⟨p, 0, none⟩)] 32)).alloc (Obj.cells #[Value.pointer (some ⟨q, 0, none⟩)] 38)).alloc _ = w10 at hps hB10 ⊢
  have HPl := Lib.hid hps.1
  have HB10 := Lib.hid hB10
  clear hps hB10 hb8 hr9 HSt hl8 hLv6
  have HOps : Hid (∀ wx, Below w1.heap.size w1 wx → ∀ k, k < S.length → ∃ b off x y z u, asl = some ⟨b, off, none⟩ ∧ wx.cell? ⟨b, off + k * 4, none⟩ = some x ∧ wx.cell? ⟨b, off + k * 4 + 1, none⟩ = some y ∧ wx.cell? ⟨b, off + k * 4 + 2, none⟩ = some z ∧ wx.cell? ⟨b, off + k * 4 + 3, none⟩ = some u ∧ OpAt w1 x y z u (S.getD k default)) := Lib.hid fun wx hb k hk => by
    obtain ⟨a', c', he, _, _, h3⟩ := HS.out
    rcases h3 with rfl | ⟨b, off, rfl, h3⟩
    · exact absurd hk (Nat.not_lt_zero _)
    obtain ⟨x, y, z, u, e1, e2, e3, e4, ho⟩ := h3 k hk
    have up : ∀ {a : Addr} {v : Value}, w.cell? a = some v → wx.cell? a = some v := fun h => by
      have h1 := hg.cell h (by simp)
      exact (hb.cell (World.block_lt_of_cell? w1 _ h1)).trans h1
    injection he with he1 _ _
    exact ⟨b, off, x, y, z, u, he1, up e1, up e2, up e3, up e4, ho.kept hg⟩
  have hmuS : muchF S ≤ 100000 := by rw [← hmuE.out]; omega
  have HNm : Hid (∀ k, k < S.length → (S.getD k default).names.length ≤ 100000) := Lib.hid fun k hk => names_small hmuS hk
  clear hmuS hmuE
  have hO2 : O.length ≤ 200000 := by omega
  go_loopw [13] (fun i wr => ∃ (k : Nat) (vr vq : Value) (ps : List Pr), k ≤ S.length ∧ i = .int .i64 (k : Int) ∧ Hid (PlayAt wr w1.heap.size pp vr vq ps P R O) ∧ 0 < ps.length ∧ ps.length ≤ 8 ∧ Hid (∀ i, i < ps.length → (ps.getD i default).s = (ps.getD i default).t) ∧ Hid (Below w1.heap.size w1 wr)) (fun i _ => S.length - (intOf i).toNat)
  case atStart => exact ⟨0, _, _, _, by omega, rfl, HPl, by simp, by simp, Lib.hid (fun i hi => by obtain rfl : i = 0 := (by simp at hi; omega); rfl), HB10⟩
  case round =>
    obtain ⟨k, vr, vq, ps, hk, rfl, HP, h0, h8, HQ, HBl⟩ := hrel
    by_cases hlt : k < S.length
    · have hltI : (k : Int) < (S.length : Int) := by omega
      obtain ⟨o0, o1, o2⟩ := HC.out wr HBl.out
      obtain ⟨sb, so, x, y, z, u, rfl, e1, e2, e3, e4, ho⟩ := HOps.out wr HBl.out k hlt
      have HSt := Lib.hid (pstep_any (w := wr.drew) rfl HMm.out HE.out hO2 ho (HNm.out k hlt) (HBl.out.grown (gb_drew _ none) HBl.out.size (fun _ e => by cases e)) (HP.out.kept (gb_drew _ none)) h0 h8 HQ.out)
      clear ho
      go_wp2_with fail
      go_region_with (go_at_call 17; refine HSt.out.mono ?_; rintro e wn ⟨rfl, vr', vq', ps', hP', h0', h8', hQ', hB'⟩)
      all_goals
        have HP' := Lib.hid hP'
        have HQ' := Lib.hid hQ'
        have HB' := Lib.hid hB'
        clear hP' hQ' hB'
        go_wp2_with fail
      all_goals exact ⟨⟨k + 1, vr', vq', ps', by omega, by go_num, HP', h0', h8', HQ', HB'⟩, by simp [intOf]; omega⟩
    · obtain rfl : k = S.length := by omega
      have hltI : ¬ ((S.length : Int) < (S.length : Int)) := by omega
      go_wp2_with fail
      go_loopw [15] (fun i wx => ∃ (j : Nat), j ≤ ps.length ∧ i = .int .i64 (j : Int) ∧ Hid (PlayAt wx w1.heap.size pp vr vq ps P R O) ∧ Hid (Below w1.heap.size w1 wx)) (fun i _ => ps.length - (intOf i).toNat)
      case atStart => exact ⟨0, by omega, rfl, HP, HBl⟩
      case round =>
        obtain ⟨j, hj, rfl, HPx, HBx⟩ := hrel
        have p0 : wr.cell? ⟨pp, 0, none⟩ = some vr := by simp [World.cell?, HPx.out.blk]
        have p1 : wr.cell? ⟨pp, 1, none⟩ = some vq := by simp [World.cell?, HPx.out.blk]
        obtain ⟨ar, cr, rfl⟩ := own_val HPx.out.rr
        obtain ⟨aq, cq, rfl⟩ := own_val HPx.out.rq
        by_cases hlt : j < ps.length
        · have hltI : (j : Int) < (ps.length : Int) := by omega
          obtain ⟨gr, cr2, er, hcr⟩ := ptr_at (f := Pr.p) HPx.out.rr hlt rfl
          obtain ⟨gq, cq2, eq, hcq⟩ := ptr_at (f := Pr.q) HPx.out.rq hlt rfl
          cases er
          cases eq
          obtain ⟨⟨Z1, F1, hl1, _⟩, hr1⟩ := HPx.out.each j hlt
          have q3 := hr1.cell3
          have hq1 := HQ.out j hlt
          rw [← hq1] at q3
          have HSta : Hid (∀ nq, Calls Try.prog 18 #[.pointer (some ⟨(ps.getD j default).p, 0, none⟩)] (wr.drewN nq) fun e w' => e = .returned (.int .i64 ((ps.getD j default).s : Int)) ∧ w' = wr.drewN nq) := Lib.hid fun nq => (live_state (hl1.kept (gb_drewN wr nq none))).mono fun e w' h => ⟨h.1, h.2.symm⟩
          have HPn : Hid (∀ nq, PlayAt (wr.drewN nq) w1.heap.size pp (.slice (some ⟨gr, 0, none⟩) ps.length cr) (.slice (some ⟨gq, 0, none⟩) ps.length cq) ps P R O) := Lib.hid fun nq => HPx.out.kept (gb_drewN wr nq none)
          have HBn : Hid (∀ nq, Below w1.heap.size w1 (wr.drewN nq)) := Lib.hid fun nq => HBx.out.grown (gb_drewN wr nq none) HBx.out.size (fun _ e => by cases e)
          clear hl1 hr1 hq1
          generalize (ps.getD j default).p = px at hcr HSta ⊢
          generalize (ps.getD j default).q = qx at hcq q3 ⊢
          generalize (ps.getD j default).s = sx at q3 HSta ⊢
          go_wp2_with fail
          go_quiet ((go_at_call 18; exact Calls.quiet_of_same (HSta.out _)))
          go_wp2_with fail
          exact ⟨⟨j + 1, by omega, by go_num, Lib.hid (HPn.out _), Lib.hid (HBn.out _)⟩, by simp [intOf]; omega⟩
        · obtain rfl : j = ps.length := by omega
          have hltI : ¬ ((ps.length : Int) < (ps.length : Int)) := by omega
          go_wp2_with fail
          go_ret
          exact ⟨rfl, HEnd.out _ HBx.out⟩
end Go.Proofs.Ytpehmlkikhkmfaa
