/- Bits: All of a set, gone through: the law's walk. -/
import Derived.Test.YtaagbdncfcdfcaaDoorBitsRange
import Derived.Test.YtaagbdncfcdfcaaDoorBitsRefOf
import Derived.Laws.EntriesVeiled
namespace Go.Proofs.YtaagbdncfcdfcaaDoor
open Go.RowKit Go.Shelf
attribute [local go_sem] Oper.semAt_some

theorem mark_own {β : Type} {D B : Nat} {o : Obj} (h : D < B) : OwnFrom B (fun (_ : β) (W : World) => W.heap[D]? = some o) := fun _ _ _ _ hs hg hr =>
  (hg.block D (Array.getElem?_eq_some_iff.1 hs).1 (fun e => Nat.lt_irrefl _ (Nat.lt_of_lt_of_le h (hr D e.symm).1))).trans hs
theorem ownFrom_or {β : Type} {B : Nat} {I I' : β → World → Prop} (h : OwnFrom B I) (h' : OwnFrom B I') : OwnFrom B (fun s W => I s W ∨ I' s W) := fun s W W' row hs hg hr => hs.elim (fun a => Or.inl (h s W W' row a hg hr)) (fun a => Or.inr (h' s W W' row a hg hr))
theorem mark_set {D B : Nat} {o : Obj} {W : World} {v : Value} (h : W.heap[D]? = some o) (hne : D ≠ B) : (W.setCell ⟨B, 0, none⟩ v).heap[D]? = some o := (Below.heap_setCell _ _ _ _ hne).trans h
theorem pre_next {R pre : List Nat} {x : Nat} (hp : pre <+: R) (hl : pre.length < R.length) (hx : R.getD pre.length 0 = x) : pre ++ [x] <+: R := by
  obtain ⟨t, rfl⟩ := hp
  cases t with
  | nil => simp at hl
  | cons y t =>
    simp [List.getD_eq_getElem?_getD] at hx
    subst hx
    exact ⟨t, by simp⟩
theorem results_bool {fn : Func} {a : Tmp} (h : fn.results = #[.cell a 4]) (tmps : Array Value) (w : World) (B : Nat) (b : Bool) (ha : tmps.getD a undef = .pointer (some ⟨B, 0, none⟩)) (hb : Boxed w B 4 (.bool b)) : (results fn tmps).run Tryd.prog w = .ok (.bool b) w := by
  have ha' : tmps[a]?.getD undef = .pointer (some ⟨B, 0, none⟩) := by simpa using ha
  have hc := hb.cell
  simp [results, h, ha', asAddr, go_sem, hc]
theorem leave3 {fn : Func} {a : Tmp} {tmps : Array Value} {w W : World} {D1 D2 D3 n : Nat} (hres : fn.results = #[.cell a 4]) (ha : tmps.getD a undef = .pointer (some ⟨w.heap.size, 0, none⟩)) (hbx : Boxed W w.heap.size 4 (.bool true)) (hB : Below w.heap.size w W)
    (h3 : W.heap[D3]? = some (.deferred (some []))) (h2 : W.heap[D2]? = some (.deferred (some []))) (h1 : W.heap[D1]? = some (.deferred (some []))) (l1 : w.heap.size < D1) (l2 : D1 < D2) (l3 : D2 < D3) :
    LeavesInM Fence.wide n Tryd.prog fn tmps (fun e w' => e = .returned (.bool true) ∧ Below w.heap.size w w') [{ target := .collected D3, args := #[] }, { target := .collected D2, args := #[] }, { target := .collected D1, args := #[] }] .returning W := by
  have z3 := (Array.getElem?_eq_some_iff.1 h3).1
  refine ⟨by simp, .inl ⟨D3, _, rfl, run_takeDeferred h3, ?_⟩⟩
  have h2' : (W.putObj D3 (.deferred none)).heap[D2]? = some (.deferred (some [])) := (World.putObj_heap_other (by omega)).trans h2
  have h1' : (W.putObj D3 (.deferred none)).heap[D1]? = some (.deferred (some [])) := (World.putObj_heap_other (by omega)).trans h1
  have hbx' : Boxed (W.putObj D3 (.deferred none)) w.heap.size 4 (.bool true) := hbx.kept (grownBy_putObj' _ _ _) (fun e => by cases e; omega)
  have hB' : Below w.heap.size w (W.putObj D3 (.deferred none)) := hB.grown (grownBy_putObj' _ _ _) hB.size (fun k e => by cases e; omega)
  refine ⟨by simp, .inl ⟨D2, _, rfl, run_takeDeferred h2', ?_⟩⟩
  have h1'' : ((W.putObj D3 (.deferred none)).putObj D2 (.deferred none)).heap[D1]? = some (.deferred (some [])) := (World.putObj_heap_other (by omega)).trans h1'
  have hbx'' : Boxed ((W.putObj D3 (.deferred none)).putObj D2 (.deferred none)) w.heap.size 4 (.bool true) := hbx'.kept (grownBy_putObj' _ _ _) (fun e => by cases e; omega)
  have hB'' : Below w.heap.size w ((W.putObj D3 (.deferred none)).putObj D2 (.deferred none)) := hB'.grown (grownBy_putObj' _ _ _) hB'.size (fun k e => by cases e; omega)
  refine ⟨by simp, .inl ⟨D1, _, rfl, run_takeDeferred h1'', ?_⟩⟩
  exact ⟨_, results_bool hres _ _ w.heap.size true ha (hbx''.kept (grownBy_putObj' _ _ _) (fun e => by cases e; omega)), rfl, hB''.grown (grownBy_putObj' _ _ _) hB''.size (fun k e => by cases e; omega)⟩
set_option maxRecDepth 100000 in
set_option maxHeartbeats 4000000 in
theorem goes_any (c most : Int) (al : Option Addr) (cl : Nat) (A : List Int) (w : World) (hT : TabAt w) (hA : A.length ≤ 5000 → IntsAt w (.slice al A.length cl) A) (c1 : -9223372036854775808 ≤ c) (c2 : c ≤ 9223372036854775807) (m1 : -9223372036854775808 ≤ most) (m2 : most ≤ 9223372036854775807) :
    Calls Tryd.prog 5 #[.int .i64 c, .slice al A.length cl, .int .i64 most] w fun e w' => e = .returned (.bool true) ∧ Below w.heap.size w w' := by
  have HA0 := Lib.hid hA
  clear hA
  have hbx := Boxed.new w 4 (.bool false)
  refine (callsIn_wide (n := 8)).1 ?_
  refine callsIn_of_wp_marks Tryd.func5 rfl trivial ?_ rfl
  simp only [Tryd.ntmps5, List.size_toArray, List.length_cons, List.length_nil, Nat.reduceAdd, Nat.reduceSub, Array.replicate_succ, Array.replicate_zero, List.push_toArray, List.append_toArray, List.nil_append, List.cons_append]
  have hbc := hbx.cell
  have hbf := hbx.frozen
  by_cases h5 : 5000 < A.length
  · have h5I : (5000 : Int) < (A.length : Int) := by omega
    gi_wp2
    exact ⟨_, results_bool rfl _ _ w.heap.size true rfl (Boxed.new w 4 (.bool true)), rfl, (Below.refl _ _).alloc (Nat.le_refl _) _⟩
  · have h5I : ¬ (5000 : Int) < (A.length : Int) := by omega
    have HA := Lib.hid (HA0.out (by omega))
    clear HA0
    have hga := World.grownBy_alloc w (.cells #[.bool false] 4) none
    have hT1 := hT.kept hga (by simp)
    have HA1 := Lib.hid (HA.out.kept hga)
    have hB1 : Below w.heap.size w (w.alloc (.cells #[.bool false] 4)) := (Below.refl _ _).alloc (Nat.le_refl _) _
    have hz1 : w.heap.size < (w.alloc (.cells #[.bool false] 4)).heap.size := by rw [World.size_alloc]; omega
    have HK := Lib.hid (known_walk _ hT1)
    gi_wp2_with fail
    have HX1 := Lib.hid hbx
    generalize w.alloc (.cells #[.bool false] 4) = w1 at HX1 hbx hbc hbf hga hT1 HA1 hB1 hz1 HK ⊢
    refine ⟨trivial, ?_⟩
    refine (callsIn_all HK.out).mono ?_
    rintro e w2 ⟨rfl, hB2⟩
    clear HK
    have hz2 := hB2.size
    obtain ⟨n, hn, hn2⟩ : ∃ n, n = widthF c ∧ n ≤ 65536 := ⟨_, rfl, widthF_le c⟩
    have HWi : Hid (∀ wx : World, Calls Tryd.prog 12 #[.int .i64 c] wx fun e w' => e = .returned (.int .i64 (n : Int)) ∧ wx = w') := Lib.hid fun wx => by rw [hn]; exact width_any c wx c1 c2
    clear hn
    have hT2 := below_tab hT1 hB2
    have hA2 : IntsAt w2 (.slice al A.length cl) A := HA1.out.below hB2
    have HA2 := Lib.hid hA2
    have HT2 := Lib.hid hT2
    clear hA2 hT2 hT1 HA1 hga HA hT hbx hbc hbf
    gi_wp2_with (refine ⟨trivial, ?_⟩; gi_at_call 12; refine (callsIn_all (HWi.out _)).mono ?_; rintro e wq ⟨rfl, rfl⟩)
    refine ⟨trivial, ?_⟩
    refine (callsIn_all (of_any n _ A _ hn2 HA2.out)).mono ?_
    rintro e w3 ⟨p3, g3, c3, rfl, hp3, hg3, hS3, hG3⟩
    have HA3 := Lib.hid (HA2.out.kept hG3)
    have HT3 := Lib.hid (HT2.out.kept hG3 (by simp))
    have hz3 := hG3.size
    have hg33 := hS3.glt
    gi_wp2_with (refine ⟨trivial, ?_⟩; gi_at_call 12; refine (callsIn_all (HWi.out _)).mono ?_; rintro e wq ⟨rfl, rfl⟩)
    refine ⟨trivial, ?_⟩
    refine (callsIn_all (rof_any n _ A _ hn2 HA3.out)).mono ?_
    rintro e w4 ⟨q4, u4, rfl, hR4, hG4⟩
    gi_wp2_with fail
    refine ⟨trivial, ?_⟩
    refine (callsIn_all (rall_any hR4 hn2)).mono ?_
    rintro e w5 ⟨u5, rfl, hO5, hG5⟩
    obtain ⟨a5, c5, rfl⟩ := own_val hO5
    obtain ⟨R, hR⟩ : ∃ R, Hid (R = riseL n (ofL n A)) := ⟨_, rfl⟩
    rw [← hR.out] at hO5 ⊢
    have hRl : R.length ≤ 65536 := by rw [hR.out]; have := rise_len n (ofL n A); omega
    have hG35 := gb_trans hG4 hG5 (Or.inl rfl)
    have hS5 := hS3.kept hG35 (by simp) (by simp)
    have hT5 := HT3.out.kept hG35 (by simp)
    have hA5 := HA3.out.kept hG35
    have hz5 := hG35.size
    obtain ⟨w6, hw6⟩ : ∃ w6, w6 = w5.alloc (.cells #[.slice a5 R.length c5] 31) := ⟨_, rfl⟩
    have hG6 : w5.grownBy w6 none := by rw [hw6]; exact World.grownBy_alloc _ _ none
    have hB9 : Boxed w6 w5.heap.size 31 (.slice a5 R.length c5) := by rw [hw6]; exact Boxed.new _ _ _
    have HS6 := Lib.hid (hS5.kept hG6 (by simp) (by simp))
    have HT6 := Lib.hid (hT5.kept hG6 (by simp))
    have HA6 := Lib.hid (hA5.kept hG6)
    have HO6 := Lib.hid (hO5.kept hG6 (Classical.em _))
    have hz6 : w5.heap.size < w6.heap.size := hB9.lt
    have hB6 : Below w1.heap.size w1 w6 := (hB2.grown (gb_trans hG3 (gb_trans hG35 hG6 (Or.inl rfl)) (Or.inl rfl)) hz2 (fun _ e => by cases e))
    have HG26 : Hid (w2.grownBy w6 none) := Lib.hid (gb_trans hG3 (gb_trans hG35 hG6 (Or.inl rfl)) (Or.inl rfl))
    have hTl : 0 < w2.heap.size := World.block_lt_of_cell? w2 _ (HT2.out 0 (by decide))
    have hz4 := hG4.size
    clear hS5 hT5 hA5 hS3 hR4 hG4 hG5 hG35 HT2 HA3 HT3 hO5 hG3 hB2 hG6
    gi_wp2_with fail
    rw [← hw6]
    clear hw6
    refine ⟨trivial, ?_⟩
    refine (callsIn_all (all_any w6 HS6.out)).mono ?_
    rintro e w7 ⟨p7, g7, c7, B7, rfl, hS7, hB7, hp7, hg7, hb7, hG7⟩
    have hz7 := hG7.size
    have HI7 := Lib.hid (World.grownBy_alloc w7 (.cells #[.func (.func 34) #[] #[.pointer (some ⟨B7, 0, none⟩)]] 37) none)
    have HB10 : Hid (Boxed (w7.alloc (.cells #[.func (.func 34) #[] #[.pointer (some ⟨B7, 0, none⟩)]] 37)) w7.heap.size 37 (.func (.func 34) #[] #[.pointer (some ⟨B7, 0, none⟩)])) := Lib.hid (Boxed.new _ _ _)
    gi_wp2_with fail
    generalize w7.alloc (.cells #[.func (.func 34) #[] #[.pointer (some ⟨B7, 0, none⟩)]] 37) = w8 at HI7 HB10 ⊢
    have HG68 := Lib.hid (gb_trans hG7 HI7.out (Or.inl rfl))
    have HS8 : Hid (∃ M, SetAt w8 p3 g3 c3 n M) := Lib.hid ⟨_, HS6.out.kept HG68.out (by simp) (by simp)⟩
    have HS7 := Lib.hid (hS7.kept HI7.out (by simp) (by simp))
    have HB7 : Hid (w8.heap[B7]? = some (.cells #[.pointer (some ⟨p7, 0, none⟩)] 23 (0, 0))) := Lib.hid ((HI7.out.block B7 (Array.getElem?_eq_some_iff.1 hB7).1 (by simp)).trans hB7)
    have hz8 := HI7.out.size
    have hg36 := HS6.out.glt
    clear hS7 hB7
    gi_loopw [11] (fun i wr => ∃ k : Nat, k ≤ A.length ∧ i = .int .i64 (k : Int) ∧ Hid (∃ M, SetAt wr p3 g3 c3 n M) ∧ Hid (w8.grownBy wr (some g3))) (fun i _ => A.length - (intOf i).toNat)
    case atStart => exact ⟨0, by omega, rfl, HS8, Lib.hid (gb_refl _ _)⟩
    case round =>
      obtain ⟨k, hk, rfl, HSr, HGr⟩ := hrel
      by_cases hlt : k < A.length
      · have hkI : (k : Int) < (A.length : Int) := by omega
        obtain ⟨a9, c9, e9, hb9, _, h9⟩ := HA2.out
        cases e9
        rcases h9 with rfl | ⟨b9, o9, rfl, h9⟩
        · exact absurd hlt (by simp)
        have hcell := h9 k hlt
        have hl9 : b9 < w2.heap.size := World.block_lt_of_cell? w2 _ hcell
        have hcr := HGr.out.cell ((gb_trans HG26.out HG68.out (Or.inl rfl)).cell hcell (by simp)) (by simp; omega)
        clear h9 hb9 hcell
        obtain ⟨M, hM⟩ := HSr.out
        have HC := Lib.hid (cut_any (A.getD k 0) _ _ _ _ _ _ hM)
        generalize A.getD k 0 = x at hcr HC
        gi_wp2_with (refine ⟨trivial, ?_⟩; gi_at_call 16; refine (callsIn_all HC.out).mono ?_; rintro e w9 ⟨rfl, hM9, hG9⟩)
        exact ⟨⟨k + 1, by omega, by go_num, Lib.hid ⟨_, hM9⟩, Lib.hid (gb_trans HGr.out hG9 (Or.inr (Or.inl rfl)))⟩, by simp [intOf]; omega⟩
      · obtain rfl : k = A.length := by omega
        have hkI : ¬ (A.length : Int) < (A.length : Int) := by omega
        obtain ⟨M, hM⟩ := HSr.out
        gi_wp2_with (refine ⟨trivial, ?_⟩; gi_at_call 17; refine (callsIn_all (put_any 0 _ _ _ _ _ _ hM)).mono ?_; rintro e w9 ⟨rfl, hM9, hG9⟩)
        have hG := gb_trans HGr.out hG9 (Or.inr (Or.inl rfl))
        clear hM9 hG9 hM HSr HGr
        have hz9 := hG.size
        have HF : Hid (∀ wx, Below w9.heap.size w9 wx → SetAt wx p7 g7 c7 n (ofL n A) ∧ TabAt wx ∧ wx.heap[B7]? = some (.cells #[.pointer (some ⟨p7, 0, none⟩)] 23 (0, 0)) ∧ Boxed wx w7.heap.size 37 (.func (.func 34) #[] #[.pointer (some ⟨B7, 0, none⟩)]) ∧ Boxed wx w5.heap.size 31 (.slice a5 R.length c5) ∧ (∀ j, j < R.length → ∃ g, a5 = some ⟨g, 0, none⟩ ∧ wx.cell? ⟨g, j, none⟩ = some (.int .i64 ((R.getD j 0 : Nat) : Int))) ∧ Boxed wx w.heap.size 4 (.bool false) ∧ Below w.heap.size w wx) := Lib.hid fun wx hb => by
          have hg68 := HG68.out
          have s9 := HS7.out.kept hG (by simp; omega) (by simp; omega)
          have t9 := (HT6.out.kept hg68 (by simp)).kept hG (by simp; omega)
          have b9 := (hG.block B7 (Array.getElem?_eq_some_iff.1 HB7.out).1 (by simp; omega)).trans HB7.out
          have q9 := HB10.out.kept hG (by simp; omega)
          have r9 := ((hB9.kept hg68 (by simp)).kept hG (by simp; omega))
          have o9 := (HO6.out.kept hg68 (Classical.em _)).kept hG (by
            rcases e : (Value.slice a5 R.length c5).ownBlock with _ | b
            · exact Or.inl rfl
            · refine Or.inr (fun e2 => ?_)
              have h1 := (HO6.out.lt b e).1
              have h2 : b = g3 := Option.some.inj e2
              omega)
          have x9 : Boxed w9 w.heap.size 4 (.bool false) := by
            have x6 : Boxed w6 w.heap.size 4 (.bool false) := (hB6.block _ HX1.out.lt).trans HX1.out
            exact (x6.kept hg68 (by simp)).kept hG (by simp; omega)
          have e9 : Below w.heap.size w w9 := ((hB1.trans (hB6.mono (by omega))).grown hg68 (by omega) (fun _ e => by cases e)).grown hG (by omega) (fun _ e => by cases e; omega)
          refine ⟨s9.below s9.lt s9.glt hb, t9.below (World.block_lt_of_cell? w9 _ (t9 0 (by decide))) hb, (hb.block _ (Array.getElem?_eq_some_iff.1 b9).1).trans b9, (hb.block _ q9.lt).trans q9, (hb.block _ r9.lt).trans r9, fun j hj => ?_, (hb.block _ x9.lt).trans x9, e9.trans (hb.mono e9.size)⟩
          obtain ⟨g, cap, hv, _, hc⟩ := own_cell o9 j hj
          cases hv
          refine ⟨g, rfl, ?_⟩
          rw [(hb.cell (p := ⟨g, j, none⟩) (World.block_lt_of_cell? w9 ⟨g, j, none⟩ (by rw [hc, List.getElem?_map, List.getElem?_eq_getElem hj]; rfl))), hc, List.getElem?_map, List.getElem?_eq_getElem hj, List.getD_eq_getElem?_getD, List.getElem?_eq_getElem hj]
          rfl
        obtain ⟨n0, hn0⟩ : ∃ n0, n0 = w9.heap.size := ⟨_, rfl⟩
        rw [← hn0] at HF
        have hb5 : w5.heap.size < n0 := by omega
        have hb7' : w7.heap.size < n0 := by have := HB10.out.lt; omega
        have hbw : w.heap.size < w5.heap.size := by omega
        generalize w5.heap.size = b5 at HF hb5 hbw ⊢
        generalize hb77 : w7.heap.size = b7 at HF hb7' ⊢
        clear hG HS7 HB7 HS8 HG68 HB10 HI7 HG26 HO6 HA6 HT6 HS6 HA2 HX1 hB1 hB6 hB9 HWi hz1 hz2 hp3 hg3 hz3 hz5 hTl hz4 hp7 hg7 hb7 hG7 hz8 hg36 hk hlt hkI hz9 hz6 hg33 hz7 hb77
        obtain ⟨fS, fT, fB, -⟩ := HF.out w9 (Below.refl _ _)
        have hp7n : p7 < n0 := by have := fS.lt; omega
        have hg7n : g7 < n0 := by have := fS.glt; omega
        have hTn : 0 < n0 := by have := World.block_lt_of_cell? w9 _ (fT 0 (by decide)); omega
        have hb7n : B7 < n0 := by have := (Array.getElem?_eq_some_iff.1 fB).1; omega
        clear fS fT fB
        have hBw9 : Below n0 w9 w9 := Below.refl _ _
        have hn0l : n0 ≤ w9.heap.size := by omega
        clear hn0
        refine wpIn_loop_rounds 3 ?_
        rw [roundsIn_succ]
        have hz10 : n0 ≤ w9.heap.size := by have := hBw9.size; omega
        have hga1 := hBw9.alloc hz10 (.cells #[.int .i64 0] 3)
        obtain ⟨fS1, fT1, fB1, f10_1, f9_1, fR1, fX1, fE1⟩ := HF.out _ hga1
        have hnb1 := Boxed.new w9 3 (.int .i64 0)
        have hlc1 := f10_1.cell
        have hzn1 : w9.heap.size < (w9.alloc (.cells #[.int .i64 0] 3)).heap.size := by rw [World.size_alloc]; omega
        gi_wp2
        generalize hwa1 : w9.alloc (.cells #[.int .i64 0] 3) = wa1 at hga1 fS1 fT1 fB1 f10_1 f9_1 fR1 fX1 fE1 hnb1 hlc1 hzn1 ⊢
        clear hwa1
        generalize hBn1 : w9.heap.size = Bn1 at hnb1 hz10 hzn1 ⊢
        clear hBn1
        refine rangeH_box (SlotAx 59 14) rfl (by omega) (gf := 34) (lb := #[.pointer (some ⟨B7, 0, none⟩)]) rfl trivial (enters_of Tryd.func34 (by kernel_rfl) rfl)
          (all_stops 7 (by omega) B7 p7 g7 c7 n n0 (ofL n A) wa1 fS1 fT1 (by omega) hp7n hg7n hTn hb7n fB1) belowK_t (belowK_b (by omega)) (fun _ => rfl)
          (fun pre W => (pre <+: R ∧ Boxed W Bn1 3 (.int .i64 (pre.length : Int))) ∧ Below n0 w9 W)
          (fun _ pre _ => ¬ pre <+: R)
          (OwnFrom.and (OwnFrom.and (ownFrom_pure _ _) (Own.from (boxed_own _ _ _) _)) (ownFrom_below (by omega) (by omega)))
          (fun _ _ _ _ _ hs _ _ => hs)
          ⟨⟨List.nil_prefix, hnb1⟩, hga1⟩ (fun _ _ => SlotAx.own) ?assign1 ?body1 ?done1 ?stop1
        case assign1 =>
          rintro l pre x W K hi hK
          gi_wp2
          exact hK _ _ (KeepsFrom.refl _ _) (Below.refl _ _) hi rfl
        case body1 =>
          rintro l pre x a' W _ _ ⟨⟨hpre, hbn⟩, hbw9⟩ rfl hlt
          rw [← hR.out] at hlt
          obtain ⟨-, -, -, -, g9, gR, gX, -⟩ := HF.out _ hbw9
          have hcn := hbn.cell
          have hfn := hbn.frozen
          have hc9 := g9.cell
          have hcX := gX.cell
          have hfX := gX.frozen
          obtain ⟨gg, rfl, hcR⟩ := gR pre.length hlt
          have hltI : (pre.length : Int) < (R.length : Int) := by omega
          have hn1 := pre_next (x := x) hpre hlt
          by_cases hx : R.getD pre.length 0 = x
          · have hpn := hn1 hx
            have hxb : ((x : Int) != (x : Int)) = false := by simp
            rw [hx] at hcR
            have HPn := Lib.hid hpn
            have hv : Value.int .i64 ((pre.length : Int) + 1) = .int .i64 ((pre ++ [x]).length : Int) := by rw [List.length_append]; rfl
            clear hn1 hpn hx hpre
            gi_wp2
            exact ⟨(KeepsOthers.setCell _ _ _).from _, (Below.refl n0 W).setCell (p := ⟨Bn1, 0, none⟩) (by simp; omega) _, ⟨⟨HPn.out, by rw [← hv]; exact hbn.set _⟩, hbw9.setCell (p := ⟨Bn1, 0, none⟩) (by simp; omega) _⟩⟩
          · have hxb : ((x : Int) != ((R.getD pre.length 0 : Nat) : Int)) = true := by rw [bne_iff_ne]; omega
            have HPn : Hid (¬ pre ++ [x] <+: R) := Lib.hid fun h => hx (rise_prefix_get h).2
            generalize R.getD pre.length 0 = y at hcR hxb
            clear hn1 hx hpre
            gi_wp2
            exact ⟨(KeepsOthers.setCell _ _ _).from _, HPn.out⟩
        case stop1 =>
          rintro D c pre W _ hS h _
          exact absurd (by rw [hR.out]; exact hS) h
        case done1 =>
          rintro D1 xs W1 hD1 hS1 ⟨⟨-, hbn1⟩, hbw1⟩ hK1
          rw [show xs = R from hS1.trans hR.out.symm] at hbn1
          clear hS1
          obtain ⟨-, -, -, -, g9, -, -, -⟩ := HF.out _ hbw1
          have hcn := hbn1.cell
          have hc9 := g9.cell
          gi_wp2
          rw [roundsIn_succ]
          have hLD1 : n0 ≤ D1 := by omega
          have hz20 : n0 ≤ W1.heap.size := by have := hbw1.size; omega
          have hga2 := hbw1.alloc hz20 (.cells #[.int .i64 0] 3)
          obtain ⟨fS2, fT2, fB2, f10_2, f9_2, fR2, fX2, fE2⟩ := HF.out _ hga2
          have hnb2 := Boxed.new W1 3 (.int .i64 0)
          have hlc2 := f10_2.cell
          have hzn2 : W1.heap.size < (W1.alloc (.cells #[.int .i64 0] 3)).heap.size := by rw [World.size_alloc]; omega
          have hma2_0 := (Below.heap_alloc W1 (.cells #[.int .i64 0] 3) D1 (Array.getElem?_eq_some_iff.1 hK1).1).trans hK1
          have hml2_0 : D1 < W1.heap.size := (Array.getElem?_eq_some_iff.1 hK1).1
          gi_wp2
          generalize hwa2 : W1.alloc (.cells #[.int .i64 0] 3) = wa2 at hga2 fS2 fT2 fB2 f10_2 f9_2 fR2 fX2 fE2 hnb2 hlc2 hzn2 hma2_0 ⊢
          clear hwa2
          generalize hBn2 : W1.heap.size = Bn2 at hnb2 hz20 hzn2 hml2_0 ⊢
          clear hBn2
          refine rangeH_box (SlotAx 59 14) rfl (by omega) (gf := 34) (lb := #[.pointer (some ⟨B7, 0, none⟩)]) rfl trivial (enters_of Tryd.func34 (by kernel_rfl) rfl)
            (all_stops 7 (by omega) B7 p7 g7 c7 n n0 (ofL n A) wa2 fS2 fT2 (by omega) hp7n hg7n hTn hb7n fB2) belowK_t (belowK_b (by omega)) (fun _ => rfl)
            (fun pre W => (pre <+: R ∧ Boxed W Bn2 3 (.int .i64 (pre.length : Int))) ∧ Below n0 w9 W ∧ W.heap[D1]? = some (.deferred (some [])))
            (fun _ pre _ => ¬ pre <+: R)
            (OwnFrom.and (OwnFrom.and (ownFrom_pure _ _) (Own.from (boxed_own _ _ _) _)) (OwnFrom.and (ownFrom_below (by omega) (by omega)) (mark_own (by omega))))
            (fun _ _ _ _ _ hs _ _ => hs)
            ⟨⟨List.nil_prefix, hnb2⟩, hga2, hma2_0⟩ (fun _ _ => SlotAx.own) ?assign2 ?body2 ?done2 ?stop2
          case assign2 =>
            rintro l pre x W K hi hK
            gi_wp2
            exact hK _ _ (KeepsFrom.refl _ _) (Below.refl _ _) hi rfl
          case body2 =>
            rintro l pre x a' W _ _ ⟨⟨hpre, hbn⟩, hbw9, hm2_0⟩ rfl hlt
            rw [← hR.out] at hlt
            obtain ⟨-, -, -, -, g9, gR, gX, -⟩ := HF.out _ hbw9
            have hcn := hbn.cell
            have hfn := hbn.frozen
            have hc9 := g9.cell
            have hcX := gX.cell
            have hfX := gX.frozen
            obtain ⟨gg, rfl, hcR⟩ := gR pre.length hlt
            have hltI : (pre.length : Int) < (R.length : Int) := by omega
            have hn1 := pre_next (x := x) hpre hlt
            by_cases hx : R.getD pre.length 0 = x
            · have hpn := hn1 hx
              have hxb : ((x : Int) != (x : Int)) = false := by simp
              rw [hx] at hcR
              have HPn := Lib.hid hpn
              have hv : Value.int .i64 ((pre.length : Int) + 1) = .int .i64 ((pre ++ [x]).length : Int) := by rw [List.length_append]; rfl
              clear hn1 hpn hx hpre
              gi_wp2
              exact ⟨(KeepsOthers.setCell _ _ _).from _, (Below.refl n0 W).setCell (p := ⟨Bn2, 0, none⟩) (by simp; omega) _, ⟨⟨HPn.out, by rw [← hv]; exact hbn.set _⟩, hbw9.setCell (p := ⟨Bn2, 0, none⟩) (by simp; omega) _, mark_set hm2_0 (by omega)⟩⟩
            · have hxb : ((x : Int) != ((R.getD pre.length 0 : Nat) : Int)) = true := by rw [bne_iff_ne]; omega
              have HPn : Hid (¬ pre ++ [x] <+: R) := Lib.hid fun h => hx (rise_prefix_get h).2
              generalize R.getD pre.length 0 = y at hcR hxb
              clear hn1 hx hpre
              gi_wp2
              exact ⟨(KeepsOthers.setCell _ _ _).from _, HPn.out⟩
          case stop2 =>
            rintro D c pre W _ hS h _
            exact absurd (by rw [hR.out]; exact hS) h
          case done2 =>
            rintro D2 xs W2 hD2 hS2 ⟨⟨-, hbn2⟩, hbw2, hm2_0⟩ hK2
            rw [show xs = R from hS2.trans hR.out.symm] at hbn2
            clear hS2
            obtain ⟨-, -, -, -, g9, -, -, -⟩ := HF.out _ hbw2
            have hcn := hbn2.cell
            have hc9 := g9.cell
            gi_wp2
            rw [roundsIn_succ]
            have hLD2 : n0 ≤ D2 := by omega
            have hpk : 0 ≤ pickF most ((R.length : Int) + 1) ∧ pickF most ((R.length : Int) + 1) ≤ (R.length : Int) := by
              have hp0 : (0 : Int) < (R.length : Int) + 1 := by omega
              unfold pickF
              split
              · have h1 := Int.emod_nonneg (-(most + 1)) (by omega : ((R.length : Int) + 1) ≠ 0)
                have h2 := Int.emod_lt_of_pos (-(most + 1)) hp0
                omega
              · have h1 := Int.emod_nonneg most (by omega : ((R.length : Int) + 1) ≠ 0)
                have h2 := Int.emod_lt_of_pos most hp0
                omega
            have HPk := Lib.hid (pick_any most ((R.length : Int) + 1) W2 m1 m2 (by omega) (by omega))
            obtain ⟨E, hE⟩ : ∃ E : Nat, pickF most ((R.length : Int) + 1) = (E : Int) := ⟨_, (Int.toNat_of_nonneg hpk.1).symm⟩
            rw [hE] at HPk hpk
            clear hE
            have hE1 : E ≤ R.length := by omega
            clear hpk
            have hz30 : n0 ≤ W2.heap.size := by have := hbw2.size; omega
            have hga3 := (hbw2.alloc hz30 (.cells #[.int .i64 (1 + (E : Int))] 3)).alloc (by rw [World.size_alloc]; omega) (.cells #[.int .i64 0] 3)
            obtain ⟨fS3, fT3, fB3, f10_3, -, -, -, -⟩ := HF.out _ hga3
            have hlc3 := f10_3.cell
            have hbe3 := (Boxed.new W2 3 (.int .i64 (1 + (E : Int)))).alloc (.cells #[.int .i64 0] 3)
            have hbn3 := Boxed.new (W2.alloc (.cells #[.int .i64 (1 + (E : Int))] 3)) 3 (.int .i64 0)
            have hsz3 : ((W2.alloc (.cells #[.int .i64 (1 + (E : Int))] 3)).alloc (.cells #[.int .i64 0] 3)).heap.size = W2.heap.size + 1 + 1 := by rw [World.size_alloc, World.size_alloc]
            rw [World.size_alloc] at hbn3
            have hD2l := (Array.getElem?_eq_some_iff.1 hK2).1
            have hD1l := (Array.getElem?_eq_some_iff.1 hm2_0).1
            have hq2a : ((W2.alloc (.cells #[.int .i64 (1 + (E : Int))] 3)).alloc (.cells #[.int .i64 0] 3)).heap[D2]? = some (.deferred (some [])) := (Below.heap_alloc _ _ _ (by rw [World.size_alloc]; omega)).trans ((Below.heap_alloc _ _ _ hD2l).trans hK2)
            have hq1a : ((W2.alloc (.cells #[.int .i64 (1 + (E : Int))] 3)).alloc (.cells #[.int .i64 0] 3)).heap[D1]? = some (.deferred (some [])) := (Below.heap_alloc _ _ _ (by rw [World.size_alloc]; omega)).trans ((Below.heap_alloc _ _ _ hD1l).trans hm2_0)
            gi_wp2_with (refine ⟨trivial, ?_⟩; gi_at_call 18; refine (callsIn_all HPk.out).mono ?_; rintro e wq ⟨rfl, rfl⟩)
            generalize (W2.alloc (.cells #[.int .i64 (1 + (E : Int))] 3)).alloc (.cells #[.int .i64 0] 3) = wa3 at hga3 fS3 fT3 fB3 f10_3 hlc3 hbe3 hbn3 hsz3 hq2a hq1a ⊢
            generalize hBe3 : W2.heap.size = Be3 at hbe3 hbn3 hsz3 hD2l hD1l hz30 ⊢
            obtain ⟨Bn3, hBn3⟩ : ∃ Bn3, Bn3 = Be3 + 1 := ⟨_, rfl⟩
            rw [← hBn3] at hbn3 ⊢
            have hbl3 : Be3 < Bn3 ∧ Bn3 < wa3.heap.size := by omega
            clear hBn3 hsz3
            obtain ⟨hbl3, hbl4⟩ := hbl3
            clear hBe3 hK2 hm2_0 hcn hc9 g9
            refine rangeH_box (SlotAx 85 17) rfl (by omega) (gf := 34) (lb := #[.pointer (some ⟨B7, 0, none⟩)]) rfl trivial (enters_of Tryd.func34 (by kernel_rfl) rfl)
              (all_stops 7 (by omega) B7 p7 g7 c7 n n0 (ofL n A) wa3 fS3 fT3 (by omega) hp7n hg7n hTn hb7n fB3) belowK_t (belowK_b (by omega)) (fun _ => rfl)
              (fun pre W => (pre <+: R ∧ pre.length < E + 1 ∧ Boxed W Bn3 3 (.int .i64 (pre.length : Int)) ∧ Boxed W Be3 3 (.int .i64 (1 + (E : Int)))) ∧ Below n0 w9 W ∧ W.heap[D2]? = some (.deferred (some [])) ∧ W.heap[D1]? = some (.deferred (some [])))
              (fun c pre W => ¬ pre <+: R ∨ (c = .exit 6 ∧ pre <+: R ∧ pre.length = E + 1 ∧ Boxed W Bn3 3 (.int .i64 (pre.length : Int)) ∧ Boxed W Be3 3 (.int .i64 (1 + (E : Int))) ∧ Below n0 w9 W ∧ W.heap[D2]? = some (.deferred (some [])) ∧ W.heap[D1]? = some (.deferred (some []))))
              (OwnFrom.and (OwnFrom.and (ownFrom_pure _ _) (OwnFrom.and (ownFrom_pure _ _) (OwnFrom.and (Own.from (boxed_own _ _ _) _) (Own.from (boxed_own _ _ _) _)))) (OwnFrom.and (ownFrom_below (by omega) (by omega)) (OwnFrom.and (mark_own (by omega)) (mark_own (by omega)))))
              (fun c => ownFrom_or (ownFrom_pure _ _) (OwnFrom.and (ownFrom_pure _ _) (OwnFrom.and (ownFrom_pure _ _) (OwnFrom.and (ownFrom_pure _ _) (OwnFrom.and (Own.from (boxed_own _ _ _) _) (OwnFrom.and (Own.from (boxed_own _ _ _) _) (OwnFrom.and (ownFrom_below (by omega) (by omega)) (OwnFrom.and (mark_own (by omega)) (mark_own (by omega))))))))))
              ⟨⟨List.nil_prefix, by simp, hbn3, hbe3⟩, hga3, hq2a, hq1a⟩ (fun _ _ => SlotAx.own) ?assign3 ?body3 ?done3 ?stop3
            case assign3 =>
              rintro l pre x W K hi hK
              gi_wp2
              exact hK _ _ (KeepsFrom.refl _ _) (Below.refl _ _) hi rfl
            case body3 =>
              rintro l pre x a' W hl ⟨r, hr⟩ ⟨⟨hpre, hpl, hbn, hbe⟩, hbw9, hqA, hqB⟩ rfl hlt
              rw [← hR.out] at hlt
              have hzW : n0 ≤ W.heap.size := by have := hbw9.size; omega
              have hgk := hbw9.alloc hzW (.cells #[.int .i64 0] 3)
              obtain ⟨fS, fT, fB, f10, -, -, -, -⟩ := HF.out _ hgk
              have hlc := f10.cell
              have hk0 := Boxed.new W 3 (.int .i64 0)
              have hrk := (Below.heap_alloc W (.cells #[.int .i64 0] 3) l (Array.getElem?_eq_some_iff.1 hr).1).trans hr
              have hbnk := hbn.alloc (.cells #[.int .i64 0] 3)
              have hbek := hbe.alloc (.cells #[.int .i64 0] 3)
              have hKF0 : KeepsFrom wa3.heap.size W (W.alloc (.cells #[.int .i64 0] 3)) := (KeepsOthers.alloc _ _).from _
              have hBW0 : Below n0 W (W.alloc (.cells #[.int .i64 0] 3)) := (Below.refl _ _).alloc hzW _
              have hqAk := (Below.heap_alloc W (.cells #[.int .i64 0] 3) _ (Array.getElem?_eq_some_iff.1 hqA).1).trans hqA
              have hqBk := (Below.heap_alloc W (.cells #[.int .i64 0] 3) _ (Array.getElem?_eq_some_iff.1 hqB).1).trans hqB
              have hszk : (W.alloc (.cells #[.int .i64 0] 3)).heap.size = W.heap.size + 1 := World.size_alloc _ _
              have hnW := hbn.lt
              have heW := hbe.lt
              have hwaW : wa3.heap.size ≤ W.heap.size := by have := (Array.getElem?_eq_some_iff.1 hr).1; omega
              gi_wp2
              generalize W.alloc (.cells #[.int .i64 0] 3) = wk at hgk fS fT fB f10 hlc hk0 hrk hbnk hbek hKF0 hBW0 hqAk hqBk hszk ⊢
              generalize hBk : W.heap.size = Bk at hk0 hszk hnW heW hwaW hzW ⊢
              clear hbn hbe hqA hqB hlc f10
              refine rangeN_box (NoneAx 87) (l₀ := l) (r₀ := r) rfl hrk (by omega) (gf := 34) (lb := #[.pointer (some ⟨B7, 0, none⟩)]) rfl trivial (enters_of Tryd.func34 (by kernel_rfl) rfl)
                ((all_stops 5 (by omega) B7 p7 g7 c7 n n0 (ofL n A) wk fS fT (by omega) hp7n hg7n hTn hb7n fB).inRound l) belowK_t (belowK_b (by omega)) (fun _ => rfl)
                (fun p2 W' => (p2.length < 2 ∧ Boxed W' Bk 3 (.int .i64 (p2.length : Int)) ∧ Boxed W' Bn3 3 (.int .i64 (pre.length : Int)) ∧ Boxed W' Be3 3 (.int .i64 (1 + (E : Int)))) ∧ (Below n0 W W' ∧ KeepsFrom wa3.heap.size W W') ∧ W'.heap[D2]? = some (.deferred (some [])) ∧ W'.heap[D1]? = some (.deferred (some [])))
                (fun c p2 W' => (c = .exit 8 ∧ p2.length = 2) ∧ (Boxed W' Bk 3 (.int .i64 2) ∧ Boxed W' Bn3 3 (.int .i64 (pre.length : Int)) ∧ Boxed W' Be3 3 (.int .i64 (1 + (E : Int)))) ∧ (Below n0 W W' ∧ KeepsFrom wa3.heap.size W W') ∧ W'.heap[D2]? = some (.deferred (some [])) ∧ W'.heap[D1]? = some (.deferred (some [])))
                (OwnFrom.and (OwnFrom.and (ownFrom_pure _ _) (OwnFrom.and (Own.from (boxed_own _ _ _) _) (OwnFrom.and (Own.from (boxed_own _ _ _) _) (Own.from (boxed_own _ _ _) _)))) (OwnFrom.and (OwnFrom.and (ownFrom_below (by omega) (by omega)) (ownFrom_keepsFrom (by omega))) (OwnFrom.and (mark_own (by omega)) (mark_own (by omega)))))
                (fun c => OwnFrom.and (ownFrom_pure _ _) (OwnFrom.and (OwnFrom.and (Own.from (boxed_own _ _ _) _) (OwnFrom.and (Own.from (boxed_own _ _ _) _) (Own.from (boxed_own _ _ _) _))) (OwnFrom.and (OwnFrom.and (ownFrom_below (by omega) (by omega)) (ownFrom_keepsFrom (by omega))) (OwnFrom.and (mark_own (by omega)) (mark_own (by omega))))))
                ⟨⟨by simp, hk0, hbnk, hbek⟩, ⟨hBW0, hKF0⟩, hqAk, hqBk⟩ (fun _ _ => NoneAx.own) ?assign4 ?body4 ?done4 ?stop4
              case assign4 =>
                rintro l2 p2 y W' K hi hK
                gi_wp2
                exact hK _ _ (KeepsFrom.refl _ _) (Below.refl _ _) hi (by unfold NoneAx; simp)
              case body4 =>
                rintro l2 p2 y a'' W' _ _ ⟨⟨hp2, hbk, hbn2, hbe2⟩, ⟨hBW, hKF⟩, hq2, hq1⟩ rfl _
                have hck := hbk.cell
                have hfk := hbk.frozen
                have hv : Value.int .i64 ((p2.length : Int) + 1) = .int .i64 ((p2 ++ [y]).length : Int) := by rw [List.length_append]; rfl
                by_cases h1 : p2.length = 1
                · have hb : ((p2.length : Int) + 1 == 2) = true := by rw [beq_iff_eq]; omega
                  have hv2 : Value.int .i64 ((p2.length : Int) + 1) = .int .i64 2 := by rw [h1]; rfl
                  gi_wp2
                  exact ⟨(KeepsOthers.setCell _ _ _).from _, ⟨rfl, by simp; omega⟩, ⟨by rw [← hv2]; exact hbk.set _, hbn2.other (by omega) _, hbe2.other (by omega) _⟩, ⟨hBW.setCell (p := ⟨Bk, 0, none⟩) (by simp; omega) _, hKF.trans ((KeepsOthers.setCell _ _ _).from _)⟩, mark_set hq2 (by omega), mark_set hq1 (by omega)⟩
                · have hb : ((p2.length : Int) + 1 == 2) = false := by rw [beq_eq_false_iff_ne]; omega
                  gi_wp2
                  exact ⟨(KeepsOthers.setCell _ _ _).from _, (Below.refl n0 W').setCell (p := ⟨Bk, 0, none⟩) (by simp; omega) _, ⟨by simp; omega, by rw [← hv]; exact hbk.set _, hbn2.other (by omega) _, hbe2.other (by omega) _⟩, ⟨hBW.setCell (p := ⟨Bk, 0, none⟩) (by simp; omega) _, hKF.trans ((KeepsOthers.setCell _ _ _).from _)⟩, mark_set hq2 (by omega), mark_set hq1 (by omega)⟩
              case done4 =>
                rintro xs W' hS ⟨⟨hp2, hbk, hbn2, hbe2⟩, ⟨hBW, hKF⟩, hq2, hq1⟩
                rw [show xs = R from hS.trans hR.out.symm] at hp2 hbk
                clear hS
                obtain ⟨-, -, -, -, g9, gR, gX, -⟩ := HF.out _ (hbw9.trans hBW)
                have hck := hbk.cell
                have hcn := hbn2.cell
                have hfn := hbn2.frozen
                have hce := hbe2.cell
                have hc9 := g9.cell
                have hcX := gX.cell
                have hfX := gX.frozen
                obtain ⟨gg, rfl, hcR⟩ := gR pre.length hlt
                have hltI : (pre.length : Int) < (R.length : Int) := by omega
                have hn1 := pre_next (x := x) hpre hlt
                have hB3 := Lib.hid (hbw9.trans hBW)
                by_cases hx : R.getD pre.length 0 = x
                · have hpn := hn1 hx
                  have hxb : ((x : Int) != (x : Int)) = false := by simp
                  rw [hx] at hcR
                  have HPn := Lib.hid hpn
                  have hv : Value.int .i64 ((pre.length : Int) + 1) = .int .i64 ((pre ++ [x]).length : Int) := by rw [List.length_append]; rfl
                  clear hn1 hpn hx hpre
                  by_cases hE2 : pre.length = E
                  · subst hE2
                    have hEb : ((pre.length : Int) + 1 == 1 + (pre.length : Int)) = true := by rw [beq_iff_eq]; omega
                    gi_wp2
                    exact ⟨hKF.trans ((KeepsOthers.setCell _ _ _).from _), .inr ⟨rfl, HPn.out, by simp, by rw [← hv]; exact hbn2.set _, hbe2.other (by omega) _, hB3.out.setCell (p := ⟨Bn3, 0, none⟩) (by simp; omega) _, mark_set hq2 (by omega), mark_set hq1 (by omega)⟩⟩
                  · have hEb : ((pre.length : Int) + 1 == 1 + (E : Int)) = false := by rw [beq_eq_false_iff_ne]; omega
                    gi_wp2
                    exact ⟨hKF.trans ((KeepsOthers.setCell _ _ _).from _), hBW.setCell (p := ⟨Bn3, 0, none⟩) (by simp; omega) _, ⟨HPn.out, by simp; omega, by rw [← hv]; exact hbn2.set _, hbe2.other (by omega) _⟩, hB3.out.setCell (p := ⟨Bn3, 0, none⟩) (by simp; omega) _, mark_set hq2 (by omega), mark_set hq1 (by omega)⟩
                · have hxb : ((x : Int) != ((R.getD pre.length 0 : Nat) : Int)) = true := by rw [bne_iff_ne]; omega
                  have HPn : Hid (¬ pre ++ [x] <+: R) := Lib.hid fun h => hx (rise_prefix_get h).2
                  generalize R.getD pre.length 0 = y at hcR hxb
                  clear hn1 hx hpre
                  gi_wp2
                  exact ⟨hKF.trans ((KeepsOthers.setCell _ _ _).from _), .inl HPn.out⟩
              case stop4 =>
                rintro c p2 W' hS ⟨⟨rfl, hp2⟩, ⟨hbk, hbn2, hbe2⟩, ⟨hBW, hKF⟩, hq2, hq1⟩
                have hR2 : 2 ≤ R.length := by rw [hR.out]; have := (show p2 <+: riseL n (ofL n A) from hS).length_le; omega
                clear hS hp2
                obtain ⟨-, -, -, -, g9, gR, gX, -⟩ := HF.out _ (hbw9.trans hBW)
                have hck := hbk.cell
                have hcn := hbn2.cell
                have hfn := hbn2.frozen
                have hce := hbe2.cell
                have hc9 := g9.cell
                have hcX := gX.cell
                have hfX := gX.frozen
                obtain ⟨gg, rfl, hcR⟩ := gR pre.length hlt
                have hltI : (pre.length : Int) < (R.length : Int) := by omega
                have hn1 := pre_next (x := x) hpre hlt
                have hB3 := Lib.hid (hbw9.trans hBW)
                by_cases hx : R.getD pre.length 0 = x
                · have hpn := hn1 hx
                  have hxb : ((x : Int) != (x : Int)) = false := by simp
                  rw [hx] at hcR
                  have HPn := Lib.hid hpn
                  have hv : Value.int .i64 ((pre.length : Int) + 1) = .int .i64 ((pre ++ [x]).length : Int) := by rw [List.length_append]; rfl
                  clear hn1 hpn hx hpre
                  by_cases hE2 : pre.length = E
                  · subst hE2
                    have hEb : ((pre.length : Int) + 1 == 1 + (pre.length : Int)) = true := by rw [beq_iff_eq]; omega
                    gi_wp2
                    exact ⟨hKF.trans ((KeepsOthers.setCell _ _ _).from _), .inr ⟨rfl, HPn.out, by simp, by rw [← hv]; exact hbn2.set _, hbe2.other (by omega) _, hB3.out.setCell (p := ⟨Bn3, 0, none⟩) (by simp; omega) _, mark_set hq2 (by omega), mark_set hq1 (by omega)⟩⟩
                  · have hEb : ((pre.length : Int) + 1 == 1 + (E : Int)) = false := by rw [beq_eq_false_iff_ne]; omega
                    gi_wp2
                    exact ⟨hKF.trans ((KeepsOthers.setCell _ _ _).from _), hBW.setCell (p := ⟨Bn3, 0, none⟩) (by simp; omega) _, ⟨HPn.out, by simp; omega, by rw [← hv]; exact hbn2.set _, hbe2.other (by omega) _⟩, hB3.out.setCell (p := ⟨Bn3, 0, none⟩) (by simp; omega) _, mark_set hq2 (by omega), mark_set hq1 (by omega)⟩
                · have hxb : ((x : Int) != ((R.getD pre.length 0 : Nat) : Int)) = true := by rw [bne_iff_ne]; omega
                  have HPn : Hid (¬ pre ++ [x] <+: R) := Lib.hid fun h => hx (rise_prefix_get h).2
                  generalize R.getD pre.length 0 = y at hcR hxb
                  clear hn1 hx hpre
                  gi_wp2
                  exact ⟨hKF.trans ((KeepsOthers.setCell _ _ _).from _), .inl HPn.out⟩
            case done3 =>
              rintro D3 xs W3 hD3 hS3 ⟨⟨-, hpl, hbn, hbe⟩, hbw3, hq2, hq1⟩ hK3
              rw [show xs = R from hS3.trans hR.out.symm] at hbn hpl
              clear hS3
              obtain ⟨-, -, -, -, g9, -, gX, gE⟩ := HF.out _ hbw3
              have hcn := hbn.cell
              have hce := hbe.cell
              have hc9 := g9.cell
              have hcX := gX.cell
              have hfX := gX.frozen
              have hml := hml2_0
              gi_wp2
              exact leave3 rfl rfl (gX.set _) (gE.setCell (p := ⟨w.heap.size, 0, none⟩) (Nat.le_refl _) _) (mark_set hK3 (by omega)) (mark_set hq2 (by omega)) (mark_set hq1 (by omega)) (by omega) (by omega) (by omega)
            case stop3 =>
              rintro D3 c pre W3 hD3 hS3 hX hK3
              rcases hX with hX | ⟨rfl, -, hpl, hbn, hbe, hbw3, hq2, hq1⟩
              · exact absurd (by rw [hR.out]; exact hS3) hX
              have hR3 : E + 1 ≤ R.length := by rw [hR.out]; have := (show pre <+: riseL n (ofL n A) from hS3).length_le; omega
              obtain ⟨-, -, -, -, g9, -, gX, gE⟩ := HF.out _ hbw3
              have hcn := hbn.cell
              have hce := hbe.cell
              have hc9 := g9.cell
              have hcX := gX.cell
              have hfX := gX.frozen
              have hml := hml2_0
              gi_wp2
              rw [show ((E : Int) + 1 == 1 + (E : Int)) = true by rw [beq_iff_eq]; omega]
              exact leave3 rfl rfl (gX.set _) (gE.setCell (p := ⟨w.heap.size, 0, none⟩) (Nat.le_refl _) _) (mark_set hK3 (by omega)) (mark_set hq2 (by omega)) (mark_set hq1 (by omega)) (by omega) (by omega) (by omega)
end Go.Proofs.YtaagbdncfcdfcaaDoor
