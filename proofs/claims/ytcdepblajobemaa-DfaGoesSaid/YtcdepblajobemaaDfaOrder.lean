/- Dfa: the order of edges; rows that rise. -/
import Derived.Test.YtcdepblajobemaaDfaCmp
set_option maxRecDepth 100000
namespace Go.Proofs.Ytcdepblajobemaa
open Go.RowKit

theorem ints4 (w : World) (a b c d : Int) (h : ∀ x, x ∈ [a, b, c, d] → -9223372036854775808 ≤ x ∧ x ≤ 9223372036854775807) : IntsAt (w.alloc (.cells #[.int .i64 a, .int .i64 b, .int .i64 c, .int .i64 d] 3)) (.slice (some ⟨w.heap.size, 0, none⟩) 4 4) [a, b, c, d] := by
  have e := heap_alloc_new w (.cells #[.int .i64 a, .int .i64 b, .int .i64 c, .int .i64 d] 3)
  refine ⟨some ⟨w.heap.size, 0, none⟩, 4, rfl, fun k hk => h _ ?_, (by show 4 ≤ 17592186043904; decide), Or.inr ⟨_, _, rfl, fun k hk => ?_⟩⟩
  · rw [List.getD_eq_getElem?_getD, List.getElem?_eq_getElem hk]; exact List.getElem_mem _
  · have hk4 : k < 4 := hk
    rw [Nat.zero_add]
    match k, hk4 with
    | 0, _ => simp only [World.cell?, e]; rfl
    | 1, _ => simp only [World.cell?, e]; rfl
    | 2, _ => simp only [World.cell?, e]; rfl
    | 3, _ => simp only [World.cell?, e]; rfl
/-- Reads and quiet calls, and a tail behind them. -/
theorem region_tail {P : Program} {id : Nat} {Q : Exit → Act → World → Prop} {a : Act} {w : World} {l : List Oper} (n : Nat) (hm : P.follows .mixedOrders = true) (hB : Region.lexTailB .any l.toArray n = true)
    (h : wpStill P l.toArray w.drew (fun a' => wpList P l.toArray Q (l.drop n) a' w.drew) (l.take n) a) : (Code.region id l.toArray true).wp P Q a w := wp_region_still_tail n hm hB h
theorem edge_cells {w : World} {b : Nat} {e : Edg} (h : w.heap[b]? = some (.cells #[.int .i64 e.fr, .int .i64 e.tt, .int .u16 (e.mu : Int), .int .u16 (e.no : Int)] 61 (0, 0))) :
    w.cell? ⟨b, 0, none⟩ = some (.int .i64 e.fr) ∧ w.cell? ⟨b, 1, none⟩ = some (.int .i64 e.tt) ∧ w.cell? ⟨b, 2, none⟩ = some (.int .u16 (e.mu : Int)) ∧ w.cell? ⟨b, 3, none⟩ = some (.int .u16 (e.no : Int)) := by
  refine ⟨?_, ?_, ?_, ?_⟩ <;> simp [World.cell?, h]
theorem cmpI_range (a b : Int) : -1 ≤ cmpI a b ∧ cmpI a b ≤ 1 := by unfold cmpI; split <;> (try split) <;> omega
set_option maxHeartbeats 2000000 in
theorem order_any (a b : Edg) (w : World) : Calls Try.prog 93 #[edgeV a, edgeV b] w fun e w' => e = .returned (.int .i64 (ordF a b)) ∧ w.grownBy w' none := by
  have HO := Lib.hid (fun wx v (h : IntsAt wx v [cmpI a.fr b.fr, cmpI a.tt b.tt, cmpI (a.mu : Int) (b.mu : Int), cmpI (a.no : Int) (b.no : Int)]) => or_int v _ wx h)
  have HR : Hid (∀ x, x ∈ [cmpI a.fr b.fr, cmpI a.tt b.tt, cmpI (a.mu : Int) (b.mu : Int), cmpI (a.no : Int) (b.no : Int)] → -9223372036854775808 ≤ x ∧ x ≤ 9223372036854775807) := Lib.hid fun x hx => by
    have h1 := cmpI_range a.fr b.fr
    have h2 := cmpI_range a.tt b.tt
    have h3 := cmpI_range (a.mu : Int) (b.mu : Int)
    have h4 := cmpI_range (a.no : Int) (b.no : Int)
    simp only [List.mem_cons, List.not_mem_nil, or_false] at hx
    rcases hx with rfl | rfl | rfl | rfl <;> omega
  have H1 := Lib.hid (fun w => cmp_int a.fr b.fr w)
  have H2 := Lib.hid (fun w => cmp_int a.tt b.tt w)
  have H3 := Lib.hid (fun w => cmp_u16 (a.mu : Int) (b.mu : Int) w)
  have H4 := Lib.hid (fun w => cmp_u16 (a.no : Int) (b.no : Int) w)
  have HF : Hid (orF [cmpI a.fr b.fr, cmpI a.tt b.tt, cmpI (a.mu : Int) (b.mu : Int), cmpI (a.no : Int) (b.no : Int)] = ordF a b) := Lib.hid rfl
  generalize cmpI a.fr b.fr = c1 at HO HR H1 HF
  generalize cmpI a.tt b.tt = c2 at HO HR H2 HF
  generalize cmpI (a.mu : Int) (b.mu : Int) = c3 at HO HR H3 HF
  generalize cmpI (a.no : Int) (b.no : Int) = c4 at HO HR H4 HF
  have hga : w.grownBy ((w.alloc (.cells #[.int .i64 a.fr, .int .i64 a.tt, .int .u16 (a.mu : Int), .int .u16 (a.no : Int)] 61)).alloc (.cells #[.int .i64 b.fr, .int .i64 b.tt, .int .u16 (b.mu : Int), .int .u16 (b.no : Int)] 61)) none := gb_trans (World.grownBy_alloc _ _ none) (World.grownBy_alloc _ _ none) (Or.inl rfl)
  unfold edgeV
  go_enter Try.func93, Try.ntmps93
  go_wp2_with fail
  have HB := Lib.hid (heap_alloc_new (w.alloc (.cells #[.int .i64 a.fr, .int .i64 a.tt, .int .u16 (a.mu : Int), .int .u16 (a.no : Int)] 61)) (.cells #[.int .i64 b.fr, .int .i64 b.tt, .int .u16 (b.mu : Int), .int .u16 (b.no : Int)] 61))
  have HA := Lib.hid ((Below.heap_alloc (w.alloc (.cells #[.int .i64 a.fr, .int .i64 a.tt, .int .u16 (a.mu : Int), .int .u16 (a.no : Int)] 61)) (.cells #[.int .i64 b.fr, .int .i64 b.tt, .int .u16 (b.mu : Int), .int .u16 (b.no : Int)] 61) w.heap.size (by rw [World.size_alloc]; omega)).trans (heap_alloc_new w (.cells #[.int .i64 a.fr, .int .i64 a.tt, .int .u16 (a.mu : Int), .int .u16 (a.no : Int)] 61)))
  rw [World.size_alloc] at HB
  generalize (w.alloc (.cells #[.int .i64 a.fr, .int .i64 a.tt, .int .u16 (a.mu : Int), .int .u16 (a.no : Int)] 61)).alloc (.cells #[.int .i64 b.fr, .int .i64 b.tt, .int .u16 (b.mu : Int), .int .u16 (b.no : Int)] 61) = wq at hga HA HB ⊢
  obtain ⟨a0, a1, a2, a3⟩ := edge_cells HA.out
  obtain ⟨b0, b1, b2, b3⟩ := edge_cells HB.out
  have HG := Lib.hid hga
  clear hga
  refine region_tail 20 (by kernel_rfl) (by kernel_rfl) ?_
  simp only [List.take_succ_cons, List.take_zero, List.drop_succ_cons, List.drop_zero]
  iterate 4 still_step
  still_call ((H1.out _).mono fun _ _ h => ⟨h.1, h.2.symm⟩)
  iterate 4 still_step
  still_call ((H2.out _).mono fun _ _ h => ⟨h.1, h.2.symm⟩)
  iterate 4 still_step
  still_call ((H3.out _).mono fun _ _ h => ⟨h.1, h.2.symm⟩)
  iterate 4 still_step
  still_call ((H4.out _).mono fun _ _ h => ⟨h.1, h.2.symm⟩)
  refine wpStill_nil ?_
  go_wp2_with fail
  refine (HO.out _ _ (ints4 wq.drew c1 c2 c3 c4 HR.out)).mono ?_
  rintro e w5 ⟨rfl, rfl⟩
  go_wp2_with fail
  go_ret
  rw [HF.out]
  exact ⟨rfl, gb_trans (gb_trans HG.out (gb_drew wq none) (Or.inl rfl)) (World.grownBy_alloc _ _ none) (Or.inl rfl)⟩

/-- Is the k-th of some numbers below n, and above the one ahead of it? -/
def riseB (A : List Int) (n : Int) (k : Nat) : Bool := decide (0 ≤ A.getD k 0) && (decide (A.getD k 0 < n) && (decide (k = 0) || decide (A.getD (k - 1) 0 < A.getD k 0)))
def risingF (A : List Int) (n : Int) : Bool := (List.range A.length).all (riseB A n)
theorem rising_no {A : List Int} {n : Int} {k : Nat} (hk : k < A.length) (h : riseB A n k = false) : risingF A n = false := all_not h hk
theorem rising_yes {A : List Int} {n : Int} (h : ∀ k, k < A.length → riseB A n k = true) : risingF A n = true := by
  unfold risingF
  rw [List.all_eq_true]
  intro k hk
  exact h k (List.mem_range.1 hk)
theorem isrow_any (v : Value) (A : List Int) (n : Int) (w : World) (hA : IntsAt w v A) : Calls Try.prog 92 #[v, .int .i64 n] w fun e w' => e = .returned (.bool (risingF A n)) ∧ w = w' := by
  obtain ⟨a, cap, rfl, hb, hl, hc⟩ := hA
  have HC := Lib.hid hc
  have HN := Lib.hid (fun k hk h => rising_no (A := A) (n := n) (k := k) hk h)
  have HY := Lib.hid (rising_yes (A := A) (n := n))
  clear hc hb
  go_enter Try.func92, Try.ntmps92
  go_wp2_with fail
  go_loop [9] (fun i => ∃ k : Nat, k ≤ A.length ∧ i = .int .i64 (k : Int) ∧ Hid (∀ j, j < k → riseB A n j = true)) (fun i => A.length - (intOf i).toNat)
  case atStart => exact ⟨0, Nat.zero_le _, rfl, Lib.hid fun j h => absurd h (Nat.not_lt_zero _)⟩
  case round =>
    obtain ⟨k, hk, rfl, H0⟩ := hrel
    by_cases hlt : k < A.length
    · have hkI : (k : Int) < (A.length : Int) := by omega
      rcases HC.out with rfl | ⟨b, off, rfl, hcc⟩
      · exact absurd hlt (by simp)
      have hck := hcc k hlt
      have hcp : 0 < k → w.cell? ⟨b, off + (k - 1), none⟩ = some (.int .i64 (A.getD (k - 1) 0)) := fun h => hcc (k - 1) (by omega)
      clear hcc
      have HB : Hid (riseB A n k = (decide (0 ≤ A.getD k 0) && (decide (A.getD k 0 < n) && (decide (k = 0) || decide (A.getD (k - 1) 0 < A.getD k 0))))) := Lib.hid rfl
      have HNk := Lib.hid (HN.out k hlt)
      have HYk : Hid (riseB A n k = true → ∀ j, j < k + 1 → riseB A n j = true) := Lib.hid fun h j hj => by
        by_cases e : j < k
        · exact H0.out j e
        · obtain rfl : j = k := by omega
          exact h
      generalize A.getD k 0 = x at hck HB
      generalize A.getD (k - 1) 0 = y at hcp HB
      by_cases h0 : x < 0
      · have HV := Lib.hid (HNk.out (by rw [HB.out, decide_eq_false (by omega), Bool.false_and]))
        clear HB HNk HYk
        go_wp2_with fail
        go_ret
        exact ⟨by rw [HV.out]; rfl, rfl⟩
      · by_cases h1 : n ≤ x
        · have HV := Lib.hid (HNk.out (by rw [HB.out, decide_eq_false (show ¬ x < n by omega), Bool.false_and, Bool.and_false]))
          clear HB HNk HYk
          go_wp2_with fail
          go_ret
          exact ⟨by rw [HV.out]; rfl, rfl⟩
        · by_cases hk0 : 0 < k
          · have hkJ : (0 : Int) < (k : Int) := by omega
            have hcq := hcp hk0
            clear hcp
            have htn : ((k : Int) - 1).toNat = k - 1 := by omega
            by_cases h2 : x ≤ y
            · have HV := Lib.hid (HNk.out (by rw [HB.out, decide_eq_false (show ¬ k = 0 by omega), decide_eq_false (show ¬ y < x by omega), Bool.or_false, Bool.and_false, Bool.and_false]))
              clear HB HNk HYk
              go_wp2_with fail
              go_ret
              exact ⟨by rw [HV.out]; rfl, rfl⟩
            · have HV := Lib.hid (HYk.out (by rw [HB.out, decide_eq_true (show 0 ≤ x by omega), decide_eq_true (show x < n by omega), decide_eq_true (show y < x by omega), Bool.or_true]; rfl))
              clear HB HNk HYk
              go_wp2_with fail
              exact ⟨⟨k + 1, by omega, by go_num, HV⟩, by simp [intOf]; omega⟩
          · obtain rfl : k = 0 := by omega
            have HV := Lib.hid (HYk.out (by rw [HB.out, decide_eq_true (show 0 ≤ x by omega), decide_eq_true (show x < n by omega)]; rfl))
            clear HB HNk HYk hcp hkI
            rw [Nat.add_zero] at hck
            have hkI : (0 : Int) < (A.length : Int) := by omega
            go_wp2_with fail
            exact ⟨⟨1, by omega, by go_num, HV⟩, by simp [intOf]; omega⟩
    · have HV := Lib.hid (HY.out fun j hj => H0.out j (by omega))
      have hkI : ¬ (k : Int) < (A.length : Int) := by omega
      go_wp2_with fail
      go_ret
      exact ⟨by rw [HV.out]; rfl, rfl⟩
end Go.Proofs.Ytcdepblajobemaa
