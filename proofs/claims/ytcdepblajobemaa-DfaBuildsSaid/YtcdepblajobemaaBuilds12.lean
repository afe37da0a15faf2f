/- Dfa: the document's answer: what is a name, a list of names. -/
import Derived.Test.YtcdepblajobemaaBuilds11
import Derived.IntWalk
set_option maxRecDepth 100000
namespace Go.Proofs.Ytcdepblajobemaa
open Go.RowKit

theorem namedF_bad {s : ByteArray} {k : Nat} (hk : k < s.size) (h : okByte (s[k].toNat : Int) = false) : namedF s = false := named_no hk (by rw [← bAt_get hk]; exact h)
theorem namedF_good {s : ByteArray} (h : ∀ j, (hj : j < s.size) → okByte (s[j].toNat : Int) = true) : namedF s = (decide (s.size ≠ 0) && decide (s.size ≤ 32)) := by
  have h1 : ((List.range s.size).all fun j => okByte (bAt s j)) = true := by
    rw [List.all_eq_true]
    intro j hj
    have hj2 := List.mem_range.1 hj
    rw [← bAt_get hj2]
    exact h j hj2
  unfold namedF
  rw [h1, Bool.and_true]
  congr 1
  rw [decide_eq_decide]
  omega
def hasF (L : List ByteArray) (s : ByteArray) : Bool := L.any fun x => s.toList == x.toList
def listF (L : List ByteArray) : Bool := ((List.range L.length).all fun i => namedF (L.getD i ⟨#[]⟩) && !hasF (L.take i) (L.getD i ⟨#[]⟩)) && decide (L.length ≤ 8)
theorem listF_bad {L : List ByteArray} {i : Nat} (hi : i < L.length) (h : (namedF (L.getD i ⟨#[]⟩) && !hasF (L.take i) (L.getD i ⟨#[]⟩)) = false) : listF L = false := by
  unfold listF
  rw [Bool.and_eq_false_iff]
  left
  rw [List.all_eq_false]
  exact ⟨i, List.mem_range.2 hi, by rw [h]; simp⟩
theorem listF_good {L : List ByteArray} (h : ∀ i, i < L.length → (namedF (L.getD i ⟨#[]⟩) && !hasF (L.take i) (L.getD i ⟨#[]⟩)) = true) : listF L = decide (L.length ≤ 8) := by
  unfold listF
  have : ((List.range L.length).all fun i => namedF (L.getD i ⟨#[]⟩) && !hasF (L.take i) (L.getD i ⟨#[]⟩)) = true := by
    rw [List.all_eq_true]
    exact fun i hi => h i (List.mem_range.1 hi)
  rw [this, Bool.true_and]

theorem namedF_long {s : ByteArray} (h : 32 < s.size) : namedF s = false := by
  unfold namedF
  rw [show decide (s.size ≤ 32) = false from decide_eq_false (by omega), Bool.false_and, Bool.and_false]

set_option maxHeartbeats 1000000 in
theorem refnamed_any (s : ByteArray) (w : World) (hs : s.size ≤ maxLen) :
    Calls Try.prog 94 #[.string s] w fun e w' => e = .returned (.bool (namedF s)) ∧ w = w' := by
  unfold maxLen at hs
  go_enter Try.func94, Try.ntmps94
  go_wp2
  go_loop [3] (fun i => ∃ k : Nat, k ≤ s.size ∧ k ≤ 33 ∧ i = .int .i64 (k : Int) ∧ Hid (∀ j, (hj : j < s.size) → j < k → okByte (s[j].toNat : Int) = true)) (fun i => s.size - (intOf i).toNat)
  case atStart => exact ⟨0, by omega, by omega, rfl, fun j _ h => absurd h (by omega)⟩
  case round =>
    obtain ⟨k, hk, hk33, rfl, HO⟩ := hrel
    by_cases hlt : k < s.size
    · by_cases h33 : k < 33
      · have HB := Lib.hid (fun h => namedF_bad (s := s) hlt h)
        have HG : Hid (okByte (s[k].toNat : Int) = true → ∀ j, (hj : j < s.size) → j < k + 1 → okByte (s[j].toNat : Int) = true) := Lib.hid fun h j hj hjk => by
          rcases Nat.lt_or_ge j k with h1 | h1
          · exact HO.out j hj h1
          · obtain rfl : j = k := by omega
            exact h
        have hge : (0 : Int) ≤ (s[k].toNat : Int) := by omega
        have hle : (s[k].toNat : Int) ≤ 255 := by have := s[k].toNat_lt; omega
        have hkI : (k : Int) < (s.size : Int) := by omega
        have hkJ : (k : Int) < 33 := by omega
        by_cases hok : okByte (s[k].toNat : Int) = true
        · have HG2 := Lib.hid (HG.out hok)
          clear HG HB
          unfold okByte at hok
          simp only [Bool.not_eq_true', Bool.or_eq_false_iff, decide_eq_false_iff_not] at hok
          obtain ⟨h1, h2, h3, h4⟩ := hok
          go_wp2
          go_round
          case rel => exact ⟨k + 1, by omega, by omega, by go_num, HG2⟩
          case measure => simp [intOf]; omega
        · have HNo := Lib.hid (HB.out (by simpa using hok))
          clear HG HB
          have hor : (s[k].toNat : Int) < 32 ∨ 126 < (s[k].toNat : Int) ∨ (s[k].toNat : Int) = 34 ∨ (s[k].toNat : Int) = 92 := bad_or hok
          clear hok
          rcases hor with h | h | h | h
          all_goals go_wp2
          all_goals go_ret
          all_goals exact ⟨by rw [HNo.out]; rfl, rfl⟩
      · have HNo := Lib.hid (namedF_long (s := s) (by omega))
        have hkI : (k : Int) < (s.size : Int) := by omega
        have hkJ : ¬ (k : Int) < 33 := by omega
        have hs1 : (0 : Int) < (s.size : Int) := by omega
        have hs2 : ¬ (s.size : Int) ≤ 32 := by omega
        go_wp2
        all_goals go_ret
        all_goals exact ⟨by rw [HNo.out]; simp; try omega, rfl⟩
    · obtain rfl : k = s.size := by omega
      have hg := namedF_good (fun j hj => HO.out j hj hj)
      have HN := Lib.hid hg
      clear hg
      by_cases h0 : s.size = 0
      · obtain rfl : s = ⟨#[]⟩ := (by simpa using h0 : s = ByteArray.empty)
        go_wp2
        go_ret
        exact ⟨by rw [HN.out]; rfl, rfl⟩
      · have hs1 : (0 : Int) < (s.size : Int) := by omega
        go_wp2
        all_goals go_ret
        all_goals exact ⟨by rw [HN.out]; simp [h0]; try omega, rfl⟩

theorem hasF_take_step {L : List ByteArray} {x : ByteArray} {k : Nat} (hk : k < L.length) : hasF (L.take (k + 1)) x = (hasF (L.take k) x || (x.toList == (L.getD k ⟨#[]⟩).toList)) := by
  unfold hasF
  rw [List.take_add_one, List.any_append]
  have e : L[k]?.toList = [L.getD k ⟨#[]⟩] := by rw [List.getD_eq_getElem?_getD, List.getElem?_eq_getElem hk]; rfl
  rw [e]
  simp
theorem hasF_mono {L : List ByteArray} {x : ByteArray} {k n : Nat} (hk : k ≤ n) (h : hasF (L.take k) x = true) : hasF (L.take n) x = true := by
  unfold hasF at h ⊢
  rw [List.any_eq_true] at h ⊢
  obtain ⟨y, hy, e⟩ := h
  exact ⟨y, by
    have : L.take k = (L.take n).take k := by rw [List.take_take, Nat.min_eq_left hk]
    rw [this] at hy
    exact List.mem_of_mem_take hy, e⟩
theorem listF_long {L : List ByteArray} (h : 8 < L.length) : listF L = false := by
  unfold listF
  rw [show decide (L.length ≤ 8) = false from decide_eq_false (by omega), Bool.and_false]

set_option maxRecDepth 100000 in
set_option maxHeartbeats 2000000 in
theorem refnames_any (v : Value) (L : List ByteArray) (w : World) (hL : TextsAt w v L) :
    Calls Try.prog 44 #[v] w fun e w' => e = .returned (.bool (listF L)) ∧ w.grownBy w' none := by
  have HL := Lib.hid hL
  obtain ⟨a, cap, rfl, hcap, hlen, hsz, hc⟩ := hL
  clear hsz hc
  by_cases h8 : 8 < L.length
  · have HB := Lib.hid (listF_long h8)
    have h8I : (8 : Int) < (L.length : Int) := by omega
    go_enter Try.func44, Try.ntmps44
    go_wp2
    go_ret
    exact ⟨by rw [HB.out]; rfl, gb_refl _ _⟩
  have h8I : ¬ (8 : Int) < (L.length : Int) := by omega
  go_enter Try.func44, Try.ntmps44
  go_wp2_with fail
  go_loopw [3] (fun i wr => ∃ k : Nat, k ≤ L.length ∧ i = .int .i64 (k : Int) ∧ Hid (∀ j, j < k → (namedF (L.getD j ⟨#[]⟩) && !hasF (L.take j) (L.getD j ⟨#[]⟩)) = true) ∧ w.grownBy wr none) (fun i _ => L.length - (intOf i).toNat)
  case atStart => exact ⟨0, by omega, rfl, fun j h => absurd h (by omega), gb_refl _ _⟩
  case round =>
    obtain ⟨k, hk, rfl, HO, hG⟩ := hrel
    by_cases hlt : k < L.length
    · obtain ⟨_, _, hve, _, _, hsz, hcc⟩ := HL.out.kept hG
      cases hve
      rcases hcc with rfl | ⟨b, off, rfl, hcc⟩
      · exact absurd hlt (by simp)
      have hcell := hcc k hlt
      have hxs := hsz k hlt
      have HCs : Hid (∀ j, j < L.length → w.cell? ⟨b, off + j, none⟩ = some (.string (L.getD j ⟨#[]⟩))) := by
        obtain ⟨_, _, hve, _, _, _, hc0⟩ := HL.out
        cases hve
        rcases hc0 with rfl | ⟨b2, off2, e, hc0⟩
        · exact absurd hlt (by simp)
        · cases e; exact Lib.hid hc0
      clear hcc hsz
      have HB := Lib.hid (listF_bad hlt)
      have HG : Hid ((namedF (L.getD k ⟨#[]⟩) && !hasF (L.take k) (L.getD k ⟨#[]⟩)) = true → ∀ j, j < k + 1 → (namedF (L.getD j ⟨#[]⟩) && !hasF (L.take j) (L.getD j ⟨#[]⟩)) = true) := Lib.hid fun h j hj => by
        rcases Nat.lt_or_ge j k with h1 | h1
        · exact HO.out j h1
        · obtain rfl : j = k := by omega
          exact h
      have hck := HCs.out k hlt
      have HCk := Lib.hid hck
      generalize hxe : L.getD k ⟨#[]⟩ = x at hcell HB HG hxs HCk
      clear hck hxe
      have HNm := Lib.hid (fun w => refnamed_any x w hxs)
      have hkI : (k : Int) < (L.length : Int) := by omega
      cases hn : namedF x with
      | false =>
        rw [hn] at HNm
        have HB2 := Lib.hid (HB.out (by rw [hn]; rfl))
        clear hn HB HG
        go_wp2_with (go_at_call 94; refine (HNm.out _).mono ?_; rintro e w' ⟨rfl, rfl⟩)
        go_ret
        exact ⟨by rw [HB2.out]; rfl, hG⟩
      | true =>
        rw [hn] at HNm
        have HGn : Hid (hasF (L.take k) x = false → ∀ j, j < k + 1 → (namedF (L.getD j ⟨#[]⟩) && !hasF (L.take j) (L.getD j ⟨#[]⟩)) = true) := Lib.hid fun h => HG.out (by rw [hn, h]; rfl)
        have HBn : Hid (hasF (L.take k) x = true → listF L = false) := Lib.hid fun h => HB.out (by rw [hn, h]; rfl)
        clear hn HB HG hxs
        go_wp2_with (go_at_call 94; refine (HNm.out _).mono ?_; rintro e w' ⟨rfl, rfl⟩)
        go_loopw [4] (fun i wr => ∃ m : Nat, m ≤ k ∧ i = .int .i64 (m : Int) ∧ Hid (hasF (L.take m) x = false) ∧ w.grownBy wr none) (fun i _ => k - (intOf i).toNat)
        case atStart => exact ⟨0, by omega, rfl, Lib.hid (by simp [hasF]), hG⟩
        case round =>
          obtain ⟨m, hm, rfl, HH, hG2⟩ := hrel
          by_cases hmk : m < k
          · have hc1 := hG2.cell (HCs.out m (by omega)) (by simp)
            have hc2 := hG2.cell HCk.out (by simp)
            have HT := Lib.hid (hasF_take_step (L := L) (x := x) (k := m) (by omega))
            generalize L.getD m ⟨#[]⟩ = y at hc1 HT
            have hmI : (m : Int) < (k : Int) := by omega
            have hmL : (m : Int) < (L.length : Int) := by omega
            by_cases e : y = x
            · have HNo := Lib.hid (HBn.out (hasF_mono (k := m + 1) (by omega) (by rw [HT.out, e]; simp)))
              subst e
              go_wp2_with fail
              go_quiet (fail)
              go_wp2
              go_ret
              exact ⟨by rw [HNo.out]; rfl, gb_trans hG2 (gb_drewN _ _ none) (Or.inl rfl)⟩
            · have hne : (y.toList == x.toList) = false := by
                rw [beq_eq_false_iff_ne]
                intro e2
                exact e (by rw [ByteArray.toList_eq, ByteArray.toList_eq] at e2; cases y; cases x; simp only at e2; rw [Array.toList_inj.1 e2])
              have hne2 : (x.toList == y.toList) = false := by
                rw [beq_eq_false_iff_ne] at hne ⊢
                exact fun e2 => hne e2.symm
              have HH2 := Lib.hid (show hasF (L.take (m + 1)) x = false by rw [HT.out, HH.out, hne2]; rfl)
              clear e hne2 HT
              go_wp2_with fail
              go_quiet (fail)
              go_wp2
              go_roundw
              case rel => exact ⟨m + 1, by omega, by go_num, HH2, gb_trans hG2 (gb_drewN _ _ none) (Or.inl rfl)⟩
              case measure => simp [intOf]; omega
          · obtain rfl : m = k := by omega
            have HG3 := Lib.hid (HGn.out HH.out)
            go_wp2_with fail
            exact ⟨⟨m + 1, by omega, by go_num, HG3, hG2⟩, by simp [intOf]; omega⟩
    · obtain rfl : k = L.length := by omega
      have HB2 := Lib.hid (listF_good HO.out)
      have hd : decide (L.length ≤ 8) = true := decide_eq_true (by omega)
      rw [hd] at HB2
      go_wp2_with fail
      go_ret
      exact ⟨by rw [HB2.out]; rfl, hG⟩
theorem listF_eq (L : List ByteArray) : listF L = namesF L := by
  have key : ∀ k, k < L.length → (namedF (L.getD k ⟨#[]⟩) && !hasF (L.take k) (L.getD k ⟨#[]⟩)) = nameB L k := fun k hk => by
    unfold nameB
    congr 1
    unfold newB hasF
    rw [Bool.eq_iff_iff, Bool.not_eq_true', List.any_eq_false, List.all_eq_true]
    constructor
    · intro h j hj
      have hj2 := List.mem_range.1 hj
      have h1 := h (L.getD j ⟨#[]⟩) (by
        rw [List.getD_eq_getElem?_getD, List.getElem?_eq_getElem (by omega)]
        exact List.mem_take_iff_getElem.2 ⟨j, by omega, rfl⟩)
      rw [Bool.not_eq_true', decide_eq_false_iff_not]
      intro e
      rw [e] at h1
      simp at h1
    · intro h x hx
      obtain ⟨j, hj, rfl⟩ := List.mem_take_iff_getElem.1 hx
      have h1 := h j (List.mem_range.2 (by omega))
      rw [Bool.not_eq_true', decide_eq_false_iff_not] at h1
      intro e
      rw [beq_iff_eq] at e
      refine h1 ?_
      rw [ByteArray.toList_eq, ByteArray.toList_eq] at e
      rw [show L.getD j ⟨#[]⟩ = L[j] by rw [List.getD_eq_getElem?_getD, List.getElem?_eq_getElem (by omega)]; rfl]
      generalize L.getD k ⟨#[]⟩ = y at e
      generalize L[j] = z at e
      cases y
      cases z
      simp only at e
      rw [Array.toList_inj.1 e]
  unfold listF namesF
  congr 1
  rw [Bool.eq_iff_iff, List.all_eq_true, List.all_eq_true]
  exact ⟨fun h k hk => by rw [← key k (List.mem_range.1 hk)]; exact h k hk, fun h k hk => by rw [key k (List.mem_range.1 hk)]; exact h k hk⟩
theorem refnames10 (v : Value) (L : List ByteArray) (w : World) (hL : TextsAt w v L) :
    Calls Try.prog 44 #[v] w fun e w' => e = .returned (.bool (namesF L)) ∧ w.grownBy w' none := by
  rw [← listF_eq]
  exact refnames_any v L w hL
end Go.Proofs.Ytcdepblajobemaa
namespace Go.Proofs.Ytcdepblajobemaa
open Go.RowKit

def aheadB (a b : Edg) : Bool := if a.fr ≠ b.fr then decide (a.fr < b.fr) else if a.tt ≠ b.tt then decide (a.tt < b.tt) else if a.mu ≠ b.mu then decide (a.mu < b.mu) else decide (a.no < b.no)
theorem ahead_ord (a b : Edg) : aheadB a b = decide (ordF a b < 0) := by
  have key : ∀ x y : Int, x ≠ y → cmpI x y ≠ 0 ∧ (cmpI x y < 0 ↔ x < y) := fun x y h => by unfold cmpI; split <;> (try split) <;> omega
  have zero : ∀ x : Int, cmpI x x = 0 := fun x => by unfold cmpI; simp
  unfold aheadB ordF
  by_cases h1 : a.fr = b.fr
  · rw [if_neg (by simpa using h1), h1, zero]
    by_cases h2 : a.tt = b.tt
    · rw [if_neg (by simpa using h2), h2, zero]
      by_cases h3 : a.mu = b.mu
      · rw [if_neg (by simpa using h3), h3, zero]
        by_cases h4 : a.no = b.no
        · rw [h4, zero]
          simp [orF]
        · obtain ⟨k1, k2⟩ := key (a.no : Int) (b.no : Int) (by omega)
          simp only [orF, if_false, k1, if_true]
          rw [decide_eq_decide, k2]
          omega
      · obtain ⟨k1, k2⟩ := key (a.mu : Int) (b.mu : Int) (by omega)
        rw [if_pos h3]
        simp only [orF, if_false, k1, if_true]
        rw [decide_eq_decide, k2]
        omega
    · obtain ⟨k1, k2⟩ := key a.tt b.tt h2
      rw [if_pos h2]
      simp only [orF, if_false, k1, if_true]
      rw [decide_eq_decide, k2]
  · obtain ⟨k1, k2⟩ := key a.fr b.fr h1
    rw [if_pos h1]
    simp only [orF, k1, if_false]
    rw [decide_eq_decide, k2]
set_option maxHeartbeats 1000000 in
theorem refahead_any (a b : Edg) (w : World) : Calls Try.prog 96 #[edgeV a, edgeV b] w fun e w' => e = .returned (.bool (aheadB a b)) ∧ w.grownBy w' none := by
  have hga : w.grownBy ((w.alloc (.cells #[.int .i64 a.fr, .int .i64 a.tt, .int .u16 (a.mu : Int), .int .u16 (a.no : Int)] 61)).alloc (.cells #[.int .i64 b.fr, .int .i64 b.tt, .int .u16 (b.mu : Int), .int .u16 (b.no : Int)] 61)) none := gb_trans (World.grownBy_alloc _ _ none) (World.grownBy_alloc _ _ none) (Or.inl rfl)
  have HG := Lib.hid hga
  clear hga
  unfold edgeV aheadB
  by_cases h1 : a.fr = b.fr
  · have e1 : (a.fr != b.fr) = false := by simpa using h1
    by_cases h2 : a.tt = b.tt
    · have e2 : (a.tt != b.tt) = false := by simpa using h2
      by_cases h3 : a.mu = b.mu
      · have e3 : ((a.mu : Int) != (b.mu : Int)) = false := by rw [h3]; simp
        rw [if_neg (by simpa using h1), if_neg (by simpa using h2), if_neg (by simpa using h3)]
        clear h1 h2 h3
        go_enter Try.func96, Try.ntmps96
        go_wp2
        go_ret
        exact ⟨by simp, HG.out⟩
      · have e3 : ((a.mu : Int) != (b.mu : Int)) = true := by rw [bne_iff_ne]; omega
        rw [if_neg (by simpa using h1), if_neg (by simpa using h2), if_pos h3]
        clear h1 h2 h3
        go_enter Try.func96, Try.ntmps96
        go_wp2
        go_ret
        exact ⟨by simp, HG.out⟩
    · have e2 : (a.tt != b.tt) = true := by simpa using h2
      rw [if_neg (by simpa using h1), if_pos h2]
      clear h1 h2
      go_enter Try.func96, Try.ntmps96
      go_wp2
      go_ret
      exact ⟨by simp, HG.out⟩
  · have e1 : (a.fr != b.fr) = true := by simpa using h1
    rw [if_pos h1]
    clear h1
    go_enter Try.func96, Try.ntmps96
    go_wp2
    go_ret
    exact ⟨by simp, HG.out⟩

set_option maxHeartbeats 2000000 in
theorem refrising_any (v : Value) (A : List Int) (n : Int) (w : World) (hA : IntsAt w v A) : Calls Try.prog 95 #[v, .int .i64 n] w fun e w' => e = .returned (.bool (risingF A n)) ∧ ∃ q, w' = w.drewN q := by
  have HA := Lib.hid hA
  obtain ⟨a, cap, rfl, -, hl, -⟩ := hA
  have HN := Lib.hid (fun k hk h => rising_no (A := A) (n := n) (k := k) hk h)
  have HY := Lib.hid (rising_yes (A := A) (n := n))
  go_enter Try.func95, Try.ntmps95
  go_wp2_with fail
  go_loopw [5] (fun i wr => ∃ k q : Nat, k ≤ A.length ∧ i = .int .i64 (k : Int) ∧ Hid (∀ j, j < k → riseB A n j = true) ∧ Hid (wr = w.drewN q)) (fun i _ => A.length - (intOf i).toNat)
  case atStart => exact ⟨0, 0, Nat.zero_le _, rfl, Lib.hid fun j h => absurd h (Nat.not_lt_zero _), Lib.hid rfl⟩
  case round =>
    obtain ⟨k, q, hk, rfl, H0, HW⟩ := hrel
    have hdr : ∀ m : Nat, (w.drewN q).drewN m = w.drewN (q + m) := fun m => by simp
    have HDr := Lib.hid hdr
    clear hdr
    by_cases hlt : k < A.length
    · have hkI : (k : Int) < (A.length : Int) := by omega
      obtain ⟨_, _, e1, -, -, hc⟩ := HA.out.kept (show w.grownBy wr none by rw [HW.out]; exact gb_drewN w q none)
      cases e1
      rcases hc with rfl | ⟨b, off, rfl, hcc⟩
      · exact absurd hlt (by simp)
      have hck := hcc k hlt
      have HP : Hid (0 < k → wr.cell? ⟨b, off + (k - 1), none⟩ = some (.int .i64 (A.getD (k - 1) 0))) := Lib.hid fun h => hcc (k - 1) (by omega)
      clear hcc
      have HB : Hid (riseB A n k = (decide (0 ≤ A.getD k 0) && (decide (A.getD k 0 < n) && (decide (k = 0) || decide (A.getD (k - 1) 0 < A.getD k 0))))) := Lib.hid rfl
      have HNk := Lib.hid (HN.out k hlt)
      have HYk : Hid (riseB A n k = true → ∀ j, j < k + 1 → riseB A n j = true) := Lib.hid fun h j hj => by
        by_cases e : j < k
        · exact H0.out j e
        · obtain rfl : j = k := by omega
          exact h
      generalize A.getD k 0 = x at hck HB
      generalize A.getD (k - 1) 0 = y at HP HB
      by_cases h0 : x < 0
      · have HV := Lib.hid (HNk.out (by rw [HB.out, decide_eq_false (by omega), Bool.false_and]))
        have hd0 : decide (x < 0) = true := decide_eq_true h0
        clear HB HNk HYk h0
        go_wp2_with fail
        go_quiet (fail)
        go_wp2
        go_ret
        exact ⟨by rw [HV.out]; rfl, by rw [HW.out]; exact ⟨_, HDr.out _⟩⟩
      have hd0 : decide (x < 0) = false := decide_eq_false h0
      by_cases h1 : n ≤ x
      · have HV := Lib.hid (HNk.out (by rw [HB.out, decide_eq_false (show ¬ x < n by omega), Bool.false_and, Bool.and_false]))
        have hd1 : decide (n ≤ x) = true := decide_eq_true h1
        clear HB HNk HYk h0 h1
        go_wp2_with fail
        go_quiet (fail)
        go_wp2
        go_ret
        exact ⟨by rw [HV.out]; rfl, by rw [HW.out]; exact ⟨_, HDr.out _⟩⟩
      have hd1 : decide (n ≤ x) = false := decide_eq_false h1
      by_cases hk0 : 0 < k
      · have hcq := HP.out hk0
        have hd2 : decide ((0 : Int) < (k : Int)) = true := decide_eq_true (by omega)
        have hd3 : decide (0 < k) = true := decide_eq_true hk0
        have z5 : (0 : Int) ≤ (k : Int) - 1 := by omega
        have z6 : (1 : Int) ≤ (k : Int) := by omega
        have z7 : (k : Int) - 1 < (A.length : Int) := by omega
        have htn : ((k : Int) - 1).toNat = k - 1 := by omega
        have z4 : IntKind.i64.wrap ((k : Int) - 1) = (k : Int) - 1 := IntWalk.i64_in _ (by omega)
        by_cases h2 : x ≤ y
        · have HV := Lib.hid (HNk.out (by rw [HB.out, decide_eq_false (show ¬ k = 0 by omega), decide_eq_false (show ¬ y < x by omega), Bool.or_false, Bool.and_false, Bool.and_false]))
          have hd4 : decide (x ≤ y) = true := decide_eq_true h2
          clear HB HNk HYk h0 h1 h2
          go_wp2_with fail
          go_quiet (fail)
          go_wp2
          go_ret
          exact ⟨by rw [HV.out]; rfl, by rw [HW.out]; exact ⟨_, HDr.out _⟩⟩
        · have HV := Lib.hid (HYk.out (by rw [HB.out, decide_eq_true (show 0 ≤ x by omega), decide_eq_true (show x < n by omega), decide_eq_true (show y < x by omega), Bool.or_true]; rfl))
          have hd4 : decide (x ≤ y) = false := decide_eq_false h2
          clear HB HNk HYk h0 h1 h2
          go_wp2_with fail
          go_quiet (fail)
          go_wp2
          go_roundw
          case rel => exact ⟨k + 1, _, by omega, by go_num, HV, Lib.hid (by rw [HW.out]; exact HDr.out _)⟩
          case measure => simp [intOf]; omega
      · obtain rfl : k = 0 := by omega
        have HV := Lib.hid (HYk.out (by rw [HB.out, decide_eq_true (show 0 ≤ x by omega), decide_eq_true (show x < n by omega)]; rfl))
        have hck0 : wr.cell? ⟨b, off, none⟩ = some (.int .i64 x) := hck
        clear HB HNk HYk h0 h1 hk0 hck HP
        go_wp2_with fail
        go_quiet (fail)
        go_wp2
        go_roundw
        case rel => exact ⟨1, _, by omega, by go_num, HV, Lib.hid (by rw [HW.out]; exact HDr.out _)⟩
        case measure => simp [intOf]; omega
    · obtain rfl : k = A.length := by omega
      have HV := Lib.hid (HY.out H0.out)
      go_wp2
      go_ret
      exact ⟨by rw [HV.out]; rfl, by rw [HW.out]; exact ⟨_, rfl⟩⟩
end Go.Proofs.Ytcdepblajobemaa
