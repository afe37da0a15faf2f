/- Dfa: Has; one step. -/
import Derived.Test.YtcdepblajobemaaDfaCheck
import Derived.Test.YtcdepblajobemaaBitsForms
set_option maxRecDepth 100000
namespace Go.Proofs.Ytcdepblajobemaa
open Go.RowKit

theorem bit_has (x s : Nat) (hx : x < 18446744073709551616) : (bits .and .u64 ((x : Int) / 2 ^ s) 1 == 1) = x.testBit s := by
  have e : ((x : Int) / 2 ^ s) = ((x / 2 ^ s : Nat) : Int) := by simp
  have hle : x / 2 ^ s ≤ x := Nat.div_le_self _ _
  rw [e, show (1 : Int) = ((1 : Nat) : Int) from rfl, u64_and_nat _ _ (by omega) (by decide), Nat.and_one_is_mod]
  rw [Nat.testBit_eq_decide_div_mod_eq]
  rw [Bool.eq_iff_iff]
  simp
  omega

set_option maxHeartbeats 1000000 in
theorem has_yes (i p g cap n : Nat) (L : List Nat) (w : World) (h : SetAt w p g cap n L) (h1 : i < n) :
    Calls Try.prog 68 #[.pointer (some ⟨p, 0, none⟩), .int .i64 (i : Int)] w fun e w' => e = .returned (.bool (bit L i)) ∧ w = w' := by
  have hm := h.max
  have hW := h.cellW
  have hl := h.len
  have hc := h.cell (i / 64) (by omega)
  have hi2 : i / 64 < L.length := by omega
  have hb := bit_has _ (i % 64) (h.wd (i / 64))
  have HB := Lib.hid (show bit L i = (L.getD (i / 64) 0).testBit (i % 64) from rfl)
  generalize bit L i = r at HB ⊢
  rw [← HB.out] at hb
  generalize L.getD (i / 64) 0 = x at hc hb
  go_enter Try.func68, Try.ntmps68
  go_wp2_with (go_at_call 97; refine (in_yes _ _ _ _ _ _ _ h h1).mono ?_; rintro e w' ⟨rfl, rfl⟩)
  go_ret
  exact ⟨rfl, rfl⟩
set_option maxHeartbeats 1000000 in
theorem has_no (i : Int) (p g cap n : Nat) (L : List Nat) (w : World) (h : SetAt w p g cap n L) (h1 : i < 0 ∨ n ≤ i) :
    Calls Try.prog 68 #[.pointer (some ⟨p, 0, none⟩), .int .i64 i] w fun e w' => e = .returned (.bool false) ∧ w = w' := by
  go_enter Try.func68, Try.ntmps68
  go_wp2_with (go_at_call 97; refine (in_no _ _ _ _ _ _ _ h h1).mono ?_; rintro e w' ⟨rfl, rfl⟩)
  go_ret
  exact ⟨rfl, rfl⟩

/-- Has a set a number? -/
def hasI (n : Nat) (L : List Nat) (i : Int) : Bool := if 0 ≤ i ∧ i < n then bit L i.toNat else false
theorem has_any (i : Int) (p g cap n : Nat) (L : List Nat) (w : World) (h : SetAt w p g cap n L) :
    Calls Try.prog 68 #[.pointer (some ⟨p, 0, none⟩), .int .i64 i] w fun e w' => e = .returned (.bool (hasI n L i)) ∧ w = w' := by
  unfold hasI
  by_cases hi : 0 ≤ i ∧ i < n
  · obtain ⟨j, rfl⟩ := Int.eq_ofNat_of_zero_le hi.1
    rw [if_pos hi]
    exact has_yes j p g cap n L w h (by omega)
  · rw [if_neg hi]
    exact has_no i p g cap n L w h (by omega)
/-- Does an edge go by a letter? -/
def goesB (e : Edg) (l : Nat) : Bool := decide (l &&& e.mu = e.mu) && decide (l &&& e.no = 0)
def stepOne (n : Nat) (L : List Nat) (l : Nat) (M : List Nat) (e : Edg) : List Nat := if (goesB e l && hasI n L e.fr) = true then put1 n M e.tt else M
/-- The states behind some. -/
def stepF (n : Nat) (E : List Edg) (L : List Nat) (l : Nat) : List Nat := E.foldl (stepOne n L l) (List.replicate ((n + 63) / 64) 0)
theorem step_take {n : Nat} {E : List Edg} {L : List Nat} {l k : Nat} (h : k < E.length) : stepF n (E.take (k + 1)) L l = stepOne n L l (stepF n (E.take k) L l) (E.getD k edg0) := by
  unfold stepF
  rw [List.take_succ_eq_append_getElem h, List.foldl_append, List.getD_eq_getElem?_getD, List.getElem?_eq_getElem h]
  rfl
set_option maxHeartbeats 4000000 in
theorem step_any (vp vi ve vf : Value) (a : Aut) (n : Nat) (hn : a.n = (n : Int)) (h65 : n ≤ 65536) (p g cap : Nat) (L : List Nat) (l : Nat) (hl : l ≤ 65535) (w : World) (h : AutAt w vp vi ve vf a) (hs : SetAt w p g cap n L) :
    Calls Try.prog 57 #[autV vp vi ve vf a.n, .pointer (some ⟨p, 0, none⟩), .int .u16 (l : Int)] w (Made w n (stepF n a.E L l)) := by
  have HA := Lib.hid h
  have HS := Lib.hid hs
  obtain ⟨ap, cp, rfl, _⟩ := h.p
  obtain ⟨ai, ci, rfl, _⟩ := h.i
  obtain ⟨ae, ce, rfl, hce, hbe, hle, _⟩ := h.e
  obtain ⟨af, cf, rfl, _⟩ := h.f
  have HBe := Lib.hid hbe
  have HNw := Lib.hid (fun w => new_yes n w h65)
  clear h hs hbe
  rw [hn]
  clear hn
  have hga := World.grownBy_alloc w (.cells #[.slice ap a.P.length cp, .int .i64 (n : Int), .slice ai a.I.length ci, .slice ae a.E.length ce, .slice af a.F.length cf] 47) none
  have hba := heap_alloc_new w (.cells #[.slice ap a.P.length cp, .int .i64 (n : Int), .slice ai a.I.length ci, .slice ae a.E.length ce, .slice af a.F.length cf] 47)
  unfold autV
  go_enter Try.func57, Try.ntmps57
  go_wp2_with fail
  refine (HNw.out _).mono ?_
  rintro e w1 ⟨p1, g1, c1, rfl, hp1, hg1, hs1, hgr1⟩
  have c3 : w1.cell? ⟨w.heap.size, 3, none⟩ = some (.slice ae a.E.length ce) := by
    have : (w.alloc (.cells #[.slice ap a.P.length cp, .int .i64 (n : Int), .slice ai a.I.length ci, .slice ae a.E.length ce, .slice af a.F.length cf] 47)).cell? ⟨w.heap.size, 3, none⟩ = some (.slice ae a.E.length ce) := by simp only [World.cell?, hba]; rfl
    exact hgr1.cell this (by simp)
  have HG1 := Lib.hid (gb_trans hga hgr1 (Or.inl rfl))
  have HS1 := Lib.hid hs1
  have hw1 : w.heap.size ≤ p1 ∧ w.heap.size ≤ g1 := by rw [World.size_alloc] at hp1 hg1; omega
  clear hs1 hgr1 hga hba hp1 hg1
  go_wp2_with fail
  go_loopw [16] (fun i wr => ∃ k : Nat, k ≤ a.E.length ∧ i = .int .i64 (k : Int) ∧ Hid (SetAt wr p1 g1 c1 n (stepF n (a.E.take k) L l)) ∧ Hid (w.grownBy wr none)) (fun i _ => a.E.length - (intOf i).toNat)
  case atStart => exact ⟨0, Nat.zero_le _, rfl, HS1, HG1⟩
  case round =>
    obtain ⟨k, hk, rfl, HSr, HG⟩ := hrel
    by_cases hlt : k < a.E.length
    · have hkI : (k : Int) < (a.E.length : Int) := by omega
      obtain ⟨_, _, e1, _, _, _, hc⟩ := HA.out.e.kept HG.out
      cases e1
      rcases hc with hc | ⟨b, off, rfl, hc⟩
      · rw [hc] at hlt; exact absurd hlt (by simp)
      obtain ⟨d0, d1, d2, d3⟩ := hc k hlt
      obtain ⟨⟨r1, r2⟩, ⟨r3, r4⟩, r5, r6⟩ := HBe.out k hlt
      have HT := Lib.hid (step_take (n := n) (L := L) (l := l) hlt)
      clear hc
      generalize a.E.getD k edg0 = x at d0 d1 d2 d3 r1 r2 r3 r4 r5 r6 HT
      generalize stepF n (a.E.take k) L l = M at HSr HT
      obtain ⟨M', HT0⟩ : ∃ M', Hid (stepF n (a.E.take (k + 1)) L l = M') := ⟨_, rfl⟩
      rw [HT0.out] at HT
      have hbx := heap_alloc_new wr (.cells #[.int .i64 x.fr, .int .i64 x.tt, .int .u16 (x.mu : Int), .int .u16 (x.no : Int)] 61)
      have hgx := World.grownBy_alloc wr (.cells #[.int .i64 x.fr, .int .i64 x.tt, .int .u16 (x.mu : Int), .int .u16 (x.no : Int)] 61) none
      have z1 : bits .and .u16 (l : Int) (x.mu : Int) = ((l &&& x.mu : Nat) : Int) := u16_and_nat _ _ (by omega) (by omega)
      have z2 : bits .and .u16 (l : Int) (x.no : Int) = ((l &&& x.no : Nat) : Int) := u16_and_nat _ _ (by omega) (by omega)
      have HHx : Hid (∀ wx, w.grownBy wx none → Calls Try.prog 68 #[.pointer (some ⟨p, 0, none⟩), .int .i64 x.fr] wx fun e w' => e = .returned (.bool (hasI n L x.fr)) ∧ wx = w') := Lib.hid fun wx hx => has_any x.fr p g cap n L wx (HS.out.kept hx (by simp) (by simp))
      have HGx : Hid (w.grownBy (wr.alloc (.cells #[.int .i64 x.fr, .int .i64 x.tt, .int .u16 (x.mu : Int), .int .u16 (x.no : Int)] 61)) none) := Lib.hid (gb_trans HG.out hgx (Or.inl rfl))
      have HSx : Hid (SetAt (wr.alloc (.cells #[.int .i64 x.fr, .int .i64 x.tt, .int .u16 (x.mu : Int), .int .u16 (x.no : Int)] 61)) p1 g1 c1 n M) := Lib.hid (HSr.out.kept hgx (by simp) (by simp))
      have HO : Hid (stepOne n L l M x = if (goesB x l && hasI n L x.fr) = true then put1 n M x.tt else M) := Lib.hid rfl
      have HGo : Hid (goesB x l = (decide (l &&& x.mu = x.mu) && decide (l &&& x.no = 0))) := Lib.hid rfl
      generalize goesB x l = gb at HO HGo
      generalize hasI n L x.fr = hb at HHx HO
      generalize stepOne n L l M x = M1 at HT HO
      obtain ⟨b0, b1, b2, b3⟩ := edge_cells hbx
      by_cases q1 : l &&& x.mu = x.mu
      · rw [q1] at z1
        by_cases q2 : l &&& x.no = 0
        · rw [q2] at z2
          have HGb : Hid (gb = true) := Lib.hid (by rw [HGo.out, decide_eq_true q1, decide_eq_true q2]; rfl)
          clear q1 q2 HGo
          cases hb
          · have HM1 : Hid (M1 = M) := Lib.hid (by rw [HO.out, Bool.and_false]; rfl)
            clear HO
            go_wp2_with (go_at_call 68; refine (HHx.out _ HGx.out).mono ?_; rintro e w2 ⟨rfl, rfl⟩)
            exact ⟨⟨k + 1, by omega, by go_num, Lib.hid (by rw [HT0.out, HT.out, HM1.out]; exact HSx.out), HGx⟩, by simp [intOf]; omega⟩
          · have HM1 : Hid (M1 = put1 n M x.tt) := Lib.hid (by rw [HO.out, HGb.out]; rfl)
            clear HO
            go_wp2_with (first | (go_at_call 68; refine (HHx.out _ HGx.out).mono ?_; rintro e w2 ⟨rfl, rfl⟩) | (go_at_call 48; refine (put_any x.tt p1 g1 c1 n M _ HSx.out).mono ?_; rintro e w3 ⟨rfl, hs3, hg3⟩))
            exact ⟨⟨k + 1, by omega, by go_num, Lib.hid (by rw [HT0.out, HT.out, HM1.out]; exact hs3), Lib.hid (gb_trans HGx.out hg3 (Or.inr (Or.inr ⟨_, rfl, hw1.2⟩)))⟩, by simp [intOf]; omega⟩
        · have HM1 : Hid (M1 = M) := Lib.hid (by rw [HO.out, HGo.out, decide_eq_false q2, Bool.and_false]; rfl)
          have t2 : (((l &&& x.no : Nat) : Int) == 0) = false := by simpa using q2
          clear q1 q2 HGo HO
          go_wp2_with fail
          exact ⟨⟨k + 1, by omega, by go_num, Lib.hid (by rw [HT0.out, HT.out, HM1.out]; exact HSx.out), HGx⟩, by simp [intOf]; omega⟩
      · have HM1 : Hid (M1 = M) := Lib.hid (by rw [HO.out, HGo.out, decide_eq_false q1]; rfl)
        have t2 : (((l &&& x.mu : Nat) : Int) == (x.mu : Int)) = false := by rw [beq_eq_false_iff_ne]; intro e; exact q1 (by omega)
        clear q1 HGo HO
        go_wp2_with fail
        exact ⟨⟨k + 1, by omega, by go_num, Lib.hid (by rw [HT0.out, HT.out, HM1.out]; exact HSx.out), HGx⟩, by simp [intOf]; omega⟩
    · obtain rfl : k = a.E.length := by omega
      have hkI : ¬ (a.E.length : Int) < (a.E.length : Int) := by omega
      have HF : Hid (SetAt wr p1 g1 c1 n (stepF n a.E L l)) := Lib.hid (by
        have h1 := HSr.out
        rw [List.take_length] at h1
        exact h1)
      go_wp2_with fail
      go_ret
      exact ⟨p1, g1, c1, rfl, hw1.1, hw1.2, HF.out, HG.out⟩
end Go.Proofs.Ytcdepblajobemaa
