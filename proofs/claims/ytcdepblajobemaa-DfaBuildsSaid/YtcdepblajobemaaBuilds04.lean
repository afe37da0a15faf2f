/- Dfa: general, Check. -/
import Derived.Test.YtcdepblajobemaaBuilds03
set_option maxRecDepth 100000
namespace Go.Proofs.Ytcdepblajobemaa
open Go.RowKit

/-- An automaton that came in. -/
structure Aut where
  P : List ByteArray
  n : Int
  I : List Int
  E : List Edg
  F : List Int
structure AutAt (w : World) (vp vi ve vf : Value) (a : Aut) : Prop where
  p : TextsAt w vp a.P
  i : IntsAt w vi a.I
  e : EdgesAt w ve a.E
  f : IntsAt w vf a.F
theorem AutAt.kept {w w' : World} {vp vi ve vf : Value} {a : Aut} (h : AutAt w vp vi ve vf a) (hg : w.grownBy w' none) : AutAt w' vp vi ve vf a := ⟨h.p.kept hg, h.i.kept hg, h.e.kept hg, h.f.kept hg⟩
def autV (vp vi ve vf : Value) (n : Int) : Value := .agg #[vp, .int .i64 n, vi, ve, vf]
def chkA (a : Aut) : Int := chkG a.P a.n a.I a.E [a.F]
theorem results_gen {fn : Func} {p : Tmp} (h : fn.results = #[.cell p 87]) (tmps : Array Value) (w : World) (g : Nat) (cs : Array Value) (hp : tmps.getD p undef = .pointer (some ⟨g, 0, none⟩)) (hg : w.heap[g]? = some (.cells cs 87 (0, 0))) (hc : cs.size = 5) :
    (results fn tmps).run Try.prog w = .ok (.agg cs) w := by
  have hp' : tmps[p]?.getD undef = .pointer (some ⟨g, 0, none⟩) := by simpa using hp
  have hi : (Try.prog.info? 87).map (·.size) = some cs.size := by rw [hc]; kernel_rfl
  simp [results, h, hp', asAddr, run_loadVar_row w g 87 87 cs (0, 0) _ hg Try.underlying87 rfl hi]
set_option maxHeartbeats 4000000 in
theorem general_any (vp vi ve vf : Value) (a : Aut) (w : World) (h : AutAt w vp vi ve vf a) :
    Calls Try.prog 98 #[autV vp vi ve vf a.n] w fun e w' => ∃ vs, e = .returned (.agg #[vp, .int .i64 a.n, vi, ve, vs]) ∧ RowsAt2 w' vs [a.F] ∧ w.grownBy w' none := by
  have HA := Lib.hid h
  obtain ⟨ap, cp, rfl, _⟩ := h.p
  obtain ⟨ai, ci, rfl, _⟩ := h.i
  obtain ⟨ae, ce, rfl, _⟩ := h.e
  obtain ⟨af, cf, rfl, _⟩ := h.f
  clear h
  unfold autV
  go_enter Try.func98, Try.ntmps98
  go_wp2_with fail
  have hb1 := heap_alloc_new (w.alloc (.cells #[.slice ap a.P.length cp, .int .i64 a.n, .slice ai a.I.length ci, .slice ae a.E.length ce, .slice af a.F.length cf] 47)) (.cells #[.slice ap a.P.length cp, .int .i64 a.n, .slice ai a.I.length ci, .slice ae a.E.length ce, .slice (some ⟨w.heap.size + 1 + 1, 0, none⟩) 1 1] 87)
  rw [World.size_alloc] at hb1
  have hb2 := heap_alloc_new ((w.alloc (.cells #[.slice ap a.P.length cp, .int .i64 a.n, .slice ai a.I.length ci, .slice ae a.E.length ce, .slice af a.F.length cf] 47)).alloc (.cells #[.slice ap a.P.length cp, .int .i64 a.n, .slice ai a.I.length ci, .slice ae a.E.length ce, .slice (some ⟨w.heap.size + 1 + 1, 0, none⟩) 1 1] 87)) (.cells #[.slice af a.F.length cf] 43)
  have hg : w.grownBy (((w.alloc (.cells #[.slice ap a.P.length cp, .int .i64 a.n, .slice ai a.I.length ci, .slice ae a.E.length ce, .slice af a.F.length cf] 47)).alloc (.cells #[.slice ap a.P.length cp, .int .i64 a.n, .slice ai a.I.length ci, .slice ae a.E.length ce, .slice (some ⟨w.heap.size + 1 + 1, 0, none⟩) 1 1] 87)).alloc (.cells #[.slice af a.F.length cf] 43)) none := gb_trans (gb_trans (World.grownBy_alloc _ _ none) (World.grownBy_alloc _ _ none) (Or.inl rfl)) (World.grownBy_alloc _ _ none) (Or.inl rfl)
  have hb3 := (Below.heap_alloc ((w.alloc (.cells #[.slice ap a.P.length cp, .int .i64 a.n, .slice ai a.I.length ci, .slice ae a.E.length ce, .slice af a.F.length cf] 47)).alloc (.cells #[.slice ap a.P.length cp, .int .i64 a.n, .slice ai a.I.length ci, .slice ae a.E.length ce, .slice (some ⟨w.heap.size + 1 + 1, 0, none⟩) 1 1] 87)) (.cells #[.slice af a.F.length cf] 43) (w.heap.size + 1) (by simp [World.size_alloc])).trans hb1
  rw [World.size_alloc, World.size_alloc] at hb2
  refine bodyPost_ret (results_gen rfl _ _ _ _ rfl hb3 rfl) rfl ?_
  refine ⟨_, rfl, ⟨some ⟨w.heap.size + 1 + 1, 0, none⟩, 1, rfl, Nat.le_refl _, (by show 1 ≤ 17592186043904; decide), Or.inr ⟨_, _, rfl, fun k hk => ?_⟩⟩, hg⟩
  have hk1 : k < 1 := hk
  obtain rfl : k = 0 := by omega
  refine ⟨.slice af a.F.length cf, ?_, HA.out.f.kept hg⟩
  simp only [World.cell?, hb2]
  rfl
set_option maxHeartbeats 4000000 in
theorem check_any (vp vi ve vf : Value) (a : Aut) (w : World) (h : AutAt w vp vi ve vf a) :
    Calls Try.prog 49 #[autV vp vi ve vf a.n] w fun e w' => e = .returned (.int .i64 (chkA a)) ∧ w.grownBy w' none := by
  have HA := Lib.hid h
  have HG : Hid (∀ wx, w.grownBy wx none → Calls Try.prog 98 #[autV vp vi ve vf a.n] wx fun e w' => ∃ vs, e = .returned (.agg #[vp, .int .i64 a.n, vi, ve, vs]) ∧ RowsAt2 w' vs [a.F] ∧ wx.grownBy w' none) := Lib.hid fun wx hg => general_any vp vi ve vf a wx (HA.out.kept hg)
  have HC : Hid (∀ wx vs, w.grownBy wx none → RowsAt2 wx vs [a.F] → Calls Try.prog 37 #[.agg #[vp, .int .i64 a.n, vi, ve, vs]] wx fun e w' => e = .returned (.int .i64 (chkA a)) ∧ wx.grownBy w' none) := Lib.hid fun wx vs hg hr => checkg_any vp vi ve vs a.P a.n a.I a.E [a.F] wx (HA.out.p.kept hg) (HA.out.i.kept hg) (HA.out.e.kept hg) hr
  obtain ⟨ap, cp, rfl, _⟩ := h.p
  obtain ⟨ai, ci, rfl, _⟩ := h.i
  obtain ⟨ae, ce, rfl, _⟩ := h.e
  obtain ⟨af, cf, rfl, _⟩ := h.f
  clear h
  have hga := World.grownBy_alloc w (.cells #[.slice ap a.P.length cp, .int .i64 a.n, .slice ai a.I.length ci, .slice ae a.E.length ce, .slice af a.F.length cf] 47) none
  unfold autV at HG ⊢
  go_enter Try.func49, Try.ntmps49
  go_wp2_with fail
  refine (HG.out _ hga).mono ?_
  rintro e w1 ⟨vs, rfl, hr, hg1⟩
  have hg := gb_trans hga hg1 (Or.inl rfl)
  have HR := Lib.hid (HC.out w1 vs hg hr)
  obtain ⟨az, cz, rfl, _⟩ := hr
  go_wp2_with fail
  refine HR.out.mono ?_
  rintro e w2 ⟨rfl, hg2⟩
  go_wp2_with fail
  go_ret
  exact ⟨rfl, gb_trans hg hg2 (Or.inl rfl)⟩
end Go.Proofs.Ytcdepblajobemaa
namespace Go.Proofs.Ytcdepblajobemaa
open Go.RowKit

theorem bit_has (x s : Nat) (hx : x < 18446744073709551616) : (bits .and .u64 ((x : Int) / 2 ^ s) 1 == 1) = x.testBit s := by
  have e : ((x : Int) / 2 ^ s) = ((x / 2 ^ s : Nat) : Int) := by simp
  have hle : x / 2 ^ s ≤ x := Nat.div_le_self _ _
  rw [e, show (1 : Int) = ((1 : Nat) : Int) from rfl, u64_and_nat _ _ (by omega) (by decide), Nat.and_one_is_mod]
  rw [Nat.testBit_eq_decide_div_mod_eq]
  rw [Bool.eq_iff_iff]
  simp
  omega

set_option maxHeartbeats 1000000 in
theorem has_yes (i p g cap n : Nat) (L : List Nat) (w : World) (h : SetAt w p g cap n L) (h1 : i < n) :
    Calls Try.prog 68 #[.pointer (some ⟨p, 0, none⟩), .int .i64 (i : Int)] w fun e w' => e = .returned (.bool (bit L i)) ∧ w = w' := by
  have hm := h.max
  have hW := h.cellW
  have hl := h.len
  have hc := h.cell (i / 64) (by omega)
  have hi2 : i / 64 < L.length := by omega
  have hb := bit_has _ (i % 64) (h.wd (i / 64))
  have HB := Lib.hid (show bit L i = (L.getD (i / 64) 0).testBit (i % 64) from rfl)
  generalize bit L i = r at HB ⊢
  rw [← HB.out] at hb
  generalize L.getD (i / 64) 0 = x at hc hb
  go_enter Try.func68, Try.ntmps68
  go_wp2_with (go_at_call 97; refine (in_yes _ _ _ _ _ _ _ h h1).mono ?_; rintro e w' ⟨rfl, rfl⟩)
  go_ret
  exact ⟨rfl, rfl⟩
set_option maxHeartbeats 1000000 in
theorem has_no (i : Int) (p g cap n : Nat) (L : List Nat) (w : World) (h : SetAt w p g cap n L) (h1 : i < 0 ∨ n ≤ i) :
    Calls Try.prog 68 #[.pointer (some ⟨p, 0, none⟩), .int .i64 i] w fun e w' => e = .returned (.bool false) ∧ w = w' := by
  go_enter Try.func68, Try.ntmps68
  go_wp2_with (go_at_call 97; refine (in_no _ _ _ _ _ _ _ h h1).mono ?_; rintro e w' ⟨rfl, rfl⟩)
  go_ret
  exact ⟨rfl, rfl⟩

/-- Has a set a number? -/
def hasI (n : Nat) (L : List Nat) (i : Int) : Bool := if 0 ≤ i ∧ i < n then bit L i.toNat else false
theorem has_any (i : Int) (p g cap n : Nat) (L : List Nat) (w : World) (h : SetAt w p g cap n L) :
    Calls Try.prog 68 #[.pointer (some ⟨p, 0, none⟩), .int .i64 i] w fun e w' => e = .returned (.bool (hasI n L i)) ∧ w = w' := by
  unfold hasI
  by_cases hi : 0 ≤ i ∧ i < n
  · obtain ⟨j, rfl⟩ := Int.eq_ofNat_of_zero_le hi.1
    rw [if_pos hi]
    exact has_yes j p g cap n L w h (by omega)
  · rw [if_neg hi]
    exact has_no i p g cap n L w h (by omega)
/-- Does an edge go by a letter? -/
def goesB (e : Edg) (l : Nat) : Bool := decide (l &&& e.mu = e.mu) && decide (l &&& e.no = 0)
def stepOne (n : Nat) (L : List Nat) (l : Nat) (M : List Nat) (e : Edg) : List Nat := if (goesB e l && hasI n L e.fr) = true then put1 n M e.tt else M
/-- The states behind some. -/
def stepF (n : Nat) (E : List Edg) (L : List Nat) (l : Nat) : List Nat := E.foldl (stepOne n L l) (List.replicate ((n + 63) / 64) 0)
theorem step_take {n : Nat} {E : List Edg} {L : List Nat} {l k : Nat} (h : k < E.length) : stepF n (E.take (k + 1)) L l = stepOne n L l (stepF n (E.take k) L l) (E.getD k edg0) := by
  unfold stepF
  rw [List.take_succ_eq_append_getElem h, List.foldl_append, List.getD_eq_getElem?_getD, List.getElem?_eq_getElem h]
  rfl
set_option maxHeartbeats 4000000 in
theorem step_any (vp vi ve vf : Value) (a : Aut) (n : Nat) (hn : a.n = (n : Int)) (h65 : n ≤ 65536) (p g cap : Nat) (L : List Nat) (l : Nat) (hl : l ≤ 65535) (w : World) (h : AutAt w vp vi ve vf a) (hs : SetAt w p g cap n L) :
    Calls Try.prog 57 #[autV vp vi ve vf a.n, .pointer (some ⟨p, 0, none⟩), .int .u16 (l : Int)] w (Made w n (stepF n a.E L l)) := by
  have HA := Lib.hid h
  have HS := Lib.hid hs
  obtain ⟨ap, cp, rfl, _⟩ := h.p
  obtain ⟨ai, ci, rfl, _⟩ := h.i
  obtain ⟨ae, ce, rfl, hce, hbe, hle, _⟩ := h.e
  obtain ⟨af, cf, rfl, _⟩ := h.f
  have HBe := Lib.hid hbe
  have HNw := Lib.hid (fun w => new_yes n w h65)
  clear h hs hbe
  rw [hn]
  clear hn
  have hga := World.grownBy_alloc w (.cells #[.slice ap a.P.length cp, .int .i64 (n : Int), .slice ai a.I.length ci, .slice ae a.E.length ce, .slice af a.F.length cf] 47) none
  have hba := heap_alloc_new w (.cells #[.slice ap a.P.length cp, .int .i64 (n : Int), .slice ai a.I.length ci, .slice ae a.E.length ce, .slice af a.F.length cf] 47)
  unfold autV
  go_enter Try.func57, Try.ntmps57
  go_wp2_with fail
  refine (HNw.out _).mono ?_
  rintro e w1 ⟨p1, g1, c1, rfl, hp1, hg1, hs1, hgr1⟩
  have c3 : w1.cell? ⟨w.heap.size, 3, none⟩ = some (.slice ae a.E.length ce) := by
    have : (w.alloc (.cells #[.slice ap a.P.length cp, .int .i64 (n : Int), .slice ai a.I.length ci, .slice ae a.E.length ce, .slice af a.F.length cf] 47)).cell? ⟨w.heap.size, 3, none⟩ = some (.slice ae a.E.length ce) := by simp only [World.cell?, hba]; rfl
    exact hgr1.cell this (by simp)
  have HG1 := Lib.hid (gb_trans hga hgr1 (Or.inl rfl))
  have HS1 := Lib.hid hs1
  have hw1 : w.heap.size ≤ p1 ∧ w.heap.size ≤ g1 := by rw [World.size_alloc] at hp1 hg1; omega
  clear hs1 hgr1 hga hba hp1 hg1
  go_wp2_with fail
  go_loopw [16] (fun i wr => ∃ k : Nat, k ≤ a.E.length ∧ i = .int .i64 (k : Int) ∧ Hid (SetAt wr p1 g1 c1 n (stepF n (a.E.take k) L l)) ∧ Hid (w.grownBy wr none)) (fun i _ => a.E.length - (intOf i).toNat)
  case atStart => exact ⟨0, Nat.zero_le _, rfl, HS1, HG1⟩
  case round =>
    obtain ⟨k, hk, rfl, HSr, HG⟩ := hrel
    by_cases hlt : k < a.E.length
    · have hkI : (k : Int) < (a.E.length : Int) := by omega
      obtain ⟨_, _, e1, _, _, _, hc⟩ := HA.out.e.kept HG.out
      cases e1
      rcases hc with hc | ⟨b, off, rfl, hc⟩
      · rw [hc] at hlt; exact absurd hlt (by simp)
      obtain ⟨d0, d1, d2, d3⟩ := hc k hlt
      obtain ⟨⟨r1, r2⟩, ⟨r3, r4⟩, r5, r6⟩ := HBe.out k hlt
      have HT := Lib.hid (step_take (n := n) (L := L) (l := l) hlt)
      clear hc
      generalize a.E.getD k edg0 = x at d0 d1 d2 d3 r1 r2 r3 r4 r5 r6 HT
      generalize stepF n (a.E.take k) L l = M at HSr HT
      obtain ⟨M', HT0⟩ : ∃ M', Hid (stepF n (a.E.take (k + 1)) L l = M') := ⟨_, rfl⟩
      rw [HT0.out] at HT
      have hbx := heap_alloc_new wr (.cells #[.int .i64 x.fr, .int .i64 x.tt, .int .u16 (x.mu : Int), .int .u16 (x.no : Int)] 61)
      have hgx := World.grownBy_alloc wr (.cells #[.int .i64 x.fr, .int .i64 x.tt, .int .u16 (x.mu : Int), .int .u16 (x.no : Int)] 61) none
      have z1 : bits .and .u16 (l : Int) (x.mu : Int) = ((l &&& x.mu : Nat) : Int) := u16_and_nat _ _ (by omega) (by omega)
      have z2 : bits .and .u16 (l : Int) (x.no : Int) = ((l &&& x.no : Nat) : Int) := u16_and_nat _ _ (by omega) (by omega)
      have HHx : Hid (∀ wx, w.grownBy wx none → Calls Try.prog 68 #[.pointer (some ⟨p, 0, none⟩), .int .i64 x.fr] wx fun e w' => e = .returned (.bool (hasI n L x.fr)) ∧ wx = w') := Lib.hid fun wx hx => has_any x.fr p g cap n L wx (HS.out.kept hx (by simp) (by simp))
      have HGx : Hid (w.grownBy (wr.alloc (.cells #[.int .i64 x.fr, .int .i64 x.tt, .int .u16 (x.mu : Int), .int .u16 (x.no : Int)] 61)) none) := Lib.hid (gb_trans HG.out hgx (Or.inl rfl))
      have HSx : Hid (SetAt (wr.alloc (.cells #[.int .i64 x.fr, .int .i64 x.tt, .int .u16 (x.mu : Int), .int .u16 (x.no : Int)] 61)) p1 g1 c1 n M) := Lib.hid (HSr.out.kept hgx (by simp) (by simp))
      have HO : Hid (stepOne n L l M x = if (goesB x l && hasI n L x.fr) = true then put1 n M x.tt else M) := Lib.hid rfl
      have HGo : Hid (goesB x l = (decide (l &&& x.mu = x.mu) && decide (l &&& x.no = 0))) := Lib.hid rfl
      generalize goesB x l = gb at HO HGo
      generalize hasI n L x.fr = hb at HHx HO
      generalize stepOne n L l M x = M1 at HT HO
      obtain ⟨b0, b1, b2, b3⟩ := edge_cells hbx
      by_cases q1 : l &&& x.mu = x.mu
      · rw [q1] at z1
        by_cases q2 : l &&& x.no = 0
        · rw [q2] at z2
          have HGb : Hid (gb = true) := Lib.hid (by rw [HGo.out, decide_eq_true q1, decide_eq_true q2]; rfl)
          clear q1 q2 HGo
          cases hb
          · have HM1 : Hid (M1 = M) := Lib.hid (by rw [HO.out, Bool.and_false]; rfl)
            clear HO
            go_wp2_with (go_at_call 68; refine (HHx.out _ HGx.out).mono ?_; rintro e w2 ⟨rfl, rfl⟩)
            exact ⟨⟨k + 1, by omega, by go_num, Lib.hid (by rw [HT0.out, HT.out, HM1.out]; exact HSx.out), HGx⟩, by simp [intOf]; omega⟩
          · have HM1 : Hid (M1 = put1 n M x.tt) := Lib.hid (by rw [HO.out, HGb.out]; rfl)
            clear HO
            go_wp2_with (first | (go_at_call 68; refine (HHx.out _ HGx.out).mono ?_; rintro e w2 ⟨rfl, rfl⟩) | (go_at_call 48; refine (put_any x.tt p1 g1 c1 n M _ HSx.out).mono ?_; rintro e w3 ⟨rfl, hs3, hg3⟩))
            exact ⟨⟨k + 1, by omega, by go_num, Lib.hid (by rw [HT0.out, HT.out, HM1.out]; exact hs3), Lib.hid (gb_trans HGx.out hg3 (Or.inr (Or.inr ⟨_, rfl, hw1.2⟩)))⟩, by simp [intOf]; omega⟩
        · have HM1 : Hid (M1 = M) := Lib.hid (by rw [HO.out, HGo.out, decide_eq_false q2, Bool.and_false]; rfl)
          have t2 : (((l &&& x.no : Nat) : Int) == 0) = false := by simpa using q2
          clear q1 q2 HGo HO
          go_wp2_with fail
          exact ⟨⟨k + 1, by omega, by go_num, Lib.hid (by rw [HT0.out, HT.out, HM1.out]; exact HSx.out), HGx⟩, by simp [intOf]; omega⟩
      · have HM1 : Hid (M1 = M) := Lib.hid (by rw [HO.out, HGo.out, decide_eq_false q1]; rfl)
        have t2 : (((l &&& x.mu : Nat) : Int) == (x.mu : Int)) = false := by rw [beq_eq_false_iff_ne]; intro e; exact q1 (by omega)
        clear q1 HGo HO
        go_wp2_with fail
        exact ⟨⟨k + 1, by omega, by go_num, Lib.hid (by rw [HT0.out, HT.out, HM1.out]; exact HSx.out), HGx⟩, by simp [intOf]; omega⟩
    · obtain rfl : k = a.E.length := by omega
      have hkI : ¬ (a.E.length : Int) < (a.E.length : Int) := by omega
      have HF : Hid (SetAt wr p1 g1 c1 n (stepF n a.E L l)) := Lib.hid (by
        have h1 := HSr.out
        rw [List.take_length] at h1
        exact h1)
      go_wp2_with fail
      go_ret
      exact ⟨p1, g1, c1, rfl, hw1.1, hw1.2, HF.out, HG.out⟩
end Go.Proofs.Ytcdepblajobemaa
namespace Go.Proofs.Ytcdepblajobemaa
open Go.RowKit

theorem nodup_le : ∀ (N : Nat) (l : List Nat), l.Nodup → (∀ x ∈ l, x < N) → l.length ≤ N
  | 0, l, _, h => by
    cases l with
    | nil => simp
    | cons a t => exact absurd (h a (by simp)) (by omega)
  | N + 1, l, hd, h => by
    by_cases hN : N ∈ l
    · have h1 := nodup_le N (l.erase N) (hd.erase N) (fun x hx => by
        have h2 := (List.Nodup.mem_erase_iff hd).1 hx
        have h3 := h x h2.2
        have h4 := h2.1
        omega)
      rw [List.length_erase_of_mem hN] at h1
      omega
    · have h1 := nodup_le N l hd (fun x hx => by
        have h3 := h x hx
        have h4 : x ≠ N := fun e => hN (e ▸ hx)
        omega)
      omega

/-- A row more, if it is new. -/
def addR (Ls : List (List Nat)) (L : List Nat) : List (List Nat) := if L ∈ Ls then Ls else Ls ++ [L]
theorem addR_prefix (Ls : List (List Nat)) (L : List Nat) : Ls <+: addR Ls L := by
  unfold addR
  split
  · exact List.prefix_rfl
  · exact List.prefix_append _ _
theorem addR_mem (Ls : List (List Nat)) (L : List Nat) : L ∈ addR Ls L := by
  unfold addR
  split
  · assumption
  · simp
theorem addR_nodup {Ls : List (List Nat)} (L : List Nat) (h : Ls.Nodup) : (addR Ls L).Nodup := by
  unfold addR
  split
  · exact h
  · rename_i hn
    rw [List.nodup_append]
    exact ⟨h, by simp, fun a ha b hb => by simp at hb; subst hb; exact fun e => hn (e ▸ ha)⟩
theorem addR_all {S : List Nat → Prop} {Ls : List (List Nat)} {L : List Nat} (h : ∀ x ∈ Ls, S x) (hL : S L) : ∀ x ∈ addR Ls L, S x := by
  unfold addR
  split
  · exact h
  · intro x hx
    rcases List.mem_append.1 hx with hx | hx
    · exact h x hx
    · simp at hx; subst hx; exact hL

/-- The rows when l letters of one row are done. -/
def growR (T : List Nat → Nat → List Nat) (Ls : List (List Nat)) (L : List Nat) (l : Nat) : List (List Nat) := (List.range l).foldl (fun acc k => addR acc (T L k)) Ls
theorem growR_zero (T : List Nat → Nat → List Nat) (Ls : List (List Nat)) (L : List Nat) : growR T Ls L 0 = Ls := rfl
theorem growR_succ (T : List Nat → Nat → List Nat) (Ls : List (List Nat)) (L : List Nat) (l : Nat) : growR T Ls L (l + 1) = addR (growR T Ls L l) (T L l) := by
  unfold growR
  rw [List.range_succ, List.foldl_append]
  rfl
theorem growR_prefix (T : List Nat → Nat → List Nat) (Ls : List (List Nat)) (L : List Nat) (l : Nat) : ∀ m, l ≤ m → growR T Ls L l <+: growR T Ls L m := by
  intro m hm
  induction m with
  | zero => rw [show l = 0 by omega]; exact List.prefix_rfl
  | succ m ih =>
    by_cases he : l = m + 1
    · rw [he]; exact List.prefix_rfl
    · rw [growR_succ]
      exact (ih (by omega)).trans (addR_prefix _ _)
theorem growR_nodup {T : List Nat → Nat → List Nat} {Ls : List (List Nat)} {L : List Nat} (h : Ls.Nodup) (l : Nat) : (growR T Ls L l).Nodup := by
  induction l with
  | zero => exact h
  | succ l ih => rw [growR_succ]; exact addR_nodup _ ih
theorem growR_all {S : List Nat → Prop} {T : List Nat → Nat → List Nat} {Ls : List (List Nat)} {L : List Nat} (h : ∀ x ∈ Ls, S x) (hT : ∀ k, S (T L k)) (l : Nat) : ∀ x ∈ growR T Ls L l, S x := by
  induction l with
  | zero => exact h
  | succ l ih => rw [growR_succ]; exact addR_all ih (hT l)

/-- The rows when i rows are done, each by m letters. -/
def growN (T : List Nat → Nat → List Nat) (m : Nat) (first : List Nat) : Nat → List (List Nat)
  | 0 => [first]
  | i + 1 => if i < (growN T m first i).length then growR T (growN T m first i) ((growN T m first i).getD i []) m else growN T m first i
section
variable {T : List Nat → Nat → List Nat} {m : Nat} {first : List Nat}
theorem growN_go {i : Nat} (h : i < (growN T m first i).length) : growN T m first (i + 1) = growR T (growN T m first i) ((growN T m first i).getD i []) m := by
  rw [growN, if_pos h]
theorem growN_one (i : Nat) : growN T m first i <+: growN T m first (i + 1) := by
  rw [growN]
  split
  · exact growR_prefix T _ _ 0 m (Nat.zero_le _)
  · exact List.prefix_rfl
theorem growN_prefix (i : Nat) : ∀ j, i ≤ j → growN T m first i <+: growN T m first j := by
  intro j hj
  induction j with
  | zero => rw [show i = 0 by omega]; exact List.prefix_rfl
  | succ j ih =>
    by_cases he : i = j + 1
    · rw [he]; exact List.prefix_rfl
    · exact (ih (by omega)).trans (growN_one j)
theorem growN_stop {i : Nat} (h : (growN T m first i).length ≤ i) : ∀ j, i ≤ j → growN T m first j = growN T m first i := by
  intro j hj
  induction j with
  | zero => rw [show i = 0 by omega]
  | succ j ih =>
    by_cases he : i = j + 1
    · rw [he]
    · have h1 := ih (by omega)
      rw [growN, if_neg (by rw [h1]; omega), h1]
theorem growN_nodup (i : Nat) : (growN T m first i).Nodup := by
  induction i with
  | zero => simp [growN]
  | succ i ih =>
    rw [growN]
    split
    · exact growR_nodup ih m
    · exact ih
theorem growN_all {S : List Nat → Prop} (h0 : S first) (hT : ∀ L, S L → ∀ k, S (T L k)) (i : Nat) : ∀ x ∈ growN T m first i, S x := by
  induction i with
  | zero => intro x hx; simp [growN] at hx; subst hx; exact h0
  | succ i ih =>
    rw [growN]
    split
    · rename_i hl
      refine growR_all ih (hT _ ?_) m
      rw [List.getD_eq_getElem?_getD, List.getElem?_eq_getElem hl]
      exact ih _ (List.getElem_mem hl)
    · exact ih
theorem growN_pos (i : Nat) : 0 < (growN T m first i).length := Nat.lt_of_lt_of_le (by simp [growN]) (growN_prefix 0 i (Nat.zero_le _)).length_le
end

/-- Sets of few numbers. -/
def Small (n : Nat) (L : List Nat) : Prop := L.length = (n + 63) / 64 ∧ L.getD 0 0 < 2 ^ n
theorem small_le {n : Nat} (hn : n ≤ 64) {Ls : List (List Nat)} (hd : Ls.Nodup) (h : ∀ x ∈ Ls, Small n x) : Ls.length ≤ 2 ^ n := by
  have h1 : (Ls.map fun L => L.getD 0 0).Nodup := by
    rw [List.nodup_iff_pairwise_ne, List.pairwise_map]
    refine List.Pairwise.imp_of_mem ?_ (List.nodup_iff_pairwise_ne.1 hd)
    intro a b ha hb hab e
    obtain ⟨la, -⟩ := h a ha
    obtain ⟨lb, -⟩ := h b hb
    apply hab
    apply List.ext_getElem (by omega)
    intro k ka kb
    have hk : k = 0 := by omega
    subst hk
    simpa [List.getD_eq_getElem?_getD, List.getElem?_eq_getElem ka, List.getElem?_eq_getElem kb] using e
  have h2 := nodup_le (2 ^ n) _ h1 (by
    intro x hx
    obtain ⟨L, hL, rfl⟩ := List.mem_map.1 hx
    exact (h L hL).2)
  simpa using h2
end Go.Proofs.Ytcdepblajobemaa
namespace Go.Proofs.Ytcdepblajobemaa
open Go.RowKit

def minF (A : List Int) (k : Nat) : Int := (A.take k).foldl (fun a b => if b < a then b else a) (A.getD 0 0)
theorem minF_one {A : List Int} (h : 0 < A.length) : minF A 1 = A.getD 0 0 := by
  cases A with
  | nil => simp at h
  | cons a t => simp [minF]
theorem minF_succ {A : List Int} {k : Nat} (h : k < A.length) : minF A (k + 1) = if A.getD k 0 < minF A k then A.getD k 0 else minF A k := by
  unfold minF
  rw [List.take_succ_eq_append_getElem h, List.foldl_append, List.getD_eq_getElem?_getD (l := A) (i := k), List.getElem?_eq_getElem h]
  rfl
theorem minF_le {A : List Int} : ∀ {k : Nat}, k ≤ A.length → 0 < k → (∃ j, j < k ∧ minF A k = A.getD j 0) ∧ ∀ j, j < k → minF A k ≤ A.getD j 0
  | 0, _, h => absurd h (by omega)
  | k + 1, hk, _ => by
    by_cases h0 : k = 0
    · subst h0
      rw [minF_one (by omega)]
      exact ⟨⟨0, by omega, rfl⟩, fun j hj => by rw [show j = 0 by omega]; exact Int.le_refl _⟩
    · obtain ⟨⟨j, hj, he⟩, hl⟩ := minF_le (A := A) (k := k) (by omega) (by omega)
      rw [minF_succ (by omega)]
      split
      · rename_i hlt
        refine ⟨⟨k, by omega, rfl⟩, fun j' hj' => ?_⟩
        by_cases e : j' = k
        · rw [e]; exact Int.le_refl _
        · have := hl j' (by omega); omega
      · rename_i hlt
        refine ⟨⟨j, by omega, he⟩, fun j' hj' => ?_⟩
        by_cases e : j' = k
        · rw [e]; omega
        · exact hl j' (by omega)
set_option maxHeartbeats 1000000 in
theorem min_any (v : Value) (A : List Int) (h0 : 0 < A.length) (w : World) (h : IntsAt w v A) :
    Calls Try.prog 38 #[v] w fun e w' => e = .returned (.int .i64 (minF A A.length)) ∧ w = w' := by
  obtain ⟨a, cap, rfl, h1, h2, h3⟩ := h
  rcases h3 with h3 | ⟨b, off, rfl, h3⟩
  · rw [h3] at h0; exact absurd h0 (by simp)
  have c0 := h3 0 h0
  rw [Nat.add_zero] at c0
  have H3 := Lib.hid h3
  have H1 := Lib.hid h1
  have hne : ¬ (A.length : Int) < 1 := by omega
  clear h3 h1
  have HO := Lib.hid (minF_one h0)
  generalize A.getD 0 0 = x0 at c0 HO
  go_enter Try.func38, Try.ntmps38
  go_wp2_with fail
  go_loopw [3, 4] (fun m i wr => ∃ k : Nat, 1 ≤ k ∧ k ≤ A.length ∧ i = .int .i64 (k : Int) ∧ m = .int .i64 (minF A k) ∧ wr = w) (fun _ i _ => A.length - (intOf i).toNat)
  case atStart => exact ⟨1, by omega, by omega, rfl, by rw [HO.out], rfl⟩
  case round =>
    obtain ⟨k, hk1, hk, rfl, rfl, rfl⟩ := hrel
    by_cases hlt : k < A.length
    · have hkI : (k : Int) < (A.length : Int) := by omega
      have HT := Lib.hid (minF_succ hlt)
      have c1 := H3.out k hlt
      have c2 := H1.out k hlt
      generalize A.getD k 0 = x at HT c1 c2
      obtain ⟨M', HM'⟩ : ∃ M', Hid (minF A (k + 1) = M') := ⟨_, rfl⟩
      rw [HM'.out] at HT
      generalize minF A k = m at HT
      by_cases hxm : x < m
      · have HX : Hid (M' = x) := Lib.hid (by rw [HT.out, if_pos hxm])
        clear HT
        go_wp2_with fail
        exact ⟨⟨k + 1, by omega, by omega, by go_num, by rw [HM'.out, HX.out], trivial⟩, by simp [intOf]; omega⟩
      · have HX : Hid (M' = m) := Lib.hid (by rw [HT.out, if_neg hxm])
        clear HT
        go_wp2_with fail
        exact ⟨⟨k + 1, by omega, by omega, by go_num, by rw [HM'.out, HX.out], trivial⟩, by simp [intOf]; omega⟩
    · obtain rfl : k = A.length := by omega
      have hkI : ¬ (A.length : Int) < (A.length : Int) := by omega
      go_wp2_with fail
      go_ret
      exact ⟨rfl, rfl⟩
def maxF (A : List Int) (k : Nat) : Int := (A.take k).foldl (fun a b => if a < b then b else a) (A.getD 0 0)
theorem maxF_one {A : List Int} (h : 0 < A.length) : maxF A 1 = A.getD 0 0 := by
  cases A with
  | nil => simp at h
  | cons a t => simp [maxF]
theorem maxF_succ {A : List Int} {k : Nat} (h : k < A.length) : maxF A (k + 1) = if maxF A k < A.getD k 0 then A.getD k 0 else maxF A k := by
  unfold maxF
  rw [List.take_succ_eq_append_getElem h, List.foldl_append, List.getD_eq_getElem?_getD (l := A) (i := k), List.getElem?_eq_getElem h]
  rfl
theorem maxF_le {A : List Int} : ∀ {k : Nat}, k ≤ A.length → 0 < k → (∃ j, j < k ∧ maxF A k = A.getD j 0) ∧ ∀ j, j < k → A.getD j 0 ≤ maxF A k
  | 0, _, h => absurd h (by omega)
  | k + 1, hk, _ => by
    by_cases h0 : k = 0
    · subst h0
      rw [maxF_one (by omega)]
      exact ⟨⟨0, by omega, rfl⟩, fun j hj => by rw [show j = 0 by omega]; exact Int.le_refl _⟩
    · obtain ⟨⟨j, hj, he⟩, hl⟩ := maxF_le (A := A) (k := k) (by omega) (by omega)
      rw [maxF_succ (by omega)]
      split
      · rename_i hlt
        refine ⟨⟨k, by omega, rfl⟩, fun j' hj' => ?_⟩
        by_cases e : j' = k
        · rw [e]; exact Int.le_refl _
        · have := hl j' (by omega); omega
      · rename_i hlt
        refine ⟨⟨j, by omega, he⟩, fun j' hj' => ?_⟩
        by_cases e : j' = k
        · rw [e]; omega
        · exact hl j' (by omega)
set_option maxHeartbeats 1000000 in
theorem max_any (v : Value) (A : List Int) (h0 : 0 < A.length) (w : World) (h : IntsAt w v A) :
    Calls Try.prog 39 #[v] w fun e w' => e = .returned (.int .i64 (maxF A A.length)) ∧ w = w' := by
  obtain ⟨a, cap, rfl, h1, h2, h3⟩ := h
  rcases h3 with h3 | ⟨b, off, rfl, h3⟩
  · rw [h3] at h0; exact absurd h0 (by simp)
  have c0 := h3 0 h0
  rw [Nat.add_zero] at c0
  have H3 := Lib.hid h3
  have H1 := Lib.hid h1
  have hne : ¬ (A.length : Int) < 1 := by omega
  clear h3 h1
  have HO := Lib.hid (maxF_one h0)
  generalize A.getD 0 0 = x0 at c0 HO
  go_enter Try.func39, Try.ntmps39
  go_wp2_with fail
  go_loopw [3, 4] (fun m i wr => ∃ k : Nat, 1 ≤ k ∧ k ≤ A.length ∧ i = .int .i64 (k : Int) ∧ m = .int .i64 (maxF A k) ∧ wr = w) (fun _ i _ => A.length - (intOf i).toNat)
  case atStart => exact ⟨1, by omega, by omega, rfl, by rw [HO.out], rfl⟩
  case round =>
    obtain ⟨k, hk1, hk, rfl, rfl, rfl⟩ := hrel
    by_cases hlt : k < A.length
    · have hkI : (k : Int) < (A.length : Int) := by omega
      have HT := Lib.hid (maxF_succ hlt)
      have c1 := H3.out k hlt
      have c2 := H1.out k hlt
      generalize A.getD k 0 = x at HT c1 c2
      obtain ⟨M', HM'⟩ : ∃ M', Hid (maxF A (k + 1) = M') := ⟨_, rfl⟩
      rw [HM'.out] at HT
      generalize maxF A k = m at HT
      by_cases hxm : m < x
      · have HX : Hid (M' = x) := Lib.hid (by rw [HT.out, if_pos hxm])
        clear HT
        go_wp2_with fail
        exact ⟨⟨k + 1, by omega, by omega, by go_num, by rw [HM'.out, HX.out], trivial⟩, by simp [intOf]; omega⟩
      · have HX : Hid (M' = m) := Lib.hid (by rw [HT.out, if_neg hxm])
        clear HT
        go_wp2_with fail
        exact ⟨⟨k + 1, by omega, by omega, by go_num, by rw [HM'.out, HX.out], trivial⟩, by simp [intOf]; omega⟩
    · obtain rfl : k = A.length := by omega
      have hkI : ¬ (A.length : Int) < (A.length : Int) := by omega
      go_wp2_with fail
      go_ret
      exact ⟨rfl, rfl⟩
end Go.Proofs.Ytcdepblajobemaa
namespace Go.Proofs.Ytcdepblajobemaa
open Go.RowKit

def BoolsAt (w : World) (v : Value) (B : List Bool) : Prop :=
  ∃ a cap, v = .slice a B.length cap ∧ B.length ≤ cap ∧ B.length ≤ 140737488351232 ∧
    (B = [] ∨ ∃ b off, a = some ⟨b, off, none⟩ ∧ ∀ k, k < B.length → w.cell? ⟨b, off + k, none⟩ = some (.bool (B.getD k false)))
theorem BoolsAt.kept {w w' : World} {v : Value} {B : List Bool} (h : BoolsAt w v B) (hg : w.grownBy w' none) : BoolsAt w' v B := by
  obtain ⟨a, cap, rfl, h0, h1, h3⟩ := h
  refine ⟨a, cap, rfl, h0, h1, ?_⟩
  rcases h3 with h3 | ⟨b, off, rfl, h3⟩
  · exact Or.inl h3
  · exact Or.inr ⟨b, off, rfl, fun k hk => hg.cell (h3 k hk) (by simp)⟩
/-- An automaton over finite words. -/
structure Dfa where
  P : List ByteArray
  R : List (List Int)
  B : List Bool
structure DfaAt (w : World) (vp vn vl : Value) (d : Dfa) : Prop where
  p : TextsAt w vp d.P
  r : RowsAt2 w vn d.R
  b : BoolsAt w vl d.B
theorem DfaAt.kept {w w' : World} {vp vn vl : Value} {d : Dfa} (h : DfaAt w vp vn vl d) (hg : w.grownBy w' none) : DfaAt w' vp vn vl d := ⟨h.p.kept hg, h.r.kept hg, h.b.kept hg⟩
def rowB (m N : Nat) (A : List Int) : Bool := decide (A.length = 2 ^ m) && (decide (0 ≤ minF A A.length) && decide (maxF A A.length < N))
def dOk (d : Dfa) : Bool := namesF d.P && (decide (d.R.length ≠ 0) && (decide (d.B.length = d.R.length) && (List.range d.R.length).all fun k => rowB d.P.length d.R.length (d.R.getD k [])))
def dErr (d : Dfa) : Int := if dOk d = true then 0 else 130
theorem dErr_bad {d : Dfa} (h : namesF d.P = false ∨ d.R.length = 0 ∨ d.B.length ≠ d.R.length ∨ ∃ k, k < d.R.length ∧ rowB d.P.length d.R.length (d.R.getD k []) = false) : dErr d = 130 := by
  unfold dErr
  rw [if_neg]
  intro hm
  unfold dOk at hm
  simp only [Bool.and_eq_true, decide_eq_true_eq, List.all_eq_true, List.mem_range] at hm
  obtain ⟨h1, h2, h3, h4⟩ := hm
  rcases h with h | h | h | ⟨s, hs, h⟩
  · rw [h] at h1; cases h1
  · exact h2 h
  · exact h h3
  · rw [h4 s hs] at h; cases h
theorem dErr_good {d : Dfa} (h1 : namesF d.P = true) (h2 : d.R.length ≠ 0) (h3 : d.B.length = d.R.length) (h4 : ∀ k, k < d.R.length → rowB d.P.length d.R.length (d.R.getD k []) = true) : dErr d = 0 := by
  unfold dErr
  rw [if_pos]
  unfold dOk
  simp only [Bool.and_eq_true, decide_eq_true_eq, List.all_eq_true, List.mem_range]
  exact ⟨h1, h2, h3, h4⟩
theorem names_len {P : List ByteArray} (h : namesF P = true) : P.length ≤ 8 := by
  unfold namesF at h
  simp only [Bool.and_eq_true, decide_eq_true_eq] at h
  exact h.2
theorem chk_names (P : List ByteArray) : chkG P 0 [] [] [] = if namesF P = true then 0 else 100 := by
  unfold chkG rightF
  simp [risingF]
theorem wrap_pow : ∀ n : Nat, n ≤ 8 → wrap64 ((2 : Int) ^ n) = ((2 ^ n : Nat) : Int) := by decide +kernel
theorem pow_le {n : Nat} (h : n ≤ 8) : 2 ^ n ≤ 256 := Nat.pow_le_pow_right (by decide) h
theorem cell3_0 (w : World) (a b c : Value) (t : TypeId) : (w.alloc (.cells #[a, b, c] t)).cell? ⟨w.heap.size, 0, none⟩ = some a := by unfold World.cell?; rw [show (w.alloc (.cells #[a, b, c] t)).heap[w.heap.size]? = some (.cells #[a, b, c] t (0, 0)) from heap_alloc_new _ _]; rfl
theorem cell3_1 (w : World) (a b c : Value) (t : TypeId) : (w.alloc (.cells #[a, b, c] t)).cell? ⟨w.heap.size, 1, none⟩ = some b := by unfold World.cell?; rw [show (w.alloc (.cells #[a, b, c] t)).heap[w.heap.size]? = some (.cells #[a, b, c] t (0, 0)) from heap_alloc_new _ _]; rfl
theorem cell3_2 (w : World) (a b c : Value) (t : TypeId) : (w.alloc (.cells #[a, b, c] t)).cell? ⟨w.heap.size, 2, none⟩ = some c := by unfold World.cell?; rw [show (w.alloc (.cells #[a, b, c] t)).heap[w.heap.size]? = some (.cells #[a, b, c] t (0, 0)) from heap_alloc_new _ _]; rfl

set_option maxHeartbeats 4000000 in
theorem right_any (vp vn vl : Value) (d : Dfa) (w : World) (h : DfaAt w vp vn vl d) :
    Calls Try.prog 14 #[.agg #[vp, vn, vl]] w fun e w' => e = .returned (.int .i64 (dErr d)) ∧ w.grownBy w' none := by
  obtain ⟨P, R, B⟩ := d
  obtain ⟨hP, hR, hB⟩ := h
  dsimp only at hP hR hB
  have hb0 := World.grownBy_alloc w (.cells #[vp, vn, vl] 27) none
  have HB0 := Lib.hid hb0
  have HC := Lib.hid (fun wx (hg : w.grownBy wx none) => checkg_any vp (.slice none 0 0) (.slice none 0 0) (.slice none 0 0) P 0 [] [] [] wx (hP.kept hg) ⟨none, 0, rfl, by simp, by simp, Or.inl rfl⟩ ⟨none, 0, rfl, by simp, by simp, by simp, Or.inl rfl⟩ ⟨none, 0, rfl, by simp, by simp, Or.inl rfl⟩)
  have HR := Lib.hid hR
  obtain ⟨ap, cp, rfl, _⟩ := hP
  obtain ⟨an, cn, rfl, _, hn1, _⟩ := hR
  obtain ⟨al, cl, rfl, _, hl1, _⟩ := hB
  have hC1 := HC.out _ hb0
  rw [chk_names] at hC1
  have HBAD := Lib.hid (dErr_bad (d := ⟨P, R, B⟩))
  have HGOOD := Lib.hid (dErr_good (d := ⟨P, R, B⟩))
  dsimp only at HBAD HGOOD
  generalize dErr ⟨P, R, B⟩ = er at HBAD HGOOD ⊢
  clear HC
  by_cases hn : namesF P = true
  case neg =>
    have HE := Lib.hid (HBAD.out (Or.inl (by simpa using hn)))
    rw [if_neg hn] at hC1
    have HC1 := Lib.hid hC1
    clear hn hC1 hb0
    go_enter Try.func14, Try.ntmps14
    go_wp2_with (go_at_call 37; refine HC1.out.mono ?_; rintro e w' ⟨rfl, hg⟩; have c0 := hg.cell (cell3_0 w _ _ _ _) (by simp); have c1 := hg.cell (cell3_1 w _ _ _ _) (by simp); have c2 := hg.cell (cell3_2 w _ _ _ _) (by simp))
    go_ret
    exact ⟨by rw [HE.out]; rfl, gb_trans HB0.out hg (Or.inl rfl)⟩
  rw [if_pos hn] at hC1
  have HC1 := Lib.hid hC1
  have hpl := names_len hn
  have HN := Lib.hid hn
  clear hn hC1 hb0
  by_cases h0 : R.length = 0
  · have HE := Lib.hid (HBAD.out (Or.inr (Or.inl h0)))
    obtain rfl : R = [] := List.eq_nil_of_length_eq_zero h0
    clear h0
    go_enter Try.func14, Try.ntmps14
    go_wp2_with (go_at_call 37; refine HC1.out.mono ?_; rintro e w' ⟨rfl, hg⟩; have c0 := hg.cell (cell3_0 w _ _ _ _) (by simp); have c1 := hg.cell (cell3_1 w _ _ _ _) (by simp); have c2 := hg.cell (cell3_2 w _ _ _ _) (by simp))
    go_ret
    exact ⟨by rw [HE.out]; rfl, gb_trans HB0.out hg (Or.inl rfl)⟩
  have h0b : ((R.length : Int) == 0) = false := by rw [beq_eq_false_iff_ne]; omega
  have H0 := Lib.hid h0
  clear h0
  by_cases hne : B.length = R.length
  case neg =>
    have HE := Lib.hid (HBAD.out (Or.inr (Or.inr (Or.inl hne))))
    have hneb : ((B.length : Int) != (R.length : Int)) = true := by rw [bne_iff_ne]; omega
    clear hne
    go_enter Try.func14, Try.ntmps14
    go_wp2_with (go_at_call 37; refine HC1.out.mono ?_; rintro e w' ⟨rfl, hg⟩; have c0 := hg.cell (cell3_0 w _ _ _ _) (by simp); have c1 := hg.cell (cell3_1 w _ _ _ _) (by simp); have c2 := hg.cell (cell3_2 w _ _ _ _) (by simp))
    go_ret
    exact ⟨by rw [HE.out]; rfl, gb_trans HB0.out hg (Or.inl rfl)⟩
  have hneb : ((B.length : Int) != (R.length : Int)) = false := by rw [hne]; simp
  have HNE := Lib.hid hne
  clear hne
  go_enter Try.func14, Try.ntmps14
  go_wp2_with (go_at_call 37; refine HC1.out.mono ?_; rintro e w1 ⟨rfl, hg1⟩; have c0 := hg1.cell (cell3_0 w _ _ _ _) (by simp); have c1 := hg1.cell (cell3_1 w _ _ _ _) (by simp); have c2 := hg1.cell (cell3_2 w _ _ _ _) (by simp))
  go_loopw [28] (fun i wr => ∃ k : Nat, k ≤ R.length ∧ i = .int .i64 (k : Int) ∧ Hid (∀ j, j < k → rowB P.length R.length (R.getD j []) = true) ∧ w1.grownBy wr none) (fun i _ => R.length - (intOf i).toNat)
  case atStart => exact ⟨0, by omega, rfl, fun j h => absurd h (by omega), gb_refl _ _⟩
  case round =>
    obtain ⟨k, hk, rfl, HS, hG⟩ := hrel
    have hall := gb_trans HB0.out (gb_trans hg1 hG (Or.inl rfl)) (Or.inl rfl)
    by_cases hlt : k < R.length
    · have hkI : (k : Int) < (R.length : Int) := by omega
      have c0r := hG.cell c0 (by simp)
      have c1r := hG.cell c1 (by simp)
      obtain ⟨an', cn', hve, _, _, hn3⟩ := HR.out.kept hall
      cases hve
      rcases hn3 with rfl | ⟨bn, offn, rfl, hn3⟩
      · exact absurd hlt (by simp)
      obtain ⟨u, hu, hI⟩ := hn3 k hlt
      have HI := Lib.hid hI
      have HBk := Lib.hid (fun h => HBAD.out (Or.inr (Or.inr (Or.inr ⟨k, hlt, h⟩))))
      have HG : Hid (rowB P.length R.length (R.getD k []) = true → ∀ j, j < k + 1 → rowB P.length R.length (R.getD j []) = true) := Lib.hid fun h j hj => by
        rcases Nat.lt_or_ge j k with h1 | h1
        · exact HS.out j h1
        · obtain rfl : j = k := by omega
          exact h
      have HF := Lib.hid (show rowB P.length R.length (R.getD k []) = (decide ((R.getD k []).length = 2 ^ P.length) && (decide (0 ≤ minF (R.getD k []) (R.getD k []).length) && decide (maxF (R.getD k []) (R.getD k []).length < (R.length : Int)))) from rfl)
      generalize rowB P.length R.length (R.getD k []) = st at HBk HG HF
      generalize R.getD k [] = A at HF HI hI
      have HMn : Hid (0 < A.length → ∀ j, Calls Try.prog 38 #[u] (wr.drewN j) fun e w' => e = .returned (.int .i64 (minF A A.length)) ∧ w' = wr.drewN j) := Lib.hid fun h0 j => (min_any u A h0 _ (HI.out.kept (gb_drewN wr j none))).mono fun _ _ h => ⟨h.1, h.2.symm⟩
      have HMx : Hid (0 < A.length → ∀ j, Calls Try.prog 39 #[u] (wr.drewN j) fun e w' => e = .returned (.int .i64 (maxF A A.length)) ∧ w' = wr.drewN j) := Lib.hid fun h0 j => (max_any u A h0 _ (HI.out.kept (gb_drewN wr j none))).mono fun _ _ h => ⟨h.1, h.2.symm⟩
      obtain ⟨ar, cr, rfl, _, har, _⟩ := hI
      clear hn3 HR
      generalize minF A A.length = mn at HF HMn
      generalize maxF A A.length = mx at HF HMx
      by_cases hA : A.length = 2 ^ P.length
      case neg =>
        have HE := Lib.hid (HBk.out (by rw [HF.out, decide_eq_false hA, Bool.false_and]))
        have hAb : ((A.length : Int) != wrap64 ((2 : Int) ^ P.length)) = true := by rw [wrap_pow _ hpl, bne_iff_ne]; omega
        clear hA
        go_wp2_with fail
        go_quiet (fail)
        go_wp2
        go_ret
        exact ⟨by rw [HE.out]; rfl, gb_trans hall (gb_drewN _ _ none) (Or.inl rfl)⟩
      have hA0 : 0 < A.length := by rw [hA]; exact Nat.pow_pos (by decide)
      have hAb : ((A.length : Int) != wrap64 ((2 : Int) ^ P.length)) = false := by rw [wrap_pow _ hpl, hA]; simp
      have HMn2 := Lib.hid (HMn.out hA0)
      have HMx2 := Lib.hid (HMx.out hA0)
      have HF2 : Hid (st = (decide (0 ≤ mn) && decide (mx < (R.length : Int)))) := Lib.hid (by rw [HF.out, decide_eq_true hA, Bool.true_and])
      clear hA hA0 HMn HMx HF HI
      by_cases h1 : mn < 0
      · have HE := Lib.hid (HBk.out (by rw [HF2.out, decide_eq_false (by omega : ¬ 0 ≤ mn), Bool.false_and]))
        have hd1 : decide (mn < 0) = true := decide_eq_true h1
        clear h1
        go_wp2_with fail
        go_quiet ((go_at_call 38; exact Calls.quiet_of_same (HMn2.out _)))
        go_wp2
        go_ret
        exact ⟨by rw [HE.out]; rfl, gb_trans hall (gb_drewN _ _ none) (Or.inl rfl)⟩
      have hd1 : decide (mn < 0) = false := decide_eq_false h1
      have HF3 : Hid (st = decide (mx < (R.length : Int))) := Lib.hid (by rw [HF2.out, decide_eq_true (by omega : 0 ≤ mn), Bool.true_and])
      clear h1 HF2
      by_cases h2 : (R.length : Int) ≤ mx
      · have HE := Lib.hid (HBk.out (by rw [HF3.out, decide_eq_false (by omega : ¬ mx < (R.length : Int))]))
        have hd2 : decide ((R.length : Int) ≤ mx) = true := decide_eq_true h2
        clear h2
        go_wp2_with fail
        go_quiet (first | (go_at_call 38; exact Calls.quiet_of_same (HMn2.out _)) | (go_at_call 39; exact Calls.quiet_of_same (HMx2.out _)))
        go_wp2
        go_ret
        exact ⟨by rw [HE.out]; rfl, gb_trans hall (gb_drewN _ _ none) (Or.inl rfl)⟩
      have hd2 : decide ((R.length : Int) ≤ mx) = false := decide_eq_false h2
      have HG2 := Lib.hid (HG.out (by rw [HF3.out]; exact decide_eq_true (by omega)))
      clear h2
      go_wp2_with fail
      go_quiet (first | (go_at_call 38; exact Calls.quiet_of_same (HMn2.out _)) | (go_at_call 39; exact Calls.quiet_of_same (HMx2.out _)))
      go_wp2
      go_roundw
      case rel => exact ⟨k + 1, by omega, by go_num, HG2, gb_trans hG (gb_drewN _ _ none) (Or.inl rfl)⟩
      case measure => simp [intOf]; omega
    · obtain rfl : k = R.length := by omega
      have HE := Lib.hid (HGOOD.out HN.out H0.out HNE.out HS.out)
      go_wp2
      go_ret
      exact ⟨by rw [HE.out]; rfl, hall⟩
end Go.Proofs.Ytcdepblajobemaa
namespace Go.Proofs.Ytcdepblajobemaa
open Go.RowKit

def LettersAt (w : World) (v : Value) (U : List Nat) : Prop :=
  ∃ a cap, v = .slice a U.length cap ∧ (∀ k, k < U.length → U.getD k 0 ≤ 65535) ∧ U.length ≤ 70368744175616 ∧
    (U = [] ∨ ∃ b off, a = some ⟨b, off, none⟩ ∧ ∀ k, k < U.length → w.cell? ⟨b, off + k, none⟩ = some (.int .u16 ((U.getD k 0 : Nat) : Int)))
theorem LettersAt.kept {w w' : World} {v : Value} {U : List Nat} (h : LettersAt w v U) (hg : w.grownBy w' none) : LettersAt w' v U := by
  obtain ⟨a, cap, rfl, h0, h1, h3⟩ := h
  refine ⟨a, cap, rfl, h0, h1, ?_⟩
  rcases h3 with h3 | ⟨b, off, rfl, h3⟩
  · exact Or.inl h3
  · exact Or.inr ⟨b, off, rfl, fun k hk => hg.cell (h3 k hk) (by simp)⟩

structure Right (d : Dfa) : Prop where
  pos : d.R.length ≠ 0
  few : d.P.length ≤ 8
  len : d.B.length = d.R.length
  row : ∀ k, k < d.R.length → (d.R.getD k []).length = 2 ^ d.P.length
  num : ∀ k, k < d.R.length → ∀ j, j < 2 ^ d.P.length → ∃ t : Nat, t < d.R.length ∧ (d.R.getD k []).getD j 0 = (t : Int)
theorem right_of {d : Dfa} (h : dErr d = 0) : Right d := by
  have hd : dOk d = true := by
    unfold dErr at h
    split at h
    · assumption
    · cases h
  unfold dOk at hd
  simp only [Bool.and_eq_true, decide_eq_true_eq, List.all_eq_true, List.mem_range] at hd
  obtain ⟨h1, h2, h3, h4⟩ := hd
  have h5 : ∀ k, k < d.R.length → (d.R.getD k []).length = 2 ^ d.P.length ∧ 0 ≤ minF (d.R.getD k []) (d.R.getD k []).length ∧ maxF (d.R.getD k []) (d.R.getD k []).length < (d.R.length : Int) := by
    intro k hk
    have := h4 k hk
    unfold rowB at this
    simp only [Bool.and_eq_true, decide_eq_true_eq] at this
    exact this
  refine ⟨h2, names_len h1, h3, fun k hk => (h5 k hk).1, fun k hk j hj => ?_⟩
  obtain ⟨e1, e2, e3⟩ := h5 k hk
  have hp : 0 < (d.R.getD k []).length := by rw [e1]; exact Nat.pow_pos (by decide)
  have f1 := (minF_le (A := d.R.getD k []) (Nat.le_refl _) hp).2 j (by omega)
  have f2 := (maxF_le (A := d.R.getD k []) (Nat.le_refl _) hp).2 j (by omega)
  exact ⟨((d.R.getD k []).getD j 0).toNat, by omega, by omega⟩
theorem dErr_or (d : Dfa) : dErr d = 0 ∨ dErr d = 130 := by
  unfold dErr
  split
  · exact Or.inl rfl
  · exact Or.inr rfl
def stepD (d : Dfa) (o : Option Nat) (l : Nat) : Option Nat :=
  match o with
  | none => none
  | some s => if l < 2 ^ d.P.length then some ((d.R.getD s []).getD l 0).toNat else none
def runD (d : Dfa) (U : List Nat) : Option Nat := U.foldl (stepD d) (some 0)
theorem fold_none (d : Dfa) (U : List Nat) : U.foldl (stepD d) none = none := by
  induction U with
  | nil => rfl
  | cons a t ih => exact ih
theorem runD_take {d : Dfa} {U : List Nat} {k : Nat} (h : k < U.length) : runD d (U.take (k + 1)) = stepD d (runD d (U.take k)) (U.getD k 0) := by
  unfold runD
  rw [List.take_succ_eq_append_getElem h, List.foldl_append, List.getD_eq_getElem?_getD, List.getElem?_eq_getElem h]
  rfl
theorem runD_none {d : Dfa} {U : List Nat} {k : Nat} (h : runD d (U.take k) = none) : runD d U = none := by
  have e : U = U.take k ++ U.drop k := (List.take_append_drop k U).symm
  unfold runD at h ⊢
  rw [e, List.foldl_append, h, fold_none]
/-- What Run tells. -/
def runS (d : Dfa) (U : List Nat) : Nat := if dErr d = 0 then (runD d U).getD 0 else 0
def runC (d : Dfa) (U : List Nat) : Int := if dErr d = 0 then (if (runD d U).isSome = true then 0 else 1) else 130

set_option maxHeartbeats 4000000 in
theorem drun_any (vp vn vl vu : Value) (d : Dfa) (U : List Nat) (w : World) (h : DfaAt w vp vn vl d) (hU : LettersAt w vu U) :
    Calls Try.prog 12 #[.agg #[vp, vn, vl], vu] w fun e w' => e = .returned (.tuple #[.int .i64 (runS d U : Int), .int .i64 (runC d U)]) ∧ w.grownBy w' none := by
  have hb0 := World.grownBy_alloc w (.cells #[vp, vn, vl] 27) none
  have HB0 := Lib.hid hb0
  have HD := Lib.hid h
  have HU := Lib.hid hU
  have hC := right_any vp vn vl d _ (h.kept hb0)
  have k0 := cell3_0 w vp vn vl 27
  have k1 := cell3_1 w vp vn vl 27
  obtain ⟨ap, cp, rfl, _⟩ := h.p
  obtain ⟨an, cn, rfl, _, hn1, _⟩ := h.r
  obtain ⟨al, cl, rfl, _, hl1, _⟩ := h.b
  obtain ⟨au, cu, rfl, _, hu1, _⟩ := hU
  clear h
  by_cases h0 : dErr d = 0
  case neg =>
    have h130 : dErr d = 130 := (dErr_or d).resolve_left h0
    rw [h130] at hC
    have HC := Lib.hid hC
    have HS : Hid (runS d U = 0) := Lib.hid (by unfold runS; rw [if_neg h0])
    have HE : Hid (runC d U = 130) := Lib.hid (by unfold runC; rw [if_neg h0])
    clear h0 h130 hC hb0 k0 k1
    go_enter Try.func12, Try.ntmps12
    go_wp2_with (go_at_call 14; refine HC.out.mono ?_; rintro e w' ⟨rfl, hg⟩)
    go_ret2
    exact ⟨by rw [HE.out, HS.out]; rfl, gb_trans HB0.out hg (Or.inl rfl)⟩
  have HT := Lib.hid (right_of h0)
  rw [h0] at hC
  have HC := Lib.hid hC
  have HS : Hid (runS d U = (runD d U).getD 0) := Lib.hid (by unfold runS; rw [if_pos h0])
  have HE : Hid (runC d U = if (runD d U).isSome = true then 0 else 1) := Lib.hid (by unfold runC; rw [if_pos h0])
  have hpl := HT.out.few
  have hr0 := Nat.pos_of_ne_zero HT.out.pos
  clear h0 hC hb0
  go_enter Try.func12, Try.ntmps12
  go_wp2_with (go_at_call 14; refine HC.out.mono ?_; rintro e w1 ⟨rfl, hg1⟩; have c0 := hg1.cell k0 (by simp); have c1 := hg1.cell k1 (by simp))
  go_loopw [7, 17] (fun s i wr => ∃ k t : Nat, k ≤ U.length ∧ i = .int .i64 (k : Int) ∧ s = .int .i64 (t : Int) ∧ t < d.R.length ∧ Hid (runD d (U.take k) = some t) ∧ wr = w1) (fun _ i _ => U.length - (intOf i).toNat)
  case atStart => exact ⟨0, 0, by omega, rfl, rfl, hr0, rfl, rfl⟩
  case round =>
    obtain ⟨k, t, hk, rfl, rfl, ht, HR, rfl⟩ := hrel
    have hall := gb_trans HB0.out hg1 (Or.inl rfl)
    by_cases hlt : k < U.length
    · have hkI : (k : Int) < (U.length : Int) := by omega
      obtain ⟨_, _, e1, hu2, _, hu3⟩ := HU.out.kept hall
      cases e1
      rcases hu3 with hu3 | ⟨bu, offu, rfl, hu3⟩
      · rw [hu3] at hlt; exact absurd hlt (by simp)
      obtain ⟨_, _, e1, _, _, hn3⟩ := HD.out.r.kept hall
      cases e1
      rcases hn3 with hn3 | ⟨bn, offn, rfl, hn3⟩
      · rw [hn3] at hr0; exact absurd hr0 (by simp)
      have cu := hu3 k hlt
      have hl2 := hu2 k hlt
      obtain ⟨u, hu, hI⟩ := hn3 t ht
      have HX := Lib.hid (runD_take (d := d) hlt)
      rw [HR.out] at HX
      generalize U.getD k 0 = l at cu hl2 HX
      by_cases hl : l < 2 ^ d.P.length
      · obtain ⟨t2, ht2, hnum⟩ := HT.out.num t ht l hl
        have hrow := HT.out.row t ht
        have hge : ¬ wrap64 ((2 : Int) ^ d.P.length) ≤ (l : Int) := by rw [wrap_pow _ hpl]; omega
        have HY : Hid (runD d (U.take (k + 1)) = some t2) := Lib.hid (by rw [HX.out]; unfold stepD; simp only [hl, if_true]; rw [hnum]; rfl)
        obtain ⟨ar, cr, rfl, _, har, hI3⟩ := hI
        rcases hI3 with hI3 | ⟨br, offr, rfl, hI3⟩
        · rw [hI3] at hrow; have : 0 < 2 ^ d.P.length := Nat.pow_pos (by decide); simp at hrow; omega
        have cx := hI3 l (by omega)
        rw [hnum] at cx
        have hll : l < (d.R.getD t []).length := by omega
        have hlI : (l : Int) < ((d.R.getD t []).length : Int) := by omega
        have htI : (t : Int) < (d.R.length : Int) := by omega
        clear hI3 hn3 hu3 hnum hrow HX hu2
        generalize (d.R.getD t []).length = rl at hu hll hlI har
        clear hl
        go_wp2_with fail
        exact ⟨⟨k + 1, t2, by omega, by go_num, rfl, ht2, HY, trivial⟩, by simp [intOf]; omega⟩
      · have hge : wrap64 ((2 : Int) ^ d.P.length) ≤ (l : Int) := by rw [wrap_pow _ hpl]; omega
        have HY : Hid (runD d U = none) := Lib.hid (runD_none (k := k + 1) (by rw [HX.out]; unfold stepD; simp only [hl, if_false]))
        clear hl HX hu3 hn3 hu2 hI hu
        go_wp2_with fail
        go_ret2
        exact ⟨by rw [HE.out, HS.out, HY.out]; rfl, hall⟩
    · obtain rfl : k = U.length := by omega
      have hkI : ¬ (U.length : Int) < (U.length : Int) := by omega
      have HY : Hid (runD d U = some t) := Lib.hid (by have := HR.out; rwa [List.take_length] at this)
      go_wp2_with fail
      go_ret2
      exact ⟨by rw [HE.out, HS.out, HY.out]; rfl, hall⟩
end Go.Proofs.Ytcdepblajobemaa
namespace Go.Proofs.Ytcdepblajobemaa
open Go.RowKit

theorem fold_lt {d : Dfa} (h : Right d) : ∀ (U : List Nat) (o : Option Nat), (∀ s, o = some s → s < d.R.length) → ∀ t, U.foldl (stepD d) o = some t → t < d.R.length
  | [], o, ho, t, ht => ho t ht
  | l :: U, o, ho, t, ht => by
    refine fold_lt h U (stepD d o l) ?_ t ht
    intro s hs
    cases o with
    | none => cases hs
    | some s0 =>
      unfold stepD at hs
      simp only at hs
      split at hs
      · rename_i hl
        obtain ⟨t2, h2, h3⟩ := h.num s0 (ho s0 rfl) l hl
        rw [h3] at hs
        cases hs
        exact h2
      · cases hs
theorem run_lt {d : Dfa} {U : List Nat} (h : runC d U = 0) : runS d U < d.B.length := by
  unfold runC at h
  split at h
  · rename_i h0
    have hr := right_of h0
    split at h
    · rename_i hs
      obtain ⟨t, ht⟩ := Option.isSome_iff_exists.1 hs
      have := fold_lt hr U (some 0) (fun s e => by cases e; exact Nat.pos_of_ne_zero hr.pos) t ht
      unfold runS
      rw [if_pos h0, ht, hr.len]
      exact this
    · cases h
  · cases h
/-- What Has tells. -/
def hasV (d : Dfa) (U : List Nat) : Bool := if runC d U = 0 then d.B.getD (runS d U) false else false
set_option maxHeartbeats 1000000 in
theorem dhas_any (vp vn vl vu : Value) (d : Dfa) (U : List Nat) (w : World) (h : DfaAt w vp vn vl d) (hU : LettersAt w vu U) :
    Calls Try.prog 13 #[.agg #[vp, vn, vl], vu] w fun e w' => e = .returned (.tuple #[.bool (hasV d U), .int .i64 (runC d U)]) ∧ w.grownBy w' none := by
  have hb0 := World.grownBy_alloc w (.cells #[vp, vn, vl] 27) none
  have HB0 := Lib.hid hb0
  have HC := Lib.hid (drun_any vp vn vl vu d U _ (h.kept hb0) (hU.kept hb0))
  have HD := Lib.hid h.b
  have k2 := cell3_2 w vp vn vl 27
  have HL := Lib.hid (@run_lt d U)
  obtain ⟨ap, cp, rfl, _⟩ := h.p
  obtain ⟨an, cn, rfl, _⟩ := h.r
  obtain ⟨al, cl, rfl, _⟩ := h.b
  obtain ⟨au, cu, rfl, _⟩ := hU
  have HV : Hid (hasV d U = if runC d U = 0 then d.B.getD (runS d U) false else false) := Lib.hid rfl
  clear h hb0
  generalize hasV d U = r at HV ⊢
  generalize runC d U = c at HV HC HL ⊢
  generalize runS d U = s at HV HC HL
  by_cases hc : c = 0
  · subst hc
    have hs := HL.out rfl
    have HV2 : Hid (r = d.B.getD s false) := Lib.hid (by rw [HV.out, if_pos rfl])
    have hsI : (s : Int) < (d.B.length : Int) := by omega
    obtain ⟨_, _, e1, _, _, hb3⟩ := HD.out
    cases e1
    rcases hb3 with hb3 | ⟨bl, offl, rfl, hb3⟩
    · rw [hb3] at hs; exact absurd hs (by simp)
    have cs := hb3 s hs
    have cs1 := (HB0.out).cell cs (by simp)
    rw [← HV2.out] at cs cs1
    clear hb3 HV HV2 HL
    go_enter Try.func13, Try.ntmps13
    go_wp2_with (go_at_call 12; refine HC.out.mono ?_; rintro e w1 ⟨rfl, hg1⟩; have c2 := hg1.cell k2 (by simp); have cs2 := hg1.cell cs1 (by simp))
    go_ret2
    exact ⟨rfl, gb_trans HB0.out hg1 (Or.inl rfl)⟩
  · have HV2 : Hid (r = false) := Lib.hid (by rw [HV.out, if_neg hc])
    have hcb : (c == 0) = false := by rw [beq_eq_false_iff_ne]; exact hc
    clear HV HL hc
    go_enter Try.func13, Try.ntmps13
    go_wp2_with (go_at_call 12; refine HC.out.mono ?_; rintro e w1 ⟨rfl, hg1⟩; have c2 := hg1.cell k2 (by simp))
    go_ret2
    exact ⟨by rw [HV2.out]; rfl, gb_trans HB0.out hg1 (Or.inl rfl)⟩
end Go.Proofs.Ytcdepblajobemaa
namespace Go.Proofs.Ytcdepblajobemaa
open Go.RowKit

def sv (s : ByteArray) : Value := .string s
theorem Try.info9 : (Try.prog.info? 9).map (fun i => (i.zero, i.size, i.bytes)) = some (some (.string ⟨#[]⟩), 1, 16) := by kernel_rfl
theorem sv_one (L : List ByteArray) : ∀ u ∈ L.map sv, u.oneCell' = true := by
  intro u hu
  obtain ⟨x, _, rfl⟩ := List.mem_map.1 hu
  rfl
set_option maxHeartbeats 400000 in
theorem clone_texts (v : Value) (A : List ByteArray) (w : World) (hA : TextsAt w v A) (h1000 : A.length ≤ 1000000) :
    Calls Try.prog 54 #[v] w fun e w' => ∃ v', e = .returned v' ∧ w'.ownsRow w.heap.size 9 1 v' A.length (A.map sv) ∧ w.grownBy w' none := by
  obtain ⟨i0, hi, hz0, hz1, hz2⟩ := info_parts Try.info9
  obtain ⟨a, cap, rfl, hcap, hlen, _, hc⟩ := hA
  cases a with
  | none =>
    have hsn := fun (w : World) => Lib.run_eql_slice_nil (P := Try.prog) w 23 9 none A.length cap 0 0 Try.underlying23
    have hA0 : A = [] := by
      rcases hc with h | ⟨b, off, h, _⟩
      · exact h
      · cases h
    subst hA0
    clear hc hlen hcap
    rw [List.length_nil] at hsn ⊢
    have e0 : (List.map sv []) = [] := rfl
    rw [e0]
    clear e0
    go_enter Try.func54, Try.ntmps54
    go_wp2
    go_ret
    exact ⟨_, rfl, World.ownsRow_nil _ _ _ _, gb_refl _ _⟩
  | some ad =>
    have hsn := fun (w : World) => Lib.run_eql_slice_nil (P := Try.prog) w 23 9 (some ad) A.length cap 0 0 Try.underlying23
    have hown : (w.alloc (.cells #[] 9)).ownsRow w.heap.size 9 1 (.slice (some ⟨w.heap.size, 0, none⟩) 0 0) 0 [] := World.ownsRow_lit w #[] 0 (Nat.le_refl _) (Nat.zero_le _) rfl
    have hnew : ∀ j u, (A.map sv)[j]? = some u → (w.alloc (.cells #[] 9)).cell? (ad.add j) = some u := by
      intro j u hu
      have hj : j < A.length := by simpa using (List.getElem?_eq_some_iff.1 hu).1
      rcases hc with rfl | ⟨b, off, h, hc⟩
      · simp at hj
      · cases h
        rw [show (⟨b, off, none⟩ : Addr).add j = ⟨b, off + j, none⟩ by unfold Addr.add; split <;> simp_all, (World.grownBy_alloc w _ none).cell (hc j hj) (by simp)]
        rw [List.getElem?_map, List.getElem?_eq_getElem hj] at hu
        rw [← hu, List.getD_eq_getElem?_getD, List.getElem?_eq_getElem hj]
        rfl
    have HN := Lib.hid hnew
    clear hnew hc
    go_enter Try.func54, Try.ntmps54
    go_wp2_with (at_builtin; refine wpList_append_own _ rfl (.tmp 5) (.tmp 6) 23 rfl w.heap.size 9 i0 (.string ⟨#[]⟩) 1 16 Try.underlying23 hi hz0 hz1 hz2 rfl (by decide) _ _ _ rfl hown ad A.length cap (A.map sv) rfl (by simp) HN.out (sv_one A) (by unfold maxLen; omega) (by omega) (by simp) ?_; intro v' w1 hown1 hgrow1 hnil)
    go_ret
    rw [Nat.zero_add, List.nil_append] at hown1
    exact ⟨_, rfl, hown1, gb_trans (World.grownBy_alloc w _ none) hgrow1 (Or.inr (Or.inr ⟨_, rfl, Nat.le_refl _⟩))⟩
end Go.Proofs.Ytcdepblajobemaa
