/- Dfa: is an automaton right? -/
import Derived.Test.YtcdepblajobemaaBuilds02
import Derived.Deep.RegionHeld3
import Derived.IntWalk
import Derived.Laws.BitsAllLaws
set_option maxRecDepth 100000
namespace Go.Proofs.Ytcdepblajobemaa
open Go.RowKit

def edg0 : Edg := ⟨0, 0, 0, 0⟩
def edgeOk (e : Edg) : Prop := (-9223372036854775808 ≤ e.fr ∧ e.fr ≤ 9223372036854775807) ∧ (-9223372036854775808 ≤ e.tt ∧ e.tt ≤ 9223372036854775807) ∧ e.mu ≤ 65535 ∧ e.no ≤ 65535
/-- Edges that lie in memory. -/
def EdgesAt (w : World) (v : Value) (E : List Edg) : Prop :=
  ∃ a cap, v = .slice a E.length cap ∧ E.length ≤ cap ∧ (∀ k, k < E.length → edgeOk (E.getD k edg0)) ∧ E.length ≤ 17592186043904 ∧
    (E = [] ∨ ∃ b off, a = some ⟨b, off, none⟩ ∧ ∀ k, k < E.length → w.cell? ⟨b, off + k * 4, none⟩ = some (.int .i64 (E.getD k edg0).fr) ∧ w.cell? ⟨b, off + k * 4 + 1, none⟩ = some (.int .i64 (E.getD k edg0).tt) ∧ w.cell? ⟨b, off + k * 4 + 2, none⟩ = some (.int .u16 ((E.getD k edg0).mu : Int)) ∧ w.cell? ⟨b, off + k * 4 + 3, none⟩ = some (.int .u16 ((E.getD k edg0).no : Int)))
theorem EdgesAt.kept {w w' : World} {v : Value} {E : List Edg} (h : EdgesAt w v E) (hg : w.grownBy w' none) : EdgesAt w' v E := by
  obtain ⟨a, cap, rfl, h0, h1, h2, h3⟩ := h
  refine ⟨a, cap, rfl, h0, h1, h2, ?_⟩
  rcases h3 with h3 | ⟨b, off, rfl, h3⟩
  · exact Or.inl h3
  · exact Or.inr ⟨b, off, rfl, fun k hk => by
      obtain ⟨c0, c1, c2, c3⟩ := h3 k hk
      exact ⟨hg.cell c0 (by simp), hg.cell c1 (by simp), hg.cell c2 (by simp), hg.cell c3 (by simp)⟩⟩
/-- Rows of numbers. -/
def RowsAt2 (w : World) (v : Value) (R : List (List Int)) : Prop :=
  ∃ a cap, v = .slice a R.length cap ∧ R.length ≤ cap ∧ R.length ≤ 17592186043904 ∧
    (R = [] ∨ ∃ b off, a = some ⟨b, off, none⟩ ∧ ∀ k, k < R.length → ∃ u, w.cell? ⟨b, off + k, none⟩ = some u ∧ IntsAt w u (R.getD k []))
theorem RowsAt2.kept {w w' : World} {v : Value} {R : List (List Int)} (h : RowsAt2 w v R) (hg : w.grownBy w' none) : RowsAt2 w' v R := by
  obtain ⟨a, cap, rfl, h0, h1, h3⟩ := h
  refine ⟨a, cap, rfl, h0, h1, ?_⟩
  rcases h3 with h3 | ⟨b, off, rfl, h3⟩
  · exact Or.inl h3
  · exact Or.inr ⟨b, off, rfl, fun k hk => by obtain ⟨u, hu, hi⟩ := h3 k hk; exact ⟨u, hg.cell hu (by simp), hi.kept hg⟩⟩
/-- Is the k-th edge right, and does it stand behind the one ahead of it? -/
def edgeB (m : Nat) (n : Int) (E : List Edg) (k : Nat) : Bool := decide (0 ≤ (E.getD k edg0).fr) && (decide ((E.getD k edg0).fr < n) && (decide (0 ≤ (E.getD k edg0).tt) && (decide ((E.getD k edg0).tt < n) && (decide ((E.getD k edg0).mu < 2 ^ m) && (decide ((E.getD k edg0).no < 2 ^ m) && (decide ((E.getD k edg0).mu &&& (E.getD k edg0).no = 0) && (decide (k = 0) || decide (ordF (E.getD (k - 1) edg0) (E.getD k edg0) < 0))))))))
def rightF (P : List ByteArray) (n : Int) (I : List Int) (E : List Edg) (S : List (List Int)) : Bool :=
  namesF P && (decide (0 ≤ n) && (decide (n ≤ 65536) && (risingF I n && ((List.range E.length).all (edgeB P.length n E) && (List.range S.length).all fun k => risingF (S.getD k []) n))))
def chkG (P : List ByteArray) (n : Int) (I : List Int) (E : List Edg) (S : List (List Int)) : Int := if rightF P n I E S = true then 0 else 100
theorem chk_no {P : List ByteArray} {n : Int} {I : List Int} {E : List Edg} {S : List (List Int)} (h : rightF P n I E S = false) : chkG P n I E S = 100 := by unfold chkG; rw [h]; rfl
theorem ints1 (w : World) (B : Nat) (a : Int) (h : -9223372036854775808 ≤ a ∧ a ≤ 9223372036854775807) (hc : w.cell? ⟨B, 0, none⟩ = some (.int .i64 a)) : IntsAt w (.slice (some ⟨B, 0, none⟩) 1 1) [a] := by
  refine ⟨some ⟨B, 0, none⟩, 1, rfl, fun k hk => ?_, (by show 1 ≤ 17592186043904; decide), Or.inr ⟨_, _, rfl, fun k hk => ?_⟩⟩
  · have hk1 : k < 1 := hk
    obtain rfl : k = 0 := by omega
    exact h
  · have hk1 : k < 1 := hk
    obtain rfl : k = 0 := by omega
    exact hc
theorem rising1 (a n : Int) : risingF [a] n = (decide (0 ≤ a) && decide (a < n)) := by
  unfold risingF riseB
  show (([0] : List Nat).all _) = _
  simp
/-- The cells of a General's box. -/
theorem gen_cells {w : World} {b : Nat} {x0 x1 x2 x3 x4 : Value} (h : w.heap[b]? = some (.cells #[x0, x1, x2, x3, x4] 87 (0, 0))) :
    w.cell? ⟨b, 0, none⟩ = some x0 ∧ w.cell? ⟨b, 1, none⟩ = some x1 ∧ w.cell? ⟨b, 2, none⟩ = some x2 ∧ w.cell? ⟨b, 3, none⟩ = some x3 ∧ w.cell? ⟨b, 4, none⟩ = some x4 := by
  refine ⟨?_, ?_, ?_, ?_, ?_⟩ <;> simp [World.cell?, h]
set_option maxHeartbeats 8000000 in
theorem checkg_any (vp vi ve vs : Value) (P : List ByteArray) (n : Int) (I : List Int) (E : List Edg) (S : List (List Int)) (w : World) (hP : TextsAt w vp P) (hI : IntsAt w vi I) (hE : EdgesAt w ve E) (hS : RowsAt2 w vs S) :
    Calls Try.prog 37 #[.agg #[vp, .int .i64 n, vi, ve, vs]] w fun e w' => e = .returned (.int .i64 (chkG P n I E S)) ∧ w.grownBy w' none := by
  have HP := Lib.hid hP
  have HI := Lib.hid hI
  have HE := Lib.hid hE
  have HS := Lib.hid hS
  obtain ⟨ap, cp, rfl, _, hlp, _⟩ := hP
  obtain ⟨ai, ci, rfl, _, hli, _⟩ := hI
  obtain ⟨ae, ce, rfl, hce, hbe, hle, _⟩ := hE
  obtain ⟨az, cs, rfl, hcs, hls, _⟩ := hS
  have HBe := Lib.hid hbe
  clear hbe
  have HR : Hid (rightF P n I E S = (namesF P && (decide (0 ≤ n) && (decide (n ≤ 65536) && (risingF I n && ((List.range E.length).all (edgeB P.length n E) && (List.range S.length).all fun k => risingF (S.getD k []) n)))))) := Lib.hid rfl
  have HNo := Lib.hid (chk_no (P := P) (n := n) (I := I) (E := E) (S := S))
  have HYe : Hid (rightF P n I E S = true → chkG P n I E S = 0) := Lib.hid fun h => by unfold chkG; rw [h]; rfl
  have hb0 := heap_alloc_new w (.cells #[.slice ap P.length cp, .int .i64 n, .slice ai I.length ci, .slice ae E.length ce, .slice az S.length cs] 87)
  have HG0 := Lib.hid (World.grownBy_alloc w (.cells #[.slice ap P.length cp, .int .i64 n, .slice ai I.length ci, .slice ae E.length ce, .slice az S.length cs] 87) none)
  generalize rightF P n I E S = rf at HR HNo HYe
  generalize chkG P n I E S = cg at HNo HYe
  go_enter Try.func37, Try.ntmps37
  go_wp2_with fail
  generalize w.alloc (.cells #[.slice ap P.length cp, .int .i64 n, .slice ai I.length ci, .slice ae E.length ce, .slice az S.length cs] 87) = w0 at hb0 HG0 ⊢
  obtain ⟨g0, g1, g2, g3, g4⟩ := gen_cells hb0
  have HW0 : Hid (w.heap.size < w0.heap.size) := Lib.hid (Array.getElem?_eq_some_iff.1 hb0).1
  have HNm : Hid (∀ wx, w0.grownBy wx none → Calls Try.prog 91 #[.slice ap P.length cp] wx fun e w' => e = .returned (.bool (namesF P)) ∧ wx.grownBy w' none) := Lib.hid fun wx h => isnames_any _ P wx ((HP.out.kept HG0.out).kept h)
  have HRw : Hid (∀ wx, w0.grownBy wx none → Calls Try.prog 92 #[.slice ai I.length ci, .int .i64 n] wx fun e w' => e = .returned (.bool (risingF I n)) ∧ wx = w') := Lib.hid fun wx h => isrow_any _ I n wx ((HI.out.kept HG0.out).kept h)
  cases hN : namesF P
  · rw [hN] at HNm HR
    have HV := Lib.hid (HNo.out (by rw [HR.out]; rfl))
    clear hN HNo HYe HR HRw
    go_wp2_with (go_at_call 91; refine (HNm.out _ (gb_refl _ _)).mono ?_; rintro e w1 ⟨rfl, hg1⟩)
    go_ret
    exact ⟨by rw [HV.out]; rfl, gb_trans HG0.out hg1 (Or.inl rfl)⟩
  have hm8 : P.length ≤ 8 := by
    unfold namesF at hN
    rw [Bool.and_eq_true, decide_eq_true_eq] at hN
    exact hN.2
  rw [hN, Bool.true_and] at HR
  rw [hN] at HNm
  have HNm0 := Lib.hid (HNm.out _ (gb_refl _ _))
  clear hN HNm
  by_cases hn0I : n < 0
  · have HV := Lib.hid (HNo.out (by rw [HR.out, decide_eq_false (by omega)]; rfl))
    clear HNo HYe HR HRw
    go_wp2_with (go_at_call 91; refine HNm0.out.mono ?_; rintro e w1 ⟨rfl, hg1⟩; have k1 : w1.cell? ⟨w.heap.size, 1, none⟩ = some (.int .i64 n) := hg1.cell g1 (by simp))
    go_ret
    exact ⟨by rw [HV.out]; rfl, gb_trans HG0.out hg1 (Or.inl rfl)⟩
  rw [decide_eq_true (show 0 ≤ n by omega), Bool.true_and] at HR
  by_cases hn1I : n > 65536
  · have HV := Lib.hid (HNo.out (by rw [HR.out, decide_eq_false (by omega)]; rfl))
    clear HNo HYe HR HRw
    go_wp2_with (go_at_call 91; refine HNm0.out.mono ?_; rintro e w1 ⟨rfl, hg1⟩; have k1 : w1.cell? ⟨w.heap.size, 1, none⟩ = some (.int .i64 n) := hg1.cell g1 (by simp))
    go_ret
    exact ⟨by rw [HV.out]; rfl, gb_trans HG0.out hg1 (Or.inl rfl)⟩
  rw [decide_eq_true (show n ≤ 65536 by omega), Bool.true_and] at HR
  cases hI : risingF I n
  · rw [hI] at HRw HR
    have HV := Lib.hid (HNo.out (by rw [HR.out]; rfl))
    clear HNo HYe HR hI
    go_wp2_with (first
      | (go_at_call 91; refine HNm0.out.mono ?_; rintro e w1 ⟨rfl, hg1⟩; have k1 : w1.cell? ⟨w.heap.size, 1, none⟩ = some (.int .i64 n) := hg1.cell g1 (by simp); have k2 : w1.cell? ⟨w.heap.size, 2, none⟩ = some (.slice ai I.length ci) := hg1.cell g2 (by simp))
      | (go_at_call 92; refine (HRw.out _ hg1).mono ?_; rintro e w2 ⟨rfl, rfl⟩))
    go_ret
    exact ⟨by rw [HV.out]; rfl, gb_trans HG0.out hg1 (Or.inl rfl)⟩
  rw [hI, Bool.true_and] at HR
  rw [hI] at HRw
  clear hI
  have hmI : (P.length : Int) < 64 := by omega
  obtain ⟨M, hM⟩ : ∃ M : Nat, 2 ^ P.length = M := ⟨_, rfl⟩
  have hM1 : M ≤ 256 := by
    rw [← hM]
    exact Nat.le_trans (Nat.pow_le_pow_right (by decide) hm8) (by decide)
  have hM0 : 1 ≤ M := by rw [← hM]; exact Nat.one_le_two_pow
  have hpw : wrap64 ((2 : Int) ^ P.length) = (M : Int) := by
    have e : ((2 : Int) ^ P.length) = (M : Int) := by rw [← hM]; simp
    rw [e]
    exact IntWalk.wrap64_in _ ⟨by omega, by omega⟩
  have HB : Hid (∀ k, edgeB P.length n E k = (decide (0 ≤ (E.getD k edg0).fr) && (decide ((E.getD k edg0).fr < n) && (decide (0 ≤ (E.getD k edg0).tt) && (decide ((E.getD k edg0).tt < n) && (decide ((E.getD k edg0).mu < M) && (decide ((E.getD k edg0).no < M) && (decide ((E.getD k edg0).mu &&& (E.getD k edg0).no = 0) && (decide (k = 0) || decide (ordF (E.getD (k - 1) edg0) (E.getD k edg0) < 0)))))))))) := Lib.hid fun k => by rw [← hM]; rfl
  clear hM
  go_wp2_with (first
    | (go_at_call 91; refine HNm0.out.mono ?_; rintro e w1 ⟨rfl, hg1⟩; have k1 : w1.cell? ⟨w.heap.size, 1, none⟩ = some (.int .i64 n) := hg1.cell g1 (by simp); have k2 : w1.cell? ⟨w.heap.size, 2, none⟩ = some (.slice ai I.length ci) := hg1.cell g2 (by simp); have k3 : w1.cell? ⟨w.heap.size, 3, none⟩ = some (.slice ae E.length ce) := hg1.cell g3 (by simp); have k0 : w1.cell? ⟨w.heap.size, 0, none⟩ = some (.slice ap P.length cp) := hg1.cell g0 (by simp))
    | (go_at_call 92; refine (HRw.out _ hg1).mono ?_; rintro e w2 ⟨rfl, rfl⟩))
  rw [hpw]
  clear hpw
  have HE1 := Lib.hid ((HE.out.kept HG0.out).kept hg1)
  have HS1 := Lib.hid ((HS.out.kept HG0.out).kept hg1)
  have HG1 := Lib.hid (gb_trans HG0.out hg1 (Or.inl rfl))
  have HG01 : Hid (w0.heap.size ≤ w1.heap.size) := Lib.hid hg1.size
  have HK1 : Hid (∀ wx, w1.grownBy wx none → wx.cell? ⟨w.heap.size, 1, none⟩ = some (.int .i64 n) ∧ wx.cell? ⟨w.heap.size, 3, none⟩ = some (.slice ae E.length ce) ∧ wx.cell? ⟨w.heap.size, 4, none⟩ = some (.slice az S.length cs)) := Lib.hid fun wx h => ⟨h.cell k1 (by simp), h.cell k3 (by simp), h.cell (hg1.cell g4 (by simp)) (by simp)⟩
  clear g0 g1 g2 g3 g4 hb0 hg1 k1 k2 k3 k0 HNm0 HRw
  go_loopw [37] (fun i wr => ∃ k : Nat, k ≤ E.length ∧ i = .int .i64 (k : Int) ∧ Hid (∀ j, j < k → edgeB P.length n E j = true) ∧ Hid (w1.grownBy wr none)) (fun i _ => E.length - (intOf i).toNat)
  case atStart => exact ⟨0, Nat.zero_le _, rfl, Lib.hid fun j h => absurd h (Nat.not_lt_zero _), Lib.hid (gb_refl _ _)⟩
  case round =>
    obtain ⟨k, hk, rfl, H0, HG⟩ := hrel
    by_cases hlt : k < E.length
    · have hkI : (k : Int) < (E.length : Int) := by omega
      obtain ⟨_, _, e1, _, _, _, hc⟩ := HE1.out.kept HG.out
      cases e1
      rcases hc with rfl | ⟨b, off, rfl, hc⟩
      · exact absurd hlt (by simp)
      obtain ⟨c0, c1, c2, c3⟩ := hc k hlt
      have HPv : Hid (0 < k → wr.cell? ⟨b, off + (k - 1) * 4, none⟩ = some (.int .i64 (E.getD (k - 1) edg0).fr) ∧ wr.cell? ⟨b, off + (k - 1) * 4 + 1, none⟩ = some (.int .i64 (E.getD (k - 1) edg0).tt) ∧ wr.cell? ⟨b, off + (k - 1) * 4 + 2, none⟩ = some (.int .u16 ((E.getD (k - 1) edg0).mu : Int)) ∧ wr.cell? ⟨b, off + (k - 1) * 4 + 3, none⟩ = some (.int .u16 ((E.getD (k - 1) edg0).no : Int))) := Lib.hid fun h => hc (k - 1) (by omega)
      obtain ⟨⟨r1, r2⟩, ⟨r3, r4⟩, r5, r6⟩ := HBe.out k hlt
      have HBk := Lib.hid (HB.out k)
      have HNk : Hid (edgeB P.length n E k = false → cg = 100) := Lib.hid fun h => HNo.out (by rw [HR.out, all_not h hlt, Bool.false_and])
      have HYk : Hid (edgeB P.length n E k = true → ∀ j, j < k + 1 → edgeB P.length n E j = true) := Lib.hid fun h j hj => by
        by_cases e : j < k
        · exact H0.out j e
        · obtain rfl : j = k := by omega
          exact h
      clear hc
      generalize E.getD k edg0 = x at c0 c1 c2 c3 r1 r2 r3 r4 r5 r6 HBk
      generalize E.getD (k - 1) edg0 = y at HPv HBk
      obtain ⟨q1, q3, q4⟩ := HK1.out _ HG.out
      have hbx := heap_alloc_new wr (.cells #[.int .i64 x.fr, .int .i64 x.tt, .int .u16 (x.mu : Int), .int .u16 (x.no : Int)] 61)
      have hgx := World.grownBy_alloc wr (.cells #[.int .i64 x.fr, .int .i64 x.tt, .int .u16 (x.mu : Int), .int .u16 (x.no : Int)] 61) none
      go_wp2_with fail
      generalize wr.alloc (.cells #[.int .i64 x.fr, .int .i64 x.tt, .int .u16 (x.mu : Int), .int .u16 (x.no : Int)] 61) = we at hbx hgx ⊢
      obtain ⟨b0, b1, b2, b3⟩ := edge_cells hbx
      have HBx := Lib.hid hbx
      have HGe := Lib.hid (gb_trans HG.out hgx (Or.inl rfl))
      have p1 := hgx.cell q1 (by simp)
      have p3 := hgx.cell q3 (by simp)
      have HRn : Hid (∀ (wx : World) (B : Nat) (a : Int), -9223372036854775808 ≤ a → a ≤ 9223372036854775807 → wx.cell? ⟨B, 0, none⟩ = some (.int .i64 a) → Calls Try.prog 92 #[.slice (some ⟨B, 0, none⟩) 1 1, .int .i64 n] wx fun e w' => e = .returned (.bool (decide (0 ≤ a) && decide (a < n))) ∧ wx = w') := Lib.hid fun wx B a h1 h2 h3 => by
        rw [← rising1]
        exact isrow_any _ [a] n _ (ints1 wx B a ⟨h1, h2⟩ h3)
      have HOr := Lib.hid (fun wx => order_any y x wx)
      unfold edgeV at HOr
      clear c0 c1 c2 c3 q1 q3 q4 hbx
      have ha1 := heap_alloc_new we (.cells #[.int .i64 x.fr] 3)
      have ha2 := heap_alloc_new (we.alloc (.cells #[.int .i64 x.fr] 3)) (.cells #[.int .i64 x.tt] 3)
      rw [World.size_alloc] at ha2
      have HS1 := Lib.hid (HRn.out (we.alloc (.cells #[.int .i64 x.fr] 3)).drew we.heap.size x.fr r1 r2 (by rw [World.cell?_drew]; simp only [World.cell?, ha1]; rfl))
      have HS2 := Lib.hid (HRn.out ((we.alloc (.cells #[.int .i64 x.fr] 3)).alloc (.cells #[.int .i64 x.tt] 3)).drew (we.heap.size + 1) x.tt r3 r4 (by rw [World.cell?_drew]; simp only [World.cell?, ha2]; rfl))
      have HGw : Hid (w.grownBy we none) := Lib.hid (gb_trans HG1.out HGe.out (Or.inl rfl))
      have HSS4 : Hid (∀ wx, we.grownBy wx none → we.grownBy wx none ∧ wx.cell? ⟨wr.heap.size, 0, none⟩ = some (.int .i64 x.fr) ∧ wx.cell? ⟨wr.heap.size, 1, none⟩ = some (.int .i64 x.tt) ∧ wx.cell? ⟨wr.heap.size, 2, none⟩ = some (.int .u16 (x.mu : Int)) ∧ wx.cell? ⟨wr.heap.size, 3, none⟩ = some (.int .u16 (x.no : Int)) ∧ wx.cell? ⟨w.heap.size, 1, none⟩ = some (.int .i64 n)) := Lib.hid fun wx h => ⟨h, h.cell b0 (by simp), h.cell b1 (by simp), h.cell b2 (by simp), h.cell b3 (by simp), h.cell p1 (by simp)⟩
      have z1 : IntKind.i64.wrap (x.mu : Int) = (x.mu : Int) := IntWalk.i64_in _ (by omega)
      have z2 : IntKind.i64.wrap (x.no : Int) = (x.no : Int) := IntWalk.i64_in _ (by omega)
      have z3 : bits .and .u16 (x.mu : Int) (x.no : Int) = ((x.mu &&& x.no : Nat) : Int) := u16_and_nat _ _ (by omega) (by omega)
      clear ha1 ha2
      cases hf1 : (decide (0 ≤ x.fr) && decide (x.fr < n))
      · rw [hf1] at HS1
        have HV := Lib.hid (HNk.out (by rw [HBk.out, ← Bool.and_assoc, hf1, Bool.false_and]))
        clear z3
        clear HNk HYk HBk HPv
        have hS0 := HSS4.out _ (gb_drew we none)
        refine wp_region_held_drew (S := (fun wx => we.grownBy wx none ∧ wx.cell? ⟨wr.heap.size, 0, none⟩ = some (.int .i64 x.fr) ∧ wx.cell? ⟨wr.heap.size, 1, none⟩ = some (.int .i64 x.tt) ∧ wx.cell? ⟨wr.heap.size, 2, none⟩ = some (.int .u16 (x.mu : Int)) ∧ wx.cell? ⟨wr.heap.size, 3, none⟩ = some (.int .u16 (x.no : Int)) ∧ wx.cell? ⟨w.heap.size, 1, none⟩ = some (.int .i64 n))) (by kernel_rfl) (by assumption) (fun hHeld => ?_)
        refine wpAnyH_take (i := 0) (oi := ({ dst := some 42, op := Go.Op.fieldAddr 61 (Go.Operand.tmp 5) 0, type := 0, pos := "buchi.go:55", after := #[], guard := none } : Oper)) (v := ?_) rfl (by kernel_rfl) (by kernel_rfl) (by kernel_rfl) (fun _ _ _ h => h) (Or.inl ⟨by rfl, ?_⟩) (by assumption) ?_
        rotate_left
        · (intro wS hSw; (try dsimp only at hSw); go_simp <;> with_reducible rfl)
        try simp only [Act.put, List.setIfInBounds_toArray, List.set_cons_zero, List.set_cons_succ]
        refine wpAnyH_take (i := 1) (oi := ({ dst := some 43, op := Go.Op.load 3 (Go.Operand.tmp 42), type := 3, pos := "buchi.go:55", after := #[{ on := 0, ground := Go.Ground.data }], guard := none } : Oper)) (v := ?_) rfl (by kernel_rfl) (by kernel_rfl) (by kernel_rfl) (fun _ _ _ h => h) (Or.inl ⟨by rfl, ?_⟩) (by assumption) ?_
        rotate_left
        · (intro wS hSw; (try dsimp only at hSw); go_simp <;> with_reducible rfl)
        try simp only [Act.put, List.setIfInBounds_toArray, List.set_cons_zero, List.set_cons_succ]
        refine wpAnyH_take (i := 3) (oi := ({ dst := some 45, op := Go.Op.fieldAddr 87 (Go.Operand.tmp 1) 1, type := 0, pos := "buchi.go:55", after := #[], guard := none } : Oper)) (v := ?_) rfl (by kernel_rfl) (by kernel_rfl) (by kernel_rfl) (fun _ _ _ h => h) (Or.inl ⟨by rfl, ?_⟩) (by assumption) ?_
        rotate_left
        · (intro wS hSw; (try dsimp only at hSw); go_simp <;> with_reducible rfl)
        try simp only [Act.put, List.setIfInBounds_toArray, List.set_cons_zero, List.set_cons_succ]
        refine wpAnyH_take (i := 4) (oi := ({ dst := some 46, op := Go.Op.load 3 (Go.Operand.tmp 45), type := 3, pos := "buchi.go:55", after := #[{ on := 3, ground := Go.Ground.data }], guard := none } : Oper)) (v := ?_) rfl (by kernel_rfl) (by kernel_rfl) (by kernel_rfl) (fun _ _ _ h => h) (Or.inl ⟨by rfl, ?_⟩) (by assumption) ?_
        rotate_left
        · (intro wS hSw; (try dsimp only at hSw); go_simp <;> with_reducible rfl)
        try simp only [Act.put, List.setIfInBounds_toArray, List.set_cons_zero, List.set_cons_succ]
        refine wpAnyH_ready (rs := [2]) (by kernel_rfl) (by simp) ?_
        refine AllReadyH.cons (o := ({ dst := some 44, op := Go.Op.buildSlice 43 1 #[(0, Go.Operand.tmp 43)], type := 43, pos := "buchi.go:55", after := #[{ on := 1, ground := Go.Ground.data }], guard := none } : Oper)) rfl (fun K hK => ?_) AllReadyH.nil
        go_simp
        refine hK.out _ _ (by first | assumption | exact HSS4.out _ (gb_trans (And.left (by assumption)) (World.grownBy_alloc _ _ none) (Or.inl rfl))) (fun hHeld => ?_)
        clear hK K
        try simp only [Act.put, List.setIfInBounds_toArray, List.set_cons_zero, List.set_cons_succ]
        refine wpAnyH_ready (rs := [5]) (by kernel_rfl) (by simp) ?_
        refine AllReadyH.cons (o := ({ dst := some 47, op := Go.Op.call { callee := Go.Callee.value (Go.Operand.func 92), args := #[Go.Operand.tmp 44, Go.Operand.tmp 46], argTypes := #[43, 3] }, type := 4, pos := "buchi.go:55", after := #[{ on := 2, ground := Go.Ground.data }, { on := 4, ground := Go.Ground.data }], guard := none } : Oper)) rfl (fun K hK => ?_) AllReadyH.nil
        go_simp
        ((with_reducible refine HS1.out.mono ?_); rintro e wn ⟨rfl, rfl⟩)
        refine hK.out _ _ (by assumption) (fun hHeld => ?_)
        clear hK K
        try simp only [Act.put, List.setIfInBounds_toArray, List.set_cons_zero, List.set_cons_succ]
        refine wpAnyH_take (i := 6) (oi := ({ dst := some 48, op := Go.Op.unOp Go.UnOp.not 4 (Go.Operand.tmp 47), type := 4, pos := "buchi.go:55", after := #[{ on := 5, ground := Go.Ground.data }], guard := none } : Oper)) (v := ?_) rfl (by kernel_rfl) (by kernel_rfl) (by kernel_rfl) (fun _ _ _ h => h) (Or.inl ⟨by rfl, ?_⟩) (by assumption) ?_
        rotate_left
        · (intro wS hSw; (try dsimp only at hSw); go_simp <;> with_reducible rfl)
        try simp only [Act.put, List.setIfInBounds_toArray, List.set_cons_zero, List.set_cons_succ]
        refine wpAnyH_take (i := 7) (oi := ({ dst := some 49, op := Go.Op.move (Go.Operand.tmp 48), type := 4, pos := "buchi.go:55", after := #[{ on := 6, ground := Go.Ground.data }, { on := 5, ground := Go.Ground.chain }], guard := none } : Oper)) (v := ?_) rfl (by kernel_rfl) (by kernel_rfl) (by kernel_rfl) (fun _ _ _ h => h) (Or.inl ⟨by rfl, ?_⟩) (by assumption) ?_
        rotate_left
        · (intro wS hSw; (try dsimp only at hSw); go_simp <;> with_reducible rfl)
        try simp only [Act.put, List.setIfInBounds_toArray, List.set_cons_zero, List.set_cons_succ]
        refine wpAnyH_take (i := 8) (oi := ({ dst := some 50, op := Go.Op.fieldAddr 61 (Go.Operand.tmp 5) 1, type := 0, pos := "buchi.go:55", after := #[{ on := 7, ground := Go.Ground.guard }], guard := some (7, false) } : Oper)) (v := undef) rfl (by kernel_rfl) (by kernel_rfl) (by kernel_rfl) (fun _ _ _ h => h) (Or.inr ⟨by rfl, rfl⟩) (by assumption) ?_
        try simp only [Act.put, List.setIfInBounds_toArray, List.set_cons_zero, List.set_cons_succ]
        refine wpAnyH_take (i := 9) (oi := ({ dst := some 51, op := Go.Op.load 3 (Go.Operand.tmp 50), type := 3, pos := "buchi.go:55", after := #[{ on := 8, ground := Go.Ground.data }, { on := 7, ground := Go.Ground.guard }], guard := some (7, false) } : Oper)) (v := undef) rfl (by kernel_rfl) (by kernel_rfl) (by kernel_rfl) (fun _ _ _ h => h) (Or.inr ⟨by rfl, rfl⟩) (by assumption) ?_
        try simp only [Act.put, List.setIfInBounds_toArray, List.set_cons_zero, List.set_cons_succ]
        refine wpAnyH_take (i := 10) (oi := ({ dst := some 52, op := Go.Op.buildSlice 43 1 #[(0, Go.Operand.tmp 51)], type := 43, pos := "buchi.go:55", after := #[{ on := 9, ground := Go.Ground.data }, { on := 7, ground := Go.Ground.guard }], guard := some (7, false) } : Oper)) (v := undef) rfl (by kernel_rfl) (by kernel_rfl) (by kernel_rfl) (fun _ _ _ h => h) (Or.inr ⟨by rfl, rfl⟩) (by assumption) ?_
        try simp only [Act.put, List.setIfInBounds_toArray, List.set_cons_zero, List.set_cons_succ]
        refine wpAnyH_take (i := 11) (oi := ({ dst := some 53, op := Go.Op.fieldAddr 87 (Go.Operand.tmp 1) 1, type := 0, pos := "buchi.go:55", after := #[{ on := 7, ground := Go.Ground.guard }], guard := some (7, false) } : Oper)) (v := undef) rfl (by kernel_rfl) (by kernel_rfl) (by kernel_rfl) (fun _ _ _ h => h) (Or.inr ⟨by rfl, rfl⟩) (by assumption) ?_
        try simp only [Act.put, List.setIfInBounds_toArray, List.set_cons_zero, List.set_cons_succ]
        refine wpAnyH_take (i := 12) (oi := ({ dst := some 54, op := Go.Op.load 3 (Go.Operand.tmp 53), type := 3, pos := "buchi.go:55", after := #[{ on := 11, ground := Go.Ground.data }, { on := 7, ground := Go.Ground.guard }], guard := some (7, false) } : Oper)) (v := undef) rfl (by kernel_rfl) (by kernel_rfl) (by kernel_rfl) (fun _ _ _ h => h) (Or.inr ⟨by rfl, rfl⟩) (by assumption) ?_
        try simp only [Act.put, List.setIfInBounds_toArray, List.set_cons_zero, List.set_cons_succ]
        refine wpAnyH_take (i := 13) (oi := ({ dst := some 55, op := Go.Op.call { callee := Go.Callee.value (Go.Operand.func 92), args := #[Go.Operand.tmp 52, Go.Operand.tmp 54], argTypes := #[43, 3] }, type := 4, pos := "buchi.go:55", after := #[{ on := 10, ground := Go.Ground.data }, { on := 12, ground := Go.Ground.data }, { on := 7, ground := Go.Ground.chain }, { on := 7, ground := Go.Ground.guard }], guard := some (7, false) } : Oper)) (v := undef) rfl (by kernel_rfl) (by kernel_rfl) (by kernel_rfl) (fun _ _ _ h => h) (Or.inr ⟨by rfl, rfl⟩) (by assumption) ?_
        try simp only [Act.put, List.setIfInBounds_toArray, List.set_cons_zero, List.set_cons_succ]
        refine wpAnyH_take (i := 14) (oi := ({ dst := some 56, op := Go.Op.unOp Go.UnOp.not 4 (Go.Operand.tmp 55), type := 4, pos := "buchi.go:55", after := #[{ on := 13, ground := Go.Ground.data }, { on := 7, ground := Go.Ground.guard }], guard := some (7, false) } : Oper)) (v := undef) rfl (by kernel_rfl) (by kernel_rfl) (by kernel_rfl) (fun _ _ _ h => h) (Or.inr ⟨by rfl, rfl⟩) (by assumption) ?_
        try simp only [Act.put, List.setIfInBounds_toArray, List.set_cons_zero, List.set_cons_succ]
        refine wpAnyH_take (i := 15) (oi := ({ dst := some 57, op := Go.Op.pick (Go.Operand.tmp 49) (Go.Operand.const (Go.Value.bool true)) (Go.Operand.tmp 56), type := 4, pos := "buchi.go:55", after := #[{ on := 7, ground := Go.Ground.data }, { on := 14, ground := Go.Ground.data }], guard := none } : Oper)) (v := ?_) rfl (by kernel_rfl) (by kernel_rfl) (by kernel_rfl) (fun _ _ _ h => h) (Or.inl ⟨by rfl, ?_⟩) (by assumption) ?_
        rotate_left
        · (intro wS hSw; (try dsimp only at hSw); go_simp <;> with_reducible rfl)
        try simp only [Act.put, List.setIfInBounds_toArray, List.set_cons_zero, List.set_cons_succ]
        refine wpAnyH_take (i := 16) (oi := ({ dst := some 58, op := Go.Op.move (Go.Operand.tmp 57), type := 4, pos := "buchi.go:55", after := #[{ on := 15, ground := Go.Ground.data }, { on := 13, ground := Go.Ground.chain }], guard := none } : Oper)) (v := ?_) rfl (by kernel_rfl) (by kernel_rfl) (by kernel_rfl) (fun _ _ _ h => h) (Or.inl ⟨by rfl, ?_⟩) (by assumption) ?_
        rotate_left
        · (intro wS hSw; (try dsimp only at hSw); go_simp <;> with_reducible rfl)
        try simp only [Act.put, List.setIfInBounds_toArray, List.set_cons_zero, List.set_cons_succ]
        refine wpAnyH_take (i := 17) (oi := ({ dst := some 59, op := Go.Op.fieldAddr 61 (Go.Operand.tmp 5) 2, type := 0, pos := "buchi.go:55", after := #[{ on := 16, ground := Go.Ground.guard }], guard := some (16, false) } : Oper)) (v := undef) rfl (by kernel_rfl) (by kernel_rfl) (by kernel_rfl) (fun _ _ _ h => h) (Or.inr ⟨by rfl, rfl⟩) (by assumption) ?_
        try simp only [Act.put, List.setIfInBounds_toArray, List.set_cons_zero, List.set_cons_succ]
        refine wpAnyH_take (i := 18) (oi := ({ dst := some 60, op := Go.Op.load 55 (Go.Operand.tmp 59), type := 55, pos := "buchi.go:55", after := #[{ on := 17, ground := Go.Ground.data }, { on := 16, ground := Go.Ground.guard }], guard := some (16, false) } : Oper)) (v := undef) rfl (by kernel_rfl) (by kernel_rfl) (by kernel_rfl) (fun _ _ _ h => h) (Or.inr ⟨by rfl, rfl⟩) (by assumption) ?_
        try simp only [Act.put, List.setIfInBounds_toArray, List.set_cons_zero, List.set_cons_succ]
        refine wpAnyH_take (i := 19) (oi := ({ dst := some 61, op := Go.Op.convert 55 3 (Go.Operand.tmp 60), type := 3, pos := "buchi.go:55", after := #[{ on := 18, ground := Go.Ground.data }, { on := 16, ground := Go.Ground.guard }], guard := some (16, false) } : Oper)) (v := undef) rfl (by kernel_rfl) (by kernel_rfl) (by kernel_rfl) (fun _ _ _ h => h) (Or.inr ⟨by rfl, rfl⟩) (by assumption) ?_
        try simp only [Act.put, List.setIfInBounds_toArray, List.set_cons_zero, List.set_cons_succ]
        refine wpAnyH_take (i := 20) (oi := ({ dst := some 62, op := Go.Op.move (Go.Operand.tmp 3), type := 3, pos := "buchi.go:55", after := #[{ on := 16, ground := Go.Ground.guard }], guard := some (16, false) } : Oper)) (v := undef) rfl (by kernel_rfl) (by kernel_rfl) (by kernel_rfl) (fun _ _ _ h => h) (Or.inr ⟨by rfl, rfl⟩) (by assumption) ?_
        try simp only [Act.put, List.setIfInBounds_toArray, List.set_cons_zero, List.set_cons_succ]
        refine wpAnyH_take (i := 21) (oi := ({ dst := some 63, op := Go.Op.binOp Go.BinOp.geq 3 (Go.Operand.tmp 61) (Go.Operand.tmp 62) 3, type := 4, pos := "buchi.go:55", after := #[{ on := 19, ground := Go.Ground.data }, { on := 20, ground := Go.Ground.data }, { on := 16, ground := Go.Ground.guard }], guard := some (16, false) } : Oper)) (v := undef) rfl (by kernel_rfl) (by kernel_rfl) (by kernel_rfl) (fun _ _ _ h => h) (Or.inr ⟨by rfl, rfl⟩) (by assumption) ?_
        try simp only [Act.put, List.setIfInBounds_toArray, List.set_cons_zero, List.set_cons_succ]
        refine wpAnyH_take (i := 22) (oi := ({ dst := some 64, op := Go.Op.pick (Go.Operand.tmp 58) (Go.Operand.const (Go.Value.bool true)) (Go.Operand.tmp 63), type := 4, pos := "buchi.go:55", after := #[{ on := 16, ground := Go.Ground.data }, { on := 21, ground := Go.Ground.data }], guard := none } : Oper)) (v := ?_) rfl (by kernel_rfl) (by kernel_rfl) (by kernel_rfl) (fun _ _ _ h => h) (Or.inl ⟨by rfl, ?_⟩) (by assumption) ?_
        rotate_left
        · (intro wS hSw; (try dsimp only at hSw); go_simp <;> with_reducible rfl)
        try simp only [Act.put, List.setIfInBounds_toArray, List.set_cons_zero, List.set_cons_succ]
        refine wpAnyH_take (i := 23) (oi := ({ dst := some 65, op := Go.Op.move (Go.Operand.tmp 64), type := 4, pos := "buchi.go:55", after := #[{ on := 22, ground := Go.Ground.data }, { on := 16, ground := Go.Ground.chain }], guard := none } : Oper)) (v := ?_) rfl (by kernel_rfl) (by kernel_rfl) (by kernel_rfl) (fun _ _ _ h => h) (Or.inl ⟨by rfl, ?_⟩) (by assumption) ?_
        rotate_left
        · (intro wS hSw; (try dsimp only at hSw); go_simp <;> with_reducible rfl)
        try simp only [Act.put, List.setIfInBounds_toArray, List.set_cons_zero, List.set_cons_succ]
        refine wpAnyH_take (i := 24) (oi := ({ dst := some 66, op := Go.Op.fieldAddr 61 (Go.Operand.tmp 5) 3, type := 0, pos := "buchi.go:55", after := #[{ on := 23, ground := Go.Ground.guard }], guard := some (23, false) } : Oper)) (v := undef) rfl (by kernel_rfl) (by kernel_rfl) (by kernel_rfl) (fun _ _ _ h => h) (Or.inr ⟨by rfl, rfl⟩) (by assumption) ?_
        try simp only [Act.put, List.setIfInBounds_toArray, List.set_cons_zero, List.set_cons_succ]
        refine wpAnyH_take (i := 25) (oi := ({ dst := some 67, op := Go.Op.load 55 (Go.Operand.tmp 66), type := 55, pos := "buchi.go:55", after := #[{ on := 24, ground := Go.Ground.data }, { on := 23, ground := Go.Ground.guard }], guard := some (23, false) } : Oper)) (v := undef) rfl (by kernel_rfl) (by kernel_rfl) (by kernel_rfl) (fun _ _ _ h => h) (Or.inr ⟨by rfl, rfl⟩) (by assumption) ?_
        try simp only [Act.put, List.setIfInBounds_toArray, List.set_cons_zero, List.set_cons_succ]
        refine wpAnyH_take (i := 26) (oi := ({ dst := some 68, op := Go.Op.convert 55 3 (Go.Operand.tmp 67), type := 3, pos := "buchi.go:55", after := #[{ on := 25, ground := Go.Ground.data }, { on := 23, ground := Go.Ground.guard }], guard := some (23, false) } : Oper)) (v := undef) rfl (by kernel_rfl) (by kernel_rfl) (by kernel_rfl) (fun _ _ _ h => h) (Or.inr ⟨by rfl, rfl⟩) (by assumption) ?_
        try simp only [Act.put, List.setIfInBounds_toArray, List.set_cons_zero, List.set_cons_succ]
        refine wpAnyH_take (i := 27) (oi := ({ dst := some 69, op := Go.Op.move (Go.Operand.tmp 3), type := 3, pos := "buchi.go:55", after := #[{ on := 23, ground := Go.Ground.guard }], guard := some (23, false) } : Oper)) (v := undef) rfl (by kernel_rfl) (by kernel_rfl) (by kernel_rfl) (fun _ _ _ h => h) (Or.inr ⟨by rfl, rfl⟩) (by assumption) ?_
        try simp only [Act.put, List.setIfInBounds_toArray, List.set_cons_zero, List.set_cons_succ]
        refine wpAnyH_take (i := 28) (oi := ({ dst := some 70, op := Go.Op.binOp Go.BinOp.geq 3 (Go.Operand.tmp 68) (Go.Operand.tmp 69) 3, type := 4, pos := "buchi.go:55", after := #[{ on := 26, ground := Go.Ground.data }, { on := 27, ground := Go.Ground.data }, { on := 23, ground := Go.Ground.guard }], guard := some (23, false) } : Oper)) (v := undef) rfl (by kernel_rfl) (by kernel_rfl) (by kernel_rfl) (fun _ _ _ h => h) (Or.inr ⟨by rfl, rfl⟩) (by assumption) ?_
        try simp only [Act.put, List.setIfInBounds_toArray, List.set_cons_zero, List.set_cons_succ]
        refine wpAnyH_take (i := 29) (oi := ({ dst := some 71, op := Go.Op.pick (Go.Operand.tmp 65) (Go.Operand.const (Go.Value.bool true)) (Go.Operand.tmp 70), type := 4, pos := "buchi.go:55", after := #[{ on := 23, ground := Go.Ground.data }, { on := 28, ground := Go.Ground.data }], guard := none } : Oper)) (v := ?_) rfl (by kernel_rfl) (by kernel_rfl) (by kernel_rfl) (fun _ _ _ h => h) (Or.inl ⟨by rfl, ?_⟩) (by assumption) ?_
        rotate_left
        · (intro wS hSw; (try dsimp only at hSw); go_simp <;> with_reducible rfl)
        try simp only [Act.put, List.setIfInBounds_toArray, List.set_cons_zero, List.set_cons_succ]
        refine wpAnyH_take (i := 30) (oi := ({ dst := some 72, op := Go.Op.move (Go.Operand.tmp 71), type := 4, pos := "buchi.go:55", after := #[{ on := 29, ground := Go.Ground.data }, { on := 23, ground := Go.Ground.chain }], guard := none } : Oper)) (v := ?_) rfl (by kernel_rfl) (by kernel_rfl) (by kernel_rfl) (fun _ _ _ h => h) (Or.inl ⟨by rfl, ?_⟩) (by assumption) ?_
        rotate_left
        · (intro wS hSw; (try dsimp only at hSw); go_simp <;> with_reducible rfl)
        try simp only [Act.put, List.setIfInBounds_toArray, List.set_cons_zero, List.set_cons_succ]
        refine wpAnyH_take (i := 31) (oi := ({ dst := some 73, op := Go.Op.fieldAddr 61 (Go.Operand.tmp 5) 2, type := 0, pos := "buchi.go:55", after := #[{ on := 30, ground := Go.Ground.guard }], guard := some (30, false) } : Oper)) (v := undef) rfl (by kernel_rfl) (by kernel_rfl) (by kernel_rfl) (fun _ _ _ h => h) (Or.inr ⟨by rfl, rfl⟩) (by assumption) ?_
        try simp only [Act.put, List.setIfInBounds_toArray, List.set_cons_zero, List.set_cons_succ]
        refine wpAnyH_take (i := 32) (oi := ({ dst := some 74, op := Go.Op.load 55 (Go.Operand.tmp 73), type := 55, pos := "buchi.go:55", after := #[{ on := 31, ground := Go.Ground.data }, { on := 30, ground := Go.Ground.guard }], guard := some (30, false) } : Oper)) (v := undef) rfl (by kernel_rfl) (by kernel_rfl) (by kernel_rfl) (fun _ _ _ h => h) (Or.inr ⟨by rfl, rfl⟩) (by assumption) ?_
        try simp only [Act.put, List.setIfInBounds_toArray, List.set_cons_zero, List.set_cons_succ]
        refine wpAnyH_take (i := 33) (oi := ({ dst := some 75, op := Go.Op.fieldAddr 61 (Go.Operand.tmp 5) 3, type := 0, pos := "buchi.go:55", after := #[{ on := 30, ground := Go.Ground.guard }], guard := some (30, false) } : Oper)) (v := undef) rfl (by kernel_rfl) (by kernel_rfl) (by kernel_rfl) (fun _ _ _ h => h) (Or.inr ⟨by rfl, rfl⟩) (by assumption) ?_
        try simp only [Act.put, List.setIfInBounds_toArray, List.set_cons_zero, List.set_cons_succ]
        refine wpAnyH_take (i := 34) (oi := ({ dst := some 76, op := Go.Op.load 55 (Go.Operand.tmp 75), type := 55, pos := "buchi.go:55", after := #[{ on := 33, ground := Go.Ground.data }, { on := 30, ground := Go.Ground.guard }], guard := some (30, false) } : Oper)) (v := undef) rfl (by kernel_rfl) (by kernel_rfl) (by kernel_rfl) (fun _ _ _ h => h) (Or.inr ⟨by rfl, rfl⟩) (by assumption) ?_
        try simp only [Act.put, List.setIfInBounds_toArray, List.set_cons_zero, List.set_cons_succ]
        refine wpAnyH_take (i := 35) (oi := ({ dst := some 77, op := Go.Op.binOp Go.BinOp.and 55 (Go.Operand.tmp 74) (Go.Operand.tmp 76) 55, type := 55, pos := "buchi.go:55", after := #[{ on := 32, ground := Go.Ground.data }, { on := 34, ground := Go.Ground.data }, { on := 30, ground := Go.Ground.guard }], guard := some (30, false) } : Oper)) (v := undef) rfl (by kernel_rfl) (by kernel_rfl) (by kernel_rfl) (fun _ _ _ h => h) (Or.inr ⟨by rfl, rfl⟩) (by assumption) ?_
        try simp only [Act.put, List.setIfInBounds_toArray, List.set_cons_zero, List.set_cons_succ]
        refine wpAnyH_take (i := 36) (oi := ({ dst := some 78, op := Go.Op.binOp Go.BinOp.neq 55 (Go.Operand.tmp 77) (Go.Operand.const (Go.Value.int Go.IntKind.u16 0)) 55, type := 4, pos := "buchi.go:55", after := #[{ on := 35, ground := Go.Ground.data }, { on := 30, ground := Go.Ground.guard }], guard := some (30, false) } : Oper)) (v := undef) rfl (by kernel_rfl) (by kernel_rfl) (by kernel_rfl) (fun _ _ _ h => h) (Or.inr ⟨by rfl, rfl⟩) (by assumption) ?_
        try simp only [Act.put, List.setIfInBounds_toArray, List.set_cons_zero, List.set_cons_succ]
        refine wpAnyH_take (i := 37) (oi := ({ dst := some 79, op := Go.Op.pick (Go.Operand.tmp 72) (Go.Operand.const (Go.Value.bool true)) (Go.Operand.tmp 78), type := 4, pos := "buchi.go:55", after := #[{ on := 30, ground := Go.Ground.data }, { on := 36, ground := Go.Ground.data }], guard := none } : Oper)) (v := ?_) rfl (by kernel_rfl) (by kernel_rfl) (by kernel_rfl) (fun _ _ _ h => h) (Or.inl ⟨by rfl, ?_⟩) (by assumption) ?_
        rotate_left
        · (intro wS hSw; (try dsimp only at hSw); go_simp <;> with_reducible rfl)
        try simp only [Act.put, List.setIfInBounds_toArray, List.set_cons_zero, List.set_cons_succ]
        refine wpAnyH_take (i := 38) (oi := ({ dst := some 80, op := Go.Op.move (Go.Operand.tmp 79), type := 4, pos := "buchi.go:55", after := #[{ on := 37, ground := Go.Ground.data }, { on := 30, ground := Go.Ground.chain }], guard := none } : Oper)) (v := ?_) rfl (by kernel_rfl) (by kernel_rfl) (by kernel_rfl) (fun _ _ _ h => h) (Or.inl ⟨by rfl, ?_⟩) (by assumption) ?_
        rotate_left
        · (intro wS hSw; (try dsimp only at hSw); go_simp <;> with_reducible rfl)
        try simp only [Act.put, List.setIfInBounds_toArray, List.set_cons_zero, List.set_cons_succ]
        refine wpAnyH_take (i := 39) (oi := ({ dst := some 81, op := Go.Op.move (Go.Operand.tmp 4), type := 3, pos := "buchi.go:55", after := #[{ on := 38, ground := Go.Ground.guard }], guard := some (38, false) } : Oper)) (v := undef) rfl (by kernel_rfl) (by kernel_rfl) (by kernel_rfl) (fun _ _ _ h => h) (Or.inr ⟨by rfl, rfl⟩) (by assumption) ?_
        try simp only [Act.put, List.setIfInBounds_toArray, List.set_cons_zero, List.set_cons_succ]
        refine wpAnyH_take (i := 40) (oi := ({ dst := some 82, op := Go.Op.binOp Go.BinOp.gtr 3 (Go.Operand.tmp 81) (Go.Operand.const (Go.Value.int Go.IntKind.i64 0)) 3, type := 4, pos := "buchi.go:55", after := #[{ on := 39, ground := Go.Ground.data }, { on := 38, ground := Go.Ground.guard }], guard := some (38, false) } : Oper)) (v := undef) rfl (by kernel_rfl) (by kernel_rfl) (by kernel_rfl) (fun _ _ _ h => h) (Or.inr ⟨by rfl, rfl⟩) (by assumption) ?_
        try simp only [Act.put, List.setIfInBounds_toArray, List.set_cons_zero, List.set_cons_succ]
        refine wpAnyH_take (i := 41) (oi := ({ dst := some 83, op := Go.Op.move (Go.Operand.tmp 82), type := 4, pos := "buchi.go:55", after := #[{ on := 40, ground := Go.Ground.data }, { on := 38, ground := Go.Ground.chain }, { on := 38, ground := Go.Ground.guard }], guard := some (38, false) } : Oper)) (v := undef) rfl (by kernel_rfl) (by kernel_rfl) (by kernel_rfl) (fun _ _ _ h => h) (Or.inr ⟨by rfl, rfl⟩) (by assumption) ?_
        try simp only [Act.put, List.setIfInBounds_toArray, List.set_cons_zero, List.set_cons_succ]
        refine wpAnyH_take (i := 42) (oi := ({ dst := some 84, op := Go.Op.fieldAddr 87 (Go.Operand.tmp 1) 3, type := 0, pos := "buchi.go:55", after := #[{ on := 41, ground := Go.Ground.guard }], guard := some (41, true) } : Oper)) (v := undef) rfl (by kernel_rfl) (by kernel_rfl) (by kernel_rfl) (fun _ _ _ h => h) (Or.inr ⟨by rfl, rfl⟩) (by assumption) ?_
        try simp only [Act.put, List.setIfInBounds_toArray, List.set_cons_zero, List.set_cons_succ]
        refine wpAnyH_take (i := 43) (oi := ({ dst := some 85, op := Go.Op.load 45 (Go.Operand.tmp 84), type := 45, pos := "buchi.go:55", after := #[{ on := 42, ground := Go.Ground.data }, { on := 41, ground := Go.Ground.guard }], guard := some (41, true) } : Oper)) (v := undef) rfl (by kernel_rfl) (by kernel_rfl) (by kernel_rfl) (fun _ _ _ h => h) (Or.inr ⟨by rfl, rfl⟩) (by assumption) ?_
        try simp only [Act.put, List.setIfInBounds_toArray, List.set_cons_zero, List.set_cons_succ]
        refine wpAnyH_take (i := 44) (oi := ({ dst := some 86, op := Go.Op.move (Go.Operand.tmp 4), type := 3, pos := "buchi.go:55", after := #[{ on := 41, ground := Go.Ground.guard }], guard := some (41, true) } : Oper)) (v := undef) rfl (by kernel_rfl) (by kernel_rfl) (by kernel_rfl) (fun _ _ _ h => h) (Or.inr ⟨by rfl, rfl⟩) (by assumption) ?_
        try simp only [Act.put, List.setIfInBounds_toArray, List.set_cons_zero, List.set_cons_succ]
        refine wpAnyH_take (i := 45) (oi := ({ dst := some 87, op := Go.Op.binOp Go.BinOp.sub 3 (Go.Operand.tmp 86) (Go.Operand.const (Go.Value.int Go.IntKind.i64 1)) 3, type := 3, pos := "buchi.go:55", after := #[{ on := 44, ground := Go.Ground.data }, { on := 41, ground := Go.Ground.guard }], guard := some (41, true) } : Oper)) (v := undef) rfl (by kernel_rfl) (by kernel_rfl) (by kernel_rfl) (fun _ _ _ h => h) (Or.inr ⟨by rfl, rfl⟩) (by assumption) ?_
        try simp only [Act.put, List.setIfInBounds_toArray, List.set_cons_zero, List.set_cons_succ]
        refine wpAnyH_take (i := 46) (oi := ({ dst := some 88, op := Go.Op.indexAddr 45 (Go.Operand.tmp 85) (Go.Operand.tmp 87), type := 0, pos := "buchi.go:55", after := #[{ on := 43, ground := Go.Ground.data }, { on := 45, ground := Go.Ground.data }, { on := 41, ground := Go.Ground.guard }], guard := some (41, true) } : Oper)) (v := undef) rfl (by kernel_rfl) (by kernel_rfl) (by kernel_rfl) (fun _ _ _ h => h) (Or.inr ⟨by rfl, rfl⟩) (by assumption) ?_
        try simp only [Act.put, List.setIfInBounds_toArray, List.set_cons_zero, List.set_cons_succ]
        refine wpAnyH_take (i := 47) (oi := ({ dst := some 89, op := Go.Op.load 61 (Go.Operand.tmp 88), type := 61, pos := "buchi.go:55", after := #[{ on := 46, ground := Go.Ground.data }, { on := 41, ground := Go.Ground.guard }], guard := some (41, true) } : Oper)) (v := undef) rfl (by kernel_rfl) (by kernel_rfl) (by kernel_rfl) (fun _ _ _ h => h) (Or.inr ⟨by rfl, rfl⟩) (by assumption) ?_
        try simp only [Act.put, List.setIfInBounds_toArray, List.set_cons_zero, List.set_cons_succ]
        refine wpAnyH_take (i := 48) (oi := ({ dst := some 90, op := Go.Op.load 61 (Go.Operand.tmp 5), type := 61, pos := "buchi.go:55", after := #[{ on := 41, ground := Go.Ground.guard }], guard := some (41, true) } : Oper)) (v := undef) rfl (by kernel_rfl) (by kernel_rfl) (by kernel_rfl) (fun _ _ _ h => h) (Or.inr ⟨by rfl, rfl⟩) (by assumption) ?_
        try simp only [Act.put, List.setIfInBounds_toArray, List.set_cons_zero, List.set_cons_succ]
        refine wpAnyH_take (i := 49) (oi := ({ dst := some 91, op := Go.Op.call { callee := Go.Callee.value (Go.Operand.func 93), args := #[Go.Operand.tmp 89, Go.Operand.tmp 90], argTypes := #[61, 61] }, type := 3, pos := "buchi.go:55", after := #[{ on := 47, ground := Go.Ground.data }, { on := 48, ground := Go.Ground.data }, { on := 41, ground := Go.Ground.chain }, { on := 41, ground := Go.Ground.guard }], guard := some (41, true) } : Oper)) (v := undef) rfl (by kernel_rfl) (by kernel_rfl) (by kernel_rfl) (fun _ _ _ h => h) (Or.inr ⟨by rfl, rfl⟩) (by assumption) ?_
        try simp only [Act.put, List.setIfInBounds_toArray, List.set_cons_zero, List.set_cons_succ]
        refine wpAnyH_take (i := 50) (oi := ({ dst := some 92, op := Go.Op.binOp Go.BinOp.geq 3 (Go.Operand.tmp 91) (Go.Operand.const (Go.Value.int Go.IntKind.i64 0)) 3, type := 4, pos := "buchi.go:55", after := #[{ on := 49, ground := Go.Ground.data }, { on := 41, ground := Go.Ground.guard }], guard := some (41, true) } : Oper)) (v := undef) rfl (by kernel_rfl) (by kernel_rfl) (by kernel_rfl) (fun _ _ _ h => h) (Or.inr ⟨by rfl, rfl⟩) (by assumption) ?_
        try simp only [Act.put, List.setIfInBounds_toArray, List.set_cons_zero, List.set_cons_succ]
        refine wpAnyH_take (i := 51) (oi := ({ dst := some 93, op := Go.Op.pick (Go.Operand.tmp 83) (Go.Operand.tmp 92) (Go.Operand.const (Go.Value.bool false)), type := 4, pos := "buchi.go:55", after := #[{ on := 41, ground := Go.Ground.data }, { on := 50, ground := Go.Ground.data }, { on := 38, ground := Go.Ground.guard }], guard := some (38, false) } : Oper)) (v := undef) rfl (by kernel_rfl) (by kernel_rfl) (by kernel_rfl) (fun _ _ _ h => h) (Or.inr ⟨by rfl, rfl⟩) (by assumption) ?_
        try simp only [Act.put, List.setIfInBounds_toArray, List.set_cons_zero, List.set_cons_succ]
        refine wpAnyH_take (i := 52) (oi := ({ dst := some 94, op := Go.Op.pick (Go.Operand.tmp 80) (Go.Operand.const (Go.Value.bool true)) (Go.Operand.tmp 93), type := 4, pos := "buchi.go:55", after := #[{ on := 38, ground := Go.Ground.data }, { on := 51, ground := Go.Ground.data }], guard := none } : Oper)) (v := ?_) rfl (by kernel_rfl) (by kernel_rfl) (by kernel_rfl) (fun _ _ _ h => h) (Or.inl ⟨by rfl, ?_⟩) (by assumption) ?_
        rotate_left
        · (intro wS hSw; (try dsimp only at hSw); go_simp <;> with_reducible rfl)
        try simp only [Act.put, List.setIfInBounds_toArray, List.set_cons_zero, List.set_cons_succ]
        refine wpAnyH_done (by kernel_rfl) ?_ _
        have HGn := Lib.hid hHeld.1
        go_wp2_with fail
        go_ret
        exact ⟨by rw [HV.out]; rfl, gb_trans HGw.out HGn.out (Or.inl rfl)⟩
      rw [hf1] at HS1
      rw [← Bool.and_assoc, hf1, Bool.true_and, ← Bool.and_assoc] at HBk
      clear hf1
      cases hf2 : (decide (0 ≤ x.tt) && decide (x.tt < n))
      · rw [hf2] at HS2
        have HV := Lib.hid (HNk.out (by rw [HBk.out, hf2, Bool.false_and]))
        clear z3
        clear HNk HYk HBk HPv
        have hS0 := HSS4.out _ (gb_drew we none)
        refine wp_region_held_drew (S := (fun wx => we.grownBy wx none ∧ wx.cell? ⟨wr.heap.size, 0, none⟩ = some (.int .i64 x.fr) ∧ wx.cell? ⟨wr.heap.size, 1, none⟩ = some (.int .i64 x.tt) ∧ wx.cell? ⟨wr.heap.size, 2, none⟩ = some (.int .u16 (x.mu : Int)) ∧ wx.cell? ⟨wr.heap.size, 3, none⟩ = some (.int .u16 (x.no : Int)) ∧ wx.cell? ⟨w.heap.size, 1, none⟩ = some (.int .i64 n))) (by kernel_rfl) (by assumption) (fun hHeld => ?_)
        refine wpAnyH_take (i := 0) (oi := ({ dst := some 42, op := Go.Op.fieldAddr 61 (Go.Operand.tmp 5) 0, type := 0, pos := "buchi.go:55", after := #[], guard := none } : Oper)) (v := ?_) rfl (by kernel_rfl) (by kernel_rfl) (by kernel_rfl) (fun _ _ _ h => h) (Or.inl ⟨by rfl, ?_⟩) (by assumption) ?_
        rotate_left
        · (intro wS hSw; (try dsimp only at hSw); go_simp <;> with_reducible rfl)
        try simp only [Act.put, List.setIfInBounds_toArray, List.set_cons_zero, List.set_cons_succ]
        refine wpAnyH_take (i := 1) (oi := ({ dst := some 43, op := Go.Op.load 3 (Go.Operand.tmp 42), type := 3, pos := "buchi.go:55", after := #[{ on := 0, ground := Go.Ground.data }], guard := none } : Oper)) (v := ?_) rfl (by kernel_rfl) (by kernel_rfl) (by kernel_rfl) (fun _ _ _ h => h) (Or.inl ⟨by rfl, ?_⟩) (by assumption) ?_
        rotate_left
        · (intro wS hSw; (try dsimp only at hSw); go_simp <;> with_reducible rfl)
        try simp only [Act.put, List.setIfInBounds_toArray, List.set_cons_zero, List.set_cons_succ]
        refine wpAnyH_take (i := 3) (oi := ({ dst := some 45, op := Go.Op.fieldAddr 87 (Go.Operand.tmp 1) 1, type := 0, pos := "buchi.go:55", after := #[], guard := none } : Oper)) (v := ?_) rfl (by kernel_rfl) (by kernel_rfl) (by kernel_rfl) (fun _ _ _ h => h) (Or.inl ⟨by rfl, ?_⟩) (by assumption) ?_
        rotate_left
        · (intro wS hSw; (try dsimp only at hSw); go_simp <;> with_reducible rfl)
        try simp only [Act.put, List.setIfInBounds_toArray, List.set_cons_zero, List.set_cons_succ]
        refine wpAnyH_take (i := 4) (oi := ({ dst := some 46, op := Go.Op.load 3 (Go.Operand.tmp 45), type := 3, pos := "buchi.go:55", after := #[{ on := 3, ground := Go.Ground.data }], guard := none } : Oper)) (v := ?_) rfl (by kernel_rfl) (by kernel_rfl) (by kernel_rfl) (fun _ _ _ h => h) (Or.inl ⟨by rfl, ?_⟩) (by assumption) ?_
        rotate_left
        · (intro wS hSw; (try dsimp only at hSw); go_simp <;> with_reducible rfl)
        try simp only [Act.put, List.setIfInBounds_toArray, List.set_cons_zero, List.set_cons_succ]
        refine wpAnyH_ready (rs := [2]) (by kernel_rfl) (by simp) ?_
        refine AllReadyH.cons (o := ({ dst := some 44, op := Go.Op.buildSlice 43 1 #[(0, Go.Operand.tmp 43)], type := 43, pos := "buchi.go:55", after := #[{ on := 1, ground := Go.Ground.data }], guard := none } : Oper)) rfl (fun K hK => ?_) AllReadyH.nil
        go_simp
        refine hK.out _ _ (by first | assumption | exact HSS4.out _ (gb_trans (And.left (by assumption)) (World.grownBy_alloc _ _ none) (Or.inl rfl))) (fun hHeld => ?_)
        clear hK K
        try simp only [Act.put, List.setIfInBounds_toArray, List.set_cons_zero, List.set_cons_succ]
        refine wpAnyH_ready (rs := [5]) (by kernel_rfl) (by simp) ?_
        refine AllReadyH.cons (o := ({ dst := some 47, op := Go.Op.call { callee := Go.Callee.value (Go.Operand.func 92), args := #[Go.Operand.tmp 44, Go.Operand.tmp 46], argTypes := #[43, 3] }, type := 4, pos := "buchi.go:55", after := #[{ on := 2, ground := Go.Ground.data }, { on := 4, ground := Go.Ground.data }], guard := none } : Oper)) rfl (fun K hK => ?_) AllReadyH.nil
        go_simp
        ((with_reducible refine HS1.out.mono ?_); rintro e wn ⟨rfl, rfl⟩)
        refine hK.out _ _ (by assumption) (fun hHeld => ?_)
        clear hK K
        try simp only [Act.put, List.setIfInBounds_toArray, List.set_cons_zero, List.set_cons_succ]
        refine wpAnyH_take (i := 6) (oi := ({ dst := some 48, op := Go.Op.unOp Go.UnOp.not 4 (Go.Operand.tmp 47), type := 4, pos := "buchi.go:55", after := #[{ on := 5, ground := Go.Ground.data }], guard := none } : Oper)) (v := ?_) rfl (by kernel_rfl) (by kernel_rfl) (by kernel_rfl) (fun _ _ _ h => h) (Or.inl ⟨by rfl, ?_⟩) (by assumption) ?_
        rotate_left
        · (intro wS hSw; (try dsimp only at hSw); go_simp <;> with_reducible rfl)
        try simp only [Act.put, List.setIfInBounds_toArray, List.set_cons_zero, List.set_cons_succ]
        refine wpAnyH_take (i := 7) (oi := ({ dst := some 49, op := Go.Op.move (Go.Operand.tmp 48), type := 4, pos := "buchi.go:55", after := #[{ on := 6, ground := Go.Ground.data }, { on := 5, ground := Go.Ground.chain }], guard := none } : Oper)) (v := ?_) rfl (by kernel_rfl) (by kernel_rfl) (by kernel_rfl) (fun _ _ _ h => h) (Or.inl ⟨by rfl, ?_⟩) (by assumption) ?_
        rotate_left
        · (intro wS hSw; (try dsimp only at hSw); go_simp <;> with_reducible rfl)
        try simp only [Act.put, List.setIfInBounds_toArray, List.set_cons_zero, List.set_cons_succ]
        refine wpAnyH_take (i := 8) (oi := ({ dst := some 50, op := Go.Op.fieldAddr 61 (Go.Operand.tmp 5) 1, type := 0, pos := "buchi.go:55", after := #[{ on := 7, ground := Go.Ground.guard }], guard := some (7, false) } : Oper)) (v := ?_) rfl (by kernel_rfl) (by kernel_rfl) (by kernel_rfl) (fun _ _ _ h => h) (Or.inl ⟨by rfl, ?_⟩) (by assumption) ?_
        rotate_left
        · (intro wS hSw; (try dsimp only at hSw); go_simp <;> with_reducible rfl)
        try simp only [Act.put, List.setIfInBounds_toArray, List.set_cons_zero, List.set_cons_succ]
        refine wpAnyH_take (i := 9) (oi := ({ dst := some 51, op := Go.Op.load 3 (Go.Operand.tmp 50), type := 3, pos := "buchi.go:55", after := #[{ on := 8, ground := Go.Ground.data }, { on := 7, ground := Go.Ground.guard }], guard := some (7, false) } : Oper)) (v := ?_) rfl (by kernel_rfl) (by kernel_rfl) (by kernel_rfl) (fun _ _ _ h => h) (Or.inl ⟨by rfl, ?_⟩) (by assumption) ?_
        rotate_left
        · (intro wS hSw; (try dsimp only at hSw); go_simp <;> with_reducible rfl)
        try simp only [Act.put, List.setIfInBounds_toArray, List.set_cons_zero, List.set_cons_succ]
        refine wpAnyH_take (i := 11) (oi := ({ dst := some 53, op := Go.Op.fieldAddr 87 (Go.Operand.tmp 1) 1, type := 0, pos := "buchi.go:55", after := #[{ on := 7, ground := Go.Ground.guard }], guard := some (7, false) } : Oper)) (v := ?_) rfl (by kernel_rfl) (by kernel_rfl) (by kernel_rfl) (fun _ _ _ h => h) (Or.inl ⟨by rfl, ?_⟩) (by assumption) ?_
        rotate_left
        · (intro wS hSw; (try dsimp only at hSw); go_simp <;> with_reducible rfl)
        try simp only [Act.put, List.setIfInBounds_toArray, List.set_cons_zero, List.set_cons_succ]
        refine wpAnyH_take (i := 12) (oi := ({ dst := some 54, op := Go.Op.load 3 (Go.Operand.tmp 53), type := 3, pos := "buchi.go:55", after := #[{ on := 11, ground := Go.Ground.data }, { on := 7, ground := Go.Ground.guard }], guard := some (7, false) } : Oper)) (v := ?_) rfl (by kernel_rfl) (by kernel_rfl) (by kernel_rfl) (fun _ _ _ h => h) (Or.inl ⟨by rfl, ?_⟩) (by assumption) ?_
        rotate_left
        · (intro wS hSw; (try dsimp only at hSw); go_simp <;> with_reducible rfl)
        try simp only [Act.put, List.setIfInBounds_toArray, List.set_cons_zero, List.set_cons_succ]
        refine wpAnyH_ready (rs := [10]) (by kernel_rfl) (by simp) ?_
        refine AllReadyH.cons (o := ({ dst := some 52, op := Go.Op.buildSlice 43 1 #[(0, Go.Operand.tmp 51)], type := 43, pos := "buchi.go:55", after := #[{ on := 9, ground := Go.Ground.data }, { on := 7, ground := Go.Ground.guard }], guard := some (7, false) } : Oper)) rfl (fun K hK => ?_) AllReadyH.nil
        go_simp
        refine hK.out _ _ (by first | assumption | exact HSS4.out _ (gb_trans (And.left (by assumption)) (World.grownBy_alloc _ _ none) (Or.inl rfl))) (fun hHeld => ?_)
        clear hK K
        try simp only [Act.put, List.setIfInBounds_toArray, List.set_cons_zero, List.set_cons_succ]
        refine wpAnyH_ready (rs := [13]) (by kernel_rfl) (by simp) ?_
        refine AllReadyH.cons (o := ({ dst := some 55, op := Go.Op.call { callee := Go.Callee.value (Go.Operand.func 92), args := #[Go.Operand.tmp 52, Go.Operand.tmp 54], argTypes := #[43, 3] }, type := 4, pos := "buchi.go:55", after := #[{ on := 10, ground := Go.Ground.data }, { on := 12, ground := Go.Ground.data }, { on := 7, ground := Go.Ground.chain }, { on := 7, ground := Go.Ground.guard }], guard := some (7, false) } : Oper)) rfl (fun K hK => ?_) AllReadyH.nil
        go_simp
        ((with_reducible refine HS2.out.mono ?_); rintro e wn ⟨rfl, rfl⟩)
        refine hK.out _ _ (by assumption) (fun hHeld => ?_)
        clear hK K
        try simp only [Act.put, List.setIfInBounds_toArray, List.set_cons_zero, List.set_cons_succ]
        refine wpAnyH_take (i := 14) (oi := ({ dst := some 56, op := Go.Op.unOp Go.UnOp.not 4 (Go.Operand.tmp 55), type := 4, pos := "buchi.go:55", after := #[{ on := 13, ground := Go.Ground.data }, { on := 7, ground := Go.Ground.guard }], guard := some (7, false) } : Oper)) (v := ?_) rfl (by kernel_rfl) (by kernel_rfl) (by kernel_rfl) (fun _ _ _ h => h) (Or.inl ⟨by rfl, ?_⟩) (by assumption) ?_
        rotate_left
        · (intro wS hSw; (try dsimp only at hSw); go_simp <;> with_reducible rfl)
        try simp only [Act.put, List.setIfInBounds_toArray, List.set_cons_zero, List.set_cons_succ]
        refine wpAnyH_take (i := 15) (oi := ({ dst := some 57, op := Go.Op.pick (Go.Operand.tmp 49) (Go.Operand.const (Go.Value.bool true)) (Go.Operand.tmp 56), type := 4, pos := "buchi.go:55", after := #[{ on := 7, ground := Go.Ground.data }, { on := 14, ground := Go.Ground.data }], guard := none } : Oper)) (v := ?_) rfl (by kernel_rfl) (by kernel_rfl) (by kernel_rfl) (fun _ _ _ h => h) (Or.inl ⟨by rfl, ?_⟩) (by assumption) ?_
        rotate_left
        · (intro wS hSw; (try dsimp only at hSw); go_simp <;> with_reducible rfl)
        try simp only [Act.put, List.setIfInBounds_toArray, List.set_cons_zero, List.set_cons_succ]
        refine wpAnyH_take (i := 16) (oi := ({ dst := some 58, op := Go.Op.move (Go.Operand.tmp 57), type := 4, pos := "buchi.go:55", after := #[{ on := 15, ground := Go.Ground.data }, { on := 13, ground := Go.Ground.chain }], guard := none } : Oper)) (v := ?_) rfl (by kernel_rfl) (by kernel_rfl) (by kernel_rfl) (fun _ _ _ h => h) (Or.inl ⟨by rfl, ?_⟩) (by assumption) ?_
        rotate_left
        · (intro wS hSw; (try dsimp only at hSw); go_simp <;> with_reducible rfl)
        try simp only [Act.put, List.setIfInBounds_toArray, List.set_cons_zero, List.set_cons_succ]
        refine wpAnyH_take (i := 17) (oi := ({ dst := some 59, op := Go.Op.fieldAddr 61 (Go.Operand.tmp 5) 2, type := 0, pos := "buchi.go:55", after := #[{ on := 16, ground := Go.Ground.guard }], guard := some (16, false) } : Oper)) (v := undef) rfl (by kernel_rfl) (by kernel_rfl) (by kernel_rfl) (fun _ _ _ h => h) (Or.inr ⟨by rfl, rfl⟩) (by assumption) ?_
        try simp only [Act.put, List.setIfInBounds_toArray, List.set_cons_zero, List.set_cons_succ]
        refine wpAnyH_take (i := 18) (oi := ({ dst := some 60, op := Go.Op.load 55 (Go.Operand.tmp 59), type := 55, pos := "buchi.go:55", after := #[{ on := 17, ground := Go.Ground.data }, { on := 16, ground := Go.Ground.guard }], guard := some (16, false) } : Oper)) (v := undef) rfl (by kernel_rfl) (by kernel_rfl) (by kernel_rfl) (fun _ _ _ h => h) (Or.inr ⟨by rfl, rfl⟩) (by assumption) ?_
        try simp only [Act.put, List.setIfInBounds_toArray, List.set_cons_zero, List.set_cons_succ]
        refine wpAnyH_take (i := 19) (oi := ({ dst := some 61, op := Go.Op.convert 55 3 (Go.Operand.tmp 60), type := 3, pos := "buchi.go:55", after := #[{ on := 18, ground := Go.Ground.data }, { on := 16, ground := Go.Ground.guard }], guard := some (16, false) } : Oper)) (v := undef) rfl (by kernel_rfl) (by kernel_rfl) (by kernel_rfl) (fun _ _ _ h => h) (Or.inr ⟨by rfl, rfl⟩) (by assumption) ?_
        try simp only [Act.put, List.setIfInBounds_toArray, List.set_cons_zero, List.set_cons_succ]
        refine wpAnyH_take (i := 20) (oi := ({ dst := some 62, op := Go.Op.move (Go.Operand.tmp 3), type := 3, pos := "buchi.go:55", after := #[{ on := 16, ground := Go.Ground.guard }], guard := some (16, false) } : Oper)) (v := undef) rfl (by kernel_rfl) (by kernel_rfl) (by kernel_rfl) (fun _ _ _ h => h) (Or.inr ⟨by rfl, rfl⟩) (by assumption) ?_
        try simp only [Act.put, List.setIfInBounds_toArray, List.set_cons_zero, List.set_cons_succ]
        refine wpAnyH_take (i := 21) (oi := ({ dst := some 63, op := Go.Op.binOp Go.BinOp.geq 3 (Go.Operand.tmp 61) (Go.Operand.tmp 62) 3, type := 4, pos := "buchi.go:55", after := #[{ on := 19, ground := Go.Ground.data }, { on := 20, ground := Go.Ground.data }, { on := 16, ground := Go.Ground.guard }], guard := some (16, false) } : Oper)) (v := undef) rfl (by kernel_rfl) (by kernel_rfl) (by kernel_rfl) (fun _ _ _ h => h) (Or.inr ⟨by rfl, rfl⟩) (by assumption) ?_
        try simp only [Act.put, List.setIfInBounds_toArray, List.set_cons_zero, List.set_cons_succ]
        refine wpAnyH_take (i := 22) (oi := ({ dst := some 64, op := Go.Op.pick (Go.Operand.tmp 58) (Go.Operand.const (Go.Value.bool true)) (Go.Operand.tmp 63), type := 4, pos := "buchi.go:55", after := #[{ on := 16, ground := Go.Ground.data }, { on := 21, ground := Go.Ground.data }], guard := none } : Oper)) (v := ?_) rfl (by kernel_rfl) (by kernel_rfl) (by kernel_rfl) (fun _ _ _ h => h) (Or.inl ⟨by rfl, ?_⟩) (by assumption) ?_
        rotate_left
        · (intro wS hSw; (try dsimp only at hSw); go_simp <;> with_reducible rfl)
        try simp only [Act.put, List.setIfInBounds_toArray, List.set_cons_zero, List.set_cons_succ]
        refine wpAnyH_take (i := 23) (oi := ({ dst := some 65, op := Go.Op.move (Go.Operand.tmp 64), type := 4, pos := "buchi.go:55", after := #[{ on := 22, ground := Go.Ground.data }, { on := 16, ground := Go.Ground.chain }], guard := none } : Oper)) (v := ?_) rfl (by kernel_rfl) (by kernel_rfl) (by kernel_rfl) (fun _ _ _ h => h) (Or.inl ⟨by rfl, ?_⟩) (by assumption) ?_
        rotate_left
        · (intro wS hSw; (try dsimp only at hSw); go_simp <;> with_reducible rfl)
        try simp only [Act.put, List.setIfInBounds_toArray, List.set_cons_zero, List.set_cons_succ]
        refine wpAnyH_take (i := 24) (oi := ({ dst := some 66, op := Go.Op.fieldAddr 61 (Go.Operand.tmp 5) 3, type := 0, pos := "buchi.go:55", after := #[{ on := 23, ground := Go.Ground.guard }], guard := some (23, false) } : Oper)) (v := undef) rfl (by kernel_rfl) (by kernel_rfl) (by kernel_rfl) (fun _ _ _ h => h) (Or.inr ⟨by rfl, rfl⟩) (by assumption) ?_
        try simp only [Act.put, List.setIfInBounds_toArray, List.set_cons_zero, List.set_cons_succ]
        refine wpAnyH_take (i := 25) (oi := ({ dst := some 67, op := Go.Op.load 55 (Go.Operand.tmp 66), type := 55, pos := "buchi.go:55", after := #[{ on := 24, ground := Go.Ground.data }, { on := 23, ground := Go.Ground.guard }], guard := some (23, false) } : Oper)) (v := undef) rfl (by kernel_rfl) (by kernel_rfl) (by kernel_rfl) (fun _ _ _ h => h) (Or.inr ⟨by rfl, rfl⟩) (by assumption) ?_
        try simp only [Act.put, List.setIfInBounds_toArray, List.set_cons_zero, List.set_cons_succ]
        refine wpAnyH_take (i := 26) (oi := ({ dst := some 68, op := Go.Op.convert 55 3 (Go.Operand.tmp 67), type := 3, pos := "buchi.go:55", after := #[{ on := 25, ground := Go.Ground.data }, { on := 23, ground := Go.Ground.guard }], guard := some (23, false) } : Oper)) (v := undef) rfl (by kernel_rfl) (by kernel_rfl) (by kernel_rfl) (fun _ _ _ h => h) (Or.inr ⟨by rfl, rfl⟩) (by assumption) ?_
        try simp only [Act.put, List.setIfInBounds_toArray, List.set_cons_zero, List.set_cons_succ]
        refine wpAnyH_take (i := 27) (oi := ({ dst := some 69, op := Go.Op.move (Go.Operand.tmp 3), type := 3, pos := "buchi.go:55", after := #[{ on := 23, ground := Go.Ground.guard }], guard := some (23, false) } : Oper)) (v := undef) rfl (by kernel_rfl) (by kernel_rfl) (by kernel_rfl) (fun _ _ _ h => h) (Or.inr ⟨by rfl, rfl⟩) (by assumption) ?_
        try simp only [Act.put, List.setIfInBounds_toArray, List.set_cons_zero, List.set_cons_succ]
        refine wpAnyH_take (i := 28) (oi := ({ dst := some 70, op := Go.Op.binOp Go.BinOp.geq 3 (Go.Operand.tmp 68) (Go.Operand.tmp 69) 3, type := 4, pos := "buchi.go:55", after := #[{ on := 26, ground := Go.Ground.data }, { on := 27, ground := Go.Ground.data }, { on := 23, ground := Go.Ground.guard }], guard := some (23, false) } : Oper)) (v := undef) rfl (by kernel_rfl) (by kernel_rfl) (by kernel_rfl) (fun _ _ _ h => h) (Or.inr ⟨by rfl, rfl⟩) (by assumption) ?_
        try simp only [Act.put, List.setIfInBounds_toArray, List.set_cons_zero, List.set_cons_succ]
        refine wpAnyH_take (i := 29) (oi := ({ dst := some 71, op := Go.Op.pick (Go.Operand.tmp 65) (Go.Operand.const (Go.Value.bool true)) (Go.Operand.tmp 70), type := 4, pos := "buchi.go:55", after := #[{ on := 23, ground := Go.Ground.data }, { on := 28, ground := Go.Ground.data }], guard := none } : Oper)) (v := ?_) rfl (by kernel_rfl) (by kernel_rfl) (by kernel_rfl) (fun _ _ _ h => h) (Or.inl ⟨by rfl, ?_⟩) (by assumption) ?_
        rotate_left
        · (intro wS hSw; (try dsimp only at hSw); go_simp <;> with_reducible rfl)
        try simp only [Act.put, List.setIfInBounds_toArray, List.set_cons_zero, List.set_cons_succ]
        refine wpAnyH_take (i := 30) (oi := ({ dst := some 72, op := Go.Op.move (Go.Operand.tmp 71), type := 4, pos := "buchi.go:55", after := #[{ on := 29, ground := Go.Ground.data }, { on := 23, ground := Go.Ground.chain }], guard := none } : Oper)) (v := ?_) rfl (by kernel_rfl) (by kernel_rfl) (by kernel_rfl) (fun _ _ _ h => h) (Or.inl ⟨by rfl, ?_⟩) (by assumption) ?_
        rotate_left
        · (intro wS hSw; (try dsimp only at hSw); go_simp <;> with_reducible rfl)
        try simp only [Act.put, List.setIfInBounds_toArray, List.set_cons_zero, List.set_cons_succ]
        refine wpAnyH_take (i := 31) (oi := ({ dst := some 73, op := Go.Op.fieldAddr 61 (Go.Operand.tmp 5) 2, type := 0, pos := "buchi.go:55", after := #[{ on := 30, ground := Go.Ground.guard }], guard := some (30, false) } : Oper)) (v := undef) rfl (by kernel_rfl) (by kernel_rfl) (by kernel_rfl) (fun _ _ _ h => h) (Or.inr ⟨by rfl, rfl⟩) (by assumption) ?_
        try simp only [Act.put, List.setIfInBounds_toArray, List.set_cons_zero, List.set_cons_succ]
        refine wpAnyH_take (i := 32) (oi := ({ dst := some 74, op := Go.Op.load 55 (Go.Operand.tmp 73), type := 55, pos := "buchi.go:55", after := #[{ on := 31, ground := Go.Ground.data }, { on := 30, ground := Go.Ground.guard }], guard := some (30, false) } : Oper)) (v := undef) rfl (by kernel_rfl) (by kernel_rfl) (by kernel_rfl) (fun _ _ _ h => h) (Or.inr ⟨by rfl, rfl⟩) (by assumption) ?_
        try simp only [Act.put, List.setIfInBounds_toArray, List.set_cons_zero, List.set_cons_succ]
        refine wpAnyH_take (i := 33) (oi := ({ dst := some 75, op := Go.Op.fieldAddr 61 (Go.Operand.tmp 5) 3, type := 0, pos := "buchi.go:55", after := #[{ on := 30, ground := Go.Ground.guard }], guard := some (30, false) } : Oper)) (v := undef) rfl (by kernel_rfl) (by kernel_rfl) (by kernel_rfl) (fun _ _ _ h => h) (Or.inr ⟨by rfl, rfl⟩) (by assumption) ?_
        try simp only [Act.put, List.setIfInBounds_toArray, List.set_cons_zero, List.set_cons_succ]
        refine wpAnyH_take (i := 34) (oi := ({ dst := some 76, op := Go.Op.load 55 (Go.Operand.tmp 75), type := 55, pos := "buchi.go:55", after := #[{ on := 33, ground := Go.Ground.data }, { on := 30, ground := Go.Ground.guard }], guard := some (30, false) } : Oper)) (v := undef) rfl (by kernel_rfl) (by kernel_rfl) (by kernel_rfl) (fun _ _ _ h => h) (Or.inr ⟨by rfl, rfl⟩) (by assumption) ?_
        try simp only [Act.put, List.setIfInBounds_toArray, List.set_cons_zero, List.set_cons_succ]
        refine wpAnyH_take (i := 35) (oi := ({ dst := some 77, op := Go.Op.binOp Go.BinOp.and 55 (Go.Operand.tmp 74) (Go.Operand.tmp 76) 55, type := 55, pos := "buchi.go:55", after := #[{ on := 32, ground := Go.Ground.data }, { on := 34, ground := Go.Ground.data }, { on := 30, ground := Go.Ground.guard }], guard := some (30, false) } : Oper)) (v := undef) rfl (by kernel_rfl) (by kernel_rfl) (by kernel_rfl) (fun _ _ _ h => h) (Or.inr ⟨by rfl, rfl⟩) (by assumption) ?_
        try simp only [Act.put, List.setIfInBounds_toArray, List.set_cons_zero, List.set_cons_succ]
        refine wpAnyH_take (i := 36) (oi := ({ dst := some 78, op := Go.Op.binOp Go.BinOp.neq 55 (Go.Operand.tmp 77) (Go.Operand.const (Go.Value.int Go.IntKind.u16 0)) 55, type := 4, pos := "buchi.go:55", after := #[{ on := 35, ground := Go.Ground.data }, { on := 30, ground := Go.Ground.guard }], guard := some (30, false) } : Oper)) (v := undef) rfl (by kernel_rfl) (by kernel_rfl) (by kernel_rfl) (fun _ _ _ h => h) (Or.inr ⟨by rfl, rfl⟩) (by assumption) ?_
        try simp only [Act.put, List.setIfInBounds_toArray, List.set_cons_zero, List.set_cons_succ]
        refine wpAnyH_take (i := 37) (oi := ({ dst := some 79, op := Go.Op.pick (Go.Operand.tmp 72) (Go.Operand.const (Go.Value.bool true)) (Go.Operand.tmp 78), type := 4, pos := "buchi.go:55", after := #[{ on := 30, ground := Go.Ground.data }, { on := 36, ground := Go.Ground.data }], guard := none } : Oper)) (v := ?_) rfl (by kernel_rfl) (by kernel_rfl) (by kernel_rfl) (fun _ _ _ h => h) (Or.inl ⟨by rfl, ?_⟩) (by assumption) ?_
        rotate_left
        · (intro wS hSw; (try dsimp only at hSw); go_simp <;> with_reducible rfl)
        try simp only [Act.put, List.setIfInBounds_toArray, List.set_cons_zero, List.set_cons_succ]
        refine wpAnyH_take (i := 38) (oi := ({ dst := some 80, op := Go.Op.move (Go.Operand.tmp 79), type := 4, pos := "buchi.go:55", after := #[{ on := 37, ground := Go.Ground.data }, { on := 30, ground := Go.Ground.chain }], guard := none } : Oper)) (v := ?_) rfl (by kernel_rfl) (by kernel_rfl) (by kernel_rfl) (fun _ _ _ h => h) (Or.inl ⟨by rfl, ?_⟩) (by assumption) ?_
        rotate_left
        · (intro wS hSw; (try dsimp only at hSw); go_simp <;> with_reducible rfl)
        try simp only [Act.put, List.setIfInBounds_toArray, List.set_cons_zero, List.set_cons_succ]
        refine wpAnyH_take (i := 39) (oi := ({ dst := some 81, op := Go.Op.move (Go.Operand.tmp 4), type := 3, pos := "buchi.go:55", after := #[{ on := 38, ground := Go.Ground.guard }], guard := some (38, false) } : Oper)) (v := undef) rfl (by kernel_rfl) (by kernel_rfl) (by kernel_rfl) (fun _ _ _ h => h) (Or.inr ⟨by rfl, rfl⟩) (by assumption) ?_
        try simp only [Act.put, List.setIfInBounds_toArray, List.set_cons_zero, List.set_cons_succ]
        refine wpAnyH_take (i := 40) (oi := ({ dst := some 82, op := Go.Op.binOp Go.BinOp.gtr 3 (Go.Operand.tmp 81) (Go.Operand.const (Go.Value.int Go.IntKind.i64 0)) 3, type := 4, pos := "buchi.go:55", after := #[{ on := 39, ground := Go.Ground.data }, { on := 38, ground := Go.Ground.guard }], guard := some (38, false) } : Oper)) (v := undef) rfl (by kernel_rfl) (by kernel_rfl) (by kernel_rfl) (fun _ _ _ h => h) (Or.inr ⟨by rfl, rfl⟩) (by assumption) ?_
        try simp only [Act.put, List.setIfInBounds_toArray, List.set_cons_zero, List.set_cons_succ]
        refine wpAnyH_take (i := 41) (oi := ({ dst := some 83, op := Go.Op.move (Go.Operand.tmp 82), type := 4, pos := "buchi.go:55", after := #[{ on := 40, ground := Go.Ground.data }, { on := 38, ground := Go.Ground.chain }, { on := 38, ground := Go.Ground.guard }], guard := some (38, false) } : Oper)) (v := undef) rfl (by kernel_rfl) (by kernel_rfl) (by kernel_rfl) (fun _ _ _ h => h) (Or.inr ⟨by rfl, rfl⟩) (by assumption) ?_
        try simp only [Act.put, List.setIfInBounds_toArray, List.set_cons_zero, List.set_cons_succ]
        refine wpAnyH_take (i := 42) (oi := ({ dst := some 84, op := Go.Op.fieldAddr 87 (Go.Operand.tmp 1) 3, type := 0, pos := "buchi.go:55", after := #[{ on := 41, ground := Go.Ground.guard }], guard := some (41, true) } : Oper)) (v := undef) rfl (by kernel_rfl) (by kernel_rfl) (by kernel_rfl) (fun _ _ _ h => h) (Or.inr ⟨by rfl, rfl⟩) (by assumption) ?_
        try simp only [Act.put, List.setIfInBounds_toArray, List.set_cons_zero, List.set_cons_succ]
        refine wpAnyH_take (i := 43) (oi := ({ dst := some 85, op := Go.Op.load 45 (Go.Operand.tmp 84), type := 45, pos := "buchi.go:55", after := #[{ on := 42, ground := Go.Ground.data }, { on := 41, ground := Go.Ground.guard }], guard := some (41, true) } : Oper)) (v := undef) rfl (by kernel_rfl) (by kernel_rfl) (by kernel_rfl) (fun _ _ _ h => h) (Or.inr ⟨by rfl, rfl⟩) (by assumption) ?_
        try simp only [Act.put, List.setIfInBounds_toArray, List.set_cons_zero, List.set_cons_succ]
        refine wpAnyH_take (i := 44) (oi := ({ dst := some 86, op := Go.Op.move (Go.Operand.tmp 4), type := 3, pos := "buchi.go:55", after := #[{ on := 41, ground := Go.Ground.guard }], guard := some (41, true) } : Oper)) (v := undef) rfl (by kernel_rfl) (by kernel_rfl) (by kernel_rfl) (fun _ _ _ h => h) (Or.inr ⟨by rfl, rfl⟩) (by assumption) ?_
        try simp only [Act.put, List.setIfInBounds_toArray, List.set_cons_zero, List.set_cons_succ]
        refine wpAnyH_take (i := 45) (oi := ({ dst := some 87, op := Go.Op.binOp Go.BinOp.sub 3 (Go.Operand.tmp 86) (Go.Operand.const (Go.Value.int Go.IntKind.i64 1)) 3, type := 3, pos := "buchi.go:55", after := #[{ on := 44, ground := Go.Ground.data }, { on := 41, ground := Go.Ground.guard }], guard := some (41, true) } : Oper)) (v := undef) rfl (by kernel_rfl) (by kernel_rfl) (by kernel_rfl) (fun _ _ _ h => h) (Or.inr ⟨by rfl, rfl⟩) (by assumption) ?_
        try simp only [Act.put, List.setIfInBounds_toArray, List.set_cons_zero, List.set_cons_succ]
        refine wpAnyH_take (i := 46) (oi := ({ dst := some 88, op := Go.Op.indexAddr 45 (Go.Operand.tmp 85) (Go.Operand.tmp 87), type := 0, pos := "buchi.go:55", after := #[{ on := 43, ground := Go.Ground.data }, { on := 45, ground := Go.Ground.data }, { on := 41, ground := Go.Ground.guard }], guard := some (41, true) } : Oper)) (v := undef) rfl (by kernel_rfl) (by kernel_rfl) (by kernel_rfl) (fun _ _ _ h => h) (Or.inr ⟨by rfl, rfl⟩) (by assumption) ?_
        try simp only [Act.put, List.setIfInBounds_toArray, List.set_cons_zero, List.set_cons_succ]
        refine wpAnyH_take (i := 47) (oi := ({ dst := some 89, op := Go.Op.load 61 (Go.Operand.tmp 88), type := 61, pos := "buchi.go:55", after := #[{ on := 46, ground := Go.Ground.data }, { on := 41, ground := Go.Ground.guard }], guard := some (41, true) } : Oper)) (v := undef) rfl (by kernel_rfl) (by kernel_rfl) (by kernel_rfl) (fun _ _ _ h => h) (Or.inr ⟨by rfl, rfl⟩) (by assumption) ?_
        try simp only [Act.put, List.setIfInBounds_toArray, List.set_cons_zero, List.set_cons_succ]
        refine wpAnyH_take (i := 48) (oi := ({ dst := some 90, op := Go.Op.load 61 (Go.Operand.tmp 5), type := 61, pos := "buchi.go:55", after := #[{ on := 41, ground := Go.Ground.guard }], guard := some (41, true) } : Oper)) (v := undef) rfl (by kernel_rfl) (by kernel_rfl) (by kernel_rfl) (fun _ _ _ h => h) (Or.inr ⟨by rfl, rfl⟩) (by assumption) ?_
        try simp only [Act.put, List.setIfInBounds_toArray, List.set_cons_zero, List.set_cons_succ]
        refine wpAnyH_take (i := 49) (oi := ({ dst := some 91, op := Go.Op.call { callee := Go.Callee.value (Go.Operand.func 93), args := #[Go.Operand.tmp 89, Go.Operand.tmp 90], argTypes := #[61, 61] }, type := 3, pos := "buchi.go:55", after := #[{ on := 47, ground := Go.Ground.data }, { on := 48, ground := Go.Ground.data }, { on := 41, ground := Go.Ground.chain }, { on := 41, ground := Go.Ground.guard }], guard := some (41, true) } : Oper)) (v := undef) rfl (by kernel_rfl) (by kernel_rfl) (by kernel_rfl) (fun _ _ _ h => h) (Or.inr ⟨by rfl, rfl⟩) (by assumption) ?_
        try simp only [Act.put, List.setIfInBounds_toArray, List.set_cons_zero, List.set_cons_succ]
        refine wpAnyH_take (i := 50) (oi := ({ dst := some 92, op := Go.Op.binOp Go.BinOp.geq 3 (Go.Operand.tmp 91) (Go.Operand.const (Go.Value.int Go.IntKind.i64 0)) 3, type := 4, pos := "buchi.go:55", after := #[{ on := 49, ground := Go.Ground.data }, { on := 41, ground := Go.Ground.guard }], guard := some (41, true) } : Oper)) (v := undef) rfl (by kernel_rfl) (by kernel_rfl) (by kernel_rfl) (fun _ _ _ h => h) (Or.inr ⟨by rfl, rfl⟩) (by assumption) ?_
        try simp only [Act.put, List.setIfInBounds_toArray, List.set_cons_zero, List.set_cons_succ]
        refine wpAnyH_take (i := 51) (oi := ({ dst := some 93, op := Go.Op.pick (Go.Operand.tmp 83) (Go.Operand.tmp 92) (Go.Operand.const (Go.Value.bool false)), type := 4, pos := "buchi.go:55", after := #[{ on := 41, ground := Go.Ground.data }, { on := 50, ground := Go.Ground.data }, { on := 38, ground := Go.Ground.guard }], guard := some (38, false) } : Oper)) (v := undef) rfl (by kernel_rfl) (by kernel_rfl) (by kernel_rfl) (fun _ _ _ h => h) (Or.inr ⟨by rfl, rfl⟩) (by assumption) ?_
        try simp only [Act.put, List.setIfInBounds_toArray, List.set_cons_zero, List.set_cons_succ]
        refine wpAnyH_take (i := 52) (oi := ({ dst := some 94, op := Go.Op.pick (Go.Operand.tmp 80) (Go.Operand.const (Go.Value.bool true)) (Go.Operand.tmp 93), type := 4, pos := "buchi.go:55", after := #[{ on := 38, ground := Go.Ground.data }, { on := 51, ground := Go.Ground.data }], guard := none } : Oper)) (v := ?_) rfl (by kernel_rfl) (by kernel_rfl) (by kernel_rfl) (fun _ _ _ h => h) (Or.inl ⟨by rfl, ?_⟩) (by assumption) ?_
        rotate_left
        · (intro wS hSw; (try dsimp only at hSw); go_simp <;> with_reducible rfl)
        try simp only [Act.put, List.setIfInBounds_toArray, List.set_cons_zero, List.set_cons_succ]
        refine wpAnyH_done (by kernel_rfl) ?_ _
        have HGn := Lib.hid hHeld.1
        go_wp2_with fail
        go_ret
        exact ⟨by rw [HV.out]; rfl, gb_trans HGw.out HGn.out (Or.inl rfl)⟩
      rw [hf2] at HS2
      rw [hf2, Bool.true_and] at HBk
      clear hf2
      by_cases h3 : M ≤ x.mu
      · have t3 : decide (M ≤ x.mu) = true := by simpa using h3
        have HV := Lib.hid (HNk.out (by rw [HBk.out, decide_eq_false (show ¬ x.mu < M by omega), Bool.false_and]))
        clear z3
        clear HNk HYk HBk HPv
        have hS0 := HSS4.out _ (gb_drew we none)
        refine wp_region_held_drew (S := (fun wx => we.grownBy wx none ∧ wx.cell? ⟨wr.heap.size, 0, none⟩ = some (.int .i64 x.fr) ∧ wx.cell? ⟨wr.heap.size, 1, none⟩ = some (.int .i64 x.tt) ∧ wx.cell? ⟨wr.heap.size, 2, none⟩ = some (.int .u16 (x.mu : Int)) ∧ wx.cell? ⟨wr.heap.size, 3, none⟩ = some (.int .u16 (x.no : Int)) ∧ wx.cell? ⟨w.heap.size, 1, none⟩ = some (.int .i64 n))) (by kernel_rfl) (by assumption) (fun hHeld => ?_)
        refine wpAnyH_take (i := 0) (oi := ({ dst := some 42, op := Go.Op.fieldAddr 61 (Go.Operand.tmp 5) 0, type := 0, pos := "buchi.go:55", after := #[], guard := none } : Oper)) (v := ?_) rfl (by kernel_rfl) (by kernel_rfl) (by kernel_rfl) (fun _ _ _ h => h) (Or.inl ⟨by rfl, ?_⟩) (by assumption) ?_
        rotate_left
        · (intro wS hSw; (try dsimp only at hSw); go_simp <;> with_reducible rfl)
        try simp only [Act.put, List.setIfInBounds_toArray, List.set_cons_zero, List.set_cons_succ]
        refine wpAnyH_take (i := 1) (oi := ({ dst := some 43, op := Go.Op.load 3 (Go.Operand.tmp 42), type := 3, pos := "buchi.go:55", after := #[{ on := 0, ground := Go.Ground.data }], guard := none } : Oper)) (v := ?_) rfl (by kernel_rfl) (by kernel_rfl) (by kernel_rfl) (fun _ _ _ h => h) (Or.inl ⟨by rfl, ?_⟩) (by assumption) ?_
        rotate_left
        · (intro wS hSw; (try dsimp only at hSw); go_simp <;> with_reducible rfl)
        try simp only [Act.put, List.setIfInBounds_toArray, List.set_cons_zero, List.set_cons_succ]
        refine wpAnyH_take (i := 3) (oi := ({ dst := some 45, op := Go.Op.fieldAddr 87 (Go.Operand.tmp 1) 1, type := 0, pos := "buchi.go:55", after := #[], guard := none } : Oper)) (v := ?_) rfl (by kernel_rfl) (by kernel_rfl) (by kernel_rfl) (fun _ _ _ h => h) (Or.inl ⟨by rfl, ?_⟩) (by assumption) ?_
        rotate_left
        · (intro wS hSw; (try dsimp only at hSw); go_simp <;> with_reducible rfl)
        try simp only [Act.put, List.setIfInBounds_toArray, List.set_cons_zero, List.set_cons_succ]
        refine wpAnyH_take (i := 4) (oi := ({ dst := some 46, op := Go.Op.load 3 (Go.Operand.tmp 45), type := 3, pos := "buchi.go:55", after := #[{ on := 3, ground := Go.Ground.data }], guard := none } : Oper)) (v := ?_) rfl (by kernel_rfl) (by kernel_rfl) (by kernel_rfl) (fun _ _ _ h => h) (Or.inl ⟨by rfl, ?_⟩) (by assumption) ?_
        rotate_left
        · (intro wS hSw; (try dsimp only at hSw); go_simp <;> with_reducible rfl)
        try simp only [Act.put, List.setIfInBounds_toArray, List.set_cons_zero, List.set_cons_succ]
        refine wpAnyH_ready (rs := [2]) (by kernel_rfl) (by simp) ?_
        refine AllReadyH.cons (o := ({ dst := some 44, op := Go.Op.buildSlice 43 1 #[(0, Go.Operand.tmp 43)], type := 43, pos := "buchi.go:55", after := #[{ on := 1, ground := Go.Ground.data }], guard := none } : Oper)) rfl (fun K hK => ?_) AllReadyH.nil
        go_simp
        refine hK.out _ _ (by first | assumption | exact HSS4.out _ (gb_trans (And.left (by assumption)) (World.grownBy_alloc _ _ none) (Or.inl rfl))) (fun hHeld => ?_)
        clear hK K
        try simp only [Act.put, List.setIfInBounds_toArray, List.set_cons_zero, List.set_cons_succ]
        refine wpAnyH_ready (rs := [5]) (by kernel_rfl) (by simp) ?_
        refine AllReadyH.cons (o := ({ dst := some 47, op := Go.Op.call { callee := Go.Callee.value (Go.Operand.func 92), args := #[Go.Operand.tmp 44, Go.Operand.tmp 46], argTypes := #[43, 3] }, type := 4, pos := "buchi.go:55", after := #[{ on := 2, ground := Go.Ground.data }, { on := 4, ground := Go.Ground.data }], guard := none } : Oper)) rfl (fun K hK => ?_) AllReadyH.nil
        go_simp
        ((with_reducible refine HS1.out.mono ?_); rintro e wn ⟨rfl, rfl⟩)
        refine hK.out _ _ (by assumption) (fun hHeld => ?_)
        clear hK K
        try simp only [Act.put, List.setIfInBounds_toArray, List.set_cons_zero, List.set_cons_succ]
        refine wpAnyH_take (i := 6) (oi := ({ dst := some 48, op := Go.Op.unOp Go.UnOp.not 4 (Go.Operand.tmp 47), type := 4, pos := "buchi.go:55", after := #[{ on := 5, ground := Go.Ground.data }], guard := none } : Oper)) (v := ?_) rfl (by kernel_rfl) (by kernel_rfl) (by kernel_rfl) (fun _ _ _ h => h) (Or.inl ⟨by rfl, ?_⟩) (by assumption) ?_
        rotate_left
        · (intro wS hSw; (try dsimp only at hSw); go_simp <;> with_reducible rfl)
        try simp only [Act.put, List.setIfInBounds_toArray, List.set_cons_zero, List.set_cons_succ]
        refine wpAnyH_take (i := 7) (oi := ({ dst := some 49, op := Go.Op.move (Go.Operand.tmp 48), type := 4, pos := "buchi.go:55", after := #[{ on := 6, ground := Go.Ground.data }, { on := 5, ground := Go.Ground.chain }], guard := none } : Oper)) (v := ?_) rfl (by kernel_rfl) (by kernel_rfl) (by kernel_rfl) (fun _ _ _ h => h) (Or.inl ⟨by rfl, ?_⟩) (by assumption) ?_
        rotate_left
        · (intro wS hSw; (try dsimp only at hSw); go_simp <;> with_reducible rfl)
        try simp only [Act.put, List.setIfInBounds_toArray, List.set_cons_zero, List.set_cons_succ]
        refine wpAnyH_take (i := 8) (oi := ({ dst := some 50, op := Go.Op.fieldAddr 61 (Go.Operand.tmp 5) 1, type := 0, pos := "buchi.go:55", after := #[{ on := 7, ground := Go.Ground.guard }], guard := some (7, false) } : Oper)) (v := ?_) rfl (by kernel_rfl) (by kernel_rfl) (by kernel_rfl) (fun _ _ _ h => h) (Or.inl ⟨by rfl, ?_⟩) (by assumption) ?_
        rotate_left
        · (intro wS hSw; (try dsimp only at hSw); go_simp <;> with_reducible rfl)
        try simp only [Act.put, List.setIfInBounds_toArray, List.set_cons_zero, List.set_cons_succ]
        refine wpAnyH_take (i := 9) (oi := ({ dst := some 51, op := Go.Op.load 3 (Go.Operand.tmp 50), type := 3, pos := "buchi.go:55", after := #[{ on := 8, ground := Go.Ground.data }, { on := 7, ground := Go.Ground.guard }], guard := some (7, false) } : Oper)) (v := ?_) rfl (by kernel_rfl) (by kernel_rfl) (by kernel_rfl) (fun _ _ _ h => h) (Or.inl ⟨by rfl, ?_⟩) (by assumption) ?_
        rotate_left
        · (intro wS hSw; (try dsimp only at hSw); go_simp <;> with_reducible rfl)
        try simp only [Act.put, List.setIfInBounds_toArray, List.set_cons_zero, List.set_cons_succ]
        refine wpAnyH_take (i := 11) (oi := ({ dst := some 53, op := Go.Op.fieldAddr 87 (Go.Operand.tmp 1) 1, type := 0, pos := "buchi.go:55", after := #[{ on := 7, ground := Go.Ground.guard }], guard := some (7, false) } : Oper)) (v := ?_) rfl (by kernel_rfl) (by kernel_rfl) (by kernel_rfl) (fun _ _ _ h => h) (Or.inl ⟨by rfl, ?_⟩) (by assumption) ?_
        rotate_left
        · (intro wS hSw; (try dsimp only at hSw); go_simp <;> with_reducible rfl)
        try simp only [Act.put, List.setIfInBounds_toArray, List.set_cons_zero, List.set_cons_succ]
        refine wpAnyH_take (i := 12) (oi := ({ dst := some 54, op := Go.Op.load 3 (Go.Operand.tmp 53), type := 3, pos := "buchi.go:55", after := #[{ on := 11, ground := Go.Ground.data }, { on := 7, ground := Go.Ground.guard }], guard := some (7, false) } : Oper)) (v := ?_) rfl (by kernel_rfl) (by kernel_rfl) (by kernel_rfl) (fun _ _ _ h => h) (Or.inl ⟨by rfl, ?_⟩) (by assumption) ?_
        rotate_left
        · (intro wS hSw; (try dsimp only at hSw); go_simp <;> with_reducible rfl)
        try simp only [Act.put, List.setIfInBounds_toArray, List.set_cons_zero, List.set_cons_succ]
        refine wpAnyH_ready (rs := [10]) (by kernel_rfl) (by simp) ?_
        refine AllReadyH.cons (o := ({ dst := some 52, op := Go.Op.buildSlice 43 1 #[(0, Go.Operand.tmp 51)], type := 43, pos := "buchi.go:55", after := #[{ on := 9, ground := Go.Ground.data }, { on := 7, ground := Go.Ground.guard }], guard := some (7, false) } : Oper)) rfl (fun K hK => ?_) AllReadyH.nil
        go_simp
        refine hK.out _ _ (by first | assumption | exact HSS4.out _ (gb_trans (And.left (by assumption)) (World.grownBy_alloc _ _ none) (Or.inl rfl))) (fun hHeld => ?_)
        clear hK K
        try simp only [Act.put, List.setIfInBounds_toArray, List.set_cons_zero, List.set_cons_succ]
        refine wpAnyH_ready (rs := [13]) (by kernel_rfl) (by simp) ?_
        refine AllReadyH.cons (o := ({ dst := some 55, op := Go.Op.call { callee := Go.Callee.value (Go.Operand.func 92), args := #[Go.Operand.tmp 52, Go.Operand.tmp 54], argTypes := #[43, 3] }, type := 4, pos := "buchi.go:55", after := #[{ on := 10, ground := Go.Ground.data }, { on := 12, ground := Go.Ground.data }, { on := 7, ground := Go.Ground.chain }, { on := 7, ground := Go.Ground.guard }], guard := some (7, false) } : Oper)) rfl (fun K hK => ?_) AllReadyH.nil
        go_simp
        ((with_reducible refine HS2.out.mono ?_); rintro e wn ⟨rfl, rfl⟩)
        refine hK.out _ _ (by assumption) (fun hHeld => ?_)
        clear hK K
        try simp only [Act.put, List.setIfInBounds_toArray, List.set_cons_zero, List.set_cons_succ]
        refine wpAnyH_take (i := 14) (oi := ({ dst := some 56, op := Go.Op.unOp Go.UnOp.not 4 (Go.Operand.tmp 55), type := 4, pos := "buchi.go:55", after := #[{ on := 13, ground := Go.Ground.data }, { on := 7, ground := Go.Ground.guard }], guard := some (7, false) } : Oper)) (v := ?_) rfl (by kernel_rfl) (by kernel_rfl) (by kernel_rfl) (fun _ _ _ h => h) (Or.inl ⟨by rfl, ?_⟩) (by assumption) ?_
        rotate_left
        · (intro wS hSw; (try dsimp only at hSw); go_simp <;> with_reducible rfl)
        try simp only [Act.put, List.setIfInBounds_toArray, List.set_cons_zero, List.set_cons_succ]
        refine wpAnyH_take (i := 15) (oi := ({ dst := some 57, op := Go.Op.pick (Go.Operand.tmp 49) (Go.Operand.const (Go.Value.bool true)) (Go.Operand.tmp 56), type := 4, pos := "buchi.go:55", after := #[{ on := 7, ground := Go.Ground.data }, { on := 14, ground := Go.Ground.data }], guard := none } : Oper)) (v := ?_) rfl (by kernel_rfl) (by kernel_rfl) (by kernel_rfl) (fun _ _ _ h => h) (Or.inl ⟨by rfl, ?_⟩) (by assumption) ?_
        rotate_left
        · (intro wS hSw; (try dsimp only at hSw); go_simp <;> with_reducible rfl)
        try simp only [Act.put, List.setIfInBounds_toArray, List.set_cons_zero, List.set_cons_succ]
        refine wpAnyH_take (i := 16) (oi := ({ dst := some 58, op := Go.Op.move (Go.Operand.tmp 57), type := 4, pos := "buchi.go:55", after := #[{ on := 15, ground := Go.Ground.data }, { on := 13, ground := Go.Ground.chain }], guard := none } : Oper)) (v := ?_) rfl (by kernel_rfl) (by kernel_rfl) (by kernel_rfl) (fun _ _ _ h => h) (Or.inl ⟨by rfl, ?_⟩) (by assumption) ?_
        rotate_left
        · (intro wS hSw; (try dsimp only at hSw); go_simp <;> with_reducible rfl)
        try simp only [Act.put, List.setIfInBounds_toArray, List.set_cons_zero, List.set_cons_succ]
        refine wpAnyH_take (i := 17) (oi := ({ dst := some 59, op := Go.Op.fieldAddr 61 (Go.Operand.tmp 5) 2, type := 0, pos := "buchi.go:55", after := #[{ on := 16, ground := Go.Ground.guard }], guard := some (16, false) } : Oper)) (v := ?_) rfl (by kernel_rfl) (by kernel_rfl) (by kernel_rfl) (fun _ _ _ h => h) (Or.inl ⟨by rfl, ?_⟩) (by assumption) ?_
        rotate_left
        · (intro wS hSw; (try dsimp only at hSw); go_simp <;> with_reducible rfl)
        try simp only [Act.put, List.setIfInBounds_toArray, List.set_cons_zero, List.set_cons_succ]
        refine wpAnyH_take (i := 18) (oi := ({ dst := some 60, op := Go.Op.load 55 (Go.Operand.tmp 59), type := 55, pos := "buchi.go:55", after := #[{ on := 17, ground := Go.Ground.data }, { on := 16, ground := Go.Ground.guard }], guard := some (16, false) } : Oper)) (v := ?_) rfl (by kernel_rfl) (by kernel_rfl) (by kernel_rfl) (fun _ _ _ h => h) (Or.inl ⟨by rfl, ?_⟩) (by assumption) ?_
        rotate_left
        · (intro wS hSw; (try dsimp only at hSw); go_simp <;> with_reducible rfl)
        try simp only [Act.put, List.setIfInBounds_toArray, List.set_cons_zero, List.set_cons_succ]
        refine wpAnyH_take (i := 19) (oi := ({ dst := some 61, op := Go.Op.convert 55 3 (Go.Operand.tmp 60), type := 3, pos := "buchi.go:55", after := #[{ on := 18, ground := Go.Ground.data }, { on := 16, ground := Go.Ground.guard }], guard := some (16, false) } : Oper)) (v := ?_) rfl (by kernel_rfl) (by kernel_rfl) (by kernel_rfl) (fun _ _ _ h => h) (Or.inl ⟨by rfl, ?_⟩) (by assumption) ?_
        rotate_left
        · (intro wS hSw; (try dsimp only at hSw); go_simp <;> with_reducible rfl)
        try simp only [Act.put, List.setIfInBounds_toArray, List.set_cons_zero, List.set_cons_succ]
        refine wpAnyH_take (i := 20) (oi := ({ dst := some 62, op := Go.Op.move (Go.Operand.tmp 3), type := 3, pos := "buchi.go:55", after := #[{ on := 16, ground := Go.Ground.guard }], guard := some (16, false) } : Oper)) (v := ?_) rfl (by kernel_rfl) (by kernel_rfl) (by kernel_rfl) (fun _ _ _ h => h) (Or.inl ⟨by rfl, ?_⟩) (by assumption) ?_
        rotate_left
        · (intro wS hSw; (try dsimp only at hSw); go_simp <;> with_reducible rfl)
        try simp only [Act.put, List.setIfInBounds_toArray, List.set_cons_zero, List.set_cons_succ]
        refine wpAnyH_take (i := 21) (oi := ({ dst := some 63, op := Go.Op.binOp Go.BinOp.geq 3 (Go.Operand.tmp 61) (Go.Operand.tmp 62) 3, type := 4, pos := "buchi.go:55", after := #[{ on := 19, ground := Go.Ground.data }, { on := 20, ground := Go.Ground.data }, { on := 16, ground := Go.Ground.guard }], guard := some (16, false) } : Oper)) (v := ?_) rfl (by kernel_rfl) (by kernel_rfl) (by kernel_rfl) (fun _ _ _ h => h) (Or.inl ⟨by rfl, ?_⟩) (by assumption) ?_
        rotate_left
        · (intro wS hSw; (try dsimp only at hSw); go_simp <;> with_reducible rfl)
        try simp only [Act.put, List.setIfInBounds_toArray, List.set_cons_zero, List.set_cons_succ]
        refine wpAnyH_take (i := 22) (oi := ({ dst := some 64, op := Go.Op.pick (Go.Operand.tmp 58) (Go.Operand.const (Go.Value.bool true)) (Go.Operand.tmp 63), type := 4, pos := "buchi.go:55", after := #[{ on := 16, ground := Go.Ground.data }, { on := 21, ground := Go.Ground.data }], guard := none } : Oper)) (v := ?_) rfl (by kernel_rfl) (by kernel_rfl) (by kernel_rfl) (fun _ _ _ h => h) (Or.inl ⟨by rfl, ?_⟩) (by assumption) ?_
        rotate_left
        · (intro wS hSw; (try dsimp only at hSw); go_simp <;> with_reducible rfl)
        try simp only [Act.put, List.setIfInBounds_toArray, List.set_cons_zero, List.set_cons_succ]
        refine wpAnyH_take (i := 23) (oi := ({ dst := some 65, op := Go.Op.move (Go.Operand.tmp 64), type := 4, pos := "buchi.go:55", after := #[{ on := 22, ground := Go.Ground.data }, { on := 16, ground := Go.Ground.chain }], guard := none } : Oper)) (v := ?_) rfl (by kernel_rfl) (by kernel_rfl) (by kernel_rfl) (fun _ _ _ h => h) (Or.inl ⟨by rfl, ?_⟩) (by assumption) ?_
        rotate_left
        · (intro wS hSw; (try dsimp only at hSw); go_simp <;> with_reducible rfl)
        try simp only [Act.put, List.setIfInBounds_toArray, List.set_cons_zero, List.set_cons_succ]
        refine wpAnyH_take (i := 24) (oi := ({ dst := some 66, op := Go.Op.fieldAddr 61 (Go.Operand.tmp 5) 3, type := 0, pos := "buchi.go:55", after := #[{ on := 23, ground := Go.Ground.guard }], guard := some (23, false) } : Oper)) (v := undef) rfl (by kernel_rfl) (by kernel_rfl) (by kernel_rfl) (fun _ _ _ h => h) (Or.inr ⟨by rfl, rfl⟩) (by assumption) ?_
        try simp only [Act.put, List.setIfInBounds_toArray, List.set_cons_zero, List.set_cons_succ]
        refine wpAnyH_take (i := 25) (oi := ({ dst := some 67, op := Go.Op.load 55 (Go.Operand.tmp 66), type := 55, pos := "buchi.go:55", after := #[{ on := 24, ground := Go.Ground.data }, { on := 23, ground := Go.Ground.guard }], guard := some (23, false) } : Oper)) (v := undef) rfl (by kernel_rfl) (by kernel_rfl) (by kernel_rfl) (fun _ _ _ h => h) (Or.inr ⟨by rfl, rfl⟩) (by assumption) ?_
        try simp only [Act.put, List.setIfInBounds_toArray, List.set_cons_zero, List.set_cons_succ]
        refine wpAnyH_take (i := 26) (oi := ({ dst := some 68, op := Go.Op.convert 55 3 (Go.Operand.tmp 67), type := 3, pos := "buchi.go:55", after := #[{ on := 25, ground := Go.Ground.data }, { on := 23, ground := Go.Ground.guard }], guard := some (23, false) } : Oper)) (v := undef) rfl (by kernel_rfl) (by kernel_rfl) (by kernel_rfl) (fun _ _ _ h => h) (Or.inr ⟨by rfl, rfl⟩) (by assumption) ?_
        try simp only [Act.put, List.setIfInBounds_toArray, List.set_cons_zero, List.set_cons_succ]
        refine wpAnyH_take (i := 27) (oi := ({ dst := some 69, op := Go.Op.move (Go.Operand.tmp 3), type := 3, pos := "buchi.go:55", after := #[{ on := 23, ground := Go.Ground.guard }], guard := some (23, false) } : Oper)) (v := undef) rfl (by kernel_rfl) (by kernel_rfl) (by kernel_rfl) (fun _ _ _ h => h) (Or.inr ⟨by rfl, rfl⟩) (by assumption) ?_
        try simp only [Act.put, List.setIfInBounds_toArray, List.set_cons_zero, List.set_cons_succ]
        refine wpAnyH_take (i := 28) (oi := ({ dst := some 70, op := Go.Op.binOp Go.BinOp.geq 3 (Go.Operand.tmp 68) (Go.Operand.tmp 69) 3, type := 4, pos := "buchi.go:55", after := #[{ on := 26, ground := Go.Ground.data }, { on := 27, ground := Go.Ground.data }, { on := 23, ground := Go.Ground.guard }], guard := some (23, false) } : Oper)) (v := undef) rfl (by kernel_rfl) (by kernel_rfl) (by kernel_rfl) (fun _ _ _ h => h) (Or.inr ⟨by rfl, rfl⟩) (by assumption) ?_
        try simp only [Act.put, List.setIfInBounds_toArray, List.set_cons_zero, List.set_cons_succ]
        refine wpAnyH_take (i := 29) (oi := ({ dst := some 71, op := Go.Op.pick (Go.Operand.tmp 65) (Go.Operand.const (Go.Value.bool true)) (Go.Operand.tmp 70), type := 4, pos := "buchi.go:55", after := #[{ on := 23, ground := Go.Ground.data }, { on := 28, ground := Go.Ground.data }], guard := none } : Oper)) (v := ?_) rfl (by kernel_rfl) (by kernel_rfl) (by kernel_rfl) (fun _ _ _ h => h) (Or.inl ⟨by rfl, ?_⟩) (by assumption) ?_
        rotate_left
        · (intro wS hSw; (try dsimp only at hSw); go_simp <;> with_reducible rfl)
        try simp only [Act.put, List.setIfInBounds_toArray, List.set_cons_zero, List.set_cons_succ]
        refine wpAnyH_take (i := 30) (oi := ({ dst := some 72, op := Go.Op.move (Go.Operand.tmp 71), type := 4, pos := "buchi.go:55", after := #[{ on := 29, ground := Go.Ground.data }, { on := 23, ground := Go.Ground.chain }], guard := none } : Oper)) (v := ?_) rfl (by kernel_rfl) (by kernel_rfl) (by kernel_rfl) (fun _ _ _ h => h) (Or.inl ⟨by rfl, ?_⟩) (by assumption) ?_
        rotate_left
        · (intro wS hSw; (try dsimp only at hSw); go_simp <;> with_reducible rfl)
        try simp only [Act.put, List.setIfInBounds_toArray, List.set_cons_zero, List.set_cons_succ]
        refine wpAnyH_take (i := 31) (oi := ({ dst := some 73, op := Go.Op.fieldAddr 61 (Go.Operand.tmp 5) 2, type := 0, pos := "buchi.go:55", after := #[{ on := 30, ground := Go.Ground.guard }], guard := some (30, false) } : Oper)) (v := undef) rfl (by kernel_rfl) (by kernel_rfl) (by kernel_rfl) (fun _ _ _ h => h) (Or.inr ⟨by rfl, rfl⟩) (by assumption) ?_
        try simp only [Act.put, List.setIfInBounds_toArray, List.set_cons_zero, List.set_cons_succ]
        refine wpAnyH_take (i := 32) (oi := ({ dst := some 74, op := Go.Op.load 55 (Go.Operand.tmp 73), type := 55, pos := "buchi.go:55", after := #[{ on := 31, ground := Go.Ground.data }, { on := 30, ground := Go.Ground.guard }], guard := some (30, false) } : Oper)) (v := undef) rfl (by kernel_rfl) (by kernel_rfl) (by kernel_rfl) (fun _ _ _ h => h) (Or.inr ⟨by rfl, rfl⟩) (by assumption) ?_
        try simp only [Act.put, List.setIfInBounds_toArray, List.set_cons_zero, List.set_cons_succ]
        refine wpAnyH_take (i := 33) (oi := ({ dst := some 75, op := Go.Op.fieldAddr 61 (Go.Operand.tmp 5) 3, type := 0, pos := "buchi.go:55", after := #[{ on := 30, ground := Go.Ground.guard }], guard := some (30, false) } : Oper)) (v := undef) rfl (by kernel_rfl) (by kernel_rfl) (by kernel_rfl) (fun _ _ _ h => h) (Or.inr ⟨by rfl, rfl⟩) (by assumption) ?_
        try simp only [Act.put, List.setIfInBounds_toArray, List.set_cons_zero, List.set_cons_succ]
        refine wpAnyH_take (i := 34) (oi := ({ dst := some 76, op := Go.Op.load 55 (Go.Operand.tmp 75), type := 55, pos := "buchi.go:55", after := #[{ on := 33, ground := Go.Ground.data }, { on := 30, ground := Go.Ground.guard }], guard := some (30, false) } : Oper)) (v := undef) rfl (by kernel_rfl) (by kernel_rfl) (by kernel_rfl) (fun _ _ _ h => h) (Or.inr ⟨by rfl, rfl⟩) (by assumption) ?_
        try simp only [Act.put, List.setIfInBounds_toArray, List.set_cons_zero, List.set_cons_succ]
        refine wpAnyH_take (i := 35) (oi := ({ dst := some 77, op := Go.Op.binOp Go.BinOp.and 55 (Go.Operand.tmp 74) (Go.Operand.tmp 76) 55, type := 55, pos := "buchi.go:55", after := #[{ on := 32, ground := Go.Ground.data }, { on := 34, ground := Go.Ground.data }, { on := 30, ground := Go.Ground.guard }], guard := some (30, false) } : Oper)) (v := undef) rfl (by kernel_rfl) (by kernel_rfl) (by kernel_rfl) (fun _ _ _ h => h) (Or.inr ⟨by rfl, rfl⟩) (by assumption) ?_
        try simp only [Act.put, List.setIfInBounds_toArray, List.set_cons_zero, List.set_cons_succ]
        refine wpAnyH_take (i := 36) (oi := ({ dst := some 78, op := Go.Op.binOp Go.BinOp.neq 55 (Go.Operand.tmp 77) (Go.Operand.const (Go.Value.int Go.IntKind.u16 0)) 55, type := 4, pos := "buchi.go:55", after := #[{ on := 35, ground := Go.Ground.data }, { on := 30, ground := Go.Ground.guard }], guard := some (30, false) } : Oper)) (v := undef) rfl (by kernel_rfl) (by kernel_rfl) (by kernel_rfl) (fun _ _ _ h => h) (Or.inr ⟨by rfl, rfl⟩) (by assumption) ?_
        try simp only [Act.put, List.setIfInBounds_toArray, List.set_cons_zero, List.set_cons_succ]
        refine wpAnyH_take (i := 37) (oi := ({ dst := some 79, op := Go.Op.pick (Go.Operand.tmp 72) (Go.Operand.const (Go.Value.bool true)) (Go.Operand.tmp 78), type := 4, pos := "buchi.go:55", after := #[{ on := 30, ground := Go.Ground.data }, { on := 36, ground := Go.Ground.data }], guard := none } : Oper)) (v := ?_) rfl (by kernel_rfl) (by kernel_rfl) (by kernel_rfl) (fun _ _ _ h => h) (Or.inl ⟨by rfl, ?_⟩) (by assumption) ?_
        rotate_left
        · (intro wS hSw; (try dsimp only at hSw); go_simp <;> with_reducible rfl)
        try simp only [Act.put, List.setIfInBounds_toArray, List.set_cons_zero, List.set_cons_succ]
        refine wpAnyH_take (i := 38) (oi := ({ dst := some 80, op := Go.Op.move (Go.Operand.tmp 79), type := 4, pos := "buchi.go:55", after := #[{ on := 37, ground := Go.Ground.data }, { on := 30, ground := Go.Ground.chain }], guard := none } : Oper)) (v := ?_) rfl (by kernel_rfl) (by kernel_rfl) (by kernel_rfl) (fun _ _ _ h => h) (Or.inl ⟨by rfl, ?_⟩) (by assumption) ?_
        rotate_left
        · (intro wS hSw; (try dsimp only at hSw); go_simp <;> with_reducible rfl)
        try simp only [Act.put, List.setIfInBounds_toArray, List.set_cons_zero, List.set_cons_succ]
        refine wpAnyH_take (i := 39) (oi := ({ dst := some 81, op := Go.Op.move (Go.Operand.tmp 4), type := 3, pos := "buchi.go:55", after := #[{ on := 38, ground := Go.Ground.guard }], guard := some (38, false) } : Oper)) (v := undef) rfl (by kernel_rfl) (by kernel_rfl) (by kernel_rfl) (fun _ _ _ h => h) (Or.inr ⟨by rfl, rfl⟩) (by assumption) ?_
        try simp only [Act.put, List.setIfInBounds_toArray, List.set_cons_zero, List.set_cons_succ]
        refine wpAnyH_take (i := 40) (oi := ({ dst := some 82, op := Go.Op.binOp Go.BinOp.gtr 3 (Go.Operand.tmp 81) (Go.Operand.const (Go.Value.int Go.IntKind.i64 0)) 3, type := 4, pos := "buchi.go:55", after := #[{ on := 39, ground := Go.Ground.data }, { on := 38, ground := Go.Ground.guard }], guard := some (38, false) } : Oper)) (v := undef) rfl (by kernel_rfl) (by kernel_rfl) (by kernel_rfl) (fun _ _ _ h => h) (Or.inr ⟨by rfl, rfl⟩) (by assumption) ?_
        try simp only [Act.put, List.setIfInBounds_toArray, List.set_cons_zero, List.set_cons_succ]
        refine wpAnyH_take (i := 41) (oi := ({ dst := some 83, op := Go.Op.move (Go.Operand.tmp 82), type := 4, pos := "buchi.go:55", after := #[{ on := 40, ground := Go.Ground.data }, { on := 38, ground := Go.Ground.chain }, { on := 38, ground := Go.Ground.guard }], guard := some (38, false) } : Oper)) (v := undef) rfl (by kernel_rfl) (by kernel_rfl) (by kernel_rfl) (fun _ _ _ h => h) (Or.inr ⟨by rfl, rfl⟩) (by assumption) ?_
        try simp only [Act.put, List.setIfInBounds_toArray, List.set_cons_zero, List.set_cons_succ]
        refine wpAnyH_take (i := 42) (oi := ({ dst := some 84, op := Go.Op.fieldAddr 87 (Go.Operand.tmp 1) 3, type := 0, pos := "buchi.go:55", after := #[{ on := 41, ground := Go.Ground.guard }], guard := some (41, true) } : Oper)) (v := undef) rfl (by kernel_rfl) (by kernel_rfl) (by kernel_rfl) (fun _ _ _ h => h) (Or.inr ⟨by rfl, rfl⟩) (by assumption) ?_
        try simp only [Act.put, List.setIfInBounds_toArray, List.set_cons_zero, List.set_cons_succ]
        refine wpAnyH_take (i := 43) (oi := ({ dst := some 85, op := Go.Op.load 45 (Go.Operand.tmp 84), type := 45, pos := "buchi.go:55", after := #[{ on := 42, ground := Go.Ground.data }, { on := 41, ground := Go.Ground.guard }], guard := some (41, true) } : Oper)) (v := undef) rfl (by kernel_rfl) (by kernel_rfl) (by kernel_rfl) (fun _ _ _ h => h) (Or.inr ⟨by rfl, rfl⟩) (by assumption) ?_
        try simp only [Act.put, List.setIfInBounds_toArray, List.set_cons_zero, List.set_cons_succ]
        refine wpAnyH_take (i := 44) (oi := ({ dst := some 86, op := Go.Op.move (Go.Operand.tmp 4), type := 3, pos := "buchi.go:55", after := #[{ on := 41, ground := Go.Ground.guard }], guard := some (41, true) } : Oper)) (v := undef) rfl (by kernel_rfl) (by kernel_rfl) (by kernel_rfl) (fun _ _ _ h => h) (Or.inr ⟨by rfl, rfl⟩) (by assumption) ?_
        try simp only [Act.put, List.setIfInBounds_toArray, List.set_cons_zero, List.set_cons_succ]
        refine wpAnyH_take (i := 45) (oi := ({ dst := some 87, op := Go.Op.binOp Go.BinOp.sub 3 (Go.Operand.tmp 86) (Go.Operand.const (Go.Value.int Go.IntKind.i64 1)) 3, type := 3, pos := "buchi.go:55", after := #[{ on := 44, ground := Go.Ground.data }, { on := 41, ground := Go.Ground.guard }], guard := some (41, true) } : Oper)) (v := undef) rfl (by kernel_rfl) (by kernel_rfl) (by kernel_rfl) (fun _ _ _ h => h) (Or.inr ⟨by rfl, rfl⟩) (by assumption) ?_
        try simp only [Act.put, List.setIfInBounds_toArray, List.set_cons_zero, List.set_cons_succ]
        refine wpAnyH_take (i := 46) (oi := ({ dst := some 88, op := Go.Op.indexAddr 45 (Go.Operand.tmp 85) (Go.Operand.tmp 87), type := 0, pos := "buchi.go:55", after := #[{ on := 43, ground := Go.Ground.data }, { on := 45, ground := Go.Ground.data }, { on := 41, ground := Go.Ground.guard }], guard := some (41, true) } : Oper)) (v := undef) rfl (by kernel_rfl) (by kernel_rfl) (by kernel_rfl) (fun _ _ _ h => h) (Or.inr ⟨by rfl, rfl⟩) (by assumption) ?_
        try simp only [Act.put, List.setIfInBounds_toArray, List.set_cons_zero, List.set_cons_succ]
        refine wpAnyH_take (i := 47) (oi := ({ dst := some 89, op := Go.Op.load 61 (Go.Operand.tmp 88), type := 61, pos := "buchi.go:55", after := #[{ on := 46, ground := Go.Ground.data }, { on := 41, ground := Go.Ground.guard }], guard := some (41, true) } : Oper)) (v := undef) rfl (by kernel_rfl) (by kernel_rfl) (by kernel_rfl) (fun _ _ _ h => h) (Or.inr ⟨by rfl, rfl⟩) (by assumption) ?_
        try simp only [Act.put, List.setIfInBounds_toArray, List.set_cons_zero, List.set_cons_succ]
        refine wpAnyH_take (i := 48) (oi := ({ dst := some 90, op := Go.Op.load 61 (Go.Operand.tmp 5), type := 61, pos := "buchi.go:55", after := #[{ on := 41, ground := Go.Ground.guard }], guard := some (41, true) } : Oper)) (v := undef) rfl (by kernel_rfl) (by kernel_rfl) (by kernel_rfl) (fun _ _ _ h => h) (Or.inr ⟨by rfl, rfl⟩) (by assumption) ?_
        try simp only [Act.put, List.setIfInBounds_toArray, List.set_cons_zero, List.set_cons_succ]
        refine wpAnyH_take (i := 49) (oi := ({ dst := some 91, op := Go.Op.call { callee := Go.Callee.value (Go.Operand.func 93), args := #[Go.Operand.tmp 89, Go.Operand.tmp 90], argTypes := #[61, 61] }, type := 3, pos := "buchi.go:55", after := #[{ on := 47, ground := Go.Ground.data }, { on := 48, ground := Go.Ground.data }, { on := 41, ground := Go.Ground.chain }, { on := 41, ground := Go.Ground.guard }], guard := some (41, true) } : Oper)) (v := undef) rfl (by kernel_rfl) (by kernel_rfl) (by kernel_rfl) (fun _ _ _ h => h) (Or.inr ⟨by rfl, rfl⟩) (by assumption) ?_
        try simp only [Act.put, List.setIfInBounds_toArray, List.set_cons_zero, List.set_cons_succ]
        refine wpAnyH_take (i := 50) (oi := ({ dst := some 92, op := Go.Op.binOp Go.BinOp.geq 3 (Go.Operand.tmp 91) (Go.Operand.const (Go.Value.int Go.IntKind.i64 0)) 3, type := 4, pos := "buchi.go:55", after := #[{ on := 49, ground := Go.Ground.data }, { on := 41, ground := Go.Ground.guard }], guard := some (41, true) } : Oper)) (v := undef) rfl (by kernel_rfl) (by kernel_rfl) (by kernel_rfl) (fun _ _ _ h => h) (Or.inr ⟨by rfl, rfl⟩) (by assumption) ?_
        try simp only [Act.put, List.setIfInBounds_toArray, List.set_cons_zero, List.set_cons_succ]
        refine wpAnyH_take (i := 51) (oi := ({ dst := some 93, op := Go.Op.pick (Go.Operand.tmp 83) (Go.Operand.tmp 92) (Go.Operand.const (Go.Value.bool false)), type := 4, pos := "buchi.go:55", after := #[{ on := 41, ground := Go.Ground.data }, { on := 50, ground := Go.Ground.data }, { on := 38, ground := Go.Ground.guard }], guard := some (38, false) } : Oper)) (v := undef) rfl (by kernel_rfl) (by kernel_rfl) (by kernel_rfl) (fun _ _ _ h => h) (Or.inr ⟨by rfl, rfl⟩) (by assumption) ?_
        try simp only [Act.put, List.setIfInBounds_toArray, List.set_cons_zero, List.set_cons_succ]
        refine wpAnyH_take (i := 52) (oi := ({ dst := some 94, op := Go.Op.pick (Go.Operand.tmp 80) (Go.Operand.const (Go.Value.bool true)) (Go.Operand.tmp 93), type := 4, pos := "buchi.go:55", after := #[{ on := 38, ground := Go.Ground.data }, { on := 51, ground := Go.Ground.data }], guard := none } : Oper)) (v := ?_) rfl (by kernel_rfl) (by kernel_rfl) (by kernel_rfl) (fun _ _ _ h => h) (Or.inl ⟨by rfl, ?_⟩) (by assumption) ?_
        rotate_left
        · (intro wS hSw; (try dsimp only at hSw); go_simp <;> with_reducible rfl)
        try simp only [Act.put, List.setIfInBounds_toArray, List.set_cons_zero, List.set_cons_succ]
        refine wpAnyH_done (by kernel_rfl) ?_ _
        have HGn := Lib.hid hHeld.1
        go_wp2_with fail
        go_ret
        exact ⟨by rw [HV.out]; rfl, gb_trans HGw.out HGn.out (Or.inl rfl)⟩
      have t3 : decide (M ≤ x.mu) = false := by simpa using h3
      rw [decide_eq_true (show x.mu < M by omega), Bool.true_and] at HBk
      by_cases h4 : M ≤ x.no
      · have t4 : decide (M ≤ x.no) = true := by simpa using h4
        have HV := Lib.hid (HNk.out (by rw [HBk.out, decide_eq_false (show ¬ x.no < M by omega), Bool.false_and]))
        clear z3
        clear HNk HYk HBk HPv
        have hS0 := HSS4.out _ (gb_drew we none)
        refine wp_region_held_drew (S := (fun wx => we.grownBy wx none ∧ wx.cell? ⟨wr.heap.size, 0, none⟩ = some (.int .i64 x.fr) ∧ wx.cell? ⟨wr.heap.size, 1, none⟩ = some (.int .i64 x.tt) ∧ wx.cell? ⟨wr.heap.size, 2, none⟩ = some (.int .u16 (x.mu : Int)) ∧ wx.cell? ⟨wr.heap.size, 3, none⟩ = some (.int .u16 (x.no : Int)) ∧ wx.cell? ⟨w.heap.size, 1, none⟩ = some (.int .i64 n))) (by kernel_rfl) (by assumption) (fun hHeld => ?_)
        refine wpAnyH_take (i := 0) (oi := ({ dst := some 42, op := Go.Op.fieldAddr 61 (Go.Operand.tmp 5) 0, type := 0, pos := "buchi.go:55", after := #[], guard := none } : Oper)) (v := ?_) rfl (by kernel_rfl) (by kernel_rfl) (by kernel_rfl) (fun _ _ _ h => h) (Or.inl ⟨by rfl, ?_⟩) (by assumption) ?_
        rotate_left
        · (intro wS hSw; (try dsimp only at hSw); go_simp <;> with_reducible rfl)
        try simp only [Act.put, List.setIfInBounds_toArray, List.set_cons_zero, List.set_cons_succ]
        refine wpAnyH_take (i := 1) (oi := ({ dst := some 43, op := Go.Op.load 3 (Go.Operand.tmp 42), type := 3, pos := "buchi.go:55", after := #[{ on := 0, ground := Go.Ground.data }], guard := none } : Oper)) (v := ?_) rfl (by kernel_rfl) (by kernel_rfl) (by kernel_rfl) (fun _ _ _ h => h) (Or.inl ⟨by rfl, ?_⟩) (by assumption) ?_
        rotate_left
        · (intro wS hSw; (try dsimp only at hSw); go_simp <;> with_reducible rfl)
        try simp only [Act.put, List.setIfInBounds_toArray, List.set_cons_zero, List.set_cons_succ]
        refine wpAnyH_take (i := 3) (oi := ({ dst := some 45, op := Go.Op.fieldAddr 87 (Go.Operand.tmp 1) 1, type := 0, pos := "buchi.go:55", after := #[], guard := none } : Oper)) (v := ?_) rfl (by kernel_rfl) (by kernel_rfl) (by kernel_rfl) (fun _ _ _ h => h) (Or.inl ⟨by rfl, ?_⟩) (by assumption) ?_
        rotate_left
        · (intro wS hSw; (try dsimp only at hSw); go_simp <;> with_reducible rfl)
        try simp only [Act.put, List.setIfInBounds_toArray, List.set_cons_zero, List.set_cons_succ]
        refine wpAnyH_take (i := 4) (oi := ({ dst := some 46, op := Go.Op.load 3 (Go.Operand.tmp 45), type := 3, pos := "buchi.go:55", after := #[{ on := 3, ground := Go.Ground.data }], guard := none } : Oper)) (v := ?_) rfl (by kernel_rfl) (by kernel_rfl) (by kernel_rfl) (fun _ _ _ h => h) (Or.inl ⟨by rfl, ?_⟩) (by assumption) ?_
        rotate_left
        · (intro wS hSw; (try dsimp only at hSw); go_simp <;> with_reducible rfl)
        try simp only [Act.put, List.setIfInBounds_toArray, List.set_cons_zero, List.set_cons_succ]
        refine wpAnyH_ready (rs := [2]) (by kernel_rfl) (by simp) ?_
        refine AllReadyH.cons (o := ({ dst := some 44, op := Go.Op.buildSlice 43 1 #[(0, Go.Operand.tmp 43)], type := 43, pos := "buchi.go:55", after := #[{ on := 1, ground := Go.Ground.data }], guard := none } : Oper)) rfl (fun K hK => ?_) AllReadyH.nil
        go_simp
        refine hK.out _ _ (by first | assumption | exact HSS4.out _ (gb_trans (And.left (by assumption)) (World.grownBy_alloc _ _ none) (Or.inl rfl))) (fun hHeld => ?_)
        clear hK K
        try simp only [Act.put, List.setIfInBounds_toArray, List.set_cons_zero, List.set_cons_succ]
        refine wpAnyH_ready (rs := [5]) (by kernel_rfl) (by simp) ?_
        refine AllReadyH.cons (o := ({ dst := some 47, op := Go.Op.call { callee := Go.Callee.value (Go.Operand.func 92), args := #[Go.Operand.tmp 44, Go.Operand.tmp 46], argTypes := #[43, 3] }, type := 4, pos := "buchi.go:55", after := #[{ on := 2, ground := Go.Ground.data }, { on := 4, ground := Go.Ground.data }], guard := none } : Oper)) rfl (fun K hK => ?_) AllReadyH.nil
        go_simp
        ((with_reducible refine HS1.out.mono ?_); rintro e wn ⟨rfl, rfl⟩)
        refine hK.out _ _ (by assumption) (fun hHeld => ?_)
        clear hK K
        try simp only [Act.put, List.setIfInBounds_toArray, List.set_cons_zero, List.set_cons_succ]
        refine wpAnyH_take (i := 6) (oi := ({ dst := some 48, op := Go.Op.unOp Go.UnOp.not 4 (Go.Operand.tmp 47), type := 4, pos := "buchi.go:55", after := #[{ on := 5, ground := Go.Ground.data }], guard := none } : Oper)) (v := ?_) rfl (by kernel_rfl) (by kernel_rfl) (by kernel_rfl) (fun _ _ _ h => h) (Or.inl ⟨by rfl, ?_⟩) (by assumption) ?_
        rotate_left
        · (intro wS hSw; (try dsimp only at hSw); go_simp <;> with_reducible rfl)
        try simp only [Act.put, List.setIfInBounds_toArray, List.set_cons_zero, List.set_cons_succ]
        refine wpAnyH_take (i := 7) (oi := ({ dst := some 49, op := Go.Op.move (Go.Operand.tmp 48), type := 4, pos := "buchi.go:55", after := #[{ on := 6, ground := Go.Ground.data }, { on := 5, ground := Go.Ground.chain }], guard := none } : Oper)) (v := ?_) rfl (by kernel_rfl) (by kernel_rfl) (by kernel_rfl) (fun _ _ _ h => h) (Or.inl ⟨by rfl, ?_⟩) (by assumption) ?_
        rotate_left
        · (intro wS hSw; (try dsimp only at hSw); go_simp <;> with_reducible rfl)
        try simp only [Act.put, List.setIfInBounds_toArray, List.set_cons_zero, List.set_cons_succ]
        refine wpAnyH_take (i := 8) (oi := ({ dst := some 50, op := Go.Op.fieldAddr 61 (Go.Operand.tmp 5) 1, type := 0, pos := "buchi.go:55", after := #[{ on := 7, ground := Go.Ground.guard }], guard := some (7, false) } : Oper)) (v := ?_) rfl (by kernel_rfl) (by kernel_rfl) (by kernel_rfl) (fun _ _ _ h => h) (Or.inl ⟨by rfl, ?_⟩) (by assumption) ?_
        rotate_left
        · (intro wS hSw; (try dsimp only at hSw); go_simp <;> with_reducible rfl)
        try simp only [Act.put, List.setIfInBounds_toArray, List.set_cons_zero, List.set_cons_succ]
        refine wpAnyH_take (i := 9) (oi := ({ dst := some 51, op := Go.Op.load 3 (Go.Operand.tmp 50), type := 3, pos := "buchi.go:55", after := #[{ on := 8, ground := Go.Ground.data }, { on := 7, ground := Go.Ground.guard }], guard := some (7, false) } : Oper)) (v := ?_) rfl (by kernel_rfl) (by kernel_rfl) (by kernel_rfl) (fun _ _ _ h => h) (Or.inl ⟨by rfl, ?_⟩) (by assumption) ?_
        rotate_left
        · (intro wS hSw; (try dsimp only at hSw); go_simp <;> with_reducible rfl)
        try simp only [Act.put, List.setIfInBounds_toArray, List.set_cons_zero, List.set_cons_succ]
        refine wpAnyH_take (i := 11) (oi := ({ dst := some 53, op := Go.Op.fieldAddr 87 (Go.Operand.tmp 1) 1, type := 0, pos := "buchi.go:55", after := #[{ on := 7, ground := Go.Ground.guard }], guard := some (7, false) } : Oper)) (v := ?_) rfl (by kernel_rfl) (by kernel_rfl) (by kernel_rfl) (fun _ _ _ h => h) (Or.inl ⟨by rfl, ?_⟩) (by assumption) ?_
        rotate_left
        · (intro wS hSw; (try dsimp only at hSw); go_simp <;> with_reducible rfl)
        try simp only [Act.put, List.setIfInBounds_toArray, List.set_cons_zero, List.set_cons_succ]
        refine wpAnyH_take (i := 12) (oi := ({ dst := some 54, op := Go.Op.load 3 (Go.Operand.tmp 53), type := 3, pos := "buchi.go:55", after := #[{ on := 11, ground := Go.Ground.data }, { on := 7, ground := Go.Ground.guard }], guard := some (7, false) } : Oper)) (v := ?_) rfl (by kernel_rfl) (by kernel_rfl) (by kernel_rfl) (fun _ _ _ h => h) (Or.inl ⟨by rfl, ?_⟩) (by assumption) ?_
        rotate_left
        · (intro wS hSw; (try dsimp only at hSw); go_simp <;> with_reducible rfl)
        try simp only [Act.put, List.setIfInBounds_toArray, List.set_cons_zero, List.set_cons_succ]
        refine wpAnyH_ready (rs := [10]) (by kernel_rfl) (by simp) ?_
        refine AllReadyH.cons (o := ({ dst := some 52, op := Go.Op.buildSlice 43 1 #[(0, Go.Operand.tmp 51)], type := 43, pos := "buchi.go:55", after := #[{ on := 9, ground := Go.Ground.data }, { on := 7, ground := Go.Ground.guard }], guard := some (7, false) } : Oper)) rfl (fun K hK => ?_) AllReadyH.nil
        go_simp
        refine hK.out _ _ (by first | assumption | exact HSS4.out _ (gb_trans (And.left (by assumption)) (World.grownBy_alloc _ _ none) (Or.inl rfl))) (fun hHeld => ?_)
        clear hK K
        try simp only [Act.put, List.setIfInBounds_toArray, List.set_cons_zero, List.set_cons_succ]
        refine wpAnyH_ready (rs := [13]) (by kernel_rfl) (by simp) ?_
        refine AllReadyH.cons (o := ({ dst := some 55, op := Go.Op.call { callee := Go.Callee.value (Go.Operand.func 92), args := #[Go.Operand.tmp 52, Go.Operand.tmp 54], argTypes := #[43, 3] }, type := 4, pos := "buchi.go:55", after := #[{ on := 10, ground := Go.Ground.data }, { on := 12, ground := Go.Ground.data }, { on := 7, ground := Go.Ground.chain }, { on := 7, ground := Go.Ground.guard }], guard := some (7, false) } : Oper)) rfl (fun K hK => ?_) AllReadyH.nil
        go_simp
        ((with_reducible refine HS2.out.mono ?_); rintro e wn ⟨rfl, rfl⟩)
        refine hK.out _ _ (by assumption) (fun hHeld => ?_)
        clear hK K
        try simp only [Act.put, List.setIfInBounds_toArray, List.set_cons_zero, List.set_cons_succ]
        refine wpAnyH_take (i := 14) (oi := ({ dst := some 56, op := Go.Op.unOp Go.UnOp.not 4 (Go.Operand.tmp 55), type := 4, pos := "buchi.go:55", after := #[{ on := 13, ground := Go.Ground.data }, { on := 7, ground := Go.Ground.guard }], guard := some (7, false) } : Oper)) (v := ?_) rfl (by kernel_rfl) (by kernel_rfl) (by kernel_rfl) (fun _ _ _ h => h) (Or.inl ⟨by rfl, ?_⟩) (by assumption) ?_
        rotate_left
        · (intro wS hSw; (try dsimp only at hSw); go_simp <;> with_reducible rfl)
        try simp only [Act.put, List.setIfInBounds_toArray, List.set_cons_zero, List.set_cons_succ]
        refine wpAnyH_take (i := 15) (oi := ({ dst := some 57, op := Go.Op.pick (Go.Operand.tmp 49) (Go.Operand.const (Go.Value.bool true)) (Go.Operand.tmp 56), type := 4, pos := "buchi.go:55", after := #[{ on := 7, ground := Go.Ground.data }, { on := 14, ground := Go.Ground.data }], guard := none } : Oper)) (v := ?_) rfl (by kernel_rfl) (by kernel_rfl) (by kernel_rfl) (fun _ _ _ h => h) (Or.inl ⟨by rfl, ?_⟩) (by assumption) ?_
        rotate_left
        · (intro wS hSw; (try dsimp only at hSw); go_simp <;> with_reducible rfl)
        try simp only [Act.put, List.setIfInBounds_toArray, List.set_cons_zero, List.set_cons_succ]
        refine wpAnyH_take (i := 16) (oi := ({ dst := some 58, op := Go.Op.move (Go.Operand.tmp 57), type := 4, pos := "buchi.go:55", after := #[{ on := 15, ground := Go.Ground.data }, { on := 13, ground := Go.Ground.chain }], guard := none } : Oper)) (v := ?_) rfl (by kernel_rfl) (by kernel_rfl) (by kernel_rfl) (fun _ _ _ h => h) (Or.inl ⟨by rfl, ?_⟩) (by assumption) ?_
        rotate_left
        · (intro wS hSw; (try dsimp only at hSw); go_simp <;> with_reducible rfl)
        try simp only [Act.put, List.setIfInBounds_toArray, List.set_cons_zero, List.set_cons_succ]
        refine wpAnyH_take (i := 17) (oi := ({ dst := some 59, op := Go.Op.fieldAddr 61 (Go.Operand.tmp 5) 2, type := 0, pos := "buchi.go:55", after := #[{ on := 16, ground := Go.Ground.guard }], guard := some (16, false) } : Oper)) (v := ?_) rfl (by kernel_rfl) (by kernel_rfl) (by kernel_rfl) (fun _ _ _ h => h) (Or.inl ⟨by rfl, ?_⟩) (by assumption) ?_
        rotate_left
        · (intro wS hSw; (try dsimp only at hSw); go_simp <;> with_reducible rfl)
        try simp only [Act.put, List.setIfInBounds_toArray, List.set_cons_zero, List.set_cons_succ]
        refine wpAnyH_take (i := 18) (oi := ({ dst := some 60, op := Go.Op.load 55 (Go.Operand.tmp 59), type := 55, pos := "buchi.go:55", after := #[{ on := 17, ground := Go.Ground.data }, { on := 16, ground := Go.Ground.guard }], guard := some (16, false) } : Oper)) (v := ?_) rfl (by kernel_rfl) (by kernel_rfl) (by kernel_rfl) (fun _ _ _ h => h) (Or.inl ⟨by rfl, ?_⟩) (by assumption) ?_
        rotate_left
        · (intro wS hSw; (try dsimp only at hSw); go_simp <;> with_reducible rfl)
        try simp only [Act.put, List.setIfInBounds_toArray, List.set_cons_zero, List.set_cons_succ]
        refine wpAnyH_take (i := 19) (oi := ({ dst := some 61, op := Go.Op.convert 55 3 (Go.Operand.tmp 60), type := 3, pos := "buchi.go:55", after := #[{ on := 18, ground := Go.Ground.data }, { on := 16, ground := Go.Ground.guard }], guard := some (16, false) } : Oper)) (v := ?_) rfl (by kernel_rfl) (by kernel_rfl) (by kernel_rfl) (fun _ _ _ h => h) (Or.inl ⟨by rfl, ?_⟩) (by assumption) ?_
        rotate_left
        · (intro wS hSw; (try dsimp only at hSw); go_simp <;> with_reducible rfl)
        try simp only [Act.put, List.setIfInBounds_toArray, List.set_cons_zero, List.set_cons_succ]
        refine wpAnyH_take (i := 20) (oi := ({ dst := some 62, op := Go.Op.move (Go.Operand.tmp 3), type := 3, pos := "buchi.go:55", after := #[{ on := 16, ground := Go.Ground.guard }], guard := some (16, false) } : Oper)) (v := ?_) rfl (by kernel_rfl) (by kernel_rfl) (by kernel_rfl) (fun _ _ _ h => h) (Or.inl ⟨by rfl, ?_⟩) (by assumption) ?_
        rotate_left
        · (intro wS hSw; (try dsimp only at hSw); go_simp <;> with_reducible rfl)
        try simp only [Act.put, List.setIfInBounds_toArray, List.set_cons_zero, List.set_cons_succ]
        refine wpAnyH_take (i := 21) (oi := ({ dst := some 63, op := Go.Op.binOp Go.BinOp.geq 3 (Go.Operand.tmp 61) (Go.Operand.tmp 62) 3, type := 4, pos := "buchi.go:55", after := #[{ on := 19, ground := Go.Ground.data }, { on := 20, ground := Go.Ground.data }, { on := 16, ground := Go.Ground.guard }], guard := some (16, false) } : Oper)) (v := ?_) rfl (by kernel_rfl) (by kernel_rfl) (by kernel_rfl) (fun _ _ _ h => h) (Or.inl ⟨by rfl, ?_⟩) (by assumption) ?_
        rotate_left
        · (intro wS hSw; (try dsimp only at hSw); go_simp <;> with_reducible rfl)
        try simp only [Act.put, List.setIfInBounds_toArray, List.set_cons_zero, List.set_cons_succ]
        refine wpAnyH_take (i := 22) (oi := ({ dst := some 64, op := Go.Op.pick (Go.Operand.tmp 58) (Go.Operand.const (Go.Value.bool true)) (Go.Operand.tmp 63), type := 4, pos := "buchi.go:55", after := #[{ on := 16, ground := Go.Ground.data }, { on := 21, ground := Go.Ground.data }], guard := none } : Oper)) (v := ?_) rfl (by kernel_rfl) (by kernel_rfl) (by kernel_rfl) (fun _ _ _ h => h) (Or.inl ⟨by rfl, ?_⟩) (by assumption) ?_
        rotate_left
        · (intro wS hSw; (try dsimp only at hSw); go_simp <;> with_reducible rfl)
        try simp only [Act.put, List.setIfInBounds_toArray, List.set_cons_zero, List.set_cons_succ]
        refine wpAnyH_take (i := 23) (oi := ({ dst := some 65, op := Go.Op.move (Go.Operand.tmp 64), type := 4, pos := "buchi.go:55", after := #[{ on := 22, ground := Go.Ground.data }, { on := 16, ground := Go.Ground.chain }], guard := none } : Oper)) (v := ?_) rfl (by kernel_rfl) (by kernel_rfl) (by kernel_rfl) (fun _ _ _ h => h) (Or.inl ⟨by rfl, ?_⟩) (by assumption) ?_
        rotate_left
        · (intro wS hSw; (try dsimp only at hSw); go_simp <;> with_reducible rfl)
        try simp only [Act.put, List.setIfInBounds_toArray, List.set_cons_zero, List.set_cons_succ]
        refine wpAnyH_take (i := 24) (oi := ({ dst := some 66, op := Go.Op.fieldAddr 61 (Go.Operand.tmp 5) 3, type := 0, pos := "buchi.go:55", after := #[{ on := 23, ground := Go.Ground.guard }], guard := some (23, false) } : Oper)) (v := ?_) rfl (by kernel_rfl) (by kernel_rfl) (by kernel_rfl) (fun _ _ _ h => h) (Or.inl ⟨by rfl, ?_⟩) (by assumption) ?_
        rotate_left
        · (intro wS hSw; (try dsimp only at hSw); go_simp <;> with_reducible rfl)
        try simp only [Act.put, List.setIfInBounds_toArray, List.set_cons_zero, List.set_cons_succ]
        refine wpAnyH_take (i := 25) (oi := ({ dst := some 67, op := Go.Op.load 55 (Go.Operand.tmp 66), type := 55, pos := "buchi.go:55", after := #[{ on := 24, ground := Go.Ground.data }, { on := 23, ground := Go.Ground.guard }], guard := some (23, false) } : Oper)) (v := ?_) rfl (by kernel_rfl) (by kernel_rfl) (by kernel_rfl) (fun _ _ _ h => h) (Or.inl ⟨by rfl, ?_⟩) (by assumption) ?_
        rotate_left
        · (intro wS hSw; (try dsimp only at hSw); go_simp <;> with_reducible rfl)
        try simp only [Act.put, List.setIfInBounds_toArray, List.set_cons_zero, List.set_cons_succ]
        refine wpAnyH_take (i := 26) (oi := ({ dst := some 68, op := Go.Op.convert 55 3 (Go.Operand.tmp 67), type := 3, pos := "buchi.go:55", after := #[{ on := 25, ground := Go.Ground.data }, { on := 23, ground := Go.Ground.guard }], guard := some (23, false) } : Oper)) (v := ?_) rfl (by kernel_rfl) (by kernel_rfl) (by kernel_rfl) (fun _ _ _ h => h) (Or.inl ⟨by rfl, ?_⟩) (by assumption) ?_
        rotate_left
        · (intro wS hSw; (try dsimp only at hSw); go_simp <;> with_reducible rfl)
        try simp only [Act.put, List.setIfInBounds_toArray, List.set_cons_zero, List.set_cons_succ]
        refine wpAnyH_take (i := 27) (oi := ({ dst := some 69, op := Go.Op.move (Go.Operand.tmp 3), type := 3, pos := "buchi.go:55", after := #[{ on := 23, ground := Go.Ground.guard }], guard := some (23, false) } : Oper)) (v := ?_) rfl (by kernel_rfl) (by kernel_rfl) (by kernel_rfl) (fun _ _ _ h => h) (Or.inl ⟨by rfl, ?_⟩) (by assumption) ?_
        rotate_left
        · (intro wS hSw; (try dsimp only at hSw); go_simp <;> with_reducible rfl)
        try simp only [Act.put, List.setIfInBounds_toArray, List.set_cons_zero, List.set_cons_succ]
        refine wpAnyH_take (i := 28) (oi := ({ dst := some 70, op := Go.Op.binOp Go.BinOp.geq 3 (Go.Operand.tmp 68) (Go.Operand.tmp 69) 3, type := 4, pos := "buchi.go:55", after := #[{ on := 26, ground := Go.Ground.data }, { on := 27, ground := Go.Ground.data }, { on := 23, ground := Go.Ground.guard }], guard := some (23, false) } : Oper)) (v := ?_) rfl (by kernel_rfl) (by kernel_rfl) (by kernel_rfl) (fun _ _ _ h => h) (Or.inl ⟨by rfl, ?_⟩) (by assumption) ?_
        rotate_left
        · (intro wS hSw; (try dsimp only at hSw); go_simp <;> with_reducible rfl)
        try simp only [Act.put, List.setIfInBounds_toArray, List.set_cons_zero, List.set_cons_succ]
        refine wpAnyH_take (i := 29) (oi := ({ dst := some 71, op := Go.Op.pick (Go.Operand.tmp 65) (Go.Operand.const (Go.Value.bool true)) (Go.Operand.tmp 70), type := 4, pos := "buchi.go:55", after := #[{ on := 23, ground := Go.Ground.data }, { on := 28, ground := Go.Ground.data }], guard := none } : Oper)) (v := ?_) rfl (by kernel_rfl) (by kernel_rfl) (by kernel_rfl) (fun _ _ _ h => h) (Or.inl ⟨by rfl, ?_⟩) (by assumption) ?_
        rotate_left
        · (intro wS hSw; (try dsimp only at hSw); go_simp <;> with_reducible rfl)
        try simp only [Act.put, List.setIfInBounds_toArray, List.set_cons_zero, List.set_cons_succ]
        refine wpAnyH_take (i := 30) (oi := ({ dst := some 72, op := Go.Op.move (Go.Operand.tmp 71), type := 4, pos := "buchi.go:55", after := #[{ on := 29, ground := Go.Ground.data }, { on := 23, ground := Go.Ground.chain }], guard := none } : Oper)) (v := ?_) rfl (by kernel_rfl) (by kernel_rfl) (by kernel_rfl) (fun _ _ _ h => h) (Or.inl ⟨by rfl, ?_⟩) (by assumption) ?_
        rotate_left
        · (intro wS hSw; (try dsimp only at hSw); go_simp <;> with_reducible rfl)
        try simp only [Act.put, List.setIfInBounds_toArray, List.set_cons_zero, List.set_cons_succ]
        refine wpAnyH_take (i := 31) (oi := ({ dst := some 73, op := Go.Op.fieldAddr 61 (Go.Operand.tmp 5) 2, type := 0, pos := "buchi.go:55", after := #[{ on := 30, ground := Go.Ground.guard }], guard := some (30, false) } : Oper)) (v := undef) rfl (by kernel_rfl) (by kernel_rfl) (by kernel_rfl) (fun _ _ _ h => h) (Or.inr ⟨by rfl, rfl⟩) (by assumption) ?_
        try simp only [Act.put, List.setIfInBounds_toArray, List.set_cons_zero, List.set_cons_succ]
        refine wpAnyH_take (i := 32) (oi := ({ dst := some 74, op := Go.Op.load 55 (Go.Operand.tmp 73), type := 55, pos := "buchi.go:55", after := #[{ on := 31, ground := Go.Ground.data }, { on := 30, ground := Go.Ground.guard }], guard := some (30, false) } : Oper)) (v := undef) rfl (by kernel_rfl) (by kernel_rfl) (by kernel_rfl) (fun _ _ _ h => h) (Or.inr ⟨by rfl, rfl⟩) (by assumption) ?_
        try simp only [Act.put, List.setIfInBounds_toArray, List.set_cons_zero, List.set_cons_succ]
        refine wpAnyH_take (i := 33) (oi := ({ dst := some 75, op := Go.Op.fieldAddr 61 (Go.Operand.tmp 5) 3, type := 0, pos := "buchi.go:55", after := #[{ on := 30, ground := Go.Ground.guard }], guard := some (30, false) } : Oper)) (v := undef) rfl (by kernel_rfl) (by kernel_rfl) (by kernel_rfl) (fun _ _ _ h => h) (Or.inr ⟨by rfl, rfl⟩) (by assumption) ?_
        try simp only [Act.put, List.setIfInBounds_toArray, List.set_cons_zero, List.set_cons_succ]
        refine wpAnyH_take (i := 34) (oi := ({ dst := some 76, op := Go.Op.load 55 (Go.Operand.tmp 75), type := 55, pos := "buchi.go:55", after := #[{ on := 33, ground := Go.Ground.data }, { on := 30, ground := Go.Ground.guard }], guard := some (30, false) } : Oper)) (v := undef) rfl (by kernel_rfl) (by kernel_rfl) (by kernel_rfl) (fun _ _ _ h => h) (Or.inr ⟨by rfl, rfl⟩) (by assumption) ?_
        try simp only [Act.put, List.setIfInBounds_toArray, List.set_cons_zero, List.set_cons_succ]
        refine wpAnyH_take (i := 35) (oi := ({ dst := some 77, op := Go.Op.binOp Go.BinOp.and 55 (Go.Operand.tmp 74) (Go.Operand.tmp 76) 55, type := 55, pos := "buchi.go:55", after := #[{ on := 32, ground := Go.Ground.data }, { on := 34, ground := Go.Ground.data }, { on := 30, ground := Go.Ground.guard }], guard := some (30, false) } : Oper)) (v := undef) rfl (by kernel_rfl) (by kernel_rfl) (by kernel_rfl) (fun _ _ _ h => h) (Or.inr ⟨by rfl, rfl⟩) (by assumption) ?_
        try simp only [Act.put, List.setIfInBounds_toArray, List.set_cons_zero, List.set_cons_succ]
        refine wpAnyH_take (i := 36) (oi := ({ dst := some 78, op := Go.Op.binOp Go.BinOp.neq 55 (Go.Operand.tmp 77) (Go.Operand.const (Go.Value.int Go.IntKind.u16 0)) 55, type := 4, pos := "buchi.go:55", after := #[{ on := 35, ground := Go.Ground.data }, { on := 30, ground := Go.Ground.guard }], guard := some (30, false) } : Oper)) (v := undef) rfl (by kernel_rfl) (by kernel_rfl) (by kernel_rfl) (fun _ _ _ h => h) (Or.inr ⟨by rfl, rfl⟩) (by assumption) ?_
        try simp only [Act.put, List.setIfInBounds_toArray, List.set_cons_zero, List.set_cons_succ]
        refine wpAnyH_take (i := 37) (oi := ({ dst := some 79, op := Go.Op.pick (Go.Operand.tmp 72) (Go.Operand.const (Go.Value.bool true)) (Go.Operand.tmp 78), type := 4, pos := "buchi.go:55", after := #[{ on := 30, ground := Go.Ground.data }, { on := 36, ground := Go.Ground.data }], guard := none } : Oper)) (v := ?_) rfl (by kernel_rfl) (by kernel_rfl) (by kernel_rfl) (fun _ _ _ h => h) (Or.inl ⟨by rfl, ?_⟩) (by assumption) ?_
        rotate_left
        · (intro wS hSw; (try dsimp only at hSw); go_simp <;> with_reducible rfl)
        try simp only [Act.put, List.setIfInBounds_toArray, List.set_cons_zero, List.set_cons_succ]
        refine wpAnyH_take (i := 38) (oi := ({ dst := some 80, op := Go.Op.move (Go.Operand.tmp 79), type := 4, pos := "buchi.go:55", after := #[{ on := 37, ground := Go.Ground.data }, { on := 30, ground := Go.Ground.chain }], guard := none } : Oper)) (v := ?_) rfl (by kernel_rfl) (by kernel_rfl) (by kernel_rfl) (fun _ _ _ h => h) (Or.inl ⟨by rfl, ?_⟩) (by assumption) ?_
        rotate_left
        · (intro wS hSw; (try dsimp only at hSw); go_simp <;> with_reducible rfl)
        try simp only [Act.put, List.setIfInBounds_toArray, List.set_cons_zero, List.set_cons_succ]
        refine wpAnyH_take (i := 39) (oi := ({ dst := some 81, op := Go.Op.move (Go.Operand.tmp 4), type := 3, pos := "buchi.go:55", after := #[{ on := 38, ground := Go.Ground.guard }], guard := some (38, false) } : Oper)) (v := undef) rfl (by kernel_rfl) (by kernel_rfl) (by kernel_rfl) (fun _ _ _ h => h) (Or.inr ⟨by rfl, rfl⟩) (by assumption) ?_
        try simp only [Act.put, List.setIfInBounds_toArray, List.set_cons_zero, List.set_cons_succ]
        refine wpAnyH_take (i := 40) (oi := ({ dst := some 82, op := Go.Op.binOp Go.BinOp.gtr 3 (Go.Operand.tmp 81) (Go.Operand.const (Go.Value.int Go.IntKind.i64 0)) 3, type := 4, pos := "buchi.go:55", after := #[{ on := 39, ground := Go.Ground.data }, { on := 38, ground := Go.Ground.guard }], guard := some (38, false) } : Oper)) (v := undef) rfl (by kernel_rfl) (by kernel_rfl) (by kernel_rfl) (fun _ _ _ h => h) (Or.inr ⟨by rfl, rfl⟩) (by assumption) ?_
        try simp only [Act.put, List.setIfInBounds_toArray, List.set_cons_zero, List.set_cons_succ]
        refine wpAnyH_take (i := 41) (oi := ({ dst := some 83, op := Go.Op.move (Go.Operand.tmp 82), type := 4, pos := "buchi.go:55", after := #[{ on := 40, ground := Go.Ground.data }, { on := 38, ground := Go.Ground.chain }, { on := 38, ground := Go.Ground.guard }], guard := some (38, false) } : Oper)) (v := undef) rfl (by kernel_rfl) (by kernel_rfl) (by kernel_rfl) (fun _ _ _ h => h) (Or.inr ⟨by rfl, rfl⟩) (by assumption) ?_
        try simp only [Act.put, List.setIfInBounds_toArray, List.set_cons_zero, List.set_cons_succ]
        refine wpAnyH_take (i := 42) (oi := ({ dst := some 84, op := Go.Op.fieldAddr 87 (Go.Operand.tmp 1) 3, type := 0, pos := "buchi.go:55", after := #[{ on := 41, ground := Go.Ground.guard }], guard := some (41, true) } : Oper)) (v := undef) rfl (by kernel_rfl) (by kernel_rfl) (by kernel_rfl) (fun _ _ _ h => h) (Or.inr ⟨by rfl, rfl⟩) (by assumption) ?_
        try simp only [Act.put, List.setIfInBounds_toArray, List.set_cons_zero, List.set_cons_succ]
        refine wpAnyH_take (i := 43) (oi := ({ dst := some 85, op := Go.Op.load 45 (Go.Operand.tmp 84), type := 45, pos := "buchi.go:55", after := #[{ on := 42, ground := Go.Ground.data }, { on := 41, ground := Go.Ground.guard }], guard := some (41, true) } : Oper)) (v := undef) rfl (by kernel_rfl) (by kernel_rfl) (by kernel_rfl) (fun _ _ _ h => h) (Or.inr ⟨by rfl, rfl⟩) (by assumption) ?_
        try simp only [Act.put, List.setIfInBounds_toArray, List.set_cons_zero, List.set_cons_succ]
        refine wpAnyH_take (i := 44) (oi := ({ dst := some 86, op := Go.Op.move (Go.Operand.tmp 4), type := 3, pos := "buchi.go:55", after := #[{ on := 41, ground := Go.Ground.guard }], guard := some (41, true) } : Oper)) (v := undef) rfl (by kernel_rfl) (by kernel_rfl) (by kernel_rfl) (fun _ _ _ h => h) (Or.inr ⟨by rfl, rfl⟩) (by assumption) ?_
        try simp only [Act.put, List.setIfInBounds_toArray, List.set_cons_zero, List.set_cons_succ]
        refine wpAnyH_take (i := 45) (oi := ({ dst := some 87, op := Go.Op.binOp Go.BinOp.sub 3 (Go.Operand.tmp 86) (Go.Operand.const (Go.Value.int Go.IntKind.i64 1)) 3, type := 3, pos := "buchi.go:55", after := #[{ on := 44, ground := Go.Ground.data }, { on := 41, ground := Go.Ground.guard }], guard := some (41, true) } : Oper)) (v := undef) rfl (by kernel_rfl) (by kernel_rfl) (by kernel_rfl) (fun _ _ _ h => h) (Or.inr ⟨by rfl, rfl⟩) (by assumption) ?_
        try simp only [Act.put, List.setIfInBounds_toArray, List.set_cons_zero, List.set_cons_succ]
        refine wpAnyH_take (i := 46) (oi := ({ dst := some 88, op := Go.Op.indexAddr 45 (Go.Operand.tmp 85) (Go.Operand.tmp 87), type := 0, pos := "buchi.go:55", after := #[{ on := 43, ground := Go.Ground.data }, { on := 45, ground := Go.Ground.data }, { on := 41, ground := Go.Ground.guard }], guard := some (41, true) } : Oper)) (v := undef) rfl (by kernel_rfl) (by kernel_rfl) (by kernel_rfl) (fun _ _ _ h => h) (Or.inr ⟨by rfl, rfl⟩) (by assumption) ?_
        try simp only [Act.put, List.setIfInBounds_toArray, List.set_cons_zero, List.set_cons_succ]
        refine wpAnyH_take (i := 47) (oi := ({ dst := some 89, op := Go.Op.load 61 (Go.Operand.tmp 88), type := 61, pos := "buchi.go:55", after := #[{ on := 46, ground := Go.Ground.data }, { on := 41, ground := Go.Ground.guard }], guard := some (41, true) } : Oper)) (v := undef) rfl (by kernel_rfl) (by kernel_rfl) (by kernel_rfl) (fun _ _ _ h => h) (Or.inr ⟨by rfl, rfl⟩) (by assumption) ?_
        try simp only [Act.put, List.setIfInBounds_toArray, List.set_cons_zero, List.set_cons_succ]
        refine wpAnyH_take (i := 48) (oi := ({ dst := some 90, op := Go.Op.load 61 (Go.Operand.tmp 5), type := 61, pos := "buchi.go:55", after := #[{ on := 41, ground := Go.Ground.guard }], guard := some (41, true) } : Oper)) (v := undef) rfl (by kernel_rfl) (by kernel_rfl) (by kernel_rfl) (fun _ _ _ h => h) (Or.inr ⟨by rfl, rfl⟩) (by assumption) ?_
        try simp only [Act.put, List.setIfInBounds_toArray, List.set_cons_zero, List.set_cons_succ]
        refine wpAnyH_take (i := 49) (oi := ({ dst := some 91, op := Go.Op.call { callee := Go.Callee.value (Go.Operand.func 93), args := #[Go.Operand.tmp 89, Go.Operand.tmp 90], argTypes := #[61, 61] }, type := 3, pos := "buchi.go:55", after := #[{ on := 47, ground := Go.Ground.data }, { on := 48, ground := Go.Ground.data }, { on := 41, ground := Go.Ground.chain }, { on := 41, ground := Go.Ground.guard }], guard := some (41, true) } : Oper)) (v := undef) rfl (by kernel_rfl) (by kernel_rfl) (by kernel_rfl) (fun _ _ _ h => h) (Or.inr ⟨by rfl, rfl⟩) (by assumption) ?_
        try simp only [Act.put, List.setIfInBounds_toArray, List.set_cons_zero, List.set_cons_succ]
        refine wpAnyH_take (i := 50) (oi := ({ dst := some 92, op := Go.Op.binOp Go.BinOp.geq 3 (Go.Operand.tmp 91) (Go.Operand.const (Go.Value.int Go.IntKind.i64 0)) 3, type := 4, pos := "buchi.go:55", after := #[{ on := 49, ground := Go.Ground.data }, { on := 41, ground := Go.Ground.guard }], guard := some (41, true) } : Oper)) (v := undef) rfl (by kernel_rfl) (by kernel_rfl) (by kernel_rfl) (fun _ _ _ h => h) (Or.inr ⟨by rfl, rfl⟩) (by assumption) ?_
        try simp only [Act.put, List.setIfInBounds_toArray, List.set_cons_zero, List.set_cons_succ]
        refine wpAnyH_take (i := 51) (oi := ({ dst := some 93, op := Go.Op.pick (Go.Operand.tmp 83) (Go.Operand.tmp 92) (Go.Operand.const (Go.Value.bool false)), type := 4, pos := "buchi.go:55", after := #[{ on := 41, ground := Go.Ground.data }, { on := 50, ground := Go.Ground.data }, { on := 38, ground := Go.Ground.guard }], guard := some (38, false) } : Oper)) (v := undef) rfl (by kernel_rfl) (by kernel_rfl) (by kernel_rfl) (fun _ _ _ h => h) (Or.inr ⟨by rfl, rfl⟩) (by assumption) ?_
        try simp only [Act.put, List.setIfInBounds_toArray, List.set_cons_zero, List.set_cons_succ]
        refine wpAnyH_take (i := 52) (oi := ({ dst := some 94, op := Go.Op.pick (Go.Operand.tmp 80) (Go.Operand.const (Go.Value.bool true)) (Go.Operand.tmp 93), type := 4, pos := "buchi.go:55", after := #[{ on := 38, ground := Go.Ground.data }, { on := 51, ground := Go.Ground.data }], guard := none } : Oper)) (v := ?_) rfl (by kernel_rfl) (by kernel_rfl) (by kernel_rfl) (fun _ _ _ h => h) (Or.inl ⟨by rfl, ?_⟩) (by assumption) ?_
        rotate_left
        · (intro wS hSw; (try dsimp only at hSw); go_simp <;> with_reducible rfl)
        try simp only [Act.put, List.setIfInBounds_toArray, List.set_cons_zero, List.set_cons_succ]
        refine wpAnyH_done (by kernel_rfl) ?_ _
        have HGn := Lib.hid hHeld.1
        go_wp2_with fail
        go_ret
        exact ⟨by rw [HV.out]; rfl, gb_trans HGw.out HGn.out (Or.inl rfl)⟩
      have t4 : decide (M ≤ x.no) = false := by simpa using h4
      rw [decide_eq_true (show x.no < M by omega), Bool.true_and] at HBk
      by_cases h5 : x.mu &&& x.no = 0
      case neg =>
        have HV := Lib.hid (HNk.out (by rw [HBk.out, decide_eq_false h5, Bool.false_and]))
        have t5 : ((((x.mu &&& x.no : Nat) : Int)) != 0) = true := by simpa using h5
        rw [← z3] at t5
        clear z3 h5
        clear HNk HYk HBk HPv
        have hS0 := HSS4.out _ (gb_drew we none)
        refine wp_region_held_drew (S := (fun wx => we.grownBy wx none ∧ wx.cell? ⟨wr.heap.size, 0, none⟩ = some (.int .i64 x.fr) ∧ wx.cell? ⟨wr.heap.size, 1, none⟩ = some (.int .i64 x.tt) ∧ wx.cell? ⟨wr.heap.size, 2, none⟩ = some (.int .u16 (x.mu : Int)) ∧ wx.cell? ⟨wr.heap.size, 3, none⟩ = some (.int .u16 (x.no : Int)) ∧ wx.cell? ⟨w.heap.size, 1, none⟩ = some (.int .i64 n))) (by kernel_rfl) (by assumption) (fun hHeld => ?_)
        refine wpAnyH_take (i := 0) (oi := ({ dst := some 42, op := Go.Op.fieldAddr 61 (Go.Operand.tmp 5) 0, type := 0, pos := "buchi.go:55", after := #[], guard := none } : Oper)) (v := ?_) rfl (by kernel_rfl) (by kernel_rfl) (by kernel_rfl) (fun _ _ _ h => h) (Or.inl ⟨by rfl, ?_⟩) (by assumption) ?_
        rotate_left
        · (intro wS hSw; (try dsimp only at hSw); go_simp <;> with_reducible rfl)
        try simp only [Act.put, List.setIfInBounds_toArray, List.set_cons_zero, List.set_cons_succ]
        refine wpAnyH_take (i := 1) (oi := ({ dst := some 43, op := Go.Op.load 3 (Go.Operand.tmp 42), type := 3, pos := "buchi.go:55", after := #[{ on := 0, ground := Go.Ground.data }], guard := none } : Oper)) (v := ?_) rfl (by kernel_rfl) (by kernel_rfl) (by kernel_rfl) (fun _ _ _ h => h) (Or.inl ⟨by rfl, ?_⟩) (by assumption) ?_
        rotate_left
        · (intro wS hSw; (try dsimp only at hSw); go_simp <;> with_reducible rfl)
        try simp only [Act.put, List.setIfInBounds_toArray, List.set_cons_zero, List.set_cons_succ]
        refine wpAnyH_take (i := 3) (oi := ({ dst := some 45, op := Go.Op.fieldAddr 87 (Go.Operand.tmp 1) 1, type := 0, pos := "buchi.go:55", after := #[], guard := none } : Oper)) (v := ?_) rfl (by kernel_rfl) (by kernel_rfl) (by kernel_rfl) (fun _ _ _ h => h) (Or.inl ⟨by rfl, ?_⟩) (by assumption) ?_
        rotate_left
        · (intro wS hSw; (try dsimp only at hSw); go_simp <;> with_reducible rfl)
        try simp only [Act.put, List.setIfInBounds_toArray, List.set_cons_zero, List.set_cons_succ]
        refine wpAnyH_take (i := 4) (oi := ({ dst := some 46, op := Go.Op.load 3 (Go.Operand.tmp 45), type := 3, pos := "buchi.go:55", after := #[{ on := 3, ground := Go.Ground.data }], guard := none } : Oper)) (v := ?_) rfl (by kernel_rfl) (by kernel_rfl) (by kernel_rfl) (fun _ _ _ h => h) (Or.inl ⟨by rfl, ?_⟩) (by assumption) ?_
        rotate_left
        · (intro wS hSw; (try dsimp only at hSw); go_simp <;> with_reducible rfl)
        try simp only [Act.put, List.setIfInBounds_toArray, List.set_cons_zero, List.set_cons_succ]
        refine wpAnyH_ready (rs := [2]) (by kernel_rfl) (by simp) ?_
        refine AllReadyH.cons (o := ({ dst := some 44, op := Go.Op.buildSlice 43 1 #[(0, Go.Operand.tmp 43)], type := 43, pos := "buchi.go:55", after := #[{ on := 1, ground := Go.Ground.data }], guard := none } : Oper)) rfl (fun K hK => ?_) AllReadyH.nil
        go_simp
        refine hK.out _ _ (by first | assumption | exact HSS4.out _ (gb_trans (And.left (by assumption)) (World.grownBy_alloc _ _ none) (Or.inl rfl))) (fun hHeld => ?_)
        clear hK K
        try simp only [Act.put, List.setIfInBounds_toArray, List.set_cons_zero, List.set_cons_succ]
        refine wpAnyH_ready (rs := [5]) (by kernel_rfl) (by simp) ?_
        refine AllReadyH.cons (o := ({ dst := some 47, op := Go.Op.call { callee := Go.Callee.value (Go.Operand.func 92), args := #[Go.Operand.tmp 44, Go.Operand.tmp 46], argTypes := #[43, 3] }, type := 4, pos := "buchi.go:55", after := #[{ on := 2, ground := Go.Ground.data }, { on := 4, ground := Go.Ground.data }], guard := none } : Oper)) rfl (fun K hK => ?_) AllReadyH.nil
        go_simp
        ((with_reducible refine HS1.out.mono ?_); rintro e wn ⟨rfl, rfl⟩)
        refine hK.out _ _ (by assumption) (fun hHeld => ?_)
        clear hK K
        try simp only [Act.put, List.setIfInBounds_toArray, List.set_cons_zero, List.set_cons_succ]
        refine wpAnyH_take (i := 6) (oi := ({ dst := some 48, op := Go.Op.unOp Go.UnOp.not 4 (Go.Operand.tmp 47), type := 4, pos := "buchi.go:55", after := #[{ on := 5, ground := Go.Ground.data }], guard := none } : Oper)) (v := ?_) rfl (by kernel_rfl) (by kernel_rfl) (by kernel_rfl) (fun _ _ _ h => h) (Or.inl ⟨by rfl, ?_⟩) (by assumption) ?_
        rotate_left
        · (intro wS hSw; (try dsimp only at hSw); go_simp <;> with_reducible rfl)
        try simp only [Act.put, List.setIfInBounds_toArray, List.set_cons_zero, List.set_cons_succ]
        refine wpAnyH_take (i := 7) (oi := ({ dst := some 49, op := Go.Op.move (Go.Operand.tmp 48), type := 4, pos := "buchi.go:55", after := #[{ on := 6, ground := Go.Ground.data }, { on := 5, ground := Go.Ground.chain }], guard := none } : Oper)) (v := ?_) rfl (by kernel_rfl) (by kernel_rfl) (by kernel_rfl) (fun _ _ _ h => h) (Or.inl ⟨by rfl, ?_⟩) (by assumption) ?_
        rotate_left
        · (intro wS hSw; (try dsimp only at hSw); go_simp <;> with_reducible rfl)
        try simp only [Act.put, List.setIfInBounds_toArray, List.set_cons_zero, List.set_cons_succ]
        refine wpAnyH_take (i := 8) (oi := ({ dst := some 50, op := Go.Op.fieldAddr 61 (Go.Operand.tmp 5) 1, type := 0, pos := "buchi.go:55", after := #[{ on := 7, ground := Go.Ground.guard }], guard := some (7, false) } : Oper)) (v := ?_) rfl (by kernel_rfl) (by kernel_rfl) (by kernel_rfl) (fun _ _ _ h => h) (Or.inl ⟨by rfl, ?_⟩) (by assumption) ?_
        rotate_left
        · (intro wS hSw; (try dsimp only at hSw); go_simp <;> with_reducible rfl)
        try simp only [Act.put, List.setIfInBounds_toArray, List.set_cons_zero, List.set_cons_succ]
        refine wpAnyH_take (i := 9) (oi := ({ dst := some 51, op := Go.Op.load 3 (Go.Operand.tmp 50), type := 3, pos := "buchi.go:55", after := #[{ on := 8, ground := Go.Ground.data }, { on := 7, ground := Go.Ground.guard }], guard := some (7, false) } : Oper)) (v := ?_) rfl (by kernel_rfl) (by kernel_rfl) (by kernel_rfl) (fun _ _ _ h => h) (Or.inl ⟨by rfl, ?_⟩) (by assumption) ?_
        rotate_left
        · (intro wS hSw; (try dsimp only at hSw); go_simp <;> with_reducible rfl)
        try simp only [Act.put, List.setIfInBounds_toArray, List.set_cons_zero, List.set_cons_succ]
        refine wpAnyH_take (i := 11) (oi := ({ dst := some 53, op := Go.Op.fieldAddr 87 (Go.Operand.tmp 1) 1, type := 0, pos := "buchi.go:55", after := #[{ on := 7, ground := Go.Ground.guard }], guard := some (7, false) } : Oper)) (v := ?_) rfl (by kernel_rfl) (by kernel_rfl) (by kernel_rfl) (fun _ _ _ h => h) (Or.inl ⟨by rfl, ?_⟩) (by assumption) ?_
        rotate_left
        · (intro wS hSw; (try dsimp only at hSw); go_simp <;> with_reducible rfl)
        try simp only [Act.put, List.setIfInBounds_toArray, List.set_cons_zero, List.set_cons_succ]
        refine wpAnyH_take (i := 12) (oi := ({ dst := some 54, op := Go.Op.load 3 (Go.Operand.tmp 53), type := 3, pos := "buchi.go:55", after := #[{ on := 11, ground := Go.Ground.data }, { on := 7, ground := Go.Ground.guard }], guard := some (7, false) } : Oper)) (v := ?_) rfl (by kernel_rfl) (by kernel_rfl) (by kernel_rfl) (fun _ _ _ h => h) (Or.inl ⟨by rfl, ?_⟩) (by assumption) ?_
        rotate_left
        · (intro wS hSw; (try dsimp only at hSw); go_simp <;> with_reducible rfl)
        try simp only [Act.put, List.setIfInBounds_toArray, List.set_cons_zero, List.set_cons_succ]
        refine wpAnyH_ready (rs := [10]) (by kernel_rfl) (by simp) ?_
        refine AllReadyH.cons (o := ({ dst := some 52, op := Go.Op.buildSlice 43 1 #[(0, Go.Operand.tmp 51)], type := 43, pos := "buchi.go:55", after := #[{ on := 9, ground := Go.Ground.data }, { on := 7, ground := Go.Ground.guard }], guard := some (7, false) } : Oper)) rfl (fun K hK => ?_) AllReadyH.nil
        go_simp
        refine hK.out _ _ (by first | assumption | exact HSS4.out _ (gb_trans (And.left (by assumption)) (World.grownBy_alloc _ _ none) (Or.inl rfl))) (fun hHeld => ?_)
        clear hK K
        try simp only [Act.put, List.setIfInBounds_toArray, List.set_cons_zero, List.set_cons_succ]
        refine wpAnyH_ready (rs := [13]) (by kernel_rfl) (by simp) ?_
        refine AllReadyH.cons (o := ({ dst := some 55, op := Go.Op.call { callee := Go.Callee.value (Go.Operand.func 92), args := #[Go.Operand.tmp 52, Go.Operand.tmp 54], argTypes := #[43, 3] }, type := 4, pos := "buchi.go:55", after := #[{ on := 10, ground := Go.Ground.data }, { on := 12, ground := Go.Ground.data }, { on := 7, ground := Go.Ground.chain }, { on := 7, ground := Go.Ground.guard }], guard := some (7, false) } : Oper)) rfl (fun K hK => ?_) AllReadyH.nil
        go_simp
        ((with_reducible refine HS2.out.mono ?_); rintro e wn ⟨rfl, rfl⟩)
        refine hK.out _ _ (by assumption) (fun hHeld => ?_)
        clear hK K
        try simp only [Act.put, List.setIfInBounds_toArray, List.set_cons_zero, List.set_cons_succ]
        refine wpAnyH_take (i := 14) (oi := ({ dst := some 56, op := Go.Op.unOp Go.UnOp.not 4 (Go.Operand.tmp 55), type := 4, pos := "buchi.go:55", after := #[{ on := 13, ground := Go.Ground.data }, { on := 7, ground := Go.Ground.guard }], guard := some (7, false) } : Oper)) (v := ?_) rfl (by kernel_rfl) (by kernel_rfl) (by kernel_rfl) (fun _ _ _ h => h) (Or.inl ⟨by rfl, ?_⟩) (by assumption) ?_
        rotate_left
        · (intro wS hSw; (try dsimp only at hSw); go_simp <;> with_reducible rfl)
        try simp only [Act.put, List.setIfInBounds_toArray, List.set_cons_zero, List.set_cons_succ]
        refine wpAnyH_take (i := 15) (oi := ({ dst := some 57, op := Go.Op.pick (Go.Operand.tmp 49) (Go.Operand.const (Go.Value.bool true)) (Go.Operand.tmp 56), type := 4, pos := "buchi.go:55", after := #[{ on := 7, ground := Go.Ground.data }, { on := 14, ground := Go.Ground.data }], guard := none } : Oper)) (v := ?_) rfl (by kernel_rfl) (by kernel_rfl) (by kernel_rfl) (fun _ _ _ h => h) (Or.inl ⟨by rfl, ?_⟩) (by assumption) ?_
        rotate_left
        · (intro wS hSw; (try dsimp only at hSw); go_simp <;> with_reducible rfl)
        try simp only [Act.put, List.setIfInBounds_toArray, List.set_cons_zero, List.set_cons_succ]
        refine wpAnyH_take (i := 16) (oi := ({ dst := some 58, op := Go.Op.move (Go.Operand.tmp 57), type := 4, pos := "buchi.go:55", after := #[{ on := 15, ground := Go.Ground.data }, { on := 13, ground := Go.Ground.chain }], guard := none } : Oper)) (v := ?_) rfl (by kernel_rfl) (by kernel_rfl) (by kernel_rfl) (fun _ _ _ h => h) (Or.inl ⟨by rfl, ?_⟩) (by assumption) ?_
        rotate_left
        · (intro wS hSw; (try dsimp only at hSw); go_simp <;> with_reducible rfl)
        try simp only [Act.put, List.setIfInBounds_toArray, List.set_cons_zero, List.set_cons_succ]
        refine wpAnyH_take (i := 17) (oi := ({ dst := some 59, op := Go.Op.fieldAddr 61 (Go.Operand.tmp 5) 2, type := 0, pos := "buchi.go:55", after := #[{ on := 16, ground := Go.Ground.guard }], guard := some (16, false) } : Oper)) (v := ?_) rfl (by kernel_rfl) (by kernel_rfl) (by kernel_rfl) (fun _ _ _ h => h) (Or.inl ⟨by rfl, ?_⟩) (by assumption) ?_
        rotate_left
        · (intro wS hSw; (try dsimp only at hSw); go_simp <;> with_reducible rfl)
        try simp only [Act.put, List.setIfInBounds_toArray, List.set_cons_zero, List.set_cons_succ]
        refine wpAnyH_take (i := 18) (oi := ({ dst := some 60, op := Go.Op.load 55 (Go.Operand.tmp 59), type := 55, pos := "buchi.go:55", after := #[{ on := 17, ground := Go.Ground.data }, { on := 16, ground := Go.Ground.guard }], guard := some (16, false) } : Oper)) (v := ?_) rfl (by kernel_rfl) (by kernel_rfl) (by kernel_rfl) (fun _ _ _ h => h) (Or.inl ⟨by rfl, ?_⟩) (by assumption) ?_
        rotate_left
        · (intro wS hSw; (try dsimp only at hSw); go_simp <;> with_reducible rfl)
        try simp only [Act.put, List.setIfInBounds_toArray, List.set_cons_zero, List.set_cons_succ]
        refine wpAnyH_take (i := 19) (oi := ({ dst := some 61, op := Go.Op.convert 55 3 (Go.Operand.tmp 60), type := 3, pos := "buchi.go:55", after := #[{ on := 18, ground := Go.Ground.data }, { on := 16, ground := Go.Ground.guard }], guard := some (16, false) } : Oper)) (v := ?_) rfl (by kernel_rfl) (by kernel_rfl) (by kernel_rfl) (fun _ _ _ h => h) (Or.inl ⟨by rfl, ?_⟩) (by assumption) ?_
        rotate_left
        · (intro wS hSw; (try dsimp only at hSw); go_simp <;> with_reducible rfl)
        try simp only [Act.put, List.setIfInBounds_toArray, List.set_cons_zero, List.set_cons_succ]
        refine wpAnyH_take (i := 20) (oi := ({ dst := some 62, op := Go.Op.move (Go.Operand.tmp 3), type := 3, pos := "buchi.go:55", after := #[{ on := 16, ground := Go.Ground.guard }], guard := some (16, false) } : Oper)) (v := ?_) rfl (by kernel_rfl) (by kernel_rfl) (by kernel_rfl) (fun _ _ _ h => h) (Or.inl ⟨by rfl, ?_⟩) (by assumption) ?_
        rotate_left
        · (intro wS hSw; (try dsimp only at hSw); go_simp <;> with_reducible rfl)
        try simp only [Act.put, List.setIfInBounds_toArray, List.set_cons_zero, List.set_cons_succ]
        refine wpAnyH_take (i := 21) (oi := ({ dst := some 63, op := Go.Op.binOp Go.BinOp.geq 3 (Go.Operand.tmp 61) (Go.Operand.tmp 62) 3, type := 4, pos := "buchi.go:55", after := #[{ on := 19, ground := Go.Ground.data }, { on := 20, ground := Go.Ground.data }, { on := 16, ground := Go.Ground.guard }], guard := some (16, false) } : Oper)) (v := ?_) rfl (by kernel_rfl) (by kernel_rfl) (by kernel_rfl) (fun _ _ _ h => h) (Or.inl ⟨by rfl, ?_⟩) (by assumption) ?_
        rotate_left
        · (intro wS hSw; (try dsimp only at hSw); go_simp <;> with_reducible rfl)
        try simp only [Act.put, List.setIfInBounds_toArray, List.set_cons_zero, List.set_cons_succ]
        refine wpAnyH_take (i := 22) (oi := ({ dst := some 64, op := Go.Op.pick (Go.Operand.tmp 58) (Go.Operand.const (Go.Value.bool true)) (Go.Operand.tmp 63), type := 4, pos := "buchi.go:55", after := #[{ on := 16, ground := Go.Ground.data }, { on := 21, ground := Go.Ground.data }], guard := none } : Oper)) (v := ?_) rfl (by kernel_rfl) (by kernel_rfl) (by kernel_rfl) (fun _ _ _ h => h) (Or.inl ⟨by rfl, ?_⟩) (by assumption) ?_
        rotate_left
        · (intro wS hSw; (try dsimp only at hSw); go_simp <;> with_reducible rfl)
        try simp only [Act.put, List.setIfInBounds_toArray, List.set_cons_zero, List.set_cons_succ]
        refine wpAnyH_take (i := 23) (oi := ({ dst := some 65, op := Go.Op.move (Go.Operand.tmp 64), type := 4, pos := "buchi.go:55", after := #[{ on := 22, ground := Go.Ground.data }, { on := 16, ground := Go.Ground.chain }], guard := none } : Oper)) (v := ?_) rfl (by kernel_rfl) (by kernel_rfl) (by kernel_rfl) (fun _ _ _ h => h) (Or.inl ⟨by rfl, ?_⟩) (by assumption) ?_
        rotate_left
        · (intro wS hSw; (try dsimp only at hSw); go_simp <;> with_reducible rfl)
        try simp only [Act.put, List.setIfInBounds_toArray, List.set_cons_zero, List.set_cons_succ]
        refine wpAnyH_take (i := 24) (oi := ({ dst := some 66, op := Go.Op.fieldAddr 61 (Go.Operand.tmp 5) 3, type := 0, pos := "buchi.go:55", after := #[{ on := 23, ground := Go.Ground.guard }], guard := some (23, false) } : Oper)) (v := ?_) rfl (by kernel_rfl) (by kernel_rfl) (by kernel_rfl) (fun _ _ _ h => h) (Or.inl ⟨by rfl, ?_⟩) (by assumption) ?_
        rotate_left
        · (intro wS hSw; (try dsimp only at hSw); go_simp <;> with_reducible rfl)
        try simp only [Act.put, List.setIfInBounds_toArray, List.set_cons_zero, List.set_cons_succ]
        refine wpAnyH_take (i := 25) (oi := ({ dst := some 67, op := Go.Op.load 55 (Go.Operand.tmp 66), type := 55, pos := "buchi.go:55", after := #[{ on := 24, ground := Go.Ground.data }, { on := 23, ground := Go.Ground.guard }], guard := some (23, false) } : Oper)) (v := ?_) rfl (by kernel_rfl) (by kernel_rfl) (by kernel_rfl) (fun _ _ _ h => h) (Or.inl ⟨by rfl, ?_⟩) (by assumption) ?_
        rotate_left
        · (intro wS hSw; (try dsimp only at hSw); go_simp <;> with_reducible rfl)
        try simp only [Act.put, List.setIfInBounds_toArray, List.set_cons_zero, List.set_cons_succ]
        refine wpAnyH_take (i := 26) (oi := ({ dst := some 68, op := Go.Op.convert 55 3 (Go.Operand.tmp 67), type := 3, pos := "buchi.go:55", after := #[{ on := 25, ground := Go.Ground.data }, { on := 23, ground := Go.Ground.guard }], guard := some (23, false) } : Oper)) (v := ?_) rfl (by kernel_rfl) (by kernel_rfl) (by kernel_rfl) (fun _ _ _ h => h) (Or.inl ⟨by rfl, ?_⟩) (by assumption) ?_
        rotate_left
        · (intro wS hSw; (try dsimp only at hSw); go_simp <;> with_reducible rfl)
        try simp only [Act.put, List.setIfInBounds_toArray, List.set_cons_zero, List.set_cons_succ]
        refine wpAnyH_take (i := 27) (oi := ({ dst := some 69, op := Go.Op.move (Go.Operand.tmp 3), type := 3, pos := "buchi.go:55", after := #[{ on := 23, ground := Go.Ground.guard }], guard := some (23, false) } : Oper)) (v := ?_) rfl (by kernel_rfl) (by kernel_rfl) (by kernel_rfl) (fun _ _ _ h => h) (Or.inl ⟨by rfl, ?_⟩) (by assumption) ?_
        rotate_left
        · (intro wS hSw; (try dsimp only at hSw); go_simp <;> with_reducible rfl)
        try simp only [Act.put, List.setIfInBounds_toArray, List.set_cons_zero, List.set_cons_succ]
        refine wpAnyH_take (i := 28) (oi := ({ dst := some 70, op := Go.Op.binOp Go.BinOp.geq 3 (Go.Operand.tmp 68) (Go.Operand.tmp 69) 3, type := 4, pos := "buchi.go:55", after := #[{ on := 26, ground := Go.Ground.data }, { on := 27, ground := Go.Ground.data }, { on := 23, ground := Go.Ground.guard }], guard := some (23, false) } : Oper)) (v := ?_) rfl (by kernel_rfl) (by kernel_rfl) (by kernel_rfl) (fun _ _ _ h => h) (Or.inl ⟨by rfl, ?_⟩) (by assumption) ?_
        rotate_left
        · (intro wS hSw; (try dsimp only at hSw); go_simp <;> with_reducible rfl)
        try simp only [Act.put, List.setIfInBounds_toArray, List.set_cons_zero, List.set_cons_succ]
        refine wpAnyH_take (i := 29) (oi := ({ dst := some 71, op := Go.Op.pick (Go.Operand.tmp 65) (Go.Operand.const (Go.Value.bool true)) (Go.Operand.tmp 70), type := 4, pos := "buchi.go:55", after := #[{ on := 23, ground := Go.Ground.data }, { on := 28, ground := Go.Ground.data }], guard := none } : Oper)) (v := ?_) rfl (by kernel_rfl) (by kernel_rfl) (by kernel_rfl) (fun _ _ _ h => h) (Or.inl ⟨by rfl, ?_⟩) (by assumption) ?_
        rotate_left
        · (intro wS hSw; (try dsimp only at hSw); go_simp <;> with_reducible rfl)
        try simp only [Act.put, List.setIfInBounds_toArray, List.set_cons_zero, List.set_cons_succ]
        refine wpAnyH_take (i := 30) (oi := ({ dst := some 72, op := Go.Op.move (Go.Operand.tmp 71), type := 4, pos := "buchi.go:55", after := #[{ on := 29, ground := Go.Ground.data }, { on := 23, ground := Go.Ground.chain }], guard := none } : Oper)) (v := ?_) rfl (by kernel_rfl) (by kernel_rfl) (by kernel_rfl) (fun _ _ _ h => h) (Or.inl ⟨by rfl, ?_⟩) (by assumption) ?_
        rotate_left
        · (intro wS hSw; (try dsimp only at hSw); go_simp <;> with_reducible rfl)
        try simp only [Act.put, List.setIfInBounds_toArray, List.set_cons_zero, List.set_cons_succ]
        refine wpAnyH_take (i := 31) (oi := ({ dst := some 73, op := Go.Op.fieldAddr 61 (Go.Operand.tmp 5) 2, type := 0, pos := "buchi.go:55", after := #[{ on := 30, ground := Go.Ground.guard }], guard := some (30, false) } : Oper)) (v := ?_) rfl (by kernel_rfl) (by kernel_rfl) (by kernel_rfl) (fun _ _ _ h => h) (Or.inl ⟨by rfl, ?_⟩) (by assumption) ?_
        rotate_left
        · (intro wS hSw; (try dsimp only at hSw); go_simp <;> with_reducible rfl)
        try simp only [Act.put, List.setIfInBounds_toArray, List.set_cons_zero, List.set_cons_succ]
        refine wpAnyH_take (i := 32) (oi := ({ dst := some 74, op := Go.Op.load 55 (Go.Operand.tmp 73), type := 55, pos := "buchi.go:55", after := #[{ on := 31, ground := Go.Ground.data }, { on := 30, ground := Go.Ground.guard }], guard := some (30, false) } : Oper)) (v := ?_) rfl (by kernel_rfl) (by kernel_rfl) (by kernel_rfl) (fun _ _ _ h => h) (Or.inl ⟨by rfl, ?_⟩) (by assumption) ?_
        rotate_left
        · (intro wS hSw; (try dsimp only at hSw); go_simp <;> with_reducible rfl)
        try simp only [Act.put, List.setIfInBounds_toArray, List.set_cons_zero, List.set_cons_succ]
        refine wpAnyH_take (i := 33) (oi := ({ dst := some 75, op := Go.Op.fieldAddr 61 (Go.Operand.tmp 5) 3, type := 0, pos := "buchi.go:55", after := #[{ on := 30, ground := Go.Ground.guard }], guard := some (30, false) } : Oper)) (v := ?_) rfl (by kernel_rfl) (by kernel_rfl) (by kernel_rfl) (fun _ _ _ h => h) (Or.inl ⟨by rfl, ?_⟩) (by assumption) ?_
        rotate_left
        · (intro wS hSw; (try dsimp only at hSw); go_simp <;> with_reducible rfl)
        try simp only [Act.put, List.setIfInBounds_toArray, List.set_cons_zero, List.set_cons_succ]
        refine wpAnyH_take (i := 34) (oi := ({ dst := some 76, op := Go.Op.load 55 (Go.Operand.tmp 75), type := 55, pos := "buchi.go:55", after := #[{ on := 33, ground := Go.Ground.data }, { on := 30, ground := Go.Ground.guard }], guard := some (30, false) } : Oper)) (v := ?_) rfl (by kernel_rfl) (by kernel_rfl) (by kernel_rfl) (fun _ _ _ h => h) (Or.inl ⟨by rfl, ?_⟩) (by assumption) ?_
        rotate_left
        · (intro wS hSw; (try dsimp only at hSw); go_simp <;> with_reducible rfl)
        try simp only [Act.put, List.setIfInBounds_toArray, List.set_cons_zero, List.set_cons_succ]
        refine wpAnyH_take (i := 35) (oi := ({ dst := some 77, op := Go.Op.binOp Go.BinOp.and 55 (Go.Operand.tmp 74) (Go.Operand.tmp 76) 55, type := 55, pos := "buchi.go:55", after := #[{ on := 32, ground := Go.Ground.data }, { on := 34, ground := Go.Ground.data }, { on := 30, ground := Go.Ground.guard }], guard := some (30, false) } : Oper)) (v := ?_) rfl (by kernel_rfl) (by kernel_rfl) (by kernel_rfl) (fun _ _ _ h => h) (Or.inl ⟨by rfl, ?_⟩) (by assumption) ?_
        rotate_left
        · (intro wS hSw; (try dsimp only at hSw); go_simp <;> with_reducible rfl)
        try simp only [Act.put, List.setIfInBounds_toArray, List.set_cons_zero, List.set_cons_succ]
        refine wpAnyH_take (i := 36) (oi := ({ dst := some 78, op := Go.Op.binOp Go.BinOp.neq 55 (Go.Operand.tmp 77) (Go.Operand.const (Go.Value.int Go.IntKind.u16 0)) 55, type := 4, pos := "buchi.go:55", after := #[{ on := 35, ground := Go.Ground.data }, { on := 30, ground := Go.Ground.guard }], guard := some (30, false) } : Oper)) (v := ?_) rfl (by kernel_rfl) (by kernel_rfl) (by kernel_rfl) (fun _ _ _ h => h) (Or.inl ⟨by rfl, ?_⟩) (by assumption) ?_
        rotate_left
        · (intro wS hSw; (try dsimp only at hSw); go_simp <;> with_reducible rfl)
        try simp only [Act.put, List.setIfInBounds_toArray, List.set_cons_zero, List.set_cons_succ]
        refine wpAnyH_take (i := 37) (oi := ({ dst := some 79, op := Go.Op.pick (Go.Operand.tmp 72) (Go.Operand.const (Go.Value.bool true)) (Go.Operand.tmp 78), type := 4, pos := "buchi.go:55", after := #[{ on := 30, ground := Go.Ground.data }, { on := 36, ground := Go.Ground.data }], guard := none } : Oper)) (v := ?_) rfl (by kernel_rfl) (by kernel_rfl) (by kernel_rfl) (fun _ _ _ h => h) (Or.inl ⟨by rfl, ?_⟩) (by assumption) ?_
        rotate_left
        · (intro wS hSw; (try dsimp only at hSw); go_simp <;> with_reducible rfl)
        try simp only [Act.put, List.setIfInBounds_toArray, List.set_cons_zero, List.set_cons_succ]
        refine wpAnyH_take (i := 38) (oi := ({ dst := some 80, op := Go.Op.move (Go.Operand.tmp 79), type := 4, pos := "buchi.go:55", after := #[{ on := 37, ground := Go.Ground.data }, { on := 30, ground := Go.Ground.chain }], guard := none } : Oper)) (v := ?_) rfl (by kernel_rfl) (by kernel_rfl) (by kernel_rfl) (fun _ _ _ h => h) (Or.inl ⟨by rfl, ?_⟩) (by assumption) ?_
        rotate_left
        · (intro wS hSw; (try dsimp only at hSw); go_simp <;> with_reducible rfl)
        try simp only [Act.put, List.setIfInBounds_toArray, List.set_cons_zero, List.set_cons_succ]
        refine wpAnyH_take (i := 39) (oi := ({ dst := some 81, op := Go.Op.move (Go.Operand.tmp 4), type := 3, pos := "buchi.go:55", after := #[{ on := 38, ground := Go.Ground.guard }], guard := some (38, false) } : Oper)) (v := undef) rfl (by kernel_rfl) (by kernel_rfl) (by kernel_rfl) (fun _ _ _ h => h) (Or.inr ⟨by rfl, rfl⟩) (by assumption) ?_
        try simp only [Act.put, List.setIfInBounds_toArray, List.set_cons_zero, List.set_cons_succ]
        refine wpAnyH_take (i := 40) (oi := ({ dst := some 82, op := Go.Op.binOp Go.BinOp.gtr 3 (Go.Operand.tmp 81) (Go.Operand.const (Go.Value.int Go.IntKind.i64 0)) 3, type := 4, pos := "buchi.go:55", after := #[{ on := 39, ground := Go.Ground.data }, { on := 38, ground := Go.Ground.guard }], guard := some (38, false) } : Oper)) (v := undef) rfl (by kernel_rfl) (by kernel_rfl) (by kernel_rfl) (fun _ _ _ h => h) (Or.inr ⟨by rfl, rfl⟩) (by assumption) ?_
        try simp only [Act.put, List.setIfInBounds_toArray, List.set_cons_zero, List.set_cons_succ]
        refine wpAnyH_take (i := 41) (oi := ({ dst := some 83, op := Go.Op.move (Go.Operand.tmp 82), type := 4, pos := "buchi.go:55", after := #[{ on := 40, ground := Go.Ground.data }, { on := 38, ground := Go.Ground.chain }, { on := 38, ground := Go.Ground.guard }], guard := some (38, false) } : Oper)) (v := undef) rfl (by kernel_rfl) (by kernel_rfl) (by kernel_rfl) (fun _ _ _ h => h) (Or.inr ⟨by rfl, rfl⟩) (by assumption) ?_
        try simp only [Act.put, List.setIfInBounds_toArray, List.set_cons_zero, List.set_cons_succ]
        refine wpAnyH_take (i := 42) (oi := ({ dst := some 84, op := Go.Op.fieldAddr 87 (Go.Operand.tmp 1) 3, type := 0, pos := "buchi.go:55", after := #[{ on := 41, ground := Go.Ground.guard }], guard := some (41, true) } : Oper)) (v := undef) rfl (by kernel_rfl) (by kernel_rfl) (by kernel_rfl) (fun _ _ _ h => h) (Or.inr ⟨by rfl, rfl⟩) (by assumption) ?_
        try simp only [Act.put, List.setIfInBounds_toArray, List.set_cons_zero, List.set_cons_succ]
        refine wpAnyH_take (i := 43) (oi := ({ dst := some 85, op := Go.Op.load 45 (Go.Operand.tmp 84), type := 45, pos := "buchi.go:55", after := #[{ on := 42, ground := Go.Ground.data }, { on := 41, ground := Go.Ground.guard }], guard := some (41, true) } : Oper)) (v := undef) rfl (by kernel_rfl) (by kernel_rfl) (by kernel_rfl) (fun _ _ _ h => h) (Or.inr ⟨by rfl, rfl⟩) (by assumption) ?_
        try simp only [Act.put, List.setIfInBounds_toArray, List.set_cons_zero, List.set_cons_succ]
        refine wpAnyH_take (i := 44) (oi := ({ dst := some 86, op := Go.Op.move (Go.Operand.tmp 4), type := 3, pos := "buchi.go:55", after := #[{ on := 41, ground := Go.Ground.guard }], guard := some (41, true) } : Oper)) (v := undef) rfl (by kernel_rfl) (by kernel_rfl) (by kernel_rfl) (fun _ _ _ h => h) (Or.inr ⟨by rfl, rfl⟩) (by assumption) ?_
        try simp only [Act.put, List.setIfInBounds_toArray, List.set_cons_zero, List.set_cons_succ]
        refine wpAnyH_take (i := 45) (oi := ({ dst := some 87, op := Go.Op.binOp Go.BinOp.sub 3 (Go.Operand.tmp 86) (Go.Operand.const (Go.Value.int Go.IntKind.i64 1)) 3, type := 3, pos := "buchi.go:55", after := #[{ on := 44, ground := Go.Ground.data }, { on := 41, ground := Go.Ground.guard }], guard := some (41, true) } : Oper)) (v := undef) rfl (by kernel_rfl) (by kernel_rfl) (by kernel_rfl) (fun _ _ _ h => h) (Or.inr ⟨by rfl, rfl⟩) (by assumption) ?_
        try simp only [Act.put, List.setIfInBounds_toArray, List.set_cons_zero, List.set_cons_succ]
        refine wpAnyH_take (i := 46) (oi := ({ dst := some 88, op := Go.Op.indexAddr 45 (Go.Operand.tmp 85) (Go.Operand.tmp 87), type := 0, pos := "buchi.go:55", after := #[{ on := 43, ground := Go.Ground.data }, { on := 45, ground := Go.Ground.data }, { on := 41, ground := Go.Ground.guard }], guard := some (41, true) } : Oper)) (v := undef) rfl (by kernel_rfl) (by kernel_rfl) (by kernel_rfl) (fun _ _ _ h => h) (Or.inr ⟨by rfl, rfl⟩) (by assumption) ?_
        try simp only [Act.put, List.setIfInBounds_toArray, List.set_cons_zero, List.set_cons_succ]
        refine wpAnyH_take (i := 47) (oi := ({ dst := some 89, op := Go.Op.load 61 (Go.Operand.tmp 88), type := 61, pos := "buchi.go:55", after := #[{ on := 46, ground := Go.Ground.data }, { on := 41, ground := Go.Ground.guard }], guard := some (41, true) } : Oper)) (v := undef) rfl (by kernel_rfl) (by kernel_rfl) (by kernel_rfl) (fun _ _ _ h => h) (Or.inr ⟨by rfl, rfl⟩) (by assumption) ?_
        try simp only [Act.put, List.setIfInBounds_toArray, List.set_cons_zero, List.set_cons_succ]
        refine wpAnyH_take (i := 48) (oi := ({ dst := some 90, op := Go.Op.load 61 (Go.Operand.tmp 5), type := 61, pos := "buchi.go:55", after := #[{ on := 41, ground := Go.Ground.guard }], guard := some (41, true) } : Oper)) (v := undef) rfl (by kernel_rfl) (by kernel_rfl) (by kernel_rfl) (fun _ _ _ h => h) (Or.inr ⟨by rfl, rfl⟩) (by assumption) ?_
        try simp only [Act.put, List.setIfInBounds_toArray, List.set_cons_zero, List.set_cons_succ]
        refine wpAnyH_take (i := 49) (oi := ({ dst := some 91, op := Go.Op.call { callee := Go.Callee.value (Go.Operand.func 93), args := #[Go.Operand.tmp 89, Go.Operand.tmp 90], argTypes := #[61, 61] }, type := 3, pos := "buchi.go:55", after := #[{ on := 47, ground := Go.Ground.data }, { on := 48, ground := Go.Ground.data }, { on := 41, ground := Go.Ground.chain }, { on := 41, ground := Go.Ground.guard }], guard := some (41, true) } : Oper)) (v := undef) rfl (by kernel_rfl) (by kernel_rfl) (by kernel_rfl) (fun _ _ _ h => h) (Or.inr ⟨by rfl, rfl⟩) (by assumption) ?_
        try simp only [Act.put, List.setIfInBounds_toArray, List.set_cons_zero, List.set_cons_succ]
        refine wpAnyH_take (i := 50) (oi := ({ dst := some 92, op := Go.Op.binOp Go.BinOp.geq 3 (Go.Operand.tmp 91) (Go.Operand.const (Go.Value.int Go.IntKind.i64 0)) 3, type := 4, pos := "buchi.go:55", after := #[{ on := 49, ground := Go.Ground.data }, { on := 41, ground := Go.Ground.guard }], guard := some (41, true) } : Oper)) (v := undef) rfl (by kernel_rfl) (by kernel_rfl) (by kernel_rfl) (fun _ _ _ h => h) (Or.inr ⟨by rfl, rfl⟩) (by assumption) ?_
        try simp only [Act.put, List.setIfInBounds_toArray, List.set_cons_zero, List.set_cons_succ]
        refine wpAnyH_take (i := 51) (oi := ({ dst := some 93, op := Go.Op.pick (Go.Operand.tmp 83) (Go.Operand.tmp 92) (Go.Operand.const (Go.Value.bool false)), type := 4, pos := "buchi.go:55", after := #[{ on := 41, ground := Go.Ground.data }, { on := 50, ground := Go.Ground.data }, { on := 38, ground := Go.Ground.guard }], guard := some (38, false) } : Oper)) (v := undef) rfl (by kernel_rfl) (by kernel_rfl) (by kernel_rfl) (fun _ _ _ h => h) (Or.inr ⟨by rfl, rfl⟩) (by assumption) ?_
        try simp only [Act.put, List.setIfInBounds_toArray, List.set_cons_zero, List.set_cons_succ]
        refine wpAnyH_take (i := 52) (oi := ({ dst := some 94, op := Go.Op.pick (Go.Operand.tmp 80) (Go.Operand.const (Go.Value.bool true)) (Go.Operand.tmp 93), type := 4, pos := "buchi.go:55", after := #[{ on := 38, ground := Go.Ground.data }, { on := 51, ground := Go.Ground.data }], guard := none } : Oper)) (v := ?_) rfl (by kernel_rfl) (by kernel_rfl) (by kernel_rfl) (fun _ _ _ h => h) (Or.inl ⟨by rfl, ?_⟩) (by assumption) ?_
        rotate_left
        · (intro wS hSw; (try dsimp only at hSw); go_simp <;> with_reducible rfl)
        try simp only [Act.put, List.setIfInBounds_toArray, List.set_cons_zero, List.set_cons_succ]
        refine wpAnyH_done (by kernel_rfl) ?_ _
        have HGn := Lib.hid hHeld.1
        go_wp2_with fail
        go_ret
        exact ⟨by rw [HV.out]; rfl, gb_trans HGw.out HGn.out (Or.inl rfl)⟩
      rw [h5] at z3
      rw [decide_eq_true h5, Bool.true_and] at HBk
      have t5 : bits .and .u16 (x.mu : Int) (x.no : Int) = 0 := z3
      clear z3 h5
      by_cases hk0 : 0 < k
      · obtain ⟨v0, v1, v2, v3⟩ := HPv.out hk0
        have u0 := hgx.cell v0 (by simp)
        have u1 := hgx.cell v1 (by simp)
        have u2 := hgx.cell v2 (by simp)
        have u3 := hgx.cell v3 (by simp)
        have htn : ((k : Int) - 1).toNat = k - 1 := by omega
        have hkJ : (0 : Int) < (k : Int) := by omega
        clear v0 v1 v2 v3 HPv
        have HSS : Hid (∀ wx, we.grownBy wx none → we.grownBy wx none ∧ wx.cell? ⟨wr.heap.size, 0, none⟩ = some (.int .i64 x.fr) ∧ wx.cell? ⟨wr.heap.size, 1, none⟩ = some (.int .i64 x.tt) ∧ wx.cell? ⟨wr.heap.size, 2, none⟩ = some (.int .u16 (x.mu : Int)) ∧ wx.cell? ⟨wr.heap.size, 3, none⟩ = some (.int .u16 (x.no : Int)) ∧ wx.cell? ⟨w.heap.size, 1, none⟩ = some (.int .i64 n) ∧ wx.cell? ⟨w.heap.size, 3, none⟩ = some (.slice (some ⟨b, off, none⟩) E.length ce) ∧ wx.cell? ⟨b, off + (k - 1) * 4, none⟩ = some (.int .i64 y.fr) ∧ wx.cell? ⟨b, off + (k - 1) * 4 + 1, none⟩ = some (.int .i64 y.tt) ∧ wx.cell? ⟨b, off + (k - 1) * 4 + 2, none⟩ = some (.int .u16 (y.mu : Int)) ∧ wx.cell? ⟨b, off + (k - 1) * 4 + 3, none⟩ = some (.int .u16 (y.no : Int))) := Lib.hid fun wx h => ⟨h, h.cell b0 (by simp), h.cell b1 (by simp), h.cell b2 (by simp), h.cell b3 (by simp), h.cell p1 (by simp), h.cell p3 (by simp), h.cell u0 (by simp), h.cell u1 (by simp), h.cell u2 (by simp), h.cell u3 (by simp)⟩
        have hS0 := HSS.out _ (gb_drew we none)
        have z4 : IntKind.i64.wrap ((k : Int) - 1) = (k : Int) - 1 := IntWalk.i64_in _ (by omega)
        have z5 : (0 : Int) ≤ (k : Int) - 1 := by omega
        have z6 : (1 : Int) ≤ (k : Int) := by omega
        have z7 : (k : Int) - 1 < (E.length : Int) := by omega
        have z8 : decide (0 < k) = true := by simpa using hk0
        have ho1 := HOr.out
        rw [decide_eq_false (show ¬ k = 0 by omega), Bool.false_or] at HBk
        refine wp_region_held_drew (S := (fun wx => we.grownBy wx none ∧ wx.cell? ⟨wr.heap.size, 0, none⟩ = some (.int .i64 x.fr) ∧ wx.cell? ⟨wr.heap.size, 1, none⟩ = some (.int .i64 x.tt) ∧ wx.cell? ⟨wr.heap.size, 2, none⟩ = some (.int .u16 (x.mu : Int)) ∧ wx.cell? ⟨wr.heap.size, 3, none⟩ = some (.int .u16 (x.no : Int)) ∧ wx.cell? ⟨w.heap.size, 1, none⟩ = some (.int .i64 n) ∧ wx.cell? ⟨w.heap.size, 3, none⟩ = some (.slice (some ⟨b, off, none⟩) E.length ce) ∧ wx.cell? ⟨b, off + (k - 1) * 4, none⟩ = some (.int .i64 y.fr) ∧ wx.cell? ⟨b, off + (k - 1) * 4 + 1, none⟩ = some (.int .i64 y.tt) ∧ wx.cell? ⟨b, off + (k - 1) * 4 + 2, none⟩ = some (.int .u16 (y.mu : Int)) ∧ wx.cell? ⟨b, off + (k - 1) * 4 + 3, none⟩ = some (.int .u16 (y.no : Int)))) (by kernel_rfl) (by assumption) (fun hHeld => ?_)
        refine wpAnyH_take (i := 0) (oi := ({ dst := some 42, op := Go.Op.fieldAddr 61 (Go.Operand.tmp 5) 0, type := 0, pos := "buchi.go:55", after := #[], guard := none } : Oper)) (v := ?_) rfl (by kernel_rfl) (by kernel_rfl) (by kernel_rfl) (fun _ _ _ h => h) (Or.inl ⟨by rfl, ?_⟩) (by assumption) ?_
        rotate_left
        · (intro wS hSw; (try dsimp only at hSw); go_simp <;> with_reducible rfl)
        try simp only [Act.put, List.setIfInBounds_toArray, List.set_cons_zero, List.set_cons_succ]
        refine wpAnyH_take (i := 1) (oi := ({ dst := some 43, op := Go.Op.load 3 (Go.Operand.tmp 42), type := 3, pos := "buchi.go:55", after := #[{ on := 0, ground := Go.Ground.data }], guard := none } : Oper)) (v := ?_) rfl (by kernel_rfl) (by kernel_rfl) (by kernel_rfl) (fun _ _ _ h => h) (Or.inl ⟨by rfl, ?_⟩) (by assumption) ?_
        rotate_left
        · (intro wS hSw; (try dsimp only at hSw); go_simp <;> with_reducible rfl)
        try simp only [Act.put, List.setIfInBounds_toArray, List.set_cons_zero, List.set_cons_succ]
        refine wpAnyH_take (i := 3) (oi := ({ dst := some 45, op := Go.Op.fieldAddr 87 (Go.Operand.tmp 1) 1, type := 0, pos := "buchi.go:55", after := #[], guard := none } : Oper)) (v := ?_) rfl (by kernel_rfl) (by kernel_rfl) (by kernel_rfl) (fun _ _ _ h => h) (Or.inl ⟨by rfl, ?_⟩) (by assumption) ?_
        rotate_left
        · (intro wS hSw; (try dsimp only at hSw); go_simp <;> with_reducible rfl)
        try simp only [Act.put, List.setIfInBounds_toArray, List.set_cons_zero, List.set_cons_succ]
        refine wpAnyH_take (i := 4) (oi := ({ dst := some 46, op := Go.Op.load 3 (Go.Operand.tmp 45), type := 3, pos := "buchi.go:55", after := #[{ on := 3, ground := Go.Ground.data }], guard := none } : Oper)) (v := ?_) rfl (by kernel_rfl) (by kernel_rfl) (by kernel_rfl) (fun _ _ _ h => h) (Or.inl ⟨by rfl, ?_⟩) (by assumption) ?_
        rotate_left
        · (intro wS hSw; (try dsimp only at hSw); go_simp <;> with_reducible rfl)
        try simp only [Act.put, List.setIfInBounds_toArray, List.set_cons_zero, List.set_cons_succ]
        refine wpAnyH_ready (rs := [2]) (by kernel_rfl) (by simp) ?_
        refine AllReadyH.cons (o := ({ dst := some 44, op := Go.Op.buildSlice 43 1 #[(0, Go.Operand.tmp 43)], type := 43, pos := "buchi.go:55", after := #[{ on := 1, ground := Go.Ground.data }], guard := none } : Oper)) rfl (fun K hK => ?_) AllReadyH.nil
        go_simp
        refine hK.out _ _ (by first | assumption | exact HSS.out _ (gb_trans (And.left (by assumption)) (World.grownBy_alloc _ _ none) (Or.inl rfl))) (fun hHeld => ?_)
        clear hK K
        try simp only [Act.put, List.setIfInBounds_toArray, List.set_cons_zero, List.set_cons_succ]
        refine wpAnyH_ready (rs := [5]) (by kernel_rfl) (by simp) ?_
        refine AllReadyH.cons (o := ({ dst := some 47, op := Go.Op.call { callee := Go.Callee.value (Go.Operand.func 92), args := #[Go.Operand.tmp 44, Go.Operand.tmp 46], argTypes := #[43, 3] }, type := 4, pos := "buchi.go:55", after := #[{ on := 2, ground := Go.Ground.data }, { on := 4, ground := Go.Ground.data }], guard := none } : Oper)) rfl (fun K hK => ?_) AllReadyH.nil
        go_simp
        ((with_reducible refine HS1.out.mono ?_); rintro e wn ⟨rfl, rfl⟩)
        refine hK.out _ _ (by assumption) (fun hHeld => ?_)
        clear hK K
        try simp only [Act.put, List.setIfInBounds_toArray, List.set_cons_zero, List.set_cons_succ]
        refine wpAnyH_take (i := 6) (oi := ({ dst := some 48, op := Go.Op.unOp Go.UnOp.not 4 (Go.Operand.tmp 47), type := 4, pos := "buchi.go:55", after := #[{ on := 5, ground := Go.Ground.data }], guard := none } : Oper)) (v := ?_) rfl (by kernel_rfl) (by kernel_rfl) (by kernel_rfl) (fun _ _ _ h => h) (Or.inl ⟨by rfl, ?_⟩) (by assumption) ?_
        rotate_left
        · (intro wS hSw; (try dsimp only at hSw); go_simp <;> with_reducible rfl)
        try simp only [Act.put, List.setIfInBounds_toArray, List.set_cons_zero, List.set_cons_succ]
        refine wpAnyH_take (i := 7) (oi := ({ dst := some 49, op := Go.Op.move (Go.Operand.tmp 48), type := 4, pos := "buchi.go:55", after := #[{ on := 6, ground := Go.Ground.data }, { on := 5, ground := Go.Ground.chain }], guard := none } : Oper)) (v := ?_) rfl (by kernel_rfl) (by kernel_rfl) (by kernel_rfl) (fun _ _ _ h => h) (Or.inl ⟨by rfl, ?_⟩) (by assumption) ?_
        rotate_left
        · (intro wS hSw; (try dsimp only at hSw); go_simp <;> with_reducible rfl)
        try simp only [Act.put, List.setIfInBounds_toArray, List.set_cons_zero, List.set_cons_succ]
        refine wpAnyH_take (i := 8) (oi := ({ dst := some 50, op := Go.Op.fieldAddr 61 (Go.Operand.tmp 5) 1, type := 0, pos := "buchi.go:55", after := #[{ on := 7, ground := Go.Ground.guard }], guard := some (7, false) } : Oper)) (v := ?_) rfl (by kernel_rfl) (by kernel_rfl) (by kernel_rfl) (fun _ _ _ h => h) (Or.inl ⟨by rfl, ?_⟩) (by assumption) ?_
        rotate_left
        · (intro wS hSw; (try dsimp only at hSw); go_simp <;> with_reducible rfl)
        try simp only [Act.put, List.setIfInBounds_toArray, List.set_cons_zero, List.set_cons_succ]
        refine wpAnyH_take (i := 9) (oi := ({ dst := some 51, op := Go.Op.load 3 (Go.Operand.tmp 50), type := 3, pos := "buchi.go:55", after := #[{ on := 8, ground := Go.Ground.data }, { on := 7, ground := Go.Ground.guard }], guard := some (7, false) } : Oper)) (v := ?_) rfl (by kernel_rfl) (by kernel_rfl) (by kernel_rfl) (fun _ _ _ h => h) (Or.inl ⟨by rfl, ?_⟩) (by assumption) ?_
        rotate_left
        · (intro wS hSw; (try dsimp only at hSw); go_simp <;> with_reducible rfl)
        try simp only [Act.put, List.setIfInBounds_toArray, List.set_cons_zero, List.set_cons_succ]
        refine wpAnyH_take (i := 11) (oi := ({ dst := some 53, op := Go.Op.fieldAddr 87 (Go.Operand.tmp 1) 1, type := 0, pos := "buchi.go:55", after := #[{ on := 7, ground := Go.Ground.guard }], guard := some (7, false) } : Oper)) (v := ?_) rfl (by kernel_rfl) (by kernel_rfl) (by kernel_rfl) (fun _ _ _ h => h) (Or.inl ⟨by rfl, ?_⟩) (by assumption) ?_
        rotate_left
        · (intro wS hSw; (try dsimp only at hSw); go_simp <;> with_reducible rfl)
        try simp only [Act.put, List.setIfInBounds_toArray, List.set_cons_zero, List.set_cons_succ]
        refine wpAnyH_take (i := 12) (oi := ({ dst := some 54, op := Go.Op.load 3 (Go.Operand.tmp 53), type := 3, pos := "buchi.go:55", after := #[{ on := 11, ground := Go.Ground.data }, { on := 7, ground := Go.Ground.guard }], guard := some (7, false) } : Oper)) (v := ?_) rfl (by kernel_rfl) (by kernel_rfl) (by kernel_rfl) (fun _ _ _ h => h) (Or.inl ⟨by rfl, ?_⟩) (by assumption) ?_
        rotate_left
        · (intro wS hSw; (try dsimp only at hSw); go_simp <;> with_reducible rfl)
        try simp only [Act.put, List.setIfInBounds_toArray, List.set_cons_zero, List.set_cons_succ]
        refine wpAnyH_ready (rs := [10]) (by kernel_rfl) (by simp) ?_
        refine AllReadyH.cons (o := ({ dst := some 52, op := Go.Op.buildSlice 43 1 #[(0, Go.Operand.tmp 51)], type := 43, pos := "buchi.go:55", after := #[{ on := 9, ground := Go.Ground.data }, { on := 7, ground := Go.Ground.guard }], guard := some (7, false) } : Oper)) rfl (fun K hK => ?_) AllReadyH.nil
        go_simp
        refine hK.out _ _ (by first | assumption | exact HSS.out _ (gb_trans (And.left (by assumption)) (World.grownBy_alloc _ _ none) (Or.inl rfl))) (fun hHeld => ?_)
        clear hK K
        try simp only [Act.put, List.setIfInBounds_toArray, List.set_cons_zero, List.set_cons_succ]
        refine wpAnyH_ready (rs := [13]) (by kernel_rfl) (by simp) ?_
        refine AllReadyH.cons (o := ({ dst := some 55, op := Go.Op.call { callee := Go.Callee.value (Go.Operand.func 92), args := #[Go.Operand.tmp 52, Go.Operand.tmp 54], argTypes := #[43, 3] }, type := 4, pos := "buchi.go:55", after := #[{ on := 10, ground := Go.Ground.data }, { on := 12, ground := Go.Ground.data }, { on := 7, ground := Go.Ground.chain }, { on := 7, ground := Go.Ground.guard }], guard := some (7, false) } : Oper)) rfl (fun K hK => ?_) AllReadyH.nil
        go_simp
        ((with_reducible refine HS2.out.mono ?_); rintro e wn ⟨rfl, rfl⟩)
        refine hK.out _ _ (by assumption) (fun hHeld => ?_)
        clear hK K
        try simp only [Act.put, List.setIfInBounds_toArray, List.set_cons_zero, List.set_cons_succ]
        refine wpAnyH_take (i := 14) (oi := ({ dst := some 56, op := Go.Op.unOp Go.UnOp.not 4 (Go.Operand.tmp 55), type := 4, pos := "buchi.go:55", after := #[{ on := 13, ground := Go.Ground.data }, { on := 7, ground := Go.Ground.guard }], guard := some (7, false) } : Oper)) (v := ?_) rfl (by kernel_rfl) (by kernel_rfl) (by kernel_rfl) (fun _ _ _ h => h) (Or.inl ⟨by rfl, ?_⟩) (by assumption) ?_
        rotate_left
        · (intro wS hSw; (try dsimp only at hSw); go_simp <;> with_reducible rfl)
        try simp only [Act.put, List.setIfInBounds_toArray, List.set_cons_zero, List.set_cons_succ]
        refine wpAnyH_take (i := 15) (oi := ({ dst := some 57, op := Go.Op.pick (Go.Operand.tmp 49) (Go.Operand.const (Go.Value.bool true)) (Go.Operand.tmp 56), type := 4, pos := "buchi.go:55", after := #[{ on := 7, ground := Go.Ground.data }, { on := 14, ground := Go.Ground.data }], guard := none } : Oper)) (v := ?_) rfl (by kernel_rfl) (by kernel_rfl) (by kernel_rfl) (fun _ _ _ h => h) (Or.inl ⟨by rfl, ?_⟩) (by assumption) ?_
        rotate_left
        · (intro wS hSw; (try dsimp only at hSw); go_simp <;> with_reducible rfl)
        try simp only [Act.put, List.setIfInBounds_toArray, List.set_cons_zero, List.set_cons_succ]
        refine wpAnyH_take (i := 16) (oi := ({ dst := some 58, op := Go.Op.move (Go.Operand.tmp 57), type := 4, pos := "buchi.go:55", after := #[{ on := 15, ground := Go.Ground.data }, { on := 13, ground := Go.Ground.chain }], guard := none } : Oper)) (v := ?_) rfl (by kernel_rfl) (by kernel_rfl) (by kernel_rfl) (fun _ _ _ h => h) (Or.inl ⟨by rfl, ?_⟩) (by assumption) ?_
        rotate_left
        · (intro wS hSw; (try dsimp only at hSw); go_simp <;> with_reducible rfl)
        try simp only [Act.put, List.setIfInBounds_toArray, List.set_cons_zero, List.set_cons_succ]
        refine wpAnyH_take (i := 17) (oi := ({ dst := some 59, op := Go.Op.fieldAddr 61 (Go.Operand.tmp 5) 2, type := 0, pos := "buchi.go:55", after := #[{ on := 16, ground := Go.Ground.guard }], guard := some (16, false) } : Oper)) (v := ?_) rfl (by kernel_rfl) (by kernel_rfl) (by kernel_rfl) (fun _ _ _ h => h) (Or.inl ⟨by rfl, ?_⟩) (by assumption) ?_
        rotate_left
        · (intro wS hSw; (try dsimp only at hSw); go_simp <;> with_reducible rfl)
        try simp only [Act.put, List.setIfInBounds_toArray, List.set_cons_zero, List.set_cons_succ]
        refine wpAnyH_take (i := 18) (oi := ({ dst := some 60, op := Go.Op.load 55 (Go.Operand.tmp 59), type := 55, pos := "buchi.go:55", after := #[{ on := 17, ground := Go.Ground.data }, { on := 16, ground := Go.Ground.guard }], guard := some (16, false) } : Oper)) (v := ?_) rfl (by kernel_rfl) (by kernel_rfl) (by kernel_rfl) (fun _ _ _ h => h) (Or.inl ⟨by rfl, ?_⟩) (by assumption) ?_
        rotate_left
        · (intro wS hSw; (try dsimp only at hSw); go_simp <;> with_reducible rfl)
        try simp only [Act.put, List.setIfInBounds_toArray, List.set_cons_zero, List.set_cons_succ]
        refine wpAnyH_take (i := 19) (oi := ({ dst := some 61, op := Go.Op.convert 55 3 (Go.Operand.tmp 60), type := 3, pos := "buchi.go:55", after := #[{ on := 18, ground := Go.Ground.data }, { on := 16, ground := Go.Ground.guard }], guard := some (16, false) } : Oper)) (v := ?_) rfl (by kernel_rfl) (by kernel_rfl) (by kernel_rfl) (fun _ _ _ h => h) (Or.inl ⟨by rfl, ?_⟩) (by assumption) ?_
        rotate_left
        · (intro wS hSw; (try dsimp only at hSw); go_simp <;> with_reducible rfl)
        try simp only [Act.put, List.setIfInBounds_toArray, List.set_cons_zero, List.set_cons_succ]
        refine wpAnyH_take (i := 20) (oi := ({ dst := some 62, op := Go.Op.move (Go.Operand.tmp 3), type := 3, pos := "buchi.go:55", after := #[{ on := 16, ground := Go.Ground.guard }], guard := some (16, false) } : Oper)) (v := ?_) rfl (by kernel_rfl) (by kernel_rfl) (by kernel_rfl) (fun _ _ _ h => h) (Or.inl ⟨by rfl, ?_⟩) (by assumption) ?_
        rotate_left
        · (intro wS hSw; (try dsimp only at hSw); go_simp <;> with_reducible rfl)
        try simp only [Act.put, List.setIfInBounds_toArray, List.set_cons_zero, List.set_cons_succ]
        refine wpAnyH_take (i := 21) (oi := ({ dst := some 63, op := Go.Op.binOp Go.BinOp.geq 3 (Go.Operand.tmp 61) (Go.Operand.tmp 62) 3, type := 4, pos := "buchi.go:55", after := #[{ on := 19, ground := Go.Ground.data }, { on := 20, ground := Go.Ground.data }, { on := 16, ground := Go.Ground.guard }], guard := some (16, false) } : Oper)) (v := ?_) rfl (by kernel_rfl) (by kernel_rfl) (by kernel_rfl) (fun _ _ _ h => h) (Or.inl ⟨by rfl, ?_⟩) (by assumption) ?_
        rotate_left
        · (intro wS hSw; (try dsimp only at hSw); go_simp <;> with_reducible rfl)
        try simp only [Act.put, List.setIfInBounds_toArray, List.set_cons_zero, List.set_cons_succ]
        refine wpAnyH_take (i := 22) (oi := ({ dst := some 64, op := Go.Op.pick (Go.Operand.tmp 58) (Go.Operand.const (Go.Value.bool true)) (Go.Operand.tmp 63), type := 4, pos := "buchi.go:55", after := #[{ on := 16, ground := Go.Ground.data }, { on := 21, ground := Go.Ground.data }], guard := none } : Oper)) (v := ?_) rfl (by kernel_rfl) (by kernel_rfl) (by kernel_rfl) (fun _ _ _ h => h) (Or.inl ⟨by rfl, ?_⟩) (by assumption) ?_
        rotate_left
        · (intro wS hSw; (try dsimp only at hSw); go_simp <;> with_reducible rfl)
        try simp only [Act.put, List.setIfInBounds_toArray, List.set_cons_zero, List.set_cons_succ]
        refine wpAnyH_take (i := 23) (oi := ({ dst := some 65, op := Go.Op.move (Go.Operand.tmp 64), type := 4, pos := "buchi.go:55", after := #[{ on := 22, ground := Go.Ground.data }, { on := 16, ground := Go.Ground.chain }], guard := none } : Oper)) (v := ?_) rfl (by kernel_rfl) (by kernel_rfl) (by kernel_rfl) (fun _ _ _ h => h) (Or.inl ⟨by rfl, ?_⟩) (by assumption) ?_
        rotate_left
        · (intro wS hSw; (try dsimp only at hSw); go_simp <;> with_reducible rfl)
        try simp only [Act.put, List.setIfInBounds_toArray, List.set_cons_zero, List.set_cons_succ]
        refine wpAnyH_take (i := 24) (oi := ({ dst := some 66, op := Go.Op.fieldAddr 61 (Go.Operand.tmp 5) 3, type := 0, pos := "buchi.go:55", after := #[{ on := 23, ground := Go.Ground.guard }], guard := some (23, false) } : Oper)) (v := ?_) rfl (by kernel_rfl) (by kernel_rfl) (by kernel_rfl) (fun _ _ _ h => h) (Or.inl ⟨by rfl, ?_⟩) (by assumption) ?_
        rotate_left
        · (intro wS hSw; (try dsimp only at hSw); go_simp <;> with_reducible rfl)
        try simp only [Act.put, List.setIfInBounds_toArray, List.set_cons_zero, List.set_cons_succ]
        refine wpAnyH_take (i := 25) (oi := ({ dst := some 67, op := Go.Op.load 55 (Go.Operand.tmp 66), type := 55, pos := "buchi.go:55", after := #[{ on := 24, ground := Go.Ground.data }, { on := 23, ground := Go.Ground.guard }], guard := some (23, false) } : Oper)) (v := ?_) rfl (by kernel_rfl) (by kernel_rfl) (by kernel_rfl) (fun _ _ _ h => h) (Or.inl ⟨by rfl, ?_⟩) (by assumption) ?_
        rotate_left
        · (intro wS hSw; (try dsimp only at hSw); go_simp <;> with_reducible rfl)
        try simp only [Act.put, List.setIfInBounds_toArray, List.set_cons_zero, List.set_cons_succ]
        refine wpAnyH_take (i := 26) (oi := ({ dst := some 68, op := Go.Op.convert 55 3 (Go.Operand.tmp 67), type := 3, pos := "buchi.go:55", after := #[{ on := 25, ground := Go.Ground.data }, { on := 23, ground := Go.Ground.guard }], guard := some (23, false) } : Oper)) (v := ?_) rfl (by kernel_rfl) (by kernel_rfl) (by kernel_rfl) (fun _ _ _ h => h) (Or.inl ⟨by rfl, ?_⟩) (by assumption) ?_
        rotate_left
        · (intro wS hSw; (try dsimp only at hSw); go_simp <;> with_reducible rfl)
        try simp only [Act.put, List.setIfInBounds_toArray, List.set_cons_zero, List.set_cons_succ]
        refine wpAnyH_take (i := 27) (oi := ({ dst := some 69, op := Go.Op.move (Go.Operand.tmp 3), type := 3, pos := "buchi.go:55", after := #[{ on := 23, ground := Go.Ground.guard }], guard := some (23, false) } : Oper)) (v := ?_) rfl (by kernel_rfl) (by kernel_rfl) (by kernel_rfl) (fun _ _ _ h => h) (Or.inl ⟨by rfl, ?_⟩) (by assumption) ?_
        rotate_left
        · (intro wS hSw; (try dsimp only at hSw); go_simp <;> with_reducible rfl)
        try simp only [Act.put, List.setIfInBounds_toArray, List.set_cons_zero, List.set_cons_succ]
        refine wpAnyH_take (i := 28) (oi := ({ dst := some 70, op := Go.Op.binOp Go.BinOp.geq 3 (Go.Operand.tmp 68) (Go.Operand.tmp 69) 3, type := 4, pos := "buchi.go:55", after := #[{ on := 26, ground := Go.Ground.data }, { on := 27, ground := Go.Ground.data }, { on := 23, ground := Go.Ground.guard }], guard := some (23, false) } : Oper)) (v := ?_) rfl (by kernel_rfl) (by kernel_rfl) (by kernel_rfl) (fun _ _ _ h => h) (Or.inl ⟨by rfl, ?_⟩) (by assumption) ?_
        rotate_left
        · (intro wS hSw; (try dsimp only at hSw); go_simp <;> with_reducible rfl)
        try simp only [Act.put, List.setIfInBounds_toArray, List.set_cons_zero, List.set_cons_succ]
        refine wpAnyH_take (i := 29) (oi := ({ dst := some 71, op := Go.Op.pick (Go.Operand.tmp 65) (Go.Operand.const (Go.Value.bool true)) (Go.Operand.tmp 70), type := 4, pos := "buchi.go:55", after := #[{ on := 23, ground := Go.Ground.data }, { on := 28, ground := Go.Ground.data }], guard := none } : Oper)) (v := ?_) rfl (by kernel_rfl) (by kernel_rfl) (by kernel_rfl) (fun _ _ _ h => h) (Or.inl ⟨by rfl, ?_⟩) (by assumption) ?_
        rotate_left
        · (intro wS hSw; (try dsimp only at hSw); go_simp <;> with_reducible rfl)
        try simp only [Act.put, List.setIfInBounds_toArray, List.set_cons_zero, List.set_cons_succ]
        refine wpAnyH_take (i := 30) (oi := ({ dst := some 72, op := Go.Op.move (Go.Operand.tmp 71), type := 4, pos := "buchi.go:55", after := #[{ on := 29, ground := Go.Ground.data }, { on := 23, ground := Go.Ground.chain }], guard := none } : Oper)) (v := ?_) rfl (by kernel_rfl) (by kernel_rfl) (by kernel_rfl) (fun _ _ _ h => h) (Or.inl ⟨by rfl, ?_⟩) (by assumption) ?_
        rotate_left
        · (intro wS hSw; (try dsimp only at hSw); go_simp <;> with_reducible rfl)
        try simp only [Act.put, List.setIfInBounds_toArray, List.set_cons_zero, List.set_cons_succ]
        refine wpAnyH_take (i := 31) (oi := ({ dst := some 73, op := Go.Op.fieldAddr 61 (Go.Operand.tmp 5) 2, type := 0, pos := "buchi.go:55", after := #[{ on := 30, ground := Go.Ground.guard }], guard := some (30, false) } : Oper)) (v := ?_) rfl (by kernel_rfl) (by kernel_rfl) (by kernel_rfl) (fun _ _ _ h => h) (Or.inl ⟨by rfl, ?_⟩) (by assumption) ?_
        rotate_left
        · (intro wS hSw; (try dsimp only at hSw); go_simp <;> with_reducible rfl)
        try simp only [Act.put, List.setIfInBounds_toArray, List.set_cons_zero, List.set_cons_succ]
        refine wpAnyH_take (i := 32) (oi := ({ dst := some 74, op := Go.Op.load 55 (Go.Operand.tmp 73), type := 55, pos := "buchi.go:55", after := #[{ on := 31, ground := Go.Ground.data }, { on := 30, ground := Go.Ground.guard }], guard := some (30, false) } : Oper)) (v := ?_) rfl (by kernel_rfl) (by kernel_rfl) (by kernel_rfl) (fun _ _ _ h => h) (Or.inl ⟨by rfl, ?_⟩) (by assumption) ?_
        rotate_left
        · (intro wS hSw; (try dsimp only at hSw); go_simp <;> with_reducible rfl)
        try simp only [Act.put, List.setIfInBounds_toArray, List.set_cons_zero, List.set_cons_succ]
        refine wpAnyH_take (i := 33) (oi := ({ dst := some 75, op := Go.Op.fieldAddr 61 (Go.Operand.tmp 5) 3, type := 0, pos := "buchi.go:55", after := #[{ on := 30, ground := Go.Ground.guard }], guard := some (30, false) } : Oper)) (v := ?_) rfl (by kernel_rfl) (by kernel_rfl) (by kernel_rfl) (fun _ _ _ h => h) (Or.inl ⟨by rfl, ?_⟩) (by assumption) ?_
        rotate_left
        · (intro wS hSw; (try dsimp only at hSw); go_simp <;> with_reducible rfl)
        try simp only [Act.put, List.setIfInBounds_toArray, List.set_cons_zero, List.set_cons_succ]
        refine wpAnyH_take (i := 34) (oi := ({ dst := some 76, op := Go.Op.load 55 (Go.Operand.tmp 75), type := 55, pos := "buchi.go:55", after := #[{ on := 33, ground := Go.Ground.data }, { on := 30, ground := Go.Ground.guard }], guard := some (30, false) } : Oper)) (v := ?_) rfl (by kernel_rfl) (by kernel_rfl) (by kernel_rfl) (fun _ _ _ h => h) (Or.inl ⟨by rfl, ?_⟩) (by assumption) ?_
        rotate_left
        · (intro wS hSw; (try dsimp only at hSw); go_simp <;> with_reducible rfl)
        try simp only [Act.put, List.setIfInBounds_toArray, List.set_cons_zero, List.set_cons_succ]
        refine wpAnyH_take (i := 35) (oi := ({ dst := some 77, op := Go.Op.binOp Go.BinOp.and 55 (Go.Operand.tmp 74) (Go.Operand.tmp 76) 55, type := 55, pos := "buchi.go:55", after := #[{ on := 32, ground := Go.Ground.data }, { on := 34, ground := Go.Ground.data }, { on := 30, ground := Go.Ground.guard }], guard := some (30, false) } : Oper)) (v := ?_) rfl (by kernel_rfl) (by kernel_rfl) (by kernel_rfl) (fun _ _ _ h => h) (Or.inl ⟨by rfl, ?_⟩) (by assumption) ?_
        rotate_left
        · (intro wS hSw; (try dsimp only at hSw); go_simp <;> with_reducible rfl)
        try simp only [Act.put, List.setIfInBounds_toArray, List.set_cons_zero, List.set_cons_succ]
        refine wpAnyH_take (i := 36) (oi := ({ dst := some 78, op := Go.Op.binOp Go.BinOp.neq 55 (Go.Operand.tmp 77) (Go.Operand.const (Go.Value.int Go.IntKind.u16 0)) 55, type := 4, pos := "buchi.go:55", after := #[{ on := 35, ground := Go.Ground.data }, { on := 30, ground := Go.Ground.guard }], guard := some (30, false) } : Oper)) (v := ?_) rfl (by kernel_rfl) (by kernel_rfl) (by kernel_rfl) (fun _ _ _ h => h) (Or.inl ⟨by rfl, ?_⟩) (by assumption) ?_
        rotate_left
        · (intro wS hSw; (try dsimp only at hSw); go_simp <;> with_reducible rfl)
        try simp only [Act.put, List.setIfInBounds_toArray, List.set_cons_zero, List.set_cons_succ]
        refine wpAnyH_take (i := 37) (oi := ({ dst := some 79, op := Go.Op.pick (Go.Operand.tmp 72) (Go.Operand.const (Go.Value.bool true)) (Go.Operand.tmp 78), type := 4, pos := "buchi.go:55", after := #[{ on := 30, ground := Go.Ground.data }, { on := 36, ground := Go.Ground.data }], guard := none } : Oper)) (v := ?_) rfl (by kernel_rfl) (by kernel_rfl) (by kernel_rfl) (fun _ _ _ h => h) (Or.inl ⟨by rfl, ?_⟩) (by assumption) ?_
        rotate_left
        · (intro wS hSw; (try dsimp only at hSw); go_simp <;> with_reducible rfl)
        try simp only [Act.put, List.setIfInBounds_toArray, List.set_cons_zero, List.set_cons_succ]
        refine wpAnyH_take (i := 38) (oi := ({ dst := some 80, op := Go.Op.move (Go.Operand.tmp 79), type := 4, pos := "buchi.go:55", after := #[{ on := 37, ground := Go.Ground.data }, { on := 30, ground := Go.Ground.chain }], guard := none } : Oper)) (v := ?_) rfl (by kernel_rfl) (by kernel_rfl) (by kernel_rfl) (fun _ _ _ h => h) (Or.inl ⟨by rfl, ?_⟩) (by assumption) ?_
        rotate_left
        · (intro wS hSw; (try dsimp only at hSw); go_simp <;> with_reducible rfl)
        try simp only [Act.put, List.setIfInBounds_toArray, List.set_cons_zero, List.set_cons_succ]
        refine wpAnyH_take (i := 39) (oi := ({ dst := some 81, op := Go.Op.move (Go.Operand.tmp 4), type := 3, pos := "buchi.go:55", after := #[{ on := 38, ground := Go.Ground.guard }], guard := some (38, false) } : Oper)) (v := ?_) rfl (by kernel_rfl) (by kernel_rfl) (by kernel_rfl) (fun _ _ _ h => h) (Or.inl ⟨by rfl, ?_⟩) (by assumption) ?_
        rotate_left
        · (intro wS hSw; (try dsimp only at hSw); go_simp <;> with_reducible rfl)
        try simp only [Act.put, List.setIfInBounds_toArray, List.set_cons_zero, List.set_cons_succ]
        refine wpAnyH_take (i := 40) (oi := ({ dst := some 82, op := Go.Op.binOp Go.BinOp.gtr 3 (Go.Operand.tmp 81) (Go.Operand.const (Go.Value.int Go.IntKind.i64 0)) 3, type := 4, pos := "buchi.go:55", after := #[{ on := 39, ground := Go.Ground.data }, { on := 38, ground := Go.Ground.guard }], guard := some (38, false) } : Oper)) (v := ?_) rfl (by kernel_rfl) (by kernel_rfl) (by kernel_rfl) (fun _ _ _ h => h) (Or.inl ⟨by rfl, ?_⟩) (by assumption) ?_
        rotate_left
        · (intro wS hSw; (try dsimp only at hSw); go_simp <;> with_reducible rfl)
        try simp only [Act.put, List.setIfInBounds_toArray, List.set_cons_zero, List.set_cons_succ]
        refine wpAnyH_take (i := 41) (oi := ({ dst := some 83, op := Go.Op.move (Go.Operand.tmp 82), type := 4, pos := "buchi.go:55", after := #[{ on := 40, ground := Go.Ground.data }, { on := 38, ground := Go.Ground.chain }, { on := 38, ground := Go.Ground.guard }], guard := some (38, false) } : Oper)) (v := ?_) rfl (by kernel_rfl) (by kernel_rfl) (by kernel_rfl) (fun _ _ _ h => h) (Or.inl ⟨by rfl, ?_⟩) (by assumption) ?_
        rotate_left
        · (intro wS hSw; (try dsimp only at hSw); go_simp <;> with_reducible rfl)
        try simp only [Act.put, List.setIfInBounds_toArray, List.set_cons_zero, List.set_cons_succ]
        refine wpAnyH_take (i := 42) (oi := ({ dst := some 84, op := Go.Op.fieldAddr 87 (Go.Operand.tmp 1) 3, type := 0, pos := "buchi.go:55", after := #[{ on := 41, ground := Go.Ground.guard }], guard := some (41, true) } : Oper)) (v := ?_) rfl (by kernel_rfl) (by kernel_rfl) (by kernel_rfl) (fun _ _ _ h => h) (Or.inl ⟨by rfl, ?_⟩) (by assumption) ?_
        rotate_left
        · (intro wS hSw; (try dsimp only at hSw); go_simp <;> with_reducible rfl)
        try simp only [Act.put, List.setIfInBounds_toArray, List.set_cons_zero, List.set_cons_succ]
        refine wpAnyH_take (i := 43) (oi := ({ dst := some 85, op := Go.Op.load 45 (Go.Operand.tmp 84), type := 45, pos := "buchi.go:55", after := #[{ on := 42, ground := Go.Ground.data }, { on := 41, ground := Go.Ground.guard }], guard := some (41, true) } : Oper)) (v := ?_) rfl (by kernel_rfl) (by kernel_rfl) (by kernel_rfl) (fun _ _ _ h => h) (Or.inl ⟨by rfl, ?_⟩) (by assumption) ?_
        rotate_left
        · (intro wS hSw; (try dsimp only at hSw); go_simp <;> with_reducible rfl)
        try simp only [Act.put, List.setIfInBounds_toArray, List.set_cons_zero, List.set_cons_succ]
        refine wpAnyH_take (i := 44) (oi := ({ dst := some 86, op := Go.Op.move (Go.Operand.tmp 4), type := 3, pos := "buchi.go:55", after := #[{ on := 41, ground := Go.Ground.guard }], guard := some (41, true) } : Oper)) (v := ?_) rfl (by kernel_rfl) (by kernel_rfl) (by kernel_rfl) (fun _ _ _ h => h) (Or.inl ⟨by rfl, ?_⟩) (by assumption) ?_
        rotate_left
        · (intro wS hSw; (try dsimp only at hSw); go_simp <;> with_reducible rfl)
        try simp only [Act.put, List.setIfInBounds_toArray, List.set_cons_zero, List.set_cons_succ]
        refine wpAnyH_take (i := 45) (oi := ({ dst := some 87, op := Go.Op.binOp Go.BinOp.sub 3 (Go.Operand.tmp 86) (Go.Operand.const (Go.Value.int Go.IntKind.i64 1)) 3, type := 3, pos := "buchi.go:55", after := #[{ on := 44, ground := Go.Ground.data }, { on := 41, ground := Go.Ground.guard }], guard := some (41, true) } : Oper)) (v := ?_) rfl (by kernel_rfl) (by kernel_rfl) (by kernel_rfl) (fun _ _ _ h => h) (Or.inl ⟨by rfl, ?_⟩) (by assumption) ?_
        rotate_left
        · (intro wS hSw; (try dsimp only at hSw); go_simp <;> with_reducible rfl)
        try simp only [Act.put, List.setIfInBounds_toArray, List.set_cons_zero, List.set_cons_succ]
        refine wpAnyH_take (i := 46) (oi := ({ dst := some 88, op := Go.Op.indexAddr 45 (Go.Operand.tmp 85) (Go.Operand.tmp 87), type := 0, pos := "buchi.go:55", after := #[{ on := 43, ground := Go.Ground.data }, { on := 45, ground := Go.Ground.data }, { on := 41, ground := Go.Ground.guard }], guard := some (41, true) } : Oper)) (v := ?_) rfl (by kernel_rfl) (by kernel_rfl) (by kernel_rfl) (fun _ _ _ h => h) (Or.inl ⟨by rfl, ?_⟩) (by assumption) ?_
        rotate_left
        · (intro wS hSw; (try dsimp only at hSw); go_simp <;> with_reducible rfl)
        try simp only [Act.put, List.setIfInBounds_toArray, List.set_cons_zero, List.set_cons_succ]
        refine wpAnyH_take (i := 47) (oi := ({ dst := some 89, op := Go.Op.load 61 (Go.Operand.tmp 88), type := 61, pos := "buchi.go:55", after := #[{ on := 46, ground := Go.Ground.data }, { on := 41, ground := Go.Ground.guard }], guard := some (41, true) } : Oper)) (v := ?_) rfl (by kernel_rfl) (by kernel_rfl) (by kernel_rfl) (fun _ _ _ h => h) (Or.inl ⟨by rfl, ?_⟩) (by assumption) ?_
        rotate_left
        · (intro wS hSw; (try dsimp only at hSw); go_simp <;> with_reducible rfl)
        try simp only [Act.put, List.setIfInBounds_toArray, List.set_cons_zero, List.set_cons_succ]
        refine wpAnyH_take (i := 48) (oi := ({ dst := some 90, op := Go.Op.load 61 (Go.Operand.tmp 5), type := 61, pos := "buchi.go:55", after := #[{ on := 41, ground := Go.Ground.guard }], guard := some (41, true) } : Oper)) (v := ?_) rfl (by kernel_rfl) (by kernel_rfl) (by kernel_rfl) (fun _ _ _ h => h) (Or.inl ⟨by rfl, ?_⟩) (by assumption) ?_
        rotate_left
        · (intro wS hSw; (try dsimp only at hSw); go_simp <;> with_reducible rfl)
        try simp only [Act.put, List.setIfInBounds_toArray, List.set_cons_zero, List.set_cons_succ]
        refine wpAnyH_ready (rs := [49]) (by kernel_rfl) (by simp) ?_
        refine AllReadyH.cons (o := ({ dst := some 91, op := Go.Op.call { callee := Go.Callee.value (Go.Operand.func 93), args := #[Go.Operand.tmp 89, Go.Operand.tmp 90], argTypes := #[61, 61] }, type := 3, pos := "buchi.go:55", after := #[{ on := 47, ground := Go.Ground.data }, { on := 48, ground := Go.Ground.data }, { on := 41, ground := Go.Ground.chain }, { on := 41, ground := Go.Ground.guard }], guard := some (41, true) } : Oper)) rfl (fun K hK => ?_) AllReadyH.nil
        go_simp
        ((refine (ho1 _).mono ?_); rintro e wn ⟨rfl, hgn⟩; have hSn := HSS.out _ (gb_trans (And.left (by assumption)) hgn (Or.inl rfl)))
        refine hK.out _ _ (by exact hSn) (fun hHeld => ?_)
        clear hK K
        try simp only [Act.put, List.setIfInBounds_toArray, List.set_cons_zero, List.set_cons_succ]
        refine wpAnyH_take (i := 50) (oi := ({ dst := some 92, op := Go.Op.binOp Go.BinOp.geq 3 (Go.Operand.tmp 91) (Go.Operand.const (Go.Value.int Go.IntKind.i64 0)) 3, type := 4, pos := "buchi.go:55", after := #[{ on := 49, ground := Go.Ground.data }, { on := 41, ground := Go.Ground.guard }], guard := some (41, true) } : Oper)) (v := ?_) rfl (by kernel_rfl) (by kernel_rfl) (by kernel_rfl) (fun _ _ _ h => h) (Or.inl ⟨by rfl, ?_⟩) (by assumption) ?_
        rotate_left
        · (intro wS hSw; (try dsimp only at hSw); go_simp <;> with_reducible rfl)
        try simp only [Act.put, List.setIfInBounds_toArray, List.set_cons_zero, List.set_cons_succ]
        refine wpAnyH_take (i := 51) (oi := ({ dst := some 93, op := Go.Op.pick (Go.Operand.tmp 83) (Go.Operand.tmp 92) (Go.Operand.const (Go.Value.bool false)), type := 4, pos := "buchi.go:55", after := #[{ on := 41, ground := Go.Ground.data }, { on := 50, ground := Go.Ground.data }, { on := 38, ground := Go.Ground.guard }], guard := some (38, false) } : Oper)) (v := ?_) rfl (by kernel_rfl) (by kernel_rfl) (by kernel_rfl) (fun _ _ _ h => h) (Or.inl ⟨by rfl, ?_⟩) (by assumption) ?_
        rotate_left
        · (intro wS hSw; (try dsimp only at hSw); go_simp <;> with_reducible rfl)
        try simp only [Act.put, List.setIfInBounds_toArray, List.set_cons_zero, List.set_cons_succ]
        refine wpAnyH_take (i := 52) (oi := ({ dst := some 94, op := Go.Op.pick (Go.Operand.tmp 80) (Go.Operand.const (Go.Value.bool true)) (Go.Operand.tmp 93), type := 4, pos := "buchi.go:55", after := #[{ on := 38, ground := Go.Ground.data }, { on := 51, ground := Go.Ground.data }], guard := none } : Oper)) (v := ?_) rfl (by kernel_rfl) (by kernel_rfl) (by kernel_rfl) (fun _ _ _ h => h) (Or.inl ⟨by rfl, ?_⟩) (by assumption) ?_
        rotate_left
        · (intro wS hSw; (try dsimp only at hSw); go_simp <;> with_reducible rfl)
        try simp only [Act.put, List.setIfInBounds_toArray, List.set_cons_zero, List.set_cons_succ]
        refine wpAnyH_done (by kernel_rfl) ?_ _
        have HGn := Lib.hid (gb_trans HGe.out hSn.1 (Or.inl rfl))
        clear z1 z2 z4 z5 z6 z7 z8 t3 t4 t5 hS0 hSn hgn
        by_cases hord : ordF y x < 0
        · have hordI : ¬ 0 ≤ ordF y x := by omega
          have HYn := Lib.hid (HYk.out (by rw [HBk.out]; simpa using hord))
          clear HYk HNk HBk
          go_wp2_with fail
          exact ⟨⟨k + 1, by omega, by go_num, HYn, HGn⟩, by simp [intOf]; omega⟩
        · have hordI : 0 ≤ ordF y x := by omega
          have HV := Lib.hid (HNk.out (by rw [HBk.out]; simpa using hord))
          clear HYk HNk HBk
          go_wp2_with fail
          go_ret
          exact ⟨by rw [HV.out]; rfl, gb_trans HG1.out HGn.out (Or.inl rfl)⟩
      · obtain rfl : k = 0 := by omega
        have HYn := Lib.hid (HYk.out (by rw [HBk.out]; rfl))
        clear HYk HNk HBk HPv
        have hS0 := HSS4.out _ (gb_drew we none)
        refine wp_region_held_drew (S := (fun wx => we.grownBy wx none ∧ wx.cell? ⟨wr.heap.size, 0, none⟩ = some (.int .i64 x.fr) ∧ wx.cell? ⟨wr.heap.size, 1, none⟩ = some (.int .i64 x.tt) ∧ wx.cell? ⟨wr.heap.size, 2, none⟩ = some (.int .u16 (x.mu : Int)) ∧ wx.cell? ⟨wr.heap.size, 3, none⟩ = some (.int .u16 (x.no : Int)) ∧ wx.cell? ⟨w.heap.size, 1, none⟩ = some (.int .i64 n))) (by kernel_rfl) (by assumption) (fun hHeld => ?_)
        refine wpAnyH_take (i := 0) (oi := ({ dst := some 42, op := Go.Op.fieldAddr 61 (Go.Operand.tmp 5) 0, type := 0, pos := "buchi.go:55", after := #[], guard := none } : Oper)) (v := ?_) rfl (by kernel_rfl) (by kernel_rfl) (by kernel_rfl) (fun _ _ _ h => h) (Or.inl ⟨by rfl, ?_⟩) (by assumption) ?_
        rotate_left
        · (intro wS hSw; (try dsimp only at hSw); go_simp <;> with_reducible rfl)
        try simp only [Act.put, List.setIfInBounds_toArray, List.set_cons_zero, List.set_cons_succ]
        refine wpAnyH_take (i := 1) (oi := ({ dst := some 43, op := Go.Op.load 3 (Go.Operand.tmp 42), type := 3, pos := "buchi.go:55", after := #[{ on := 0, ground := Go.Ground.data }], guard := none } : Oper)) (v := ?_) rfl (by kernel_rfl) (by kernel_rfl) (by kernel_rfl) (fun _ _ _ h => h) (Or.inl ⟨by rfl, ?_⟩) (by assumption) ?_
        rotate_left
        · (intro wS hSw; (try dsimp only at hSw); go_simp <;> with_reducible rfl)
        try simp only [Act.put, List.setIfInBounds_toArray, List.set_cons_zero, List.set_cons_succ]
        refine wpAnyH_take (i := 3) (oi := ({ dst := some 45, op := Go.Op.fieldAddr 87 (Go.Operand.tmp 1) 1, type := 0, pos := "buchi.go:55", after := #[], guard := none } : Oper)) (v := ?_) rfl (by kernel_rfl) (by kernel_rfl) (by kernel_rfl) (fun _ _ _ h => h) (Or.inl ⟨by rfl, ?_⟩) (by assumption) ?_
        rotate_left
        · (intro wS hSw; (try dsimp only at hSw); go_simp <;> with_reducible rfl)
        try simp only [Act.put, List.setIfInBounds_toArray, List.set_cons_zero, List.set_cons_succ]
        refine wpAnyH_take (i := 4) (oi := ({ dst := some 46, op := Go.Op.load 3 (Go.Operand.tmp 45), type := 3, pos := "buchi.go:55", after := #[{ on := 3, ground := Go.Ground.data }], guard := none } : Oper)) (v := ?_) rfl (by kernel_rfl) (by kernel_rfl) (by kernel_rfl) (fun _ _ _ h => h) (Or.inl ⟨by rfl, ?_⟩) (by assumption) ?_
        rotate_left
        · (intro wS hSw; (try dsimp only at hSw); go_simp <;> with_reducible rfl)
        try simp only [Act.put, List.setIfInBounds_toArray, List.set_cons_zero, List.set_cons_succ]
        refine wpAnyH_ready (rs := [2]) (by kernel_rfl) (by simp) ?_
        refine AllReadyH.cons (o := ({ dst := some 44, op := Go.Op.buildSlice 43 1 #[(0, Go.Operand.tmp 43)], type := 43, pos := "buchi.go:55", after := #[{ on := 1, ground := Go.Ground.data }], guard := none } : Oper)) rfl (fun K hK => ?_) AllReadyH.nil
        go_simp
        refine hK.out _ _ (by first | assumption | exact HSS4.out _ (gb_trans (And.left (by assumption)) (World.grownBy_alloc _ _ none) (Or.inl rfl))) (fun hHeld => ?_)
        clear hK K
        try simp only [Act.put, List.setIfInBounds_toArray, List.set_cons_zero, List.set_cons_succ]
        refine wpAnyH_ready (rs := [5]) (by kernel_rfl) (by simp) ?_
        refine AllReadyH.cons (o := ({ dst := some 47, op := Go.Op.call { callee := Go.Callee.value (Go.Operand.func 92), args := #[Go.Operand.tmp 44, Go.Operand.tmp 46], argTypes := #[43, 3] }, type := 4, pos := "buchi.go:55", after := #[{ on := 2, ground := Go.Ground.data }, { on := 4, ground := Go.Ground.data }], guard := none } : Oper)) rfl (fun K hK => ?_) AllReadyH.nil
        go_simp
        ((with_reducible refine HS1.out.mono ?_); rintro e wn ⟨rfl, rfl⟩)
        refine hK.out _ _ (by assumption) (fun hHeld => ?_)
        clear hK K
        try simp only [Act.put, List.setIfInBounds_toArray, List.set_cons_zero, List.set_cons_succ]
        refine wpAnyH_take (i := 6) (oi := ({ dst := some 48, op := Go.Op.unOp Go.UnOp.not 4 (Go.Operand.tmp 47), type := 4, pos := "buchi.go:55", after := #[{ on := 5, ground := Go.Ground.data }], guard := none } : Oper)) (v := ?_) rfl (by kernel_rfl) (by kernel_rfl) (by kernel_rfl) (fun _ _ _ h => h) (Or.inl ⟨by rfl, ?_⟩) (by assumption) ?_
        rotate_left
        · (intro wS hSw; (try dsimp only at hSw); go_simp <;> with_reducible rfl)
        try simp only [Act.put, List.setIfInBounds_toArray, List.set_cons_zero, List.set_cons_succ]
        refine wpAnyH_take (i := 7) (oi := ({ dst := some 49, op := Go.Op.move (Go.Operand.tmp 48), type := 4, pos := "buchi.go:55", after := #[{ on := 6, ground := Go.Ground.data }, { on := 5, ground := Go.Ground.chain }], guard := none } : Oper)) (v := ?_) rfl (by kernel_rfl) (by kernel_rfl) (by kernel_rfl) (fun _ _ _ h => h) (Or.inl ⟨by rfl, ?_⟩) (by assumption) ?_
        rotate_left
        · (intro wS hSw; (try dsimp only at hSw); go_simp <;> with_reducible rfl)
        try simp only [Act.put, List.setIfInBounds_toArray, List.set_cons_zero, List.set_cons_succ]
        refine wpAnyH_take (i := 8) (oi := ({ dst := some 50, op := Go.Op.fieldAddr 61 (Go.Operand.tmp 5) 1, type := 0, pos := "buchi.go:55", after := #[{ on := 7, ground := Go.Ground.guard }], guard := some (7, false) } : Oper)) (v := ?_) rfl (by kernel_rfl) (by kernel_rfl) (by kernel_rfl) (fun _ _ _ h => h) (Or.inl ⟨by rfl, ?_⟩) (by assumption) ?_
        rotate_left
        · (intro wS hSw; (try dsimp only at hSw); go_simp <;> with_reducible rfl)
        try simp only [Act.put, List.setIfInBounds_toArray, List.set_cons_zero, List.set_cons_succ]
        refine wpAnyH_take (i := 9) (oi := ({ dst := some 51, op := Go.Op.load 3 (Go.Operand.tmp 50), type := 3, pos := "buchi.go:55", after := #[{ on := 8, ground := Go.Ground.data }, { on := 7, ground := Go.Ground.guard }], guard := some (7, false) } : Oper)) (v := ?_) rfl (by kernel_rfl) (by kernel_rfl) (by kernel_rfl) (fun _ _ _ h => h) (Or.inl ⟨by rfl, ?_⟩) (by assumption) ?_
        rotate_left
        · (intro wS hSw; (try dsimp only at hSw); go_simp <;> with_reducible rfl)
        try simp only [Act.put, List.setIfInBounds_toArray, List.set_cons_zero, List.set_cons_succ]
        refine wpAnyH_take (i := 11) (oi := ({ dst := some 53, op := Go.Op.fieldAddr 87 (Go.Operand.tmp 1) 1, type := 0, pos := "buchi.go:55", after := #[{ on := 7, ground := Go.Ground.guard }], guard := some (7, false) } : Oper)) (v := ?_) rfl (by kernel_rfl) (by kernel_rfl) (by kernel_rfl) (fun _ _ _ h => h) (Or.inl ⟨by rfl, ?_⟩) (by assumption) ?_
        rotate_left
        · (intro wS hSw; (try dsimp only at hSw); go_simp <;> with_reducible rfl)
        try simp only [Act.put, List.setIfInBounds_toArray, List.set_cons_zero, List.set_cons_succ]
        refine wpAnyH_take (i := 12) (oi := ({ dst := some 54, op := Go.Op.load 3 (Go.Operand.tmp 53), type := 3, pos := "buchi.go:55", after := #[{ on := 11, ground := Go.Ground.data }, { on := 7, ground := Go.Ground.guard }], guard := some (7, false) } : Oper)) (v := ?_) rfl (by kernel_rfl) (by kernel_rfl) (by kernel_rfl) (fun _ _ _ h => h) (Or.inl ⟨by rfl, ?_⟩) (by assumption) ?_
        rotate_left
        · (intro wS hSw; (try dsimp only at hSw); go_simp <;> with_reducible rfl)
        try simp only [Act.put, List.setIfInBounds_toArray, List.set_cons_zero, List.set_cons_succ]
        refine wpAnyH_ready (rs := [10]) (by kernel_rfl) (by simp) ?_
        refine AllReadyH.cons (o := ({ dst := some 52, op := Go.Op.buildSlice 43 1 #[(0, Go.Operand.tmp 51)], type := 43, pos := "buchi.go:55", after := #[{ on := 9, ground := Go.Ground.data }, { on := 7, ground := Go.Ground.guard }], guard := some (7, false) } : Oper)) rfl (fun K hK => ?_) AllReadyH.nil
        go_simp
        refine hK.out _ _ (by first | assumption | exact HSS4.out _ (gb_trans (And.left (by assumption)) (World.grownBy_alloc _ _ none) (Or.inl rfl))) (fun hHeld => ?_)
        clear hK K
        try simp only [Act.put, List.setIfInBounds_toArray, List.set_cons_zero, List.set_cons_succ]
        refine wpAnyH_ready (rs := [13]) (by kernel_rfl) (by simp) ?_
        refine AllReadyH.cons (o := ({ dst := some 55, op := Go.Op.call { callee := Go.Callee.value (Go.Operand.func 92), args := #[Go.Operand.tmp 52, Go.Operand.tmp 54], argTypes := #[43, 3] }, type := 4, pos := "buchi.go:55", after := #[{ on := 10, ground := Go.Ground.data }, { on := 12, ground := Go.Ground.data }, { on := 7, ground := Go.Ground.chain }, { on := 7, ground := Go.Ground.guard }], guard := some (7, false) } : Oper)) rfl (fun K hK => ?_) AllReadyH.nil
        go_simp
        ((with_reducible refine HS2.out.mono ?_); rintro e wn ⟨rfl, rfl⟩)
        refine hK.out _ _ (by assumption) (fun hHeld => ?_)
        clear hK K
        try simp only [Act.put, List.setIfInBounds_toArray, List.set_cons_zero, List.set_cons_succ]
        refine wpAnyH_take (i := 14) (oi := ({ dst := some 56, op := Go.Op.unOp Go.UnOp.not 4 (Go.Operand.tmp 55), type := 4, pos := "buchi.go:55", after := #[{ on := 13, ground := Go.Ground.data }, { on := 7, ground := Go.Ground.guard }], guard := some (7, false) } : Oper)) (v := ?_) rfl (by kernel_rfl) (by kernel_rfl) (by kernel_rfl) (fun _ _ _ h => h) (Or.inl ⟨by rfl, ?_⟩) (by assumption) ?_
        rotate_left
        · (intro wS hSw; (try dsimp only at hSw); go_simp <;> with_reducible rfl)
        try simp only [Act.put, List.setIfInBounds_toArray, List.set_cons_zero, List.set_cons_succ]
        refine wpAnyH_take (i := 15) (oi := ({ dst := some 57, op := Go.Op.pick (Go.Operand.tmp 49) (Go.Operand.const (Go.Value.bool true)) (Go.Operand.tmp 56), type := 4, pos := "buchi.go:55", after := #[{ on := 7, ground := Go.Ground.data }, { on := 14, ground := Go.Ground.data }], guard := none } : Oper)) (v := ?_) rfl (by kernel_rfl) (by kernel_rfl) (by kernel_rfl) (fun _ _ _ h => h) (Or.inl ⟨by rfl, ?_⟩) (by assumption) ?_
        rotate_left
        · (intro wS hSw; (try dsimp only at hSw); go_simp <;> with_reducible rfl)
        try simp only [Act.put, List.setIfInBounds_toArray, List.set_cons_zero, List.set_cons_succ]
        refine wpAnyH_take (i := 16) (oi := ({ dst := some 58, op := Go.Op.move (Go.Operand.tmp 57), type := 4, pos := "buchi.go:55", after := #[{ on := 15, ground := Go.Ground.data }, { on := 13, ground := Go.Ground.chain }], guard := none } : Oper)) (v := ?_) rfl (by kernel_rfl) (by kernel_rfl) (by kernel_rfl) (fun _ _ _ h => h) (Or.inl ⟨by rfl, ?_⟩) (by assumption) ?_
        rotate_left
        · (intro wS hSw; (try dsimp only at hSw); go_simp <;> with_reducible rfl)
        try simp only [Act.put, List.setIfInBounds_toArray, List.set_cons_zero, List.set_cons_succ]
        refine wpAnyH_take (i := 17) (oi := ({ dst := some 59, op := Go.Op.fieldAddr 61 (Go.Operand.tmp 5) 2, type := 0, pos := "buchi.go:55", after := #[{ on := 16, ground := Go.Ground.guard }], guard := some (16, false) } : Oper)) (v := ?_) rfl (by kernel_rfl) (by kernel_rfl) (by kernel_rfl) (fun _ _ _ h => h) (Or.inl ⟨by rfl, ?_⟩) (by assumption) ?_
        rotate_left
        · (intro wS hSw; (try dsimp only at hSw); go_simp <;> with_reducible rfl)
        try simp only [Act.put, List.setIfInBounds_toArray, List.set_cons_zero, List.set_cons_succ]
        refine wpAnyH_take (i := 18) (oi := ({ dst := some 60, op := Go.Op.load 55 (Go.Operand.tmp 59), type := 55, pos := "buchi.go:55", after := #[{ on := 17, ground := Go.Ground.data }, { on := 16, ground := Go.Ground.guard }], guard := some (16, false) } : Oper)) (v := ?_) rfl (by kernel_rfl) (by kernel_rfl) (by kernel_rfl) (fun _ _ _ h => h) (Or.inl ⟨by rfl, ?_⟩) (by assumption) ?_
        rotate_left
        · (intro wS hSw; (try dsimp only at hSw); go_simp <;> with_reducible rfl)
        try simp only [Act.put, List.setIfInBounds_toArray, List.set_cons_zero, List.set_cons_succ]
        refine wpAnyH_take (i := 19) (oi := ({ dst := some 61, op := Go.Op.convert 55 3 (Go.Operand.tmp 60), type := 3, pos := "buchi.go:55", after := #[{ on := 18, ground := Go.Ground.data }, { on := 16, ground := Go.Ground.guard }], guard := some (16, false) } : Oper)) (v := ?_) rfl (by kernel_rfl) (by kernel_rfl) (by kernel_rfl) (fun _ _ _ h => h) (Or.inl ⟨by rfl, ?_⟩) (by assumption) ?_
        rotate_left
        · (intro wS hSw; (try dsimp only at hSw); go_simp <;> with_reducible rfl)
        try simp only [Act.put, List.setIfInBounds_toArray, List.set_cons_zero, List.set_cons_succ]
        refine wpAnyH_take (i := 20) (oi := ({ dst := some 62, op := Go.Op.move (Go.Operand.tmp 3), type := 3, pos := "buchi.go:55", after := #[{ on := 16, ground := Go.Ground.guard }], guard := some (16, false) } : Oper)) (v := ?_) rfl (by kernel_rfl) (by kernel_rfl) (by kernel_rfl) (fun _ _ _ h => h) (Or.inl ⟨by rfl, ?_⟩) (by assumption) ?_
        rotate_left
        · (intro wS hSw; (try dsimp only at hSw); go_simp <;> with_reducible rfl)
        try simp only [Act.put, List.setIfInBounds_toArray, List.set_cons_zero, List.set_cons_succ]
        refine wpAnyH_take (i := 21) (oi := ({ dst := some 63, op := Go.Op.binOp Go.BinOp.geq 3 (Go.Operand.tmp 61) (Go.Operand.tmp 62) 3, type := 4, pos := "buchi.go:55", after := #[{ on := 19, ground := Go.Ground.data }, { on := 20, ground := Go.Ground.data }, { on := 16, ground := Go.Ground.guard }], guard := some (16, false) } : Oper)) (v := ?_) rfl (by kernel_rfl) (by kernel_rfl) (by kernel_rfl) (fun _ _ _ h => h) (Or.inl ⟨by rfl, ?_⟩) (by assumption) ?_
        rotate_left
        · (intro wS hSw; (try dsimp only at hSw); go_simp <;> with_reducible rfl)
        try simp only [Act.put, List.setIfInBounds_toArray, List.set_cons_zero, List.set_cons_succ]
        refine wpAnyH_take (i := 22) (oi := ({ dst := some 64, op := Go.Op.pick (Go.Operand.tmp 58) (Go.Operand.const (Go.Value.bool true)) (Go.Operand.tmp 63), type := 4, pos := "buchi.go:55", after := #[{ on := 16, ground := Go.Ground.data }, { on := 21, ground := Go.Ground.data }], guard := none } : Oper)) (v := ?_) rfl (by kernel_rfl) (by kernel_rfl) (by kernel_rfl) (fun _ _ _ h => h) (Or.inl ⟨by rfl, ?_⟩) (by assumption) ?_
        rotate_left
        · (intro wS hSw; (try dsimp only at hSw); go_simp <;> with_reducible rfl)
        try simp only [Act.put, List.setIfInBounds_toArray, List.set_cons_zero, List.set_cons_succ]
        refine wpAnyH_take (i := 23) (oi := ({ dst := some 65, op := Go.Op.move (Go.Operand.tmp 64), type := 4, pos := "buchi.go:55", after := #[{ on := 22, ground := Go.Ground.data }, { on := 16, ground := Go.Ground.chain }], guard := none } : Oper)) (v := ?_) rfl (by kernel_rfl) (by kernel_rfl) (by kernel_rfl) (fun _ _ _ h => h) (Or.inl ⟨by rfl, ?_⟩) (by assumption) ?_
        rotate_left
        · (intro wS hSw; (try dsimp only at hSw); go_simp <;> with_reducible rfl)
        try simp only [Act.put, List.setIfInBounds_toArray, List.set_cons_zero, List.set_cons_succ]
        refine wpAnyH_take (i := 24) (oi := ({ dst := some 66, op := Go.Op.fieldAddr 61 (Go.Operand.tmp 5) 3, type := 0, pos := "buchi.go:55", after := #[{ on := 23, ground := Go.Ground.guard }], guard := some (23, false) } : Oper)) (v := ?_) rfl (by kernel_rfl) (by kernel_rfl) (by kernel_rfl) (fun _ _ _ h => h) (Or.inl ⟨by rfl, ?_⟩) (by assumption) ?_
        rotate_left
        · (intro wS hSw; (try dsimp only at hSw); go_simp <;> with_reducible rfl)
        try simp only [Act.put, List.setIfInBounds_toArray, List.set_cons_zero, List.set_cons_succ]
        refine wpAnyH_take (i := 25) (oi := ({ dst := some 67, op := Go.Op.load 55 (Go.Operand.tmp 66), type := 55, pos := "buchi.go:55", after := #[{ on := 24, ground := Go.Ground.data }, { on := 23, ground := Go.Ground.guard }], guard := some (23, false) } : Oper)) (v := ?_) rfl (by kernel_rfl) (by kernel_rfl) (by kernel_rfl) (fun _ _ _ h => h) (Or.inl ⟨by rfl, ?_⟩) (by assumption) ?_
        rotate_left
        · (intro wS hSw; (try dsimp only at hSw); go_simp <;> with_reducible rfl)
        try simp only [Act.put, List.setIfInBounds_toArray, List.set_cons_zero, List.set_cons_succ]
        refine wpAnyH_take (i := 26) (oi := ({ dst := some 68, op := Go.Op.convert 55 3 (Go.Operand.tmp 67), type := 3, pos := "buchi.go:55", after := #[{ on := 25, ground := Go.Ground.data }, { on := 23, ground := Go.Ground.guard }], guard := some (23, false) } : Oper)) (v := ?_) rfl (by kernel_rfl) (by kernel_rfl) (by kernel_rfl) (fun _ _ _ h => h) (Or.inl ⟨by rfl, ?_⟩) (by assumption) ?_
        rotate_left
        · (intro wS hSw; (try dsimp only at hSw); go_simp <;> with_reducible rfl)
        try simp only [Act.put, List.setIfInBounds_toArray, List.set_cons_zero, List.set_cons_succ]
        refine wpAnyH_take (i := 27) (oi := ({ dst := some 69, op := Go.Op.move (Go.Operand.tmp 3), type := 3, pos := "buchi.go:55", after := #[{ on := 23, ground := Go.Ground.guard }], guard := some (23, false) } : Oper)) (v := ?_) rfl (by kernel_rfl) (by kernel_rfl) (by kernel_rfl) (fun _ _ _ h => h) (Or.inl ⟨by rfl, ?_⟩) (by assumption) ?_
        rotate_left
        · (intro wS hSw; (try dsimp only at hSw); go_simp <;> with_reducible rfl)
        try simp only [Act.put, List.setIfInBounds_toArray, List.set_cons_zero, List.set_cons_succ]
        refine wpAnyH_take (i := 28) (oi := ({ dst := some 70, op := Go.Op.binOp Go.BinOp.geq 3 (Go.Operand.tmp 68) (Go.Operand.tmp 69) 3, type := 4, pos := "buchi.go:55", after := #[{ on := 26, ground := Go.Ground.data }, { on := 27, ground := Go.Ground.data }, { on := 23, ground := Go.Ground.guard }], guard := some (23, false) } : Oper)) (v := ?_) rfl (by kernel_rfl) (by kernel_rfl) (by kernel_rfl) (fun _ _ _ h => h) (Or.inl ⟨by rfl, ?_⟩) (by assumption) ?_
        rotate_left
        · (intro wS hSw; (try dsimp only at hSw); go_simp <;> with_reducible rfl)
        try simp only [Act.put, List.setIfInBounds_toArray, List.set_cons_zero, List.set_cons_succ]
        refine wpAnyH_take (i := 29) (oi := ({ dst := some 71, op := Go.Op.pick (Go.Operand.tmp 65) (Go.Operand.const (Go.Value.bool true)) (Go.Operand.tmp 70), type := 4, pos := "buchi.go:55", after := #[{ on := 23, ground := Go.Ground.data }, { on := 28, ground := Go.Ground.data }], guard := none } : Oper)) (v := ?_) rfl (by kernel_rfl) (by kernel_rfl) (by kernel_rfl) (fun _ _ _ h => h) (Or.inl ⟨by rfl, ?_⟩) (by assumption) ?_
        rotate_left
        · (intro wS hSw; (try dsimp only at hSw); go_simp <;> with_reducible rfl)
        try simp only [Act.put, List.setIfInBounds_toArray, List.set_cons_zero, List.set_cons_succ]
        refine wpAnyH_take (i := 30) (oi := ({ dst := some 72, op := Go.Op.move (Go.Operand.tmp 71), type := 4, pos := "buchi.go:55", after := #[{ on := 29, ground := Go.Ground.data }, { on := 23, ground := Go.Ground.chain }], guard := none } : Oper)) (v := ?_) rfl (by kernel_rfl) (by kernel_rfl) (by kernel_rfl) (fun _ _ _ h => h) (Or.inl ⟨by rfl, ?_⟩) (by assumption) ?_
        rotate_left
        · (intro wS hSw; (try dsimp only at hSw); go_simp <;> with_reducible rfl)
        try simp only [Act.put, List.setIfInBounds_toArray, List.set_cons_zero, List.set_cons_succ]
        refine wpAnyH_take (i := 31) (oi := ({ dst := some 73, op := Go.Op.fieldAddr 61 (Go.Operand.tmp 5) 2, type := 0, pos := "buchi.go:55", after := #[{ on := 30, ground := Go.Ground.guard }], guard := some (30, false) } : Oper)) (v := ?_) rfl (by kernel_rfl) (by kernel_rfl) (by kernel_rfl) (fun _ _ _ h => h) (Or.inl ⟨by rfl, ?_⟩) (by assumption) ?_
        rotate_left
        · (intro wS hSw; (try dsimp only at hSw); go_simp <;> with_reducible rfl)
        try simp only [Act.put, List.setIfInBounds_toArray, List.set_cons_zero, List.set_cons_succ]
        refine wpAnyH_take (i := 32) (oi := ({ dst := some 74, op := Go.Op.load 55 (Go.Operand.tmp 73), type := 55, pos := "buchi.go:55", after := #[{ on := 31, ground := Go.Ground.data }, { on := 30, ground := Go.Ground.guard }], guard := some (30, false) } : Oper)) (v := ?_) rfl (by kernel_rfl) (by kernel_rfl) (by kernel_rfl) (fun _ _ _ h => h) (Or.inl ⟨by rfl, ?_⟩) (by assumption) ?_
        rotate_left
        · (intro wS hSw; (try dsimp only at hSw); go_simp <;> with_reducible rfl)
        try simp only [Act.put, List.setIfInBounds_toArray, List.set_cons_zero, List.set_cons_succ]
        refine wpAnyH_take (i := 33) (oi := ({ dst := some 75, op := Go.Op.fieldAddr 61 (Go.Operand.tmp 5) 3, type := 0, pos := "buchi.go:55", after := #[{ on := 30, ground := Go.Ground.guard }], guard := some (30, false) } : Oper)) (v := ?_) rfl (by kernel_rfl) (by kernel_rfl) (by kernel_rfl) (fun _ _ _ h => h) (Or.inl ⟨by rfl, ?_⟩) (by assumption) ?_
        rotate_left
        · (intro wS hSw; (try dsimp only at hSw); go_simp <;> with_reducible rfl)
        try simp only [Act.put, List.setIfInBounds_toArray, List.set_cons_zero, List.set_cons_succ]
        refine wpAnyH_take (i := 34) (oi := ({ dst := some 76, op := Go.Op.load 55 (Go.Operand.tmp 75), type := 55, pos := "buchi.go:55", after := #[{ on := 33, ground := Go.Ground.data }, { on := 30, ground := Go.Ground.guard }], guard := some (30, false) } : Oper)) (v := ?_) rfl (by kernel_rfl) (by kernel_rfl) (by kernel_rfl) (fun _ _ _ h => h) (Or.inl ⟨by rfl, ?_⟩) (by assumption) ?_
        rotate_left
        · (intro wS hSw; (try dsimp only at hSw); go_simp <;> with_reducible rfl)
        try simp only [Act.put, List.setIfInBounds_toArray, List.set_cons_zero, List.set_cons_succ]
        refine wpAnyH_take (i := 35) (oi := ({ dst := some 77, op := Go.Op.binOp Go.BinOp.and 55 (Go.Operand.tmp 74) (Go.Operand.tmp 76) 55, type := 55, pos := "buchi.go:55", after := #[{ on := 32, ground := Go.Ground.data }, { on := 34, ground := Go.Ground.data }, { on := 30, ground := Go.Ground.guard }], guard := some (30, false) } : Oper)) (v := ?_) rfl (by kernel_rfl) (by kernel_rfl) (by kernel_rfl) (fun _ _ _ h => h) (Or.inl ⟨by rfl, ?_⟩) (by assumption) ?_
        rotate_left
        · (intro wS hSw; (try dsimp only at hSw); go_simp <;> with_reducible rfl)
        try simp only [Act.put, List.setIfInBounds_toArray, List.set_cons_zero, List.set_cons_succ]
        refine wpAnyH_take (i := 36) (oi := ({ dst := some 78, op := Go.Op.binOp Go.BinOp.neq 55 (Go.Operand.tmp 77) (Go.Operand.const (Go.Value.int Go.IntKind.u16 0)) 55, type := 4, pos := "buchi.go:55", after := #[{ on := 35, ground := Go.Ground.data }, { on := 30, ground := Go.Ground.guard }], guard := some (30, false) } : Oper)) (v := ?_) rfl (by kernel_rfl) (by kernel_rfl) (by kernel_rfl) (fun _ _ _ h => h) (Or.inl ⟨by rfl, ?_⟩) (by assumption) ?_
        rotate_left
        · (intro wS hSw; (try dsimp only at hSw); go_simp <;> with_reducible rfl)
        try simp only [Act.put, List.setIfInBounds_toArray, List.set_cons_zero, List.set_cons_succ]
        refine wpAnyH_take (i := 37) (oi := ({ dst := some 79, op := Go.Op.pick (Go.Operand.tmp 72) (Go.Operand.const (Go.Value.bool true)) (Go.Operand.tmp 78), type := 4, pos := "buchi.go:55", after := #[{ on := 30, ground := Go.Ground.data }, { on := 36, ground := Go.Ground.data }], guard := none } : Oper)) (v := ?_) rfl (by kernel_rfl) (by kernel_rfl) (by kernel_rfl) (fun _ _ _ h => h) (Or.inl ⟨by rfl, ?_⟩) (by assumption) ?_
        rotate_left
        · (intro wS hSw; (try dsimp only at hSw); go_simp <;> with_reducible rfl)
        try simp only [Act.put, List.setIfInBounds_toArray, List.set_cons_zero, List.set_cons_succ]
        refine wpAnyH_take (i := 38) (oi := ({ dst := some 80, op := Go.Op.move (Go.Operand.tmp 79), type := 4, pos := "buchi.go:55", after := #[{ on := 37, ground := Go.Ground.data }, { on := 30, ground := Go.Ground.chain }], guard := none } : Oper)) (v := ?_) rfl (by kernel_rfl) (by kernel_rfl) (by kernel_rfl) (fun _ _ _ h => h) (Or.inl ⟨by rfl, ?_⟩) (by assumption) ?_
        rotate_left
        · (intro wS hSw; (try dsimp only at hSw); go_simp <;> with_reducible rfl)
        try simp only [Act.put, List.setIfInBounds_toArray, List.set_cons_zero, List.set_cons_succ]
        refine wpAnyH_take (i := 39) (oi := ({ dst := some 81, op := Go.Op.move (Go.Operand.tmp 4), type := 3, pos := "buchi.go:55", after := #[{ on := 38, ground := Go.Ground.guard }], guard := some (38, false) } : Oper)) (v := ?_) rfl (by kernel_rfl) (by kernel_rfl) (by kernel_rfl) (fun _ _ _ h => h) (Or.inl ⟨by rfl, ?_⟩) (by assumption) ?_
        rotate_left
        · (intro wS hSw; (try dsimp only at hSw); go_simp <;> with_reducible rfl)
        try simp only [Act.put, List.setIfInBounds_toArray, List.set_cons_zero, List.set_cons_succ]
        refine wpAnyH_take (i := 40) (oi := ({ dst := some 82, op := Go.Op.binOp Go.BinOp.gtr 3 (Go.Operand.tmp 81) (Go.Operand.const (Go.Value.int Go.IntKind.i64 0)) 3, type := 4, pos := "buchi.go:55", after := #[{ on := 39, ground := Go.Ground.data }, { on := 38, ground := Go.Ground.guard }], guard := some (38, false) } : Oper)) (v := ?_) rfl (by kernel_rfl) (by kernel_rfl) (by kernel_rfl) (fun _ _ _ h => h) (Or.inl ⟨by rfl, ?_⟩) (by assumption) ?_
        rotate_left
        · (intro wS hSw; (try dsimp only at hSw); go_simp <;> with_reducible rfl)
        try simp only [Act.put, List.setIfInBounds_toArray, List.set_cons_zero, List.set_cons_succ]
        refine wpAnyH_take (i := 41) (oi := ({ dst := some 83, op := Go.Op.move (Go.Operand.tmp 82), type := 4, pos := "buchi.go:55", after := #[{ on := 40, ground := Go.Ground.data }, { on := 38, ground := Go.Ground.chain }, { on := 38, ground := Go.Ground.guard }], guard := some (38, false) } : Oper)) (v := ?_) rfl (by kernel_rfl) (by kernel_rfl) (by kernel_rfl) (fun _ _ _ h => h) (Or.inl ⟨by rfl, ?_⟩) (by assumption) ?_
        rotate_left
        · (intro wS hSw; (try dsimp only at hSw); go_simp <;> with_reducible rfl)
        try simp only [Act.put, List.setIfInBounds_toArray, List.set_cons_zero, List.set_cons_succ]
        refine wpAnyH_take (i := 42) (oi := ({ dst := some 84, op := Go.Op.fieldAddr 87 (Go.Operand.tmp 1) 3, type := 0, pos := "buchi.go:55", after := #[{ on := 41, ground := Go.Ground.guard }], guard := some (41, true) } : Oper)) (v := undef) rfl (by kernel_rfl) (by kernel_rfl) (by kernel_rfl) (fun _ _ _ h => h) (Or.inr ⟨by rfl, rfl⟩) (by assumption) ?_
        try simp only [Act.put, List.setIfInBounds_toArray, List.set_cons_zero, List.set_cons_succ]
        refine wpAnyH_take (i := 43) (oi := ({ dst := some 85, op := Go.Op.load 45 (Go.Operand.tmp 84), type := 45, pos := "buchi.go:55", after := #[{ on := 42, ground := Go.Ground.data }, { on := 41, ground := Go.Ground.guard }], guard := some (41, true) } : Oper)) (v := undef) rfl (by kernel_rfl) (by kernel_rfl) (by kernel_rfl) (fun _ _ _ h => h) (Or.inr ⟨by rfl, rfl⟩) (by assumption) ?_
        try simp only [Act.put, List.setIfInBounds_toArray, List.set_cons_zero, List.set_cons_succ]
        refine wpAnyH_take (i := 44) (oi := ({ dst := some 86, op := Go.Op.move (Go.Operand.tmp 4), type := 3, pos := "buchi.go:55", after := #[{ on := 41, ground := Go.Ground.guard }], guard := some (41, true) } : Oper)) (v := undef) rfl (by kernel_rfl) (by kernel_rfl) (by kernel_rfl) (fun _ _ _ h => h) (Or.inr ⟨by rfl, rfl⟩) (by assumption) ?_
        try simp only [Act.put, List.setIfInBounds_toArray, List.set_cons_zero, List.set_cons_succ]
        refine wpAnyH_take (i := 45) (oi := ({ dst := some 87, op := Go.Op.binOp Go.BinOp.sub 3 (Go.Operand.tmp 86) (Go.Operand.const (Go.Value.int Go.IntKind.i64 1)) 3, type := 3, pos := "buchi.go:55", after := #[{ on := 44, ground := Go.Ground.data }, { on := 41, ground := Go.Ground.guard }], guard := some (41, true) } : Oper)) (v := undef) rfl (by kernel_rfl) (by kernel_rfl) (by kernel_rfl) (fun _ _ _ h => h) (Or.inr ⟨by rfl, rfl⟩) (by assumption) ?_
        try simp only [Act.put, List.setIfInBounds_toArray, List.set_cons_zero, List.set_cons_succ]
        refine wpAnyH_take (i := 46) (oi := ({ dst := some 88, op := Go.Op.indexAddr 45 (Go.Operand.tmp 85) (Go.Operand.tmp 87), type := 0, pos := "buchi.go:55", after := #[{ on := 43, ground := Go.Ground.data }, { on := 45, ground := Go.Ground.data }, { on := 41, ground := Go.Ground.guard }], guard := some (41, true) } : Oper)) (v := undef) rfl (by kernel_rfl) (by kernel_rfl) (by kernel_rfl) (fun _ _ _ h => h) (Or.inr ⟨by rfl, rfl⟩) (by assumption) ?_
        try simp only [Act.put, List.setIfInBounds_toArray, List.set_cons_zero, List.set_cons_succ]
        refine wpAnyH_take (i := 47) (oi := ({ dst := some 89, op := Go.Op.load 61 (Go.Operand.tmp 88), type := 61, pos := "buchi.go:55", after := #[{ on := 46, ground := Go.Ground.data }, { on := 41, ground := Go.Ground.guard }], guard := some (41, true) } : Oper)) (v := undef) rfl (by kernel_rfl) (by kernel_rfl) (by kernel_rfl) (fun _ _ _ h => h) (Or.inr ⟨by rfl, rfl⟩) (by assumption) ?_
        try simp only [Act.put, List.setIfInBounds_toArray, List.set_cons_zero, List.set_cons_succ]
        refine wpAnyH_take (i := 48) (oi := ({ dst := some 90, op := Go.Op.load 61 (Go.Operand.tmp 5), type := 61, pos := "buchi.go:55", after := #[{ on := 41, ground := Go.Ground.guard }], guard := some (41, true) } : Oper)) (v := undef) rfl (by kernel_rfl) (by kernel_rfl) (by kernel_rfl) (fun _ _ _ h => h) (Or.inr ⟨by rfl, rfl⟩) (by assumption) ?_
        try simp only [Act.put, List.setIfInBounds_toArray, List.set_cons_zero, List.set_cons_succ]
        refine wpAnyH_take (i := 49) (oi := ({ dst := some 91, op := Go.Op.call { callee := Go.Callee.value (Go.Operand.func 93), args := #[Go.Operand.tmp 89, Go.Operand.tmp 90], argTypes := #[61, 61] }, type := 3, pos := "buchi.go:55", after := #[{ on := 47, ground := Go.Ground.data }, { on := 48, ground := Go.Ground.data }, { on := 41, ground := Go.Ground.chain }, { on := 41, ground := Go.Ground.guard }], guard := some (41, true) } : Oper)) (v := undef) rfl (by kernel_rfl) (by kernel_rfl) (by kernel_rfl) (fun _ _ _ h => h) (Or.inr ⟨by rfl, rfl⟩) (by assumption) ?_
        try simp only [Act.put, List.setIfInBounds_toArray, List.set_cons_zero, List.set_cons_succ]
        refine wpAnyH_take (i := 50) (oi := ({ dst := some 92, op := Go.Op.binOp Go.BinOp.geq 3 (Go.Operand.tmp 91) (Go.Operand.const (Go.Value.int Go.IntKind.i64 0)) 3, type := 4, pos := "buchi.go:55", after := #[{ on := 49, ground := Go.Ground.data }, { on := 41, ground := Go.Ground.guard }], guard := some (41, true) } : Oper)) (v := undef) rfl (by kernel_rfl) (by kernel_rfl) (by kernel_rfl) (fun _ _ _ h => h) (Or.inr ⟨by rfl, rfl⟩) (by assumption) ?_
        try simp only [Act.put, List.setIfInBounds_toArray, List.set_cons_zero, List.set_cons_succ]
        refine wpAnyH_take (i := 51) (oi := ({ dst := some 93, op := Go.Op.pick (Go.Operand.tmp 83) (Go.Operand.tmp 92) (Go.Operand.const (Go.Value.bool false)), type := 4, pos := "buchi.go:55", after := #[{ on := 41, ground := Go.Ground.data }, { on := 50, ground := Go.Ground.data }, { on := 38, ground := Go.Ground.guard }], guard := some (38, false) } : Oper)) (v := ?_) rfl (by kernel_rfl) (by kernel_rfl) (by kernel_rfl) (fun _ _ _ h => h) (Or.inl ⟨by rfl, ?_⟩) (by assumption) ?_
        rotate_left
        · (intro wS hSw; (try dsimp only at hSw); go_simp <;> with_reducible rfl)
        try simp only [Act.put, List.setIfInBounds_toArray, List.set_cons_zero, List.set_cons_succ]
        refine wpAnyH_take (i := 52) (oi := ({ dst := some 94, op := Go.Op.pick (Go.Operand.tmp 80) (Go.Operand.const (Go.Value.bool true)) (Go.Operand.tmp 93), type := 4, pos := "buchi.go:55", after := #[{ on := 38, ground := Go.Ground.data }, { on := 51, ground := Go.Ground.data }], guard := none } : Oper)) (v := ?_) rfl (by kernel_rfl) (by kernel_rfl) (by kernel_rfl) (fun _ _ _ h => h) (Or.inl ⟨by rfl, ?_⟩) (by assumption) ?_
        rotate_left
        · (intro wS hSw; (try dsimp only at hSw); go_simp <;> with_reducible rfl)
        try simp only [Act.put, List.setIfInBounds_toArray, List.set_cons_zero, List.set_cons_succ]
        refine wpAnyH_done (by kernel_rfl) ?_ _
        have HGn := Lib.hid (gb_trans HGe.out hHeld.1 (Or.inl rfl))
        go_wp2_with fail
        exact ⟨⟨1, by omega, by go_num, HYn, HGn⟩, by simp [intOf]; omega⟩
    · obtain rfl : k = E.length := by omega
      have hkI : ¬ (E.length : Int) < (E.length : Int) := by omega
      obtain ⟨q1, q3, q4⟩ := HK1.out _ HG.out
      have HSr := Lib.hid (HS1.out.kept HG.out)
      have HRr : Hid ((List.range E.length).all (edgeB P.length n E) = true) := Lib.hid (by
        rw [List.all_eq_true]
        intro j hj
        exact H0.out j (List.mem_range.1 hj))
      have HKr : Hid (∀ wx, wr.grownBy wx none → wx.cell? ⟨w.heap.size, 1, none⟩ = some (.int .i64 n)) := Lib.hid fun wx h => h.cell q1 (by simp)
      clear q1 q3
      go_wp2_with fail
      go_loop [99] (fun i => ∃ k : Nat, k ≤ S.length ∧ i = .int .i64 (k : Int) ∧ Hid (∀ j, j < k → risingF (S.getD j []) n = true)) (fun i => S.length - (intOf i).toNat)
      case atStart => exact ⟨0, Nat.zero_le _, rfl, Lib.hid fun j h => absurd h (Nat.not_lt_zero _)⟩
      case round =>
        obtain ⟨k, hk2, rfl, H0s⟩ := hrel
        have q1 := HKr.out wr (gb_refl _ _)
        by_cases hlt2 : k < S.length
        · have hkJ : (k : Int) < (S.length : Int) := by omega
          obtain ⟨_, _, e1, _, _, hc⟩ := HSr.out
          cases e1
          rcases hc with rfl | ⟨b, off, rfl, hc⟩
          · exact absurd hlt2 (by simp)
          obtain ⟨u, hu, hiu⟩ := hc k hlt2
          have HIu := Lib.hid (isrow_any u _ n wr hiu)
          obtain ⟨au, cu, rfl, _⟩ := hiu
          have HNk : Hid (risingF (S.getD k []) n = false → cg = 100) := Lib.hid fun h => HNo.out (by rw [HR.out, HRr.out, Bool.true_and, all_not h hlt2])
          have HYk : Hid (risingF (S.getD k []) n = true → ∀ j, j < k + 1 → risingF (S.getD j []) n = true) := Lib.hid fun h j hj => by
            by_cases e : j < k
            · exact H0s.out j e
            · obtain rfl : j = k := by omega
              exact h
          clear hc
          generalize hlu : (S.getD k []).length = lu at hu HIu
          clear hlu
          cases hr : risingF (S.getD k []) n <;> rw [hr] at HIu
          · have HV := Lib.hid (HNk.out hr)
            clear HNk HYk hr
            go_wp2_with (go_at_call 92; refine HIu.out.mono ?_; rintro e w2 ⟨rfl, rfl⟩)
            go_ret
            exact ⟨by rw [HV.out]; rfl, gb_trans HG1.out HG.out (Or.inl rfl)⟩
          · have HYn := Lib.hid (HYk.out hr)
            clear HNk HYk hr
            go_wp2_with (go_at_call 92; refine HIu.out.mono ?_; rintro e w2 ⟨rfl, rfl⟩)
            exact ⟨⟨k + 1, by omega, by go_num, HYn⟩, by simp [intOf]; omega⟩
        · have hkJ : ¬ (k : Int) < (S.length : Int) := by omega
          have HV := Lib.hid (HYe.out (by
            rw [HR.out, HRr.out, Bool.true_and, List.all_eq_true]
            intro j hj
            exact H0s.out j (by have := List.mem_range.1 hj; omega)))
          go_wp2_with fail
          go_ret
          exact ⟨by rw [HV.out]; rfl, gb_trans HG1.out HG.out (Or.inl rfl)⟩
end Go.Proofs.Ytcdepblajobemaa
