/- Runner: how much was handed in. -/
import Derived.Test.YtcdepblajobemaaBuilds13
import Derived.Laws.AppendOwnNone
set_option maxRecDepth 100000
namespace Go.Proofs.Ytcdepblajobemaa
open Go.RowKit

/-- How much, and how much is counted: no further once it is over the bound. -/
def sumN (l : List Nat) : Nat := l.foldl (fun n s => n + (1 + s)) 0
def capN (l : List Nat) : Nat := l.foldl (fun n s => if n ≤ 2147483647 then n + (1 + s) else n) 0
theorem take_one {l : List Nat} {k : Nat} (hk : k < l.length) : l.take (k + 1) = l.take k ++ [l.getD k 0] := by
  rw [List.take_add_one]
  congr 1
  rw [List.getD_eq_getElem?_getD, List.getElem?_eq_getElem hk]; rfl
theorem capN_take (l : List Nat) (k : Nat) (hk : k < l.length) (h : capN (l.take k) ≤ 2147483647) : capN (l.take (k + 1)) = capN (l.take k) + (1 + l.getD k 0) := by
  rw [take_one hk]
  unfold capN at h ⊢
  rw [List.foldl_append]
  show (if _ then _ else _) = _
  rw [if_pos h]
theorem cap_stop (m : List Nat) : ∀ n, 2147483647 < n → m.foldl (fun n s => if n ≤ 2147483647 then n + (1 + s) else n) n = n := by
  induction m with
  | nil => intros; rfl
  | cons x m ih =>
    intro n hn
    rw [List.foldl_cons, if_neg (by omega)]
    exact ih n hn
theorem capN_stop (l : List Nat) (k : Nat) (h : 2147483647 < capN (l.take k)) : capN l = capN (l.take k) := by
  have e : l = l.take k ++ l.drop k := (List.take_append_drop k l).symm
  rw [congrArg capN e]
  unfold capN at h ⊢
  rw [List.foldl_append]
  exact cap_stop _ _ h
theorem sum_cap (m : List Nat) : ∀ a, m.foldl (fun n s => if n ≤ 2147483647 then n + (1 + s) else n) a ≤ 2147483647 → m.foldl (fun n s => if n ≤ 2147483647 then n + (1 + s) else n) a = m.foldl (fun n s => n + (1 + s)) a := by
  induction m with
  | nil => intros; rfl
  | cons x m ih =>
    intro a h
    rw [List.foldl_cons, List.foldl_cons]
    rw [List.foldl_cons] at h
    by_cases ha : a ≤ 2147483647
    · rw [if_pos ha] at h ⊢
      exact ih _ h
    · rw [if_neg ha, cap_stop _ _ (by omega)] at h
      exact absurd h ha
theorem capN_sum {l : List Nat} (h : capN l ≤ 2147483647) : capN l = sumN l := sum_cap l 0 h
theorem sumN_take (l : List Nat) (k : Nat) (hk : k < l.length) : sumN (l.take (k + 1)) = sumN (l.take k) + (1 + l.getD k 0) := by
  rw [take_one hk]
  unfold sumN
  rw [List.foldl_append]
  rfl
theorem sumN_ge : ∀ (m : List Nat) (a : Nat), a + m.length ≤ m.foldl (fun n s => n + (1 + s)) a
  | [], a => Nat.le_refl _
  | x :: m, a => by
    have := sumN_ge m (a + (1 + x))
    rw [List.foldl_cons, List.length_cons]
    omega
theorem sumN_len (l : List Nat) : l.length ≤ sumN l := by
  have := sumN_ge l 0
  unfold sumN
  omega
theorem cap_le : ∀ (m : List Nat) (a : Nat), a ≤ 140739635834880 → (∀ x ∈ m, x ≤ 140737488351232) → m.foldl (fun n s => if n ≤ 2147483647 then n + (1 + s) else n) a ≤ 140739635834880
  | [], a, h, _ => h
  | x :: m, a, h, hm => by
    rw [List.foldl_cons]
    refine cap_le m _ ?_ (fun y hy => hm y (List.mem_cons_of_mem _ hy))
    have := hm x List.mem_cons_self
    split <;> omega
theorem capN_le {l : List Nat} (h : ∀ x ∈ l, x ≤ 140737488351232) : capN l ≤ 140739635834880 := cap_le l 0 (by omega) h
def sizes (L : List ByteArray) : List Nat := L.map ByteArray.size
def lens (R : List (List Int)) : List Nat := R.map List.length
theorem sizes_at {L : List ByteArray} {k : Nat} (hk : k < L.length) : (sizes L).getD k 0 = (L.getD k ⟨#[]⟩).size := by
  unfold sizes
  simp [List.getD_eq_getElem?_getD, hk]
theorem lens_at {L : List (List Int)} {k : Nat} (hk : k < L.length) : (lens L).getD k 0 = (L.getD k []).length := by
  unfold lens
  simp [List.getD_eq_getElem?_getD, hk]

/-- Texts of which none is longer than memory. -/
def Short (L : List ByteArray) : Prop := ∀ k, k < L.length → (L.getD k ⟨#[]⟩).size ≤ 140737488351232

set_option maxHeartbeats 1000000 in
theorem oftexts_any {w : World} {v : Value} {L : List ByteArray} (hl : TextsAt w v L) (hs : Short L) :
    Calls Try.prog 8 #[v] w fun e w' => e = .returned (.int .i64 (capN (sizes L) : Int)) ∧ capN (sizes L) ≤ 140739635834880 ∧ w = w' := by
  obtain ⟨a, cap, rfl, hcap, hlen, _, hc⟩ := hl
  have HC := Lib.hid hc
  have HS := Lib.hid hs
  clear hc hs
  go_enter Try.func8, Try.ntmps8
  go_wp2
  go_loop [4, 3] (fun i c => ∃ (k n : Nat), k ≤ L.length ∧ i = .int .i64 (k : Int) ∧ c = .int .i64 (n : Int) ∧ n ≤ 140739635834880 ∧ Hid (n = capN ((sizes L).take k))) (fun i _ => L.length - (intOf i).toNat)
  case atStart => exact ⟨0, 0, by omega, rfl, rfl, by omega, rfl⟩
  case round =>
    obtain ⟨k, n, hk, rfl, rfl, hn, HX⟩ := hrel
    by_cases hlt : k < L.length
    · by_cases hb : n ≤ 2147483647
      · rcases HC.out with rfl | ⟨b, off, rfl, hcc⟩
        · exact absurd hlt (by simp)
        have hcell := hcc k hlt
        have hsz := HS.out k hlt
        have HT := Lib.hid (capN_take (sizes L) k (by unfold sizes; rw [List.length_map]; exact hlt) (by rw [← HX.out]; exact hb))
        rw [sizes_at hlt] at HT
        generalize L.getD k ⟨#[]⟩ = s at hcell hsz HT
        have hnI : (n : Int) ≤ 2147483647 := by omega
        have hkI : (k : Int) < (L.length : Int) := by omega
        generalize hz : s.size = z at hsz HT
        have e1 : wrap64 (1 + (z : Int)) = 1 + (z : Int) := IntWalk.wrap64_in _ ⟨by omega, by omega⟩
        have e2 : wrap64 ((n : Int) + (1 + (z : Int))) = (n : Int) + (1 + (z : Int)) := IntWalk.wrap64_in _ ⟨by omega, by omega⟩
        clear hcc
        go_wp2_with fail
        go_round
        case rel => exact ⟨k + 1, n + (1 + z), by omega, by go_num, by go_num, by omega, Lib.hid (by rw [HT.out, ← HX.out])⟩
        case measure => simp [intOf]; omega
      · have hkI : (k : Int) < (L.length : Int) := by omega
        have hnI : ¬ (n : Int) ≤ 2147483647 := by omega
        go_wp2_with fail
        go_ret
        have e := capN_stop (sizes L) k (by rw [← HX.out]; omega)
        rw [← HX.out] at e
        rw [e]
        exact ⟨rfl, hn, rfl⟩
    · obtain rfl : k = L.length := by omega
      rw [show L.length = (sizes L).length by unfold sizes; rw [List.length_map], List.take_length] at HX
      go_wp2_with fail
      go_ret
      rw [← HX.out]
      exact ⟨rfl, hn, rfl⟩

set_option maxHeartbeats 1000000 in
theorem ofrows_any {w : World} {v : Value} {L : List (List Int)} (hl : RowsAt2 w v L) :
    Calls Try.prog 9 #[v] w fun e w' => e = .returned (.int .i64 (capN (lens L) : Int)) ∧ capN (lens L) ≤ 140739635834880 ∧ w = w' := by
  obtain ⟨a, cap, rfl, hcap, hlen, hc⟩ := hl
  have HC := Lib.hid hc
  clear hc
  go_enter Try.func9, Try.ntmps9
  go_wp2
  go_loop [4, 3] (fun i c => ∃ (k n : Nat), k ≤ L.length ∧ i = .int .i64 (k : Int) ∧ c = .int .i64 (n : Int) ∧ n ≤ 140739635834880 ∧ Hid (n = capN ((lens L).take k))) (fun i _ => L.length - (intOf i).toNat)
  case atStart => exact ⟨0, 0, by omega, rfl, rfl, by omega, rfl⟩
  case round =>
    obtain ⟨k, n, hk, rfl, rfl, hn, HX⟩ := hrel
    by_cases hlt : k < L.length
    · by_cases hb : n ≤ 2147483647
      · rcases HC.out with rfl | ⟨b, off, rfl, hcc⟩
        · exact absurd hlt (by simp)
        obtain ⟨u, hcell, au, cu, rfl, _, hsz, _⟩ := hcc k hlt
        have HT := Lib.hid (capN_take (lens L) k (by unfold lens; rw [List.length_map]; exact hlt) (by rw [← HX.out]; exact hb))
        rw [lens_at hlt] at HT
        generalize L.getD k [] = s at hcell hsz HT
        have hnI : (n : Int) ≤ 2147483647 := by omega
        have hkI : (k : Int) < (L.length : Int) := by omega
        generalize hz : s.length = z at hcell hsz HT
        have e1 : wrap64 (1 + (z : Int)) = 1 + (z : Int) := IntWalk.wrap64_in _ ⟨by omega, by omega⟩
        have e2 : wrap64 ((n : Int) + (1 + (z : Int))) = (n : Int) + (1 + (z : Int)) := IntWalk.wrap64_in _ ⟨by omega, by omega⟩
        clear hcc
        go_wp2_with fail
        go_round
        case rel => exact ⟨k + 1, n + (1 + z), by omega, by go_num, by go_num, by omega, Lib.hid (by rw [HT.out, ← HX.out])⟩
        case measure => simp [intOf]; omega
      · have hkI : (k : Int) < (L.length : Int) := by omega
        have hnI : ¬ (n : Int) ≤ 2147483647 := by omega
        go_wp2_with fail
        go_ret
        have e := capN_stop (lens L) k (by rw [← HX.out]; omega)
        rw [← HX.out] at e
        rw [e]
        exact ⟨rfl, hn, rfl⟩
    · obtain rfl : k = L.length := by omega
      rw [show L.length = (lens L).length by unfold lens; rw [List.length_map], List.take_length] at HX
      go_wp2_with fail
      go_ret
      rw [← HX.out]
      exact ⟨rfl, hn, rfl⟩

theorem short_le {L : List ByteArray} (h : Short L) : capN (sizes L) ≤ 140739635834880 := capN_le fun x hx => by
  obtain ⟨k, hk⟩ := List.getElem?_of_mem hx
  have hl : k < L.length := by have := (List.getElem?_eq_some_iff.1 hk).1; unfold sizes at this; rwa [List.length_map] at this
  have e := sizes_at hl
  rw [List.getD_eq_getElem?_getD, hk] at e
  rw [show x = _ from e]
  exact h k hl
theorem rows_le {w : World} {v : Value} {L : List (List Int)} (h : RowsAt2 w v L) : capN (lens L) ≤ 140739635834880 := capN_le fun x hx => by
  obtain ⟨a, cap, _, _, _, hc⟩ := h
  obtain ⟨k, hk⟩ := List.getElem?_of_mem hx
  have hl : k < L.length := by have := (List.getElem?_eq_some_iff.1 hk).1; unfold lens at this; rwa [List.length_map] at this
  have e := lens_at hl
  rw [List.getD_eq_getElem?_getD, hk] at e
  rw [show x = _ from e]
  rcases hc with rfl | ⟨b, off, _, hc⟩
  · exact absurd hl (by simp)
  · obtain ⟨u, _, _, _, _, _, hz, _⟩ := hc k hl
    omega
end Go.Proofs.Ytcdepblajobemaa
namespace Go.Proofs.Ytcdepblajobemaa
open Go.RowKit

set_option maxHeartbeats 4000000 in
theorem refgeneral_any (vp vi ve vf : Value) (a : Aut) (w : World) (h : AutAt w vp vi ve vf a) :
    Calls Try.prog 46 #[autV vp vi ve vf a.n] w fun e w' => ∃ vs, e = .returned (.agg #[vp, .int .i64 a.n, vi, ve, vs]) ∧ RowsAt2 w' vs [a.F] ∧ w.grownBy w' none := by
  have HA := Lib.hid h
  obtain ⟨ap, cp, rfl, _⟩ := h.p
  obtain ⟨ai, ci, rfl, _⟩ := h.i
  obtain ⟨ae, ce, rfl, _⟩ := h.e
  obtain ⟨af, cf, rfl, _⟩ := h.f
  clear h
  unfold autV
  go_enter Try.func46, Try.ntmps46
  go_wp2_with fail
  have hb1 := heap_alloc_new (w.alloc (.cells #[.slice ap a.P.length cp, .int .i64 a.n, .slice ai a.I.length ci, .slice ae a.E.length ce, .slice af a.F.length cf] 47)) (.cells #[.slice ap a.P.length cp, .int .i64 a.n, .slice ai a.I.length ci, .slice ae a.E.length ce, .slice (some ⟨w.heap.size + 1 + 1, 0, none⟩) 1 1] 87)
  rw [World.size_alloc] at hb1
  have hb2 := heap_alloc_new ((w.alloc (.cells #[.slice ap a.P.length cp, .int .i64 a.n, .slice ai a.I.length ci, .slice ae a.E.length ce, .slice af a.F.length cf] 47)).alloc (.cells #[.slice ap a.P.length cp, .int .i64 a.n, .slice ai a.I.length ci, .slice ae a.E.length ce, .slice (some ⟨w.heap.size + 1 + 1, 0, none⟩) 1 1] 87)) (.cells #[.slice af a.F.length cf] 43)
  have hg : w.grownBy (((w.alloc (.cells #[.slice ap a.P.length cp, .int .i64 a.n, .slice ai a.I.length ci, .slice ae a.E.length ce, .slice af a.F.length cf] 47)).alloc (.cells #[.slice ap a.P.length cp, .int .i64 a.n, .slice ai a.I.length ci, .slice ae a.E.length ce, .slice (some ⟨w.heap.size + 1 + 1, 0, none⟩) 1 1] 87)).alloc (.cells #[.slice af a.F.length cf] 43)) none := gb_trans (gb_trans (World.grownBy_alloc _ _ none) (World.grownBy_alloc _ _ none) (Or.inl rfl)) (World.grownBy_alloc _ _ none) (Or.inl rfl)
  have hb3 := (Below.heap_alloc ((w.alloc (.cells #[.slice ap a.P.length cp, .int .i64 a.n, .slice ai a.I.length ci, .slice ae a.E.length ce, .slice af a.F.length cf] 47)).alloc (.cells #[.slice ap a.P.length cp, .int .i64 a.n, .slice ai a.I.length ci, .slice ae a.E.length ce, .slice (some ⟨w.heap.size + 1 + 1, 0, none⟩) 1 1] 87)) (.cells #[.slice af a.F.length cf] 43) (w.heap.size + 1) (by simp [World.size_alloc])).trans hb1
  rw [World.size_alloc, World.size_alloc] at hb2
  refine bodyPost_ret (results_gen rfl _ _ _ _ rfl hb3 rfl) rfl ?_
  refine ⟨_, rfl, ⟨some ⟨w.heap.size + 1 + 1, 0, none⟩, 1, rfl, Nat.le_refl _, (by show 1 ≤ 17592186043904; decide), Or.inr ⟨_, _, rfl, fun k hk => ?_⟩⟩, hg⟩
  have hk1 : k < 1 := hk
  obtain rfl : k = 0 := by omega
  refine ⟨.slice af a.F.length cf, ?_, HA.out.f.kept hg⟩
  simp only [World.cell?, hb2]
  rfl
set_option maxHeartbeats 4000000 in
theorem refcheck10 (vp vi ve vf : Value) (a : Aut) (w : World) (h : AutAt w vp vi ve vf a) :
    Calls Try.prog 21 #[autV vp vi ve vf a.n] w fun e w' => e = .returned (.int .i64 (chkA a)) ∧ w.grownBy w' none := by
  have HA := Lib.hid h
  have HG : Hid (∀ wx, w.grownBy wx none → Calls Try.prog 46 #[autV vp vi ve vf a.n] wx fun e w' => ∃ vs, e = .returned (.agg #[vp, .int .i64 a.n, vi, ve, vs]) ∧ RowsAt2 w' vs [a.F] ∧ wx.grownBy w' none) := Lib.hid fun wx hg => refgeneral_any vp vi ve vf a wx (HA.out.kept hg)
  have HC : Hid (∀ wx vs, w.grownBy wx none → RowsAt2 wx vs [a.F] → Calls Try.prog 45 #[.agg #[vp, .int .i64 a.n, vi, ve, vs]] wx fun e w' => e = .returned (.int .i64 (chkA a)) ∧ wx.grownBy w' none) := Lib.hid fun wx vs hg hr => refcheckg_any vp vi ve vs a.P a.n a.I a.E [a.F] wx (HA.out.p.kept hg) (HA.out.i.kept hg) (HA.out.e.kept hg) hr
  obtain ⟨ap, cp, rfl, _⟩ := h.p
  obtain ⟨ai, ci, rfl, _⟩ := h.i
  obtain ⟨ae, ce, rfl, _⟩ := h.e
  obtain ⟨af, cf, rfl, _⟩ := h.f
  clear h
  have hga := World.grownBy_alloc w (.cells #[.slice ap a.P.length cp, .int .i64 a.n, .slice ai a.I.length ci, .slice ae a.E.length ce, .slice af a.F.length cf] 47) none
  unfold autV at HG ⊢
  go_enter Try.func21, Try.ntmps21
  go_wp2_with fail
  refine (HG.out _ hga).mono ?_
  rintro e w1 ⟨vs, rfl, hr, hg1⟩
  have hg := gb_trans hga hg1 (Or.inl rfl)
  have HR := Lib.hid (HC.out w1 vs hg hr)
  obtain ⟨az, cz, rfl, _⟩ := hr
  go_wp2_with fail
  refine HR.out.mono ?_
  rintro e w2 ⟨rfl, hg2⟩
  go_wp2_with fail
  go_ret
  exact ⟨rfl, gb_trans hg hg2 (Or.inl rfl)⟩

/-- Is an automaton small? -/
def fewF (a : Aut) : Bool := decide (0 ≤ a.n) && (decide (a.n ≤ 14) && (decide (a.E.length ≤ 100) && (decide (a.I.length ≤ 100) && (decide (a.F.length ≤ 100) && decide (capN (sizes a.P) ≤ 10000)))))
set_option maxHeartbeats 2000000 in
theorem few_any (vp vi ve vf : Value) (a : Aut) (w : World) (h : AutAt w vp vi ve vf a) (hs : Short a.P) :
    Calls Try.prog 20 #[autV vp vi ve vf a.n] w fun e w' => e = .returned (.bool (fewF a)) ∧ w.grownBy w' none := by
  have hga := World.grownBy_alloc w (.cells #[vp, .int .i64 a.n, vi, ve, vf] 47) none
  have HG := Lib.hid hga
  have HB := Lib.hid (heap_alloc_new w (.cells #[vp, .int .i64 a.n, vi, ve, vf] 47))
  have HT := Lib.hid (oftexts_any (h.p.kept hga) hs)
  have hcap := short_le hs
  obtain ⟨ap, cp, rfl, -⟩ := h.p
  obtain ⟨ai, ci, rfl, -, hli, -⟩ := h.i
  obtain ⟨ae, ce, rfl, -, -, hle, -⟩ := h.e
  obtain ⟨af, cf, rfl, -, hlf, -⟩ := h.f
  clear h hga hs
  unfold autV fewF
  generalize capN (sizes a.P) = x at HT hcap ⊢
  generalize a.n = n at HT HG HB ⊢
  clear HB
  by_cases c0 : 0 ≤ n
  case neg =>
    go_enter Try.func20, Try.ntmps20
    go_wp2_with (go_at_call 8; refine HT.out.mono ?_; rintro e w1 ⟨rfl, _, rfl⟩)
    go_ret
    exact ⟨by simp; omega, HG.out⟩
  by_cases c1 : n ≤ 14
  case neg =>
    go_enter Try.func20, Try.ntmps20
    go_wp2_with (go_at_call 8; refine HT.out.mono ?_; rintro e w1 ⟨rfl, _, rfl⟩)
    go_ret
    exact ⟨by simp [c0]; omega, HG.out⟩
  by_cases c2 : a.E.length ≤ 100
  case neg =>
    have c2I : ¬ (a.E.length : Int) ≤ 100 := by omega
    go_enter Try.func20, Try.ntmps20
    go_wp2_with (go_at_call 8; refine HT.out.mono ?_; rintro e w1 ⟨rfl, _, rfl⟩)
    go_ret
    exact ⟨by simp [c2], HG.out⟩
  have c2I : (a.E.length : Int) ≤ 100 := by omega
  by_cases c3 : a.I.length ≤ 100
  case neg =>
    have c3I : ¬ (a.I.length : Int) ≤ 100 := by omega
    go_enter Try.func20, Try.ntmps20
    go_wp2_with (go_at_call 8; refine HT.out.mono ?_; rintro e w1 ⟨rfl, _, rfl⟩)
    go_ret
    exact ⟨by simp [c3], HG.out⟩
  have c3I : (a.I.length : Int) ≤ 100 := by omega
  by_cases c4 : a.F.length ≤ 100
  case neg =>
    have c4I : ¬ (a.F.length : Int) ≤ 100 := by omega
    go_enter Try.func20, Try.ntmps20
    go_wp2_with (go_at_call 8; refine HT.out.mono ?_; rintro e w1 ⟨rfl, _, rfl⟩)
    go_ret
    exact ⟨by simp [c4], HG.out⟩
  have c4I : (a.F.length : Int) ≤ 100 := by omega
  go_enter Try.func20, Try.ntmps20
  go_wp2_with (go_at_call 8; refine HT.out.mono ?_; rintro e w1 ⟨rfl, _, rfl⟩)
  go_ret
  exact ⟨by simp [c0, c1, c2, c3, c4]; omega, HG.out⟩
end Go.Proofs.Ytcdepblajobemaa
namespace Go.Proofs.Ytcdepblajobemaa
open Go.RowKit

theorem y_bools {w : World} {Z n : Nat} {u : Value} {L : List Nat} (h : w.ownsRow Z 4 1 u n ((yesL n L n).map tv01)) (hn : n ≤ 65536) : BoolsAt w u (yesL n L n) :=
  bools_of_own (Z := Z) (by rw [yesL_len]; exact h) (by rw [yesL_len]; omega)
theorem aut_ranges {a : Aut} {n : Nat} (hn : a.n = (n : Int)) (h : chkA a = 0) : (∀ k, k < a.I.length → 0 ≤ a.I.getD k 0 ∧ a.I.getD k 0 < n) ∧ (∀ k, k < a.E.length → (0 ≤ (a.E.getD k edg0).fr ∧ (a.E.getD k edg0).fr < n) ∧ (0 ≤ (a.E.getD k edg0).tt ∧ (a.E.getD k edg0).tt < n)) := by
  unfold chkA chkG rightF at h
  rw [hn] at h
  split at h
  · rename_i h1
    simp only [Bool.and_eq_true, decide_eq_true_eq] at h1
    obtain ⟨-, -, -, h2, h3, -⟩ := h1
    refine ⟨fun k hk => ?_, fun k hk => ?_⟩
    · unfold risingF at h2
      have := List.all_eq_true.1 h2 k (List.mem_range.2 hk)
      unfold riseB at this
      simp only [Bool.and_eq_true, decide_eq_true_eq] at this
      exact ⟨this.1, this.2.1⟩
    · have := List.all_eq_true.1 h3 k (List.mem_range.2 hk)
      unfold edgeB at this
      simp only [Bool.and_eq_true, decide_eq_true_eq] at this
      exact ⟨⟨this.1, this.2.1⟩, this.2.2.1, this.2.2.2.1⟩
  · cases h
theorem yes_steps {n : Nat} (hn : n ≤ 65536) {E : List Edg} (L : List Nat) (l : Nat) (hE : ∀ k, k < E.length → (0 ≤ (E.getD k edg0).fr ∧ (E.getD k edg0).fr < n) ∧ (0 ≤ (E.getD k edg0).tt ∧ (E.getD k edg0).tt < n)) : stepsY n (yesL n L n) l E = yesL n (stepF n E L l) n := by
  unfold stepsY stepF
  rw [yes_none n ((n + 63) / 64)]
  refine yes_stepL hn E _ (good_none hn) fun e he => ?_
  obtain ⟨k, hk, rfl⟩ := List.mem_iff_getElem.1 he
  have := hE k hk
  rw [List.getD_eq_getElem?_getD, List.getElem?_eq_getElem hk] at this
  exact this
theorem ystep_any {vp vi ve vf u : Value} {a : Aut} {n : Nat} (hn : a.n = (n : Int)) (h65 : n ≤ 65536) {L : List Nat} {l Z : Nat} (hl : l ≤ 65535) {w : World} (h : AutAt w vp vi ve vf a) (hu : w.ownsRow Z 4 1 u n ((yesL n L n).map tv01)) (hok : chkA a = 0) :
    Calls Try.prog 66 #[autV vp vi ve vf a.n, u, .int .u16 (l : Int)] w fun e w' => ∃ x, e = .returned x ∧ w'.ownsRow w.heap.size 4 1 x n ((yesL n (stepF n a.E L l) n).map tv01) ∧ w.grownBy w' none := by
  have hE := (aut_ranges hn hok).2
  have := refstep10 vp vi ve vf u a n hn h65 (yesL n L n) l hl w h (y_bools hu h65) (yesL_len _ _ _) hE
  rw [yes_steps h65 L l hE] at this
  exact this
theorem ywith_any {u v : Value} {n : Nat} (h65 : n ≤ 65536) {L V : List Nat} {Z : Nat} {w : World} (hu : w.ownsRow Z 4 1 u n ((yesL n L n).map tv01)) (hv : BoolsAt w v (yesL n V n)) :
    Calls Try.prog 64 #[u, v] w fun e w' => ∃ x, e = .returned x ∧ w'.ownsRow w.heap.size 4 1 x n ((yesL n (andL L V) n).map tv01) ∧ w.grownBy w' none := by
  have := refwith_any u v (yesL n L n) (yesL n V n) w (y_bools hu h65) hv (by rw [yesL_len]; omega) (by rw [yesL_len, yesL_len])
  rw [yes_and, yesL_len] at this
  exact this
theorem ytext_any {u : Value} {n : Nat} (h65 : n ≤ 65536) {L : List Nat} {Z : Nat} {w : World} (hu : w.ownsRow Z 4 1 u n ((yesL n L n).map tv01)) (s : ByteArray) (hs : textS (yesL n L n) = s) :
    Calls Try.prog 65 #[u] w fun e w' => e = .returned (.string s) ∧ w.grownBy w' none := by
  subst hs
  exact reftext_any u (yesL n L n) w (y_bools hu h65) (by rw [yesL_len]; omega)
theorem ysome_any {u : Value} {n : Nat} {L : List Nat} (g : Good n L) {Z : Nat} {w : World} (hu : w.ownsRow Z 4 1 u n ((yesL n L n).map tv01)) :
    Calls Try.prog 67 #[u] w fun e w' => e = .returned (.bool (decide (0 < ones L))) ∧ w = w' := by
  have := refsome_any u (yesL n L n) w (y_bools hu g.max) (by rw [yesL_len]; have := g.max; omega)
  rw [show (yesL n L n).any id = decide (0 < ones L) from by rw [Bool.eq_iff_iff, decide_eq_true_iff]; exact yes_some g] at this
  exact this
theorem run_append_nils {P : Program} {w : World} (t ty e : TypeId) (i : TypeInfo) (ht : P.underlying t = some (.slice e)) (hi : P.info? e = some i) (c : Nat) : (Builtin.append_ #[t, t] ty #[.slice none 0 0, .slice none 0 c]).run P w = .ok (.slice none 0 0) w := by
  simp [Builtin.append_, run_underlying ht, sizeOf, typeInfo, hi, Builtin.lenOf, Builtin.firstCells]
/-- Names behind an empty list. -/
theorem texts_append {w : World} {ops : Array Oper} {rest : List Oper} {o : Oper} {a : Act} {Q : Exit → Act → World → Prop} (hgd : o.guard = none) (s x : Operand)
    (ho : o.op = .call { callee := .builtin .append, args := #[s, x], argTypes := #[23, 23] }) (hs : a.eval s = .slice none 0 0) (v : Value) (L : List ByteArray) (hx : a.eval x = v) (hL : TextsAt w v L) (hl : L.length ≤ 1000000)
    (h : ∀ v' w', w'.ownsRow w.heap.size 9 1 v' L.length (L.map sv) → w.grownBy w' none → wpList Try.prog ops Q rest (a.put o.dst v') w') : wpList Try.prog ops Q (o :: rest) a w := by
  obtain ⟨i0, hi, hz0, hz1, hz2⟩ := info_parts Try.info9
  obtain ⟨ad, cap, rfl, hcap, hlen, hsz, hc⟩ := hL
  cases ad with
  | none =>
    have hL0 : L = [] := by
      rcases hc with h | ⟨b, off, h, _⟩
      · exact h
      · cases h
    subst hL0
    have hrun := run_append_nils (P := Try.prog) (w := w) 23 o.type 9 i0 Try.underlying23 hi cap
    refine wpList_plain hgd fun K hK => ?_
    unfold Oper.wp
    simp [execOp, ho, resolve, invoke, builtin, hs, hx, hrun, Result.andThen]
    exact hK _ _ (h _ _ (World.ownsRow_nil _ _ _ _) (gb_refl _ _))
  | some ad =>
    have hnew : ∀ j u, (L.map sv)[j]? = some u → w.cell? (ad.add j) = some u := by
      intro j u hu
      have hj : j < L.length := by simpa using (List.getElem?_eq_some_iff.1 hu).1
      rcases hc with rfl | ⟨b, off, h, hc⟩
      · simp at hj
      · cases h
        rw [show (⟨b, off, none⟩ : Addr).add j = ⟨b, off + j, none⟩ by unfold Addr.add; split <;> simp_all, hc j hj]
        rw [List.getElem?_map, List.getElem?_eq_getElem hj] at hu
        rw [← hu, List.getD_eq_getElem?_getD, List.getElem?_eq_getElem hj]
        rfl
    refine wpList_append_own w hgd s x 23 ho w.heap.size 9 i0 (.string ⟨#[]⟩) 1 16 Try.underlying23 hi hz0 hz1 hz2 rfl (by decide) (.slice none 0 0) 0 [] hs (World.ownsRow_nil _ _ _ _) ad L.length cap (L.map sv) hx (by simp) hnew (sv_one L) (by unfold maxLen; omega) (by omega) (Nat.le_refl _) ?_
    intro v' w1 hown1 hgrow1 _
    rw [Nat.zero_add, List.nil_append] at hown1
    exact h v' w1 hown1 hgrow1
/-- Where its loop begins. -/
theorem rf_start {Z bx bz n mb : Nat} {A : Array Value} {w6 w8 : World} {v vt vs : Value} {L : List Nat} {P : List ByteArray} (hbx : w6.heap[bx]? = some (.cells A 47 (0, 0))) (hbz : w6.heap[bz]? = some (.cells #[nilS, nilS, nilS] 27 (0, 0)))
    (hr : w6.ownsRow Z 25 1 vt 1 [v]) (hv : w6.ownsRow Z 4 1 v n ((yesL n L n).map tv01)) (ht : TabY w6 mb n [L]) (hZ : Z ≤ w6.heap.size)
    (h8 : (w6.alloc (.cells #[nilS, nilS, nilS] 27)).grownBy w8 none) (ho : w8.ownsRow (w6.alloc (.cells #[nilS, nilS, nilS] 27)).heap.size 9 1 vs P.length (P.map sv)) :
    RfAt Z bx bz w6.heap.size A n (w8.setCell ⟨w6.heap.size, 0, none⟩ vs) [L] vt [v] vs nilS nilS [] P [] [] ∧ TabY (w8.setCell ⟨w6.heap.size, 0, none⟩ vs) mb n [L] ∧ w6.grownBy (w8.setCell ⟨w6.heap.size, 0, none⟩ vs) none ∧ w8.cell? ⟨w6.heap.size, 0, none⟩ = some nilS ∧ w8.frozen? ⟨w6.heap.size, 0, none⟩ = false := by
  have hga := World.grownBy_alloc w6 (.cells #[nilS, nilS, nilS] 27) none
  have hb7 := heap_alloc_new w6 (.cells #[nilS, nilS, nilS] 27)
  have hb8 := blk_kept hb7 h8 (by simp)
  have hg8 := gb_trans hga h8 (Or.inl rfl)
  have hgs : w8.grownBy (w8.setCell ⟨w6.heap.size, 0, none⟩ vs) (some w6.heap.size) := gb_set
  have hg := gb_trans hg8 hgs (Or.inr (Or.inr ⟨_, rfl, Nat.le_refl _⟩))
  have hlz := (Array.getElem?_eq_some_iff.1 hbz).1
  refine ⟨⟨hr.kept hg (Classical.em _), rfl, fun k hk => ?_, fun k hk b hb e => (by cases e), blk_kept hbx hg (by simp), blk_kept hbz hg (by simp), heap_setCell_same w8 _ 0 _ _ _ hb8, by omega, hZ, ⟨?_, World.ownsRow_nil _ _ _ _, rfl, fun k hk => absurd hk (Nat.not_lt_zero _), fun i j hi => absurd hi (Nat.not_lt_zero _), World.ownsRow_nil _ _ _ _⟩⟩, ht.kept hg (by simp), hg, ?_, ?_⟩
  · have hk1 : k < 1 := hk
    obtain rfl : k = 0 := by omega
    exact hv.kept hg (Classical.em _)
  · have h1 := ho.kept hgs (own_off ho hb8 (by decide))
    exact own_base h1 (by rw [World.size_alloc]; omega)
  · simp [World.cell?, hb8, nilS]
  · simp [World.frozen?, hb8]
end Go.Proofs.Ytcdepblajobemaa
namespace Go.Proofs.Ytcdepblajobemaa
open Go.RowKit

/-- The first row and its place. -/
def Start (w w3 w7 : World) (n : Nat) (L : List Nat) (A : Array Value) (a3 : Option Addr) (c3 : Nat) : Prop :=
  w.grownBy w7 none ∧ w7.heap[w.heap.size]? = some (.cells A 47 (0, 0)) ∧ w7.heap[w.heap.size + 1]? = some (.cells #[nilS, nilS, nilS] 27 (0, 0)) ∧ w7.ownsRow w.heap.size 25 1 (.slice (some ⟨w3.heap.size, 0, none⟩) 1 1) 1 [.slice a3 n c3] ∧
    w7.ownsRow w.heap.size 4 1 (.slice a3 n c3) n ((yesL n L n).map tv01) ∧ TabY w7 (w3.heap.size + 1) n [L] ∧ w.heap.size ≤ w3.heap.size
theorem gas_step {l gk mm : Nat} (h : l + gk = mm) (hl : l < mm) : l + 1 + (gk - 1) = mm := by omega
theorem gas_less {l gk mm : Nat} (h : l + gk = mm) (hl : l < mm) : gk - 1 < gk := by omega
theorem wrap16_l {l : Nat} (h : l ≤ 65535) : IntKind.u16.wrap (l : Int) = (l : Int) := by
  rw [IntKind.wrap_u16, Int.emod_eq_of_lt (Int.natCast_nonneg _) (by omega)]
theorem Try.info25 : (Try.prog.info? 25).map (fun i => (i.zero, i.size, i.bytes)) = some (some (.slice none 0 0), 1, 24) := by kernel_rfl
theorem start_tab {w wr w3 w6 : World} {n c3 : Nat} {L : List Nat} {A : Array Value} {a3 : Option Addr} (hK : w.grownBy w3 none) (hx : w3.ownsRow w.heap.size 4 1 (.slice a3 n c3) n ((yesL n L n).map tv01)) (hg3 : wr.grownBy w3 none) (hbx : wr.heap[w.heap.size]? = some (.cells A 47 (0, 0)))
    (hbd : wr.heap[w.heap.size + 1]? = some (.cells #[nilS, nilS, nilS] 27 (0, 0))) (h65 : n ≤ 65536) (g : Good n L) (s : ByteArray) (hs : textS (yesL n L n) = s) (hg6 : ((w3.alloc (.cells #[.slice a3 n c3] 25)).alloc (.map #[] 0)).grownBy w6 none) :
    ∃ w7, (Instr.mapUpdate 114 (.map (some (w3.heap.size + 1))) (.string s) (.int .i64 0)).run Try.prog w6 = .ok () w7 ∧ Hid (Start w w3 w7 n L A a3 c3) := by
  have h4 := World.grownBy_alloc w3 (.cells #[.slice a3 n c3] 25) none
  have h5 := World.grownBy_alloc (w3.alloc (.cells #[.slice a3 n c3] 25)) (.map #[] 0) none
  have h36 := gb_trans (gb_trans h4 h5 (Or.inl rfl)) hg6 (Or.inl rfl)
  have hr4 : (w3.alloc (.cells #[.slice a3 n c3] 25)).ownsRow w3.heap.size 25 1 (.slice (some ⟨w3.heap.size, 0, none⟩) 1 1) 1 [.slice a3 n c3] := World.ownsRow_lit w3 #[.slice a3 n c3] 1 (Nat.le_refl _) (by unfold maxLen; omega) rfl
  have hr6 := own_base ((hr4.kept h5 (Classical.em _)).kept hg6 (Classical.em _)) hK.size
  have hx6 := hx.kept h36 (Classical.em _)
  have hT5 : TabY ((w3.alloc (.cells #[.slice a3 n c3] 25)).alloc (.map #[] 0)) (w3.heap.size + 1) n [] := by
    refine ⟨.map [], ?_, IdxMapY.none n⟩
    have := World.ownsMap_made (w3.alloc (.cells #[.slice a3 n c3] 25)) Try.prog 9 (plainElem (H := Unit) Try.prog 3)
    rw [World.size_alloc] at this
    exact this
  have hT6 := hT5.kept hg6 (by simp)
  obtain ⟨w7, hrun, hT7, hg7⟩ := put_y hT6 h65 (by decide) (fun x hx => by cases hx) g (by simp) s hs
  have hz := hK.size
  have hb36 : ∀ {k : Nat} {c : Array Value} {e : TypeId}, wr.heap[k]? = some (.cells c e (0, 0)) → w7.heap[k]? = some (.cells c e (0, 0)) := fun {k c e} h1 => by
    have h2 := blk_kept h1 (gb_trans hg3 h36 (Or.inl rfl)) (by simp)
    exact blk_kept h2 hg7 (fun e => hT6.ne h2 (Option.some.inj e).symm)
  exact ⟨w7, hrun, ⟨gb_trans (gb_trans hK h36 (Or.inl rfl)) hg7 (Or.inr (Or.inr ⟨_, rfl, by omega⟩)), hb36 hbx, hb36 hbd, hr6.kept hg7 (Or.inr (fun e => hT6.off hr6 e.symm)), hx6.kept hg7 (Or.inr (fun e => hT6.off hx6 e.symm)), hT7, hz⟩⟩

set_option maxHeartbeats 8000000 in
theorem rbld_yes (vp vi ve vf v : Value) (a : Aut) (n : Nat) (hn : a.n = (n : Int)) (h14 : n ≤ 14) (V : List Nat) (most : Int) (hm : -9223372036854775808 ≤ most ∧ most ≤ 9223372036854775807) (w : World) (h : AutAt w vp vi ve vf a) (hv : BoolsAt w v (yesL n V n)) (hok : chkA a = 0) :
    Calls Try.prog 28 #[autV vp vi ve vf a.n, v, .int .i64 most] w (Bld w a n V most) := by
  have HA := Lib.hid h
  have HV := Lib.hid hv
  have hp8 := (chkA_zero hok).1
  have h65 : n ≤ 65536 := by clear hp8 hm; omega
  obtain ⟨ib, hib, hb0, hb1, hb2⟩ := info_parts Try.info4
  have HIn := Lib.hid (aut_ranges hn hok).1
  obtain ⟨av, cv, ev, -⟩ := hv
  rw [yesL_len] at ev
  subst ev
  obtain ⟨ap, cp, rfl, -⟩ := h.p
  obtain ⟨ai, ci, rfl, -⟩ := h.i
  obtain ⟨ae, ce, rfl, -⟩ := h.e
  obtain ⟨af, cf, rfl, -⟩ := h.f
  clear h
  have HC : Hid (∀ wx, w.grownBy wx none → Calls Try.prog 21 #[autV (.slice ap a.P.length cp) (.slice ai a.I.length ci) (.slice ae a.E.length ce) (.slice af a.F.length cf) (n : Int)] wx fun e w' => e = .returned (.int .i64 0) ∧ wx.grownBy w' none) := Lib.hid fun wx hx => by
    have := refcheck10 _ _ _ _ a wx (HA.out.kept hx)
    rw [hok, hn] at this
    exact this
  have HST : Hid (∀ (wx : World) (u : Value) (L : List Nat) (l Z : Nat), l ≤ 65535 → w.grownBy wx none → wx.ownsRow Z 4 1 u n ((yesL n L n).map tv01) → Calls Try.prog 66 #[autV (.slice ap a.P.length cp) (.slice ai a.I.length ci) (.slice ae a.E.length ce) (.slice af a.F.length cf) (n : Int), u, .int .u16 (l : Int)] wx fun e w' => ∃ x, e = .returned x ∧ w'.ownsRow wx.heap.size 4 1 x n ((yesL n (stepF n a.E L l) n).map tv01) ∧ wx.grownBy w' none) := Lib.hid fun wx u L l Z hl hx hu => by
    have := ystep_any hn h65 hl (HA.out.kept hx) hu hok
    rw [hn] at this
    exact this
  rw [hn]
  clear hn hok
  have hga := World.grownBy_alloc w (.cells #[.slice ap a.P.length cp, .int .i64 (n : Int), .slice ai a.I.length ci, .slice ae a.E.length ce, .slice af a.F.length cf] 47) none
  have hba := heap_alloc_new w (.cells #[.slice ap a.P.length cp, .int .i64 (n : Int), .slice ai a.I.length ci, .slice ae a.E.length ce, .slice af a.F.length cf] 47)
  have hgb := World.grownBy_alloc (w.alloc (.cells #[.slice ap a.P.length cp, .int .i64 (n : Int), .slice ai a.I.length ci, .slice ae a.E.length ce, .slice af a.F.length cf] 47)) (.cells #[.slice none 0 0, .slice none 0 0, .slice none 0 0] 27) none
  have hbd := heap_alloc_new (w.alloc (.cells #[.slice ap a.P.length cp, .int .i64 (n : Int), .slice ai a.I.length ci, .slice ae a.E.length ce, .slice af a.F.length cf] 47)) (.cells #[.slice none 0 0, .slice none 0 0, .slice none 0 0] 27)
  have hbx := hgb.block w.heap.size (by simp [World.size_alloc]) (by simp) |>.trans hba
  rw [World.size_alloc] at hbd
  unfold autV at HC HST ⊢
  go_enter Try.func28, Try.ntmps28
  go_wp2_with fail
  have HBX := Lib.hid hbx
  have HBD := Lib.hid hbd
  have HGD := Lib.hid (gb_trans hga hgb (Or.inl rfl))
  clear hga hgb hba hbx hbd
  generalize ((w.alloc (.cells #[.slice ap a.P.length cp, .int .i64 (n : Int), .slice ai a.I.length ci, .slice ae a.E.length ce, .slice af a.F.length cf] 47)).alloc (.cells #[.slice none 0 0, .slice none 0 0, .slice none 0 0] 27)) = w0 at HGD HBX HBD ⊢
  refine (HC.out _ HGD.out).mono ?_
  rintro e w1 ⟨rfl, hg1⟩
  have hbx1 := blk_kept HBX.out hg1 (by simp)
  have hbd1 := blk_kept HBD.out hg1 (by simp)
  obtain ⟨b0, b1, b2, b3, b4⟩ := buchi_cells hbx1
  have HK1 := Lib.hid (gb_trans HGD.out hg1 (Or.inl rfl))
  have HBX1 := Lib.hid hbx1
  have HBD1 := Lib.hid hbd1
  have hne : ((n : Int) != (n : Int)) = false := by simp
  clear hbx1 hbd1 hg1 HBX HBD HGD HC
  go_wp2_with (at_make; refine wpList_make_full _ rfl _ _ 25 rfl w1.heap.size 4 ib (.bool false) 1 Try.underlying25 hib hb0 hb1 .i64 .i64 _ _ n rfl rfl (by omega) (by omega) (by rw [hb2]; omega) (by unfold maxLen; omega) (Nat.le_refl _) ?_; intro w2 hown2 hg2)
  rw [Nat.mul_one, show (Value.bool false).cells = #[Value.bool false] from rfl, toList_madeCells_one] at hown2
  have HO2 : Hid (w2.ownsRow w1.heap.size 4 1 (.slice (some ⟨w1.heap.size, 0, none⟩) n n) n ((yesL n (ofL n (a.I.take 0)) n).map tv01)) := Lib.hid (by
    rw [List.take_zero, show ofL n [] = List.replicate ((n + 63) / 64) 0 from rfl, ← yes_none, List.map_replicate]
    exact hown2)
  have HG2 := Lib.hid hg2
  clear hown2 hg2 hne b0 b1 b2 b3 b4
  go_loopw [9] (fun i wr => ∃ k : Nat, k ≤ a.I.length ∧ i = .int .i64 (k : Int) ∧ Hid (wr.ownsRow w1.heap.size 4 1 (.slice (some ⟨w1.heap.size, 0, none⟩) n n) n ((yesL n (ofL n (a.I.take k)) n).map tv01)) ∧ Hid (w1.grownBy wr none)) (fun i _ => a.I.length - (intOf i).toNat)
  case atStart => exact ⟨0, Nat.zero_le _, rfl, HO2, HG2⟩
  case round =>
    obtain ⟨k, hk, rfl, HO, HG⟩ := hrel
    obtain ⟨b0, b1, b2, b3, b4⟩ := buchi_cells (blk_kept HBX1.out HG.out (by simp))
    by_cases hlt : k < a.I.length
    · have hkI : (k : Int) < (a.I.length : Int) := by omega
      obtain ⟨_, _, e1, _, _, hc⟩ := HA.out.i.kept (gb_trans HK1.out HG.out (Or.inl rfl))
      cases e1
      rcases hc with hc | ⟨b, off, rfl, hc⟩
      · rw [hc] at hlt; exact absurd hlt (by simp)
      have hck := hc k hlt
      have hx := HIn.out k hlt
      have HT := Lib.hid (of_take n a.I k hlt)
      have HGd := Lib.hid (good_of (n := n) h65 (a.I.take k))
      clear hc
      generalize a.I.getD k 0 = x at hck hx HT
      obtain ⟨xn, rfl⟩ : ∃ xn : Nat, x = (xn : Int) := ⟨x.toNat, (Int.toNat_of_nonneg hx.1).symm⟩
      have hxn : xn < n := by omega
      have hol := HO.out
      have hl2 : ((yesL n (ofL n (a.I.take k)) n).map tv01).length = n := by rw [List.length_map, yesL_len]
      obtain ⟨u0, hu0⟩ : ∃ u, wr.cell? ⟨w1.heap.size, xn, none⟩ = some u := ⟨_, (hol.cellAt xn (by omega)).trans (List.getElem?_eq_getElem (by omega))⟩
      have hf0 := hol.frozenAt xn
      have hst := hol.stored xn (.bool true)
      rw [show ((yesL n (ofL n (a.I.take k)) n).map tv01).set xn (.bool true) = (yesL n (ofL n (a.I.take (k + 1))) n).map tv01 from by rw [HT.out, ← yes_put HGd.out hxn, List.map_set]; rfl] at hst
      have HSt := Lib.hid hst
      clear hst hol hl2
      go_wp2_with fail
      exact ⟨⟨k + 1, by omega, by go_num, Lib.hid HSt.out.1, Lib.hid (gb_trans HG.out HSt.out.2 (Or.inr (Or.inr ⟨_, rfl, Nat.le_refl _⟩)))⟩, by simp [intOf]; omega⟩
    · obtain rfl : k = a.I.length := by omega
      have hkI : ¬ (a.I.length : Int) < (a.I.length : Int) := by omega
      have hO := HO.out
      rw [List.take_length] at hO
      have HF := Lib.hid hO
      have HKr := Lib.hid (gb_trans HK1.out HG.out (Or.inl rfl))
      have hbx := blk_kept HBX1.out HG.out (by simp)
      have hbd := blk_kept HBD1.out HG.out (by simp)
      have HBX := Lib.hid hbx
      have HBD := Lib.hid hbd
      clear hO HO HG HO2 HG2 hbx hbd HBX1 HBD1 HIn
      have hmm := @run_makeMap Try.prog
      obtain ⟨s0, Hs0⟩ : ∃ s, Hid (textS (yesL n (firstF a n V) n) = s) := ⟨_, rfl⟩
      have HGf := Lib.hid (good_first (a := a) h65 V)
      go_wp2_with (first
        | (go_at_call 64; refine (ywith_any h65 HF.out (HV.out.kept HKr.out)).mono ?_; rintro e w3 ⟨x3, rfl, hx3, hg3⟩; have hx3' := own_base hx3 HKr.out.size; obtain ⟨a3, c3, rfl⟩ := own_val hx3; have HK3 := Lib.hid (gb_trans HKr.out hg3 (Or.inl rfl)); have HX3 := Lib.hid hx3'; have HG3 := Lib.hid hg3; clear hx3 hx3' hg3)
        | (go_at_call 65; refine (ytext_any h65 ((HX3.out.alloc _).alloc _) s0 Hs0.out).mono ?_; rintro e w6 ⟨rfl, hg6⟩; obtain ⟨w7, hrun, HS7⟩ := start_tab (n := n) HK3.out HX3.out HG3.out HBX.out HBD.out h65 HGf.out s0 Hs0.out hg6; have b0 := (buchi_cells (blk_kept HS7.out.2.1 (World.grownBy_alloc w7 (.cells #[.slice none 0 0, .slice none 0 0, .slice none 0 0] 27) none) (by simp))).1)
        | (at_builtin; refine texts_append rfl (.tmp 58) (.tmp 60) rfl rfl _ a.P rfl (HA.out.p.kept (gb_trans HS7.out.1 (World.grownBy_alloc _ _ none) (Or.inl rfl))) (by omega) ?_; intro v8 w8 ho8 hg8; obtain ⟨a8, c8, rfl⟩ := own_val ho8; obtain ⟨hR8, hT8, hG8, hc8, hf8⟩ := rf_start HS7.out.2.1 HS7.out.2.2.1 HS7.out.2.2.2.1 HS7.out.2.2.2.2.1 HS7.out.2.2.2.2.2.1 HS7.out.1.size hg8 ho8; have HR8 := Lib.hid hR8; have HT8 := Lib.hid hT8; have HG8 := Lib.hid (gb_trans HS7.out.1 hG8 (Or.inl rfl)); unfold nilS at hc8; clear hR8 hT8 hG8))
      generalize HW9 : w8.setCell ⟨w7.heap.size, 0, none⟩ (.slice a8 a.P.length c8) = w9 at HR8 HT8 HG8 ⊢
      clear HW9 hc8 hf8 ho8 hg8
      have e0 : [andL (ofL n a.I) V] = growB a n V 0 := rfl
      rw [e0] at HR8 HT8
      have HI8 : Hid (BIv w a n V _ w7.heap.size (w3.heap.size + 1) _ 0 _ _ nilS nilS [] w9) := Lib.hid ⟨HR8.out, HT8.out, by have := HS7.out.2.2.2.2.2.2; omega, HG8.out, Nat.zero_le _⟩
      generalize w7.heap.size = bd at HI8 ⊢
      generalize w3.heap.size + 1 = mb at HI8 ⊢
      clear HR8 HT8 HG8 HF HKr HBX HBD e0 HK1
      go_wp2_with fail
      go_loopg [10, 13] (2 ^ n) (fun gk r i wr => ∃ (k : Nat) (vt : Value) (ts : List Value) (vn vl : Value) (us : List Value), k + gk = 2 ^ n ∧ vt = r ∧ i = .int .i64 (k : Int) ∧
        Hid (BIv w a n V #[.slice ap a.P.length cp, .int .i64 (n : Int), .slice ai a.I.length ci, .slice ae a.E.length ce, .slice af a.F.length cf] bd mb (.slice a8 a.P.length c8) k vt ts vn vl us wr))
      case atStart => exact ⟨0, _, _, _, _, [], by omega, rfl, rfl, HI8⟩
      case round =>
        obtain ⟨k, vt, ts, vn, vl, us, hkg, rfl, rfl, HI⟩ := hrel
        have hfew := growB_le (a := a) (V := V) (n := n) (by omega) k
        have h16 := pow14 h14
        obtain ⟨at0, ct0, rfl⟩ := own_val HI.out.bld.row
        obtain ⟨z0, z1, z2, zf⟩ := dfa_cells HI.out.bld.zero
        have f0 := zf 0
        have f1 := zf 1
        have f2 := zf 2
        clear zf
        by_cases hlt : k < (growB a n V k).length
        case neg =>
          obtain ⟨hall, hbt⟩ := HI.out.whole h14 hlt
          have HBT := Lib.hid hbt
          have hltI : ¬ (k : Int) < ((growB a n V k).length : Int) := by omega
          by_cases hmo : most < ((growB a n V k).length : Int)
          · have hOv := Lib.hid (HI.out.over h14 hmo)
            clear hall hbt HBT
            go_wp2_with fail
            try rw [Exit.noGoto_ret]
            obtain ⟨hs3, hg3, _⟩ := HI.out.fin rfl
            exact bodyPost_ret (results_dfa rfl _ _ (w.heap.size + 1) _ rfl hs3 rfl) rfl ⟨hg3, Or.inl ⟨hOv.out, rfl⟩⟩
          · obtain ⟨d0, d1, d2, _⟩ := dfa_cells HI.out.bld.dfa
            have hOv := Lib.hid (show ((allB a n V).length : Int) ≤ most by rw [← hall]; omega)
            obtain ⟨an, cn, rfl⟩ := own_val HI.out.bld.out.n
            obtain ⟨al, cl, rfl⟩ := own_val HI.out.bld.out.b
            clear hall hbt
            go_wp2_with fail
            try rw [Exit.noGoto_ret]
            obtain ⟨hs3, hg3, hg4⟩ := HI.out.fin rfl
            exact bodyPost_ret (results_dfa rfl _ _ (w.heap.size + 1) _ rfl hs3 rfl) rfl ⟨hg3, Or.inr ⟨hOv.out, _, _, _, us, rfl, HBT.out.zero hg4 HI.out.bld.zero⟩⟩
        by_cases hmo : most < ((growB a n V k).length : Int)
        · have hOv := Lib.hid (HI.out.over h14 hmo)
          have hltI : (k : Int) < ((growB a n V k).length : Int) := by omega
          go_wp2_with fail
          try rw [Exit.noGoto_ret]
          obtain ⟨hs3, hg3, _⟩ := HI.out.fin rfl
          exact bodyPost_ret (results_dfa rfl _ _ (w.heap.size + 1) _ rfl hs3 rfl) rfl ⟨hg3, Or.inl ⟨hOv.out, rfl⟩⟩
        have hltI : (k : Int) < ((growB a n V k).length : Int) := by omega
        have HLI : Hid (LIv w a n V #[.slice ap a.P.length cp, .int .i64 (n : Int), .slice ai a.I.length ci, .slice ae a.E.length ce, .slice af a.F.length cf] bd mb (.slice a8 a.P.length c8) k 0 0 (.slice at0 (growB a n V k).length ct0) ts vn vl us (.slice none 0 0) wr) := Lib.hid (HI.out.start hlt)
        obtain ⟨mm, HMM⟩ : ∃ mm : Nat, Hid (2 ^ a.P.length = mm) := ⟨_, rfl⟩
        have hmm1 : 1 ≤ mm ∧ mm ≤ 256 := by rw [← HMM.out]; exact ⟨Nat.one_le_two_pow, pow_le hp8⟩
        have hpw : wrap64 ((2 : Int) ^ a.P.length) = (mm : Int) := by rw [← HMM.out]; exact wrap_pow _ hp8
        have HLt := Lib.hid hlt
        clear z0 z1 z2 f0 f1 f2
        go_wp2_with fail
        obtain ⟨wo, rfl⟩ : ∃ wo : World, wo = wr := ⟨_, rfl⟩
        obtain ⟨go, rfl⟩ : ∃ go : Nat, go = gk := ⟨_, rfl⟩
        obtain ⟨i0, hi, hz0, hz1, hz2⟩ := info_parts Try.info3
        obtain ⟨i3, hi3, hv0, hv1, hv2⟩ := info_parts Try.info25
        go_loopg [10, 14, 15] mm (fun gk r nx c wx => ∃ (l : Nat) (vt : Value) (ts : List Value) (vr : Value), l + gk = mm ∧ vt = r ∧ vr = nx ∧ c = .int .i64 (l : Int) ∧
          Hid (LIv w a n V #[.slice ap a.P.length cp, .int .i64 (n : Int), .slice ai a.I.length ci, .slice ae a.E.length ce, .slice af a.F.length cf] bd mb (.slice a8 a.P.length c8) k l l vt ts vn vl us vr wx))
        case atStart => exact ⟨0, _, ts, _, by omega, rfl, rfl, rfl, HLI⟩
        case round =>
          obtain ⟨l, vt, ts, vr, hlg, rfl, rfl, rfl, HI⟩ := hrel
          have hfewL : (growL a n V k l).length ≤ 16384 := Nat.le_trans (growL_le (a := a) (V := V) (n := n) (Nat.le_trans h14 (by decide)) k l) h16
          obtain ⟨b0, b1, b2, b3, b4⟩ := HI.out.bld.cellsA
          by_cases hl : l < mm
          · have hlI : (l : Int) < (mm : Int) := Int.ofNat_lt.2 hl
            have HLl : Hid (l < 2 ^ a.P.length) := Lib.hid (by rw [HMM.out]; exact hl)
            obtain ⟨gt, ct, rfl, hck, hu, hkl⟩ := HI.out.from_
            obtain ⟨u, HU⟩ : ∃ u, Hid (ts.getD k default = u) := ⟨_, rfl⟩
            rw [HU.out] at hck hu
            obtain ⟨au, cu, rfl⟩ := own_val hu
            have hklI : (k : Int) < ((growL a n V k l).length : Int) := by omega
            obtain ⟨Lk, HLk⟩ : ∃ L, Hid ((growB a n V k).getD k [] = L) := ⟨_, rfl⟩
            rw [HLk.out] at hu
            have HUo := Lib.hid hu
            clear hu
            go_wp2_with fail
            have hl16 : l ≤ 65535 := Nat.le_trans (Nat.le_of_lt hl) (Nat.le_trans hmm1.2 (by decide))
            have hw16 : IntKind.u16.wrap (l : Int) = (l : Int) := wrap16_l hl16
            have HSt := Lib.hid (HST.out wr.drew (.slice au n cu) Lk l w.heap.size hl16 (gb_trans HI.out.grown (gb_drew wr none) (Or.inl rfl)) HUo.out.drew)
            have HWt : Hid (∀ (x1 : World) (u : Value), wr.drew.grownBy x1 none → x1.ownsRow wr.drew.heap.size 4 1 u n ((yesL n (stepF n a.E Lk l) n).map tv01) → Calls Try.prog 64 #[u, .slice av n cv] x1 fun e w' => ∃ x, e = .returned x ∧ w'.ownsRow x1.heap.size 4 1 x n ((yesL n (andL (stepF n a.E Lk l) V) n).map tv01) ∧ x1.grownBy w' none) := Lib.hid fun x1 u hg hu => ywith_any h65 hu (HV.out.kept (gb_trans (gb_trans HI.out.grown (gb_drew wr none) (Or.inl rfl)) hg (Or.inl rfl)))
            go_region_law (first
              | (go_simp; go_at_call 66; refine HSt.out.mono ?_; rintro e x1 ⟨vx, rfl, hx1, hg1⟩; obtain ⟨ax, cx, rfl⟩ := own_val hx1)
              | (go_simp; go_at_call 64; refine (HWt.out _ _ hg1 hx1).mono ?_; rintro e x2 ⟨vy, rfl, hy2, hg2⟩; obtain ⟨ay, cy, rfl⟩ := own_val hy2))
            all_goals
              have hg12 := gb_trans (gb_trans (gb_drew wr none) hg1 (Or.inl rfl)) hg2 (Or.inl rfl)
              have HI2 := Lib.hid (HI.out.kept hg12)
              have HY2 := Lib.hid (own_base hy2 (show w.heap.size ≤ x1.heap.size from (gb_trans (gb_trans HI.out.grown (gb_drew wr none) (Or.inl rfl)) hg1 (Or.inl rfl)).size))
              have HSp : Hid (Sep (.slice ay n cy) vl) := Lib.hid fun b hb e => by
                have h1 := (hy2.lt b hb).1
                have h2 := (HI.out.bld.out.b.lt b e).2
                have h3 := (gb_trans (gb_drew wr none) hg1 (Or.inl rfl)).size
                omega
              obtain ⟨M, HM⟩ : ∃ M, Hid (M = andL (stepF n a.E Lk l) V) := ⟨_, Lib.hid rfl⟩
              rw [← HM.out] at HY2
              have HMt : Hid (M = transF a n V ((growB a n V k).getD k []) l) := Lib.hid (by rw [HM.out, HLk.out]; rfl)
              have HGM : Hid (Good n M) := Lib.hid (by rw [HMt.out]; exact good_trans h65 V _ l)
              have HIX := Lib.hid (idx_y h14 HI.out HLl.out)
              rw [← HMt.out] at HIX
              obtain ⟨s, Hs⟩ : ∃ s, Hid (textS (yesL n M n) = s) := ⟨_, rfl⟩
              clear HI hy2 hx1 hg1 hg2 hg12 HUo HSt HWt hck b0 b1 b2 b3 b4 hw16 HM HU HLk
              obtain ⟨ar, cr, rfl⟩ := own_val HI2.out.row
              go_wp2_with fail
              refine (ytext_any h65 HY2.out s Hs.out).mono ?_
              rintro e x3 ⟨rfl, hg3⟩
              have HI3 := Lib.hid (HI2.out.kept hg3)
              have HY3 := Lib.hid (HY2.out.kept hg3 (Classical.em _))
              obtain ⟨c, hrun, hc⟩ := look_y HI3.out.tab h65 HGM.out s Hs.out
              have hbs : w.heap.size ≤ x3.heap.size := HI3.out.grown.size
              clear HI2 HY2 hg3
              by_cases hmem : M ∈ growL a n V k l
              · rw [decide_eq_true hmem] at hrun
                obtain ⟨x0, HX0⟩ : ∃ x0 : Int, Hid (c = x0) := ⟨_, Lib.hid rfl⟩
                have HIX2 : Hid (x0 = (numsB a n V k).getD l 0) := Lib.hid (by rw [HIX.out, if_pos hmem, ← HX0.out, hc hmem])
                rw [HX0.out] at hrun
                have HOl := Lib.hid (HI3.out.old (HMt.out ▸ hmem))
                clear hc HX0
                go_wp2_with (at_builtin; refine wpList_append_lies _ rfl (.tmp 111) (.tmp 113) 43 rfl w.heap.size 3 i0 (.int .i64 0) 1 8 Try.underlying43 hi hz0 hz1 hz2 rfl (by decide) (.slice ar l cr) l _ rfl (HI3.out.row.alloc _) ⟨x3.heap.size, 0, none⟩ 1 1 [.int .i64 x0] rfl rfl (cell_one_new _ _ _) (by simp [Value.oneCell']) (by decide) (by unfold maxLen; omega) (by omega) (by rw [World.size_alloc]; omega) _ rfl ?_; intro g5 cap5 x5 hown5 hgr5 hat5 hlt5; have HN := Lib.hid (HOl.out.push HLl.out x0 HIX2.out rfl hown5 hgr5 hat5); clear hown5 hgr5 hat5 hlt5)
                go_roundg (gk - 1)
                case measure => exact gas_less hlg hl
                case rel => exact ⟨l + 1, _, ts, _, gas_step hlg hl, rfl, rfl, by go_num, HN⟩
              · rw [decide_eq_false hmem] at hrun
                have HIX2 : Hid (((growL a n V k l).length : Int) = (numsB a n V k).getD l 0) := Lib.hid (by rw [HIX.out, if_neg hmem])
                clear hc
                go_wp2_with fail
                refine (ytext_any h65 HY3.out s Hs.out).mono ?_
                rintro e x4 ⟨rfl, hg4⟩
                have HI4 := Lib.hid (HI3.out.kept hg4)
                have HY4 := Lib.hid (HY3.out.kept hg4 (Classical.em _))
                obtain ⟨x5, hrun5, hT5, hg5⟩ := put_y HI4.out.tab h65 (Nat.le_trans hfewL (by decide)) (growL_good h65 k l) HGM.out hmem s Hs.out
                obtain ⟨es4, cl4, hm4⟩ := HI4.out.tab.blk
                have HR5 := Lib.hid (HI4.out.bld.mapd hm4 hg5).row
                have HR6 := Lib.hid (HI4.out.row.kept hg5 (Or.inr (fun e => HI4.out.tab.off HI4.out.row e.symm)))
                have HTG := Lib.hid (And.intro hT5 hg5)
                have hbs5 : w.heap.size ≤ x5.heap.size := Nat.le_trans HI4.out.grown.size hg5.size
                clear hT5 hg5 hm4 hg4 HI3 HY3
                go_wp2_with (first
                  | (at_builtin; refine wpList_append_lies _ rfl (.tmp 107) (.tmp 109) 68 rfl w.heap.size 25 i3 (.slice none 0 0) 1 24 Try.underlying68 hi3 hv0 hv1 hv2 rfl (by decide) (.slice (some ⟨gt, 0, none⟩) (growL a n V k l).length ct) (growL a n V k l).length ts rfl (HR5.out.alloc _) ⟨x5.heap.size, 0, none⟩ 1 1 [.slice ay n cy] rfl rfl (cell_one_new _ _ _) (by simp [Value.oneCell']) (by decide) (by unfold maxLen; omega) (by omega) (by rw [World.size_alloc]; omega) _ rfl ?_; intro g6 cap6 x6 hown6 hgr6 hat6 hlt6; have HI6 := Lib.hid (HI4.out.new HY4.out HSp.out HMt.out hmem HTG.out.1 HTG.out.2 hown6 hgr6); have hbs6 : w.heap.size ≤ x6.heap.size := HI6.out.grown.size; clear hown6 hgr6 hat6 hlt6)
                  | (at_builtin; refine wpList_append_lies _ rfl (.tmp 111) (.tmp 113) 43 rfl w.heap.size 3 i0 (.int .i64 0) 1 8 Try.underlying43 hi hz0 hz1 hz2 rfl (by decide) (.slice ar l cr) l _ rfl (HI6.out.row.alloc _) ⟨x6.heap.size, 0, none⟩ 1 1 [.int .i64 ((growL a n V k l).length : Int)] rfl rfl (cell_one_new _ _ _) (by simp [Value.oneCell']) (by decide) (by unfold maxLen; omega) (by omega) (by rw [World.size_alloc]; omega) _ rfl ?_; intro g7 cap7 x7 hown7 hgr7 hat7 hlt7; have HN := Lib.hid (HI6.out.push HLl.out _ HIX2.out rfl hown7 hgr7 hat7); clear hown7 hgr7 hat7 hlt7))
                go_roundg (gk - 1)
                case measure => exact gas_less hlg hl
                case rel => exact ⟨l + 1, _, ts ++ [.slice ay n cy], _, gas_step hlg hl, rfl, rfl, by go_num, HN⟩
          · obtain rfl : mm = l := Nat.le_antisymm (Nat.le_of_not_lt hl) (Nat.le.intro hlg)
            clear hl
            obtain ⟨d0, d1, d2, dfz⟩ := dfa_cells HI.out.bld.dfa
            have df1 := dfz 1
            have HMr : Hid (LIv w a n V #[.slice ap a.P.length cp, .int .i64 (n : Int), .slice ai a.I.length ci, .slice ae a.E.length ce, .slice af a.F.length cf] bd mb (.slice a8 a.P.length c8) k (2 ^ a.P.length) (2 ^ a.P.length) vt ts vn vl us vr wr) := Lib.hid (by rw [HMM.out]; exact HI.out)
            obtain ⟨an, cn, rfl⟩ := own_val HI.out.bld.out.n
            obtain ⟨al, cl, rfl⟩ := own_val HI.out.bld.out.b
            obtain ⟨ar, cr, rfl⟩ := own_val HI.out.row
            have hbs : w.heap.size ≤ wr.heap.size := HI.out.grown.size
            obtain ⟨i1, hi1, hy0, hy1, hy2⟩ := info_parts Try.info43
            obtain ⟨i2, hi2, hx0, hx1, hx2⟩ := info_parts Try.info4
            rw [outR_len] at d1
            have hob : (outB a n V k).length = k := outB_len a n V k (Nat.le_trans (Nat.le_of_lt HI.out.lt) (growB_all (Nat.le_trans h14 (by decide)) k).length_le)
            rw [hob] at d2
            have hkI : k ≤ 16384 := Nat.le_trans (Nat.le_of_lt HLt.out) (Nat.le_trans hfew h16)
            rw [hob, outR_len] at HMr
            have HOR := Lib.hid (show wr.ownsRow w.heap.size 43 1 (.slice an k cn) k us by have := HI.out.bld.out.n; rw [outR_len] at this; exact this)
            have hgk : k + go = 2 ^ n ∧ k < 2 ^ n := ⟨hkg, Nat.lt_of_lt_of_le HLt.out hfew⟩
            clear hob dfz HI HI8
            go_wp2_with (at_builtin; refine wpList_append_lies _ rfl (.tmp 116) (.tmp 118) 24 rfl w.heap.size 43 i1 (.slice none 0 0) 1 24 Try.underlying24 hi1 hy0 hy1 hy2 rfl (by decide) (.slice an k cn) k us rfl (HOR.out.alloc _) ⟨wr.heap.size, 0, none⟩ 1 1 [.slice ar mm cr] rfl rfl (cell_one_new _ _ _) (by simp [Value.oneCell']) (by decide) (by unfold maxLen; omega) (by omega) (by rw [World.size_alloc]; omega) _ rfl ?_; intro g5 cap5 y2 hown5 hgr5 hat5 hlt5; obtain ⟨hN1, c5, f5⟩ := HMr.out.put hown5 hgr5; have HN1 := Lib.hid hN1; clear hN1)
            generalize y2.setCell ⟨bd, 1, none⟩ (.slice (some ⟨g5, 0, none⟩) (k + 1) cap5) = y3 at HN1 ⊢
            clear c5 f5 hown5 hgr5 hat5 hlt5 HMr HOR d0 d1 d2 df1 b0 b1 b2 b3 b4
            obtain ⟨gt, ct, rfl, hck, hu, hkl⟩ := HN1.out.from_
            obtain ⟨u, HU⟩ : ∃ u, Hid (ts.getD k default = u) := ⟨_, rfl⟩
            rw [HU.out] at hck hu
            obtain ⟨au, cu, rfl⟩ := own_val hu
            have hklI : (k : Int) < ((growB a n V (k + 1)).length : Int) := Int.ofNat_lt.2 hkl
            have hfew2 : (growB a n V (k + 1)).length ≤ 16384 := Nat.le_trans (growB_le (a := a) (V := V) (n := n) (Nat.le_trans h14 (by decide)) (k + 1)) h16
            have hgd : Good n ((growB a n V k).getD k []) := growB_good h65 k _ (by
              rw [List.getD_eq_getElem?_getD, List.getElem?_eq_getElem HN1.out.lt]
              exact List.getElem_mem _)
            have HSm0 := ysome_any hgd hu.drew
            obtain ⟨om, HOM⟩ : ∃ om, Hid (ones ((growB a n V k).getD k []) = om) := ⟨_, rfl⟩
            rw [HOM.out] at HSm0
            have HSm := Lib.hid HSm0
            clear hgd hu HSm0 HU
            obtain ⟨d0, d1, d2, dfz⟩ := dfa_cells HN1.out.bld.dfa
            have HOB := Lib.hid (show y3.drew.ownsRow w.heap.size 4 1 (.slice al k cl) k ((outB a n V k).map tv01) by
              have h1 := HN1.out.bld.out.b
              have h2 := h1.1
              have h3 : (outB a n V k).length = k := outB_len a n V k (Nat.le_trans (Nat.le_of_lt HN1.out.lt) (growB_all (Nat.le_trans h14 (by decide)) k).length_le)
              rw [h3] at h1
              exact h1.drew)
            have hbs3 : w.heap.size ≤ y3.heap.size := HN1.out.grown.size
            clear dfz
            have hca : (y3.alloc (.cells #[.bool (decide (0 < om))] 4)).cell? ⟨bd, 2, none⟩ = some (.slice al k cl) := (World.grownBy_alloc y3 _ none).cell d2 (by simp)
            go_region_law (first
              | (go_simp; go_at_call 67; refine HSm.out.mono ?_; rintro e w7 ⟨rfl, rfl⟩)
              | (refine step_append_lies _ (by rfl) (.tmp 122) (.tmp 128) 25 (by rfl) w.heap.size 4 i2 (.bool false) 1 1 Try.underlying25 hi2 hx0 hx1 hx2 rfl (by decide) (.slice al k cl) k _ (by rfl) (HOB.out.alloc _) ⟨y3.heap.size, 0, none⟩ 1 1 [.bool (decide (0 < om))] (by rfl) (by rfl) (cell_one_new _ _ _) (by simp [Value.oneCell']) (by decide) (by unfold maxLen; omega) (by omega) (by show w.heap.size ≤ (y3.alloc _).heap.size; rw [World.size_alloc]; omega) _ rfl ?_; intro g6 cap6 y4 hown6 hgr6 hat6 hlt6; obtain ⟨hN2, c6, f6⟩ := HN1.out.put h14 (by rw [HOM.out, decide_eq_true_iff]) hown6 hgr6 hat6; have HN2 := Lib.hid hN2; clear hN2))
            all_goals
              generalize y4.setCell ⟨bd, 2, none⟩ (.slice (some ⟨g6, 0, none⟩) (k + 1) cap6) = y5 at HN2 ⊢
              clear c6 f6 hown6 hgr6 hat6 hlt6 HN1 HOB HSm d0 d1 d2 hca
              go_wp2_with fail
              go_roundg (go - 1)
              case measure => exact gas_less hgk.1 hgk.2
              case rel => exact ⟨k + 1, _, ts, _, _, _, gas_step hgk.1 hgk.2, rfl, by go_num, HN2⟩
end Go.Proofs.Ytcdepblajobemaa
namespace Go.Proofs.Ytcdepblajobemaa
open Go.RowKit

theorem chk_two (a : Aut) : chkA a = 0 ∨ chkA a = 100 := by
  unfold chkA chkG
  split
  · exact Or.inl rfl
  · exact Or.inr rfl
set_option maxHeartbeats 2000000 in
theorem rbld_no (vp vi ve vf v : Value) (a : Aut) (most : Int) (w : World) (h : AutAt w vp vi ve vf a) (B : List Bool) (hv : BoolsAt w v B) (hbad : chkA a ≠ 0) :
    Calls Try.prog 28 #[autV vp vi ve vf a.n, v, .int .i64 most] w fun e w' => e = .returned (.tuple #[.agg #[.slice none 0 0, .slice none 0 0, .slice none 0 0], .int .i64 130]) ∧ w.grownBy w' none := by
  have HA := Lib.hid h
  have h100 : chkA a = 100 := (chk_two a).resolve_left hbad
  obtain ⟨av, cv, rfl, -⟩ := hv
  obtain ⟨ap, cp, rfl, -⟩ := h.p
  obtain ⟨ai, ci, rfl, -⟩ := h.i
  obtain ⟨ae, ce, rfl, -⟩ := h.e
  obtain ⟨af, cf, rfl, -⟩ := h.f
  clear h
  have HC : Hid (∀ wx, w.grownBy wx none → Calls Try.prog 21 #[autV (.slice ap a.P.length cp) (.slice ai a.I.length ci) (.slice ae a.E.length ce) (.slice af a.F.length cf) a.n] wx fun e w' => e = .returned (.int .i64 100) ∧ wx.grownBy w' none) := Lib.hid fun wx hx => by
    have := refcheck10 _ _ _ _ a wx (HA.out.kept hx)
    rw [h100] at this
    exact this
  clear h100 hbad
  have hga := World.grownBy_alloc w (.cells #[.slice ap a.P.length cp, .int .i64 a.n, .slice ai a.I.length ci, .slice ae a.E.length ce, .slice af a.F.length cf] 47) none
  have hgb := World.grownBy_alloc (w.alloc (.cells #[.slice ap a.P.length cp, .int .i64 a.n, .slice ai a.I.length ci, .slice ae a.E.length ce, .slice af a.F.length cf] 47)) (.cells #[.slice none 0 0, .slice none 0 0, .slice none 0 0] 27) none
  have hbd := heap_alloc_new (w.alloc (.cells #[.slice ap a.P.length cp, .int .i64 a.n, .slice ai a.I.length ci, .slice ae a.E.length ce, .slice af a.F.length cf] 47)) (.cells #[.slice none 0 0, .slice none 0 0, .slice none 0 0] 27)
  rw [World.size_alloc] at hbd
  unfold autV at HC ⊢
  go_enter Try.func28, Try.ntmps28
  go_wp2_with fail
  have HBD := Lib.hid hbd
  have HGD := Lib.hid (gb_trans hga hgb (Or.inl rfl))
  clear hga hgb hbd
  generalize ((w.alloc (.cells #[.slice ap a.P.length cp, .int .i64 a.n, .slice ai a.I.length ci, .slice ae a.E.length ce, .slice af a.F.length cf] 47)).alloc (.cells #[.slice none 0 0, .slice none 0 0, .slice none 0 0] 27)) = w0 at HGD HBD ⊢
  refine (HC.out _ HGD.out).mono ?_
  rintro e w1 ⟨rfl, hg1⟩
  have hbd1 := blk_kept HBD.out hg1 (by simp)
  obtain ⟨z0, z1, z2, zf⟩ := dfa_cells hbd1
  have f0 := zf 0
  have f1 := zf 1
  have f2 := zf 2
  have HB1 := Lib.hid hbd1
  have HK1 := Lib.hid (gb_trans HGD.out hg1 (Or.inl rfl))
  clear zf hbd1 hg1 HC HBD
  go_wp2_with fail
  try rw [Exit.noGoto_ret]
  obtain ⟨h1, h2⟩ := set3 HB1.out (.slice none 0 0) (.slice none 0 0) (.slice none 0 0)
  exact bodyPost_ret (results_dfa rfl _ _ (w.heap.size + 1) _ rfl h1 rfl) rfl ⟨rfl, gb_trans HK1.out h2 (Or.inr (Or.inr ⟨_, rfl, Nat.le_succ _⟩))⟩
end Go.Proofs.Ytcdepblajobemaa
