/- Runner: the letters' iterator of the law: its contract; what rounds keep. -/
import Derived.Test.YtpehmlkikhkmfaaRunTick
import Derived.Test.YtpehmlkikhkmfaaRunMoore
import Derived.Test.YtpehmlkikhkmfaaRunLive
import Derived.Shelf.Abstract
import Derived.Shelf.RegionOpen
import Derived.OwnWalkIn
import Derived.TacticsInMore
import Derived.LoopNIn
import Derived.LoopIn
namespace Go.Proofs.Ytpehmlkikhkmfaa
open Go.RowKit Go.Shelf
attribute [local go_sem] Oper.semAt_some

/-- What the letters' iterator does ahead of each round: it counts. -/
def Tick (Ba : Nat) (A B : World) : Prop := ∃ a : Int, Boxed A Ba 3 (.int .i64 a) ∧ B = A.setCell ⟨Ba, 0, none⟩ (.int .i64 (wrap64 (a + 1)))
/-- Letters that lie in memory apart from block Ba. -/
def LetsAt (w : World) (Bs : List Nat) (v : Value) (U : List Nat) : Prop :=
  ∃ a cap, v = .slice a U.length cap ∧ U.length ≤ 10000 ∧ (∀ k, k < U.length → U.getD k 0 ≤ 65535) ∧
    (U = [] ∨ ∃ b off, a = some ⟨b, off, none⟩ ∧ b ∉ Bs ∧ ∀ k, k < U.length → w.cell? ⟨b, off + k, none⟩ = some (.int .u16 (U.getD k 0 : Int)))
theorem LetsAt.keep {w w' : World} {Bs : List Nat} {v : Value} {U : List Nat} (h : LetsAt w Bs v U) (hk : KpL Bs w w') : LetsAt w' Bs v U := by
  obtain ⟨a, cap, rfl, h1, h2, h3⟩ := h
  refine ⟨a, cap, rfl, h1, h2, ?_⟩
  rcases h3 with h3 | ⟨b, off, rfl, hn, h3⟩
  · exact Or.inl h3
  · exact Or.inr ⟨b, off, rfl, hn, fun k hk2 => hk.cell (h3 k hk2) hn⟩

theorem take_next {U : List Nat} {k : Nat} (h : k < U.length) : U.take (k + 1) = U.take k ++ [U.getD k 0] := by
  rw [List.take_succ_eq_append_getElem h, List.getD_eq_getElem?_getD, List.getElem?_eq_getElem h]; rfl
/-- A letter, as it is handed over. -/
def letV (x : Nat) : Value := .int .u16 ((x % 65536 : Nat) : Int)
set_option maxRecDepth 100000 in
set_option maxHeartbeats 4000000 in
theorem lets_in (m : Nat) (hm : 1 ≤ m) (l Bu Ba : Nat) (Bs : List Nat) (vu : Value) (U : List Nat) (J J1 Jx : List Nat → World → Prop)
    (hT : ∀ pre A B, J pre A → Tick Ba A B → J1 pre B)
    (hY : ∀ pre x W, J1 pre W → pre.length < U.length → YieldAt Fence.wide (m - 1) Try.prog l #[letV x] W fun e W' =>
      (e = .returned (.bool true) ∧ J (pre ++ [x]) W' ∧ KpL Bs W W') ∨ (e = .returned (.bool false) ∧ Jx (pre ++ [x]) W' ∧ KpL Bs W W'))
    (W : World) (hU : LetsAt W (Ba :: Bs) vu U) (hu : Bu ∉ Bs) (hua : Bu ≠ Ba) (ha : Ba ∉ Bs) (hBu : Boxed W Bu 85 vu) (hBa : ∃ a : Int, Boxed W Ba 3 (.int .i64 a)) (h0 : J [] W) :
    CallsIn Fence.wide m Try.prog 33 #[.func (.yield l) #[] #[], .pointer (some ⟨Bu, 0, none⟩), .pointer (some ⟨Ba, 0, none⟩)] W fun e W' => (∃ v, e = .returned v) ∧
      ((∃ ys, ys = U ∧ J ys W') ∨ (∃ pre, pre <+: U ∧ Jx pre W')) := by
  have HY := Lib.hid hY
  have HT := Lib.hid hT
  obtain ⟨au, cu, rfl, hl, h16, -⟩ := id hU
  have HU := Lib.hid hU
  have HBu := Lib.hid hBu
  have HBa := Lib.hid hBa
  have HU16 := Lib.hid h16
  clear hY hT hU hBu hBa h16
  refine callsIn_of_wp Try.func33 rfl trivial ?_ rfl
  simp only [Try.ntmps33, List.size_toArray, List.length_cons, List.length_nil, Nat.reduceAdd, Nat.reduceSub, Array.replicate_succ, Array.replicate_zero, List.push_toArray, List.append_toArray, List.nil_append, List.cons_append]
  gi_wp2
  gi_loopw [4] (fun a wr => ∃ k : Nat, k ≤ U.length ∧ a = .int .i64 (k : Int) ∧ Hid (J (U.take k) wr) ∧ Hid (LetsAt wr (Ba :: Bs) (.slice au U.length cu) U) ∧ Hid (Boxed wr Bu 85 (.slice au U.length cu)) ∧ Hid (∃ a : Int, Boxed wr Ba 3 (.int .i64 a))) (fun a _ => U.length - (intOf a).toNat)
  case atStart => exact ⟨0, by omega, rfl, Lib.hid h0, HU, HBu, HBa⟩
  case round =>
    obtain ⟨k, hk, rfl, HJ, HL, HB, HA⟩ := hrel
    have hcu := HB.out.cell
    by_cases hlt : k < U.length
    · have hkI : (k : Int) < (U.length : Int) := by omega
      obtain ⟨a, hA⟩ := HA.out
      have hca := hA.cell
      have hfa := hA.frozen
      have hg1 : wr.grownBy (wr.setCell ⟨Ba, 0, none⟩ (.int .i64 (wrap64 (a + 1)))) (some Ba) := gb_set
      have hJ1 := HT.out _ _ _ HJ.out ⟨a, hA, rfl⟩
      have hB1 := HB.out.kept hg1 (by simpa using hua)
      have hcu1 := hB1.cell
      have hA1 := hA.set (.int .i64 (wrap64 (a + 1)))
      obtain ⟨a2, c2, e2, _, _, h3⟩ := HL.out
      cases e2
      rcases h3 with rfl | ⟨b, off, rfl, hbn, h3⟩
      · exact absurd hlt (by simp)
      have hc0 := h3 k hlt
      have hc1 := hg1.cell hc0 (by simp; intro e; exact hbn (by simp [e]))
      have hL1 : LetsAt (wr.setCell ⟨Ba, 0, none⟩ (.int .i64 (wrap64 (a + 1)))) (Ba :: Bs) (.slice (some ⟨b, off, none⟩) U.length cu) U := HL.out.keep (KpL.of_gb hg1 (fun r e => by cases e; simp))
      have hx := HU16.out k hlt
      have hxm : U.getD k 0 % 65536 = U.getD k 0 := Nat.mod_eq_of_lt (by omega)
      have htk := take_next hlt
      obtain ⟨fn, tmps, assign, body, hy, hR⟩ := HY.out _ (U.getD k 0) _ hJ1 (by rw [List.length_take]; omega)
      unfold letV at hy
      rw [hxm] at hy
      rw [← htk] at hR
      have HTk := Lib.hid htk
      have HL1 := Lib.hid hL1
      have HA1 := Lib.hid hA1
      have HB1 := Lib.hid hB1
      clear htk h3 hc0 hL1 hA1 hB1 hJ1 hg1 hA hxm
      generalize U.getD k 0 = x at hc1 hx hy
      gi_wp2
      refine hR.mono ?_
      rintro e W3 (⟨rfl, hJ3, hk3⟩ | ⟨rfl, hJx3, -⟩)
      · have HB3 := Lib.hid (hk3.boxed HB1.out hu)
        have HA3 : Hid (∃ a : Int, Boxed W3 Ba 3 (.int .i64 a)) := Lib.hid ⟨_, hk3.boxed HA1.out ha⟩
        have HL3 := Lib.hid (HL1.out.keep (hk3.mono (fun j hj => List.mem_cons_of_mem _ hj)))
        have HJ3 := Lib.hid hJ3
        clear hJ3 hk3 hR hy
        gi_wp2
        exact ⟨⟨k + 1, by omega, rfl, HJ3, HL3, HB3, HA3⟩, by simp [intOf]; omega⟩
      · gi_wp2
        refine bodyPost_ret (results_none rfl _ _ _) rfl ?_
        exact ⟨⟨_, rfl⟩, .inr ⟨_, List.take_prefix _ _, hJx3⟩⟩
    · obtain rfl : k = U.length := by omega
      have hkI : ¬ (U.length : Int) < (U.length : Int) := by omega
      have HJ2 := HJ.out
      rw [List.take_length] at HJ2
      gi_wp2
      go_end0
      exact ⟨⟨_, rfl⟩, .inl HJ2⟩
end Go.Proofs.Ytpehmlkikhkmfaa
