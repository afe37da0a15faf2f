/- Bits: All: its closure, as an iterator; All itself. -/
import Derived.Test.YtaagbdncfcdfcaaDoorBitsKnown
import Derived.Test.YtaagbdncfcdfcaaDoorBitsRise
import Derived.RangeFuncNested
import Derived.RangeFuncBound
import Derived.RangeFuncCalls
import Derived.RangeFuncLeaves
import Derived.Shelf.Abstract
import Derived.Shelf.RegionOpen
import Derived.OwnWalkIn
import Derived.TacticsInMore
import Derived.LoopNIn
import Derived.LoopIn
namespace Go.Proofs.YtaagbdncfcdfcaaDoor
open Go.RowKit Go.Shelf
attribute [local go_sem] Oper.semAt_some

theorem row_same {w w' : World} {Z e n : Nat} {v : Value} {xs : List Value} (h : w.ownsRow Z e 1 v n xs) (hb : ∀ k, v.ownBlock = some k → w'.heap[k]? = w.heap[k]?) : w'.ownsRow Z e 1 v n xs := by
  refine ⟨h.1, ?_⟩
  rcases h.2 with h2 | ⟨g, cap, cur, rfl, hz, hg, rest⟩
  · exact Or.inl h2
  · exact Or.inr ⟨g, cap, cur, rfl, hz, (hb g rfl).trans hg, rest⟩
theorem SetAt.same {w w' : World} {p g cap n : Nat} {L : List Nat} (h : SetAt w p g cap n L) (hp : w'.heap[p]? = w.heap[p]?) (hg : w'.heap[g]? = w.heap[g]?) : SetAt w' p g cap n L :=
  ⟨⟨hp.trans h.raw.blk, row_same h.raw.row (fun k hk => by cases hk; exact hg), h.raw.len, h.raw.max, h.raw.wd⟩, h.good⟩
theorem SetAt.below {w w' : World} {B p g cap n : Nat} {L : List Nat} (h : SetAt w p g cap n L) (hp : p < B) (hg : g < B) (hb : Below B w w') : SetAt w' p g cap n L := h.same (hb.block p hp) (hb.block g hg)
theorem TabAt.below {w w' : World} {B : Nat} (h : TabAt w) (hB : 0 < B) (hb : Below B w w') : TabAt w' := fun j hj => (hb.cell (p := ⟨0, j, none⟩) hB).trans (h j hj)
theorem first_core (p g cap n : Nat) (L : List Nat) (w : World) (h : SetAt w p g cap n L) (hT : TabAt w) :
    Calls Tryd.prog 35 #[.pointer (some ⟨p, 0, none⟩)] w fun e w' => (∃ r, e = .returned (.int .i64 r) ∧ AfterIs L (-1) r) ∧ w = w' := by
  have HA := Lib.hid (after_core (-1) p g cap n L w h hT (by omega) (by omega))
  clear h hT
  go_enter Tryd.func35, Tryd.ntmps35
  go_wp2_with (go_at_call 27; refine HA.out.mono ?_; rintro e w' ⟨⟨r, rfl, hr⟩, rfl⟩)
  go_ret
  exact ⟨⟨_, rfl, hr⟩, rfl⟩
/-- Where the walk over a set stands: what has come. -/
def AtI (n : Nat) (L : List Nat) (i : Int) (pre : List Nat) : Prop := (i = -1 ∧ pre = riseL n L) ∨ ∃ m : Nat, i = (m : Int) ∧ m < n ∧ bit L m = true ∧ pre = riseL m L
theorem atI_first {n : Nat} {L : List Nat} (g : Good n L) {r : Int} (h : AfterIs L (-1) r) : AtI n L r [] := by
  rcases h with ⟨rfl, h⟩ | ⟨m, rfl, _, h2, h3⟩
  · exact Or.inl ⟨rfl, ((rise_gap (Nat.zero_le n) fun j _ _ => h j (by omega)).trans rfl).symm⟩
  · refine Or.inr ⟨m, rfl, ?_, h2, ((rise_gap (Nat.zero_le m) fun j _ hj => h3 j (by omega) hj).trans rfl).symm⟩
    rcases Nat.lt_or_ge m n with h | h
    · exact h
    · rw [g.top m h] at h2; cases h2
theorem atI_next {n m : Nat} {L : List Nat} (g : Good n L) (hm : m < n) (hb : bit L m = true) {r : Int} (h : AfterIs L (m : Int) r) : AtI n L r (riseL m L ++ [m]) := by
  rw [← rise_hit hb]
  rcases h with ⟨rfl, h⟩ | ⟨k, rfl, h1, h2, h3⟩
  · exact Or.inl ⟨rfl, (rise_gap (show m + 1 ≤ n from hm) fun j h1 _ => h j (by omega)).symm⟩
  · refine Or.inr ⟨k, rfl, ?_, h2, (rise_gap (show m + 1 ≤ k by omega) fun j h4 hj => h3 j (by omega) hj).symm⟩
    rcases Nat.lt_or_ge k n with h | h
    · exact h
    · rw [g.top k h] at h2; cases h2

set_option maxRecDepth 100000 in
set_option maxHeartbeats 4000000 in
theorem all1_in (m : Nat) (hm : 1 ≤ m) (l Bt p g cap n n0 : Nat) (L : List Nat) (J Jx : List Nat → World → Prop)
    (hJ : ∀ pre W W', J pre W → W.grownBy W' none → J pre W')
    (hY : ∀ pre (x : Nat) W, J pre W → pre.length < (riseL n L).length → YieldAt Fence.wide (m - 1) Tryd.prog l #[.int .i64 (x : Int)] W fun e W' =>
      (e = .returned (.bool true) ∧ J (pre ++ [x]) W' ∧ Below n0 W W') ∨ (e = .returned (.bool false) ∧ Jx (pre ++ [x]) W'))
    (W : World) (hS : SetAt W p g cap n L) (hT : TabAt W) (hp : p < n0) (hg : g < n0) (hTn : 0 < n0) (hBn : Bt < n0) (hBt : W.heap[Bt]? = some (.cells #[.pointer (some ⟨p, 0, none⟩)] 23 (0, 0))) (h0 : J [] W) :
    CallsIn Fence.wide m Tryd.prog 34 #[.func (.yield l) #[] #[], .pointer (some ⟨Bt, 0, none⟩)] W fun e W' => (∃ v, e = .returned v) ∧
      ((∃ ys, ys = riseL n L ∧ J ys W') ∨ (∃ pre, pre <+: riseL n L ∧ Jx pre W')) := by
  have HY := Lib.hid hY
  clear hY
  have HF := Lib.hid (first_core p g cap n L W hS hT)
  have HG := Lib.hid hS.good
  have hct : W.cell? ⟨Bt, 0, none⟩ = some (.pointer (some ⟨p, 0, none⟩)) := by simp [World.cell?, hBt]
  have HB0 := Lib.hid hBt
  have HS0 := Lib.hid hS
  have HT0 := Lib.hid hT
  clear hBt hS hT
  refine callsIn_of_wp Tryd.func34 rfl trivial ?_ rfl
  simp only [Tryd.ntmps34, List.size_toArray, List.length_cons, List.length_nil, Nat.reduceAdd, Nat.reduceSub, Array.replicate_succ, Array.replicate_zero, List.push_toArray, List.append_toArray, List.nil_append, List.cons_append]
  gi_wp2_with (refine ⟨trivial, ?_⟩; gi_at_call 35; refine (callsIn_wide.2 (HF.out)).mono ?_; rintro e w1 ⟨⟨r, rfl, hr⟩, rfl⟩)
  have HI0 := Lib.hid (atI_first HG.out hr)
  clear hr HF hct
  gi_loopw [3] (fun a wr => ∃ (i : Int) (pre : List Nat), a = .int .i64 i ∧ Hid (AtI n L i pre) ∧ Hid (J pre wr) ∧ Hid (SetAt wr p g cap n L) ∧ Hid (TabAt wr) ∧ Hid (wr.heap[Bt]? = some (.cells #[.pointer (some ⟨p, 0, none⟩)] 23 (0, 0)))) (fun a _ => if intOf a < 0 then 0 else n + 1 - (intOf a).toNat)
  case atStart => exact ⟨r, [], rfl, HI0, Lib.hid h0, HS0, HT0, HB0⟩
  case round =>
    obtain ⟨i, pre, rfl, HI, HJ, HS, HT, HB⟩ := hrel
    rcases HI.out with ⟨rfl, rfl⟩ | ⟨k, rfl, hk, hb, rfl⟩
    · gi_wp2
      go_end0
      exact ⟨⟨_, rfl⟩, .inl ⟨_, rfl, HJ.out⟩⟩
    · have hlen := rise_short hk hb
      obtain ⟨fn, tmps, assign, body, hy, hR⟩ := HY.out _ k wr HJ.out hlen
      have HBit := Lib.hid hb
      have hct : wr.cell? ⟨Bt, 0, none⟩ = some (.pointer (some ⟨p, 0, none⟩)) := by simp [World.cell?, HB.out]
      gi_wp2
      refine hR.mono ?_
      rintro e W3 (⟨rfl, hJ3, hk3⟩ | ⟨rfl, hJx3⟩)
      · have HS3 := Lib.hid (HS.out.below hp hg hk3)
        have HT3 := Lib.hid (HT.out.below hTn hk3)
        have HB3 := Lib.hid ((hk3.block Bt hBn).trans HB.out)
        have hct3 : W3.cell? ⟨Bt, 0, none⟩ = some (.pointer (some ⟨p, 0, none⟩)) := by simp [World.cell?, HB3.out]
        have HA := Lib.hid (after_core (k : Int) p g cap n L W3 HS3.out HT3.out (by omega) (by omega))
        have HJ3 := Lib.hid hJ3
        clear hJ3 hk3 hR hy
        gi_wp2_with (refine ⟨trivial, ?_⟩; gi_at_call 27; refine (callsIn_wide.2 HA.out).mono ?_; rintro e w' ⟨⟨r, rfl, hr⟩, rfl⟩)
        have HN := Lib.hid (atI_next HG.out hk HBit.out hr)
        refine ⟨⟨r, _, rfl, HN, HJ3, HS3, HT3, HB3⟩, ?_⟩
        rcases hr with ⟨rfl, -⟩ | ⟨q, rfl, hq, -⟩
        · show (if (-1 : Int) < 0 then 0 else n + 1 - (-1 : Int).toNat) < (if (k : Int) < 0 then 0 else n + 1 - (k : Int).toNat)
          rw [if_pos (by decide), if_neg (by omega)]
          omega
        · have : q ≤ n := by
            rcases HN.out with ⟨h, _⟩ | ⟨q', h, h2, _⟩
            · omega
            · omega
          show (if (q : Int) < 0 then 0 else n + 1 - (q : Int).toNat) < (if (k : Int) < 0 then 0 else n + 1 - (k : Int).toNat)
          rw [if_neg (by omega), if_neg (by omega)]
          omega
      · gi_wp2
        refine bodyPost_ret (results_none rfl _ _ _) rfl ?_
        refine ⟨⟨_, rfl⟩, .inr ⟨_, ?_, hJx3⟩⟩
        rw [← rise_hit HBit.out]
        exact rise_prefix hk

/-- All's closure, whatever the body: its contract. -/
theorem all_stops (m : Nat) (hm : 1 ≤ m) (Bt p g cap n n0 : Nat) (L : List Nat) (w : World) (hS : SetAt w p g cap n L) (hT : TabAt w) (hn0 : n0 ≤ w.heap.size) (hp : p < n0) (hg : g < n0) (hTn : 0 < n0) (hBn : Bt < n0) (hBt : w.heap[Bt]? = some (.cells #[.pointer (some ⟨p, 0, none⟩)] 23 (0, 0))) :
    SeqStopsK Fence.wide m Tryd.prog 34 #[.pointer (some ⟨Bt, 0, none⟩)] (fun x : Nat => #[.int .i64 (x : Int)]) (Below n0) (fun xs => xs = riseL n L) (fun pre => pre <+: riseL n L) (riseL n L).length w := by
  intro l J Jx W hW hJ hJx hY h0
  have hW' := hW.mono hn0
  exact all1_in m hm l Bt p g cap n n0 L J Jx (fun pre A B h hg => hJ pre A B none h hg (fun r e => by cases e)) hY W (hS.below hp hg hW') (hT.below hTn hW') hp hg hTn hBn ((hW'.block Bt hBn).trans hBt) h0
/-- All hands back its closure: a copy of the set lies in a box. -/
theorem all_any {p g cap n : Nat} {L : List Nat} (w : World) (h : SetAt w p g cap n L) : Calls Tryd.prog 15 #[.pointer (some ⟨p, 0, none⟩)] w fun e w' => ∃ p2 g2 c2 Bt, e = .returned (.func (.func 34) #[] #[.pointer (some ⟨Bt, 0, none⟩)]) ∧ SetAt w' p2 g2 c2 n L ∧ w'.heap[Bt]? = some (.cells #[.pointer (some ⟨p2, 0, none⟩)] 23 (0, 0)) ∧ w.heap.size ≤ p2 ∧ w.heap.size ≤ g2 ∧ w.heap.size ≤ Bt ∧ w.grownBy w' none := by
  have HC := Lib.hid (copy_any p g cap n L w h)
  clear h
  go_enter Tryd.func15, Tryd.ntmps15
  go_wp2_with (go_at_call 33; refine HC.out.mono ?_; rintro e w1 ⟨p2, g2, c2, rfl, hp2, hg2, hS, hG⟩)
  go_ret
  have ha := World.grownBy_alloc w1 (.cells #[.pointer (some ⟨p2, 0, none⟩)] 23) none
  exact ⟨p2, g2, c2, _, rfl, hS.kept ha (by simp) (by simp), heap_alloc_new _ _, hp2, hg2, hG.size, gb_trans hG ha (Or.inl rfl)⟩
end Go.Proofs.YtaagbdncfcdfcaaDoor
