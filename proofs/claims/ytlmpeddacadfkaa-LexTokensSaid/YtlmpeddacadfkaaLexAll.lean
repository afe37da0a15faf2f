/- Lex: All: its closure, as an iterator. -/
import Derived.Test.YtlmpeddacadfkaaLexTokens
import Derived.RangeFuncNested
import Derived.RangeFuncBound
import Derived.RangeFuncCalls
import Derived.RangeFuncLeaves
import Derived.Shelf.Abstract
import Derived.Shelf.RegionOpen
import Derived.OwnWalkIn
import Derived.TacticsInMore
import Derived.LoopNIn
import Derived.LoopIn
namespace Go.Proofs.Ytlmpeddacadfkaa
open Go.RowKit Go.Shelf
attribute [local go_sem] Oper.semAt_some

/-- What a body calls its own: the rows that its boxes point to. -/
def Mine (Bs : List Nat) (A : World) (k : Nat) : Prop := ∃ Bo, Bo ∈ Bs ∧ ∃ off n cap, A.cell? ⟨Bo, 0, none⟩ = some (.slice (some ⟨k, off, none⟩) n cap)
/-- What a round keeps: all but the body's boxes and rows. -/
structure KpB (Bs : List Nat) (A B : World) : Prop where
  size : A.heap.size ≤ B.heap.size
  same : ∀ (k : Nat) (c : Array Value) (e : TypeId) (fr : Nat × Nat), A.heap[k]? = some (.cells c e fr) → k ∉ Bs → ¬ Mine Bs A k → B.heap[k]? = some (.cells c e fr)
  fresh : ∀ k, Mine Bs B k → Mine Bs A k ∨ k < B.heap.size
  less : ∀ k, k < A.heap.size → Mine Bs B k → Mine Bs A k
theorem KpB.trans {Bs : List Nat} {A B C : World} (h : KpB Bs A B) (k : KpB Bs B C) : KpB Bs A C :=
  ⟨Nat.le_trans h.size k.size, fun j c e fr hj hn hm => k.same j c e fr (h.same j c e fr hj hn hm) hn (fun hb => hm (h.less j (Array.getElem?_eq_some_iff.1 hj).1 hb)), fun j hm => (k.fresh j hm).elim (fun h2 => (h.fresh j h2).elim Or.inl (fun h3 => Or.inr (Nat.lt_of_lt_of_le h3 k.size))) Or.inr, fun j hj hm => h.less j hj (k.less j (Nat.lt_of_lt_of_le hj h.size) hm)⟩
theorem mine_grown {Bs : List Nat} {A B : World} {k : Nat} (hb : ∀ Bo, Bo ∈ Bs → Bo < A.heap.size) (hg : A.grownBy B none) : Mine Bs B k ↔ Mine Bs A k := by
  have e : ∀ Bo, Bo ∈ Bs → B.cell? ⟨Bo, 0, none⟩ = A.cell? ⟨Bo, 0, none⟩ := fun Bo h => World.cell?_of_block (hg.block Bo (hb Bo h) (by simp))
  constructor
  · rintro ⟨Bo, h, off, n, cap, hc⟩
    exact ⟨Bo, h, off, n, cap, by rw [← e Bo h]; exact hc⟩
  · rintro ⟨Bo, h, off, n, cap, hc⟩
    exact ⟨Bo, h, off, n, cap, by rw [e Bo h]; exact hc⟩

/-- The law's own book-keeping abides by it. -/
theorem KpB.book {Bs : List Nat} {w : World} (hb : ∀ Bo, Bo ∈ Bs → Bo < w.heap.size) (W : World) (l : Nat) (o o' : Obj) (hl : w.heap.size ≤ l) (h : W.heap[l]? = some o) (hc : o.isCells = false) (_ : o.isWalk = false) : KpB Bs W (W.putObj l o') := by
  have hg := grownBy_putObj' W l o'
  have e : ∀ Bo, Bo ∈ Bs → (W.putObj l o').cell? ⟨Bo, 0, none⟩ = W.cell? ⟨Bo, 0, none⟩ := fun Bo hB => World.cell?_of_block (World.putObj_heap_other (by have := hb Bo hB; show Bo ≠ l; omega))
  have hm : ∀ k, Mine Bs (W.putObj l o') k → Mine Bs W k := fun k ⟨Bo, hB, off, n, cap, hcc⟩ => ⟨Bo, hB, off, n, cap, by rw [← e Bo hB]; exact hcc⟩
  refine ⟨hg.size, fun k c e2 fr hk _ _ => ?_, fun k hk => Or.inl (hm k hk), fun k _ hk => hm k hk⟩
  rw [World.putObj_heap_other (fun e3 => ?_)]
  · exact hk
  · subst e3
    rw [h] at hk
    simp only [Option.some.injEq] at hk
    subst hk
    simp [Obj.isCells] at hc
set_option maxRecDepth 100000 in
set_option maxHeartbeats 4000000 in
theorem all1_in (n : Nat) (hn : 1 ≤ n) (l Bt : Nat) (s : ByteArray) (hs : s.size ≤ 100000000) (Bs : List Nat) (J Jx : List Tok → World → Prop)
    (hJ : ∀ pre W W', J pre W → W.grownBy W' none → J pre W')
    (hY : ∀ pre x W, J pre W → pre.length < (allT s 0).1.length → YieldAt Fence.wide (n - 1) Try.prog l #[tokenV x] W fun e W' =>
      (e = .returned (.bool true) ∧ J (pre ++ [x]) W' ∧ KpB Bs W W') ∨ (e = .returned (.bool false) ∧ Jx (pre ++ [x]) W'))
    (W : World) (hBs : ∀ Bo, Bo ∈ Bs → Bo < W.heap.size) (hM0 : ∀ k, Mine Bs W k → k < W.heap.size) (hBn : Bt ∉ Bs) (hBm : ¬ Mine Bs W Bt) (hBt : W.heap[Bt]? = some (.cells #[.string s] 9 (0, 0))) (h0 : J [] W) :
    CallsIn Fence.wide n Try.prog 42 #[.func (.yield l) #[] #[], .pointer (some ⟨Bt, 0, none⟩)] W fun e W' => (∃ v, e = .returned v) ∧
      ((∃ ys, ys = (allT s 0).1 ∧ J ys W') ∨ (∃ pre, pre <+: (allT s 0).1 ∧ Jx pre W')) := by
  have HMd := Lib.hid made_any
  have HY := Lib.hid hY
  clear hY
  refine callsIn_of_wp Try.func42 rfl trivial ?_ rfl
  simp only [Try.ntmps42, List.size_toArray, List.length_cons, List.length_nil, Nat.reduceAdd, Nat.reduceSub, Array.replicate_succ, Array.replicate_zero, List.push_toArray, List.append_toArray, List.nil_append, List.cons_append]
  gi_wp2_with (refine ⟨trivial, ?_⟩; gi_at_call 27; refine (callsIn_wide.2 (HMd.out _)).mono ?_; rintro e w1 ⟨rfl, hT1, hg1⟩)
  have HJ1 := Lib.hid (hJ [] W w1 h0 hg1)
  have HB1 : Hid (w1.heap[Bt]? = some (.cells #[.string s] 9 (0, 0))) := Lib.hid ((hg1.block Bt (Array.getElem?_eq_some_iff.1 hBt).1 (by simp)).trans hBt)
  have HF1 : Hid (∀ j, Mine Bs w1 j → j < W.heap.size) := Lib.hid fun j h => hM0 j ((mine_grown hBs hg1).1 h)
  have HN1 : Hid (¬ Mine Bs w1 Bt) := Lib.hid fun h => hBm ((mine_grown hBs hg1).1 h)
  have hz1 := hg1.size
  have hbn : W.heap.size ∉ Bs := fun h => Nat.lt_irrefl _ (hBs _ h)
  have HT1 := Lib.hid hT1
  clear hT1 hg1 hBm hM0 h0
  gi_loopw [4] (fun a wr => ∃ (k : Nat) (pre : List Tok), k ≤ s.size ∧ a = .int .i64 (k : Int) ∧ Hid (J pre wr) ∧ Hid (TabAt wr W.heap.size) ∧ Hid (wr.heap[Bt]? = some (.cells #[.string s] 9 (0, 0))) ∧ Hid (allT s 0 = (pre ++ (allT s k).1, (allT s k).2)) ∧ W.heap.size ≤ wr.heap.size ∧ Hid (∀ j, Mine Bs wr j → j < wr.heap.size) ∧ Hid (¬ Mine Bs wr Bt ∧ ¬ Mine Bs wr W.heap.size)) (fun a _ => s.size + 1 - (intOf a).toNat)
  case atStart => exact ⟨0, [], by omega, rfl, HJ1, HT1, HB1, Lib.hid (by rw [List.nil_append]), hz1, Lib.hid fun j h => Nat.lt_of_lt_of_le (HF1.out j h) hz1, Lib.hid ⟨HN1.out, fun h => Nat.lt_irrefl _ (HF1.out _ h)⟩⟩
  case round =>
    obtain ⟨k, pre, hk, rfl, HJr, HT, HB, HE, hz, HF, HN2⟩ := hrel
    have hct : wr.cell? ⟨Bt, 0, none⟩ = some (.string s) := by simp [World.cell?, HB.out]
    have HN := Lib.hid (next_any HT.out s (by unfold maxLen; omega) k hk)
    have hst := allT_step hk
    have hok := nextR_ok hk
    generalize nextR s k = t at HN hst hok
    unfold nextV tokenV at HN
    by_cases he : t.err = 0
    · have heI : (t.err : Int) = 0 := by omega
      rw [if_neg (by omega)] at hst
      have hok2 := hok he
      clear hok
      have hlen : pre.length < (allT s 0).1.length := by
        rw [HE.out, hst]
        split <;> simp
      gi_wp2_with (refine ⟨trivial, ?_⟩; gi_at_call 28; refine (callsIn_wide.2 HN.out).mono ?_; rintro e w2 ⟨rfl, hg2⟩; obtain ⟨k0, k1, k2, f0, f1, f2⟩ := tok_box (gb_refl (w2.alloc (.cells #[.int .u8 0, .string ⟨#[]⟩, .int .i64 0] 50)) none); have hg3 := gb_trans hg2 (World.grownBy_alloc w2 (.cells #[.int .u8 (t.kind : Int), .string t.text, .int .i64 (t.at' : Int)] 50) none) (Or.inl rfl); have hb3 := heap_alloc_new w2 (.cells #[.int .u8 (t.kind : Int), .string t.text, .int .i64 (t.at' : Int)] 50); obtain ⟨fn, tmps, assign, body, hy, hR⟩ := HY.out pre t _ (hJ pre wr _ HJr.out hg3) hlen; unfold tokenV at hy)
      have hsz2 := hg2.size
      have hsz3 := hg3.size
      have hbr : ∀ Bo, Bo ∈ Bs → Bo < wr.heap.size := fun Bo h => Nat.lt_of_lt_of_le (hBs Bo h) hz
      have hb2 : w2.heap.size ∉ Bs := fun h => by have := hbr _ h; omega
      have hm3 : ∀ j, Mine Bs (w2.alloc (.cells #[.int .u8 (t.kind : Int), .string t.text, .int .i64 (t.at' : Int)] 50)) j → Mine Bs wr j := fun j h => (mine_grown hbr hg3).1 h
      have hm2 : ¬ Mine Bs (w2.alloc (.cells #[.int .u8 (t.kind : Int), .string t.text, .int .i64 (t.at' : Int)] 50)) w2.heap.size := fun h => by have := HF.out _ (hm3 _ h); omega
      have HT3 := Lib.hid (HT.out.kept hg3)
      have HB3 : Hid ((w2.alloc (.cells #[.int .u8 (t.kind : Int), .string t.text, .int .i64 (t.at' : Int)] 50)).heap[Bt]? = some (.cells #[.string s] 9 (0, 0))) := Lib.hid ((hg3.block Bt (Array.getElem?_eq_some_iff.1 HB.out).1 (by simp)).trans HB.out)
      refine hR.mono ?_
      rintro e W3 (⟨rfl, hJ3, hk3⟩ | ⟨rfl, hJx3⟩)
      · have hs3 := hk3.same _ _ _ _ hb3 hb2 hm2
        have j0 : W3.cell? ⟨w2.heap.size, 0, none⟩ = some (.int .u8 (t.kind : Int)) := by simp [World.cell?, hs3]
        have HTW : Hid (TabAt W3 W.heap.size) := Lib.hid (by
          obtain ⟨tab, h1, h2, h3⟩ := HT3.out
          exact ⟨tab, hk3.same _ _ _ _ h1 hbn (fun h => HN2.out.2 (hm3 _ h)), h2, h3⟩)
        have HBW : Hid (W3.heap[Bt]? = some (.cells #[.string s] 9 (0, 0))) := Lib.hid (hk3.same _ _ _ _ HB3.out hBn (fun h => HN2.out.1 (hm3 _ h)))
        have hbl : Bt < (w2.alloc (.cells #[.int .u8 (t.kind : Int), .string t.text, .int .i64 (t.at' : Int)] 50)).heap.size := (Array.getElem?_eq_some_iff.1 HB3.out).1
        have hwl : W.heap.size < (w2.alloc (.cells #[.int .u8 (t.kind : Int), .string t.text, .int .i64 (t.at' : Int)] 50)).heap.size := by
          obtain ⟨tab, h1, _, _⟩ := HT3.out
          exact (Array.getElem?_eq_some_iff.1 h1).1
        have HNW : Hid (¬ Mine Bs W3 Bt ∧ ¬ Mine Bs W3 W.heap.size) := Lib.hid ⟨fun h => HN2.out.1 (hm3 _ (hk3.less _ hbl h)), fun h => HN2.out.2 (hm3 _ (hk3.less _ hwl h))⟩
        have hzW : W.heap.size ≤ W3.heap.size := by have := hk3.size; omega
        have HFW : Hid (∀ j, Mine Bs W3 j → j < W3.heap.size) := Lib.hid fun j h => (hk3.fresh j h).elim (fun h2 => by have h4 := HF.out j (hm3 j h2); have h5 := hk3.size; omega) id
        have HJ3 := Lib.hid hJ3
        clear hJ3 hk3 hs3 hbl hwl hm2 hm3 hb2 hbr hb3 hg3 hg2 hy hR k0 k1 k2 f0 f1 f2
        by_cases h1 : t.kind = 1
        · rw [if_pos h1] at hst
          have HE2 : Hid (allT s 0 = (pre ++ [t], 0, 0)) := Lib.hid (by rw [HE.out, hst])
          have h1I : (t.kind : Int) = 1 := by omega
          clear hst
          gi_wp2
          refine bodyPost_ret (results_none rfl _ _ _) rfl ?_
          exact ⟨⟨_, rfl⟩, .inl ⟨_, by rw [HE2.out], HJ3.out⟩⟩
        · rw [if_neg h1] at hst
          have HE2 : Hid (allT s 0 = ((pre ++ [t]) ++ (allT s t.behind).1, (allT s t.behind).2)) := Lib.hid (by rw [HE.out, hst, List.append_assoc]; rfl)
          have h1I : ¬ (t.kind : Int) = 1 := by omega
          have hb : k < t.behind := by rcases hok2.2 with h | h; · exact absurd h h1
                                       · exact h
          clear hst
          gi_wp2
          exact ⟨⟨t.behind, pre ++ [t], hok2.1, rfl, HJ3, HTW, HBW, HE2, hzW, HFW, HNW⟩, by simp [intOf]; omega⟩
      · gi_wp2
        refine bodyPost_ret (results_none rfl _ _ _) rfl ?_
        refine ⟨⟨_, rfl⟩, .inr ⟨_, ?_, hJx3⟩⟩
        rw [HE.out, hst]
        split
        · exact List.prefix_refl _
        · exact ⟨_, by rw [List.append_assoc]; rfl⟩
    · have heI : ¬ (t.err : Int) = 0 := by omega
      rw [if_pos he] at hst
      have HE2 : Hid (allT s 0 = (pre, t.err, t.behind)) := Lib.hid (by rw [HE.out, hst, List.append_nil])
      clear hst hok
      gi_wp2_with (refine ⟨trivial, ?_⟩; gi_at_call 28; refine (callsIn_wide.2 HN.out).mono ?_; rintro e w2 ⟨rfl, hg2⟩; obtain ⟨k0, k1, k2, f0, f1, f2⟩ := tok_box (gb_refl (w2.alloc (.cells #[.int .u8 0, .string ⟨#[]⟩, .int .i64 0] 50)) none))
      refine ⟨fun _ h => (by cases h), ?_⟩
      gi_wp2
      refine bodyPost_ret (results_none rfl _ _ _) rfl ?_
      exact ⟨⟨_, rfl⟩, .inl ⟨pre, by rw [HE2.out], hJ pre wr _ HJr.out (gb_trans hg2 (World.grownBy_alloc _ _ none) (Or.inl rfl))⟩⟩

/-- All's closure, whatever the body: its contract. -/
theorem all_stops (n : Nat) (hn : 1 ≤ n) (Bt : Nat) (s : ByteArray) (hs : s.size ≤ 100000000) (Bs : List Nat) (w : World) (hBs : ∀ Bo, Bo ∈ Bs → Bo < w.heap.size) (hM0 : ∀ k, Mine Bs w k → k < w.heap.size) (hBn : Bt ∉ Bs) (hBm : ¬ Mine Bs w Bt) (hBt : w.heap[Bt]? = some (.cells #[.string s] 9 (0, 0))) :
    SeqStopsK Fence.wide n Try.prog 42 #[.pointer (some ⟨Bt, 0, none⟩)] (fun t : Tok => #[tokenV t]) (KpB Bs) (fun xs => xs = (allT s 0).1) (fun pre => pre <+: (allT s 0).1) (allT s 0).1.length w := by
  intro l J Jx W hW hJ hJx hY h0
  have hm : ∀ k, Mine Bs W k → Mine Bs w k := fun k ⟨Bo, h, off, m, cap, hc⟩ => ⟨Bo, h, off, m, cap, by rw [← hW.cell (p := ⟨Bo, 0, none⟩) (hBs Bo h)]; exact hc⟩
  have hlt : Bt < w.heap.size := (Array.getElem?_eq_some_iff.1 hBt).1
  exact all1_in n hn l Bt s hs Bs J Jx (fun pre A B h hg => hJ pre A B none h hg (fun r e => by cases e)) hY W (fun Bo h => Nat.lt_of_lt_of_le (hBs Bo h) hW.size) (fun k h => Nat.lt_of_lt_of_le (hM0 k (hm k h)) hW.size) hBn (fun h => hBm (hm _ h)) ((hW.block Bt hlt).trans hBt) h0
/-- All hands back its closure: the text lies in a box. -/
theorem all_any (s : ByteArray) (w : World) : Calls Try.prog 17 #[.string s] w fun e w' => e = .returned (.func (.func 42) #[] #[.pointer (some ⟨w.heap.size, 0, none⟩)]) ∧ w' = w.alloc (.cells #[.string s] 9) := by
  go_enter Try.func17, Try.ntmps17
  go_wp2
  go_ret
  exact ⟨rfl, rfl⟩
end Go.Proofs.Ytlmpeddacadfkaa
