/- Dfa: what Build tells, in plain Lean. -/
import Derived.Test.YtcdepblajobemaaBuilds04
import Derived.Deep.RegionLaw
import Derived.Deep.DeepCutAuto
import Derived.Maps.AppendAt
import Derived.Deep.AppendLies
import Derived.WalkMore
set_option maxRecDepth 100000
namespace Go.Proofs.Ytcdepblajobemaa
open Go.RowKit

theorem small_of_good {n : Nat} {L : List Nat} (_hn : n ≤ 64) (g : Good n L) : Small n L := by
  refine ⟨g.len, ?_⟩
  refine Nat.lt_pow_two_of_testBit _ fun i hi => ?_
  by_cases h : i < 64
  · have h1 := g.top i hi
    unfold bit at h1
    rwa [show i / 64 = 0 by omega, show i % 64 = i by omega] at h1
  · exact bits_of_lt _ (g.wd 0) i (by omega)
theorem good_step {n : Nat} (hn : n ≤ 65536) (E : List Edg) (L : List Nat) (l : Nat) : Good n (stepF n E L l) := by
  unfold stepF
  have : ∀ (E : List Edg) (M : List Nat), Good n M → Good n (E.foldl (stepOne n L l) M) := by
    intro E
    induction E with
    | nil => exact fun _ h => h
    | cons e E ih =>
      intro M h
      refine ih _ ?_
      unfold stepOne
      split
      · exact good_put1 h _
      · exact h
  exact this E _ (good_none hn)
/-- What lies behind a row by a letter, as far as it lives. -/
def transF (a : Aut) (n : Nat) (V : List Nat) (L : List Nat) (l : Nat) : List Nat := andL (stepF n a.E L l) V
def firstF (a : Aut) (n : Nat) (V : List Nat) : List Nat := andL (ofL n a.I) V
theorem good_trans {a : Aut} {n : Nat} (hn : n ≤ 65536) (V L : List Nat) (l : Nat) : Good n (transF a n V L l) := good_and (good_step hn _ _ _) V
theorem good_first {a : Aut} {n : Nat} (hn : n ≤ 65536) (V : List Nat) : Good n (firstF a n V) := good_and (good_of hn _) V
/-- The rows when i are done. -/
def growB (a : Aut) (n : Nat) (V : List Nat) (i : Nat) : List (List Nat) := growN (transF a n V) (2 ^ a.P.length) (firstF a n V) i
/-- .. and l letters of the next. -/
def growL (a : Aut) (n : Nat) (V : List Nat) (i l : Nat) : List (List Nat) := growR (transF a n V) (growB a n V i) ((growB a n V i).getD i []) l
/-- All rows. -/
def allB (a : Aut) (n : Nat) (V : List Nat) : List (List Nat) := growB a n V (2 ^ n)
section
variable {a : Aut} {n : Nat} {V : List Nat}
theorem growB_good (hn : n ≤ 65536) (i : Nat) : ∀ x ∈ growB a n V i, Good n x := growN_all (good_first hn V) (fun L _ k => good_trans hn V L k) i
theorem growL_good (hn : n ≤ 65536) (i l : Nat) : ∀ x ∈ growL a n V i l, Good n x := growR_all (growB_good hn i) (fun k => good_trans hn V _ k) l
theorem growB_nodup (i : Nat) : (growB a n V i).Nodup := growN_nodup i
theorem growL_nodup (i l : Nat) : (growL a n V i l).Nodup := growR_nodup (growB_nodup i) l
theorem growB_le (hn : n ≤ 64) (i : Nat) : (growB a n V i).length ≤ 2 ^ n := small_le hn (growB_nodup i) fun x hx => small_of_good hn (growB_good (by omega) i x hx)
theorem growL_le (hn : n ≤ 64) (i l : Nat) : (growL a n V i l).length ≤ 2 ^ n := small_le hn (growL_nodup i l) fun x hx => small_of_good hn (growL_good (by omega) i l x hx)
theorem growB_pos (i : Nat) : 0 < (growB a n V i).length := growN_pos i
theorem growB_all (hn : n ≤ 64) (i : Nat) : growB a n V i <+: allB a n V := by
  rcases Nat.le_total i (2 ^ n) with h | h
  · exact growN_prefix i _ h
  · have : growB a n V i = allB a n V := growN_stop (growB_le hn _) i h
    rw [this]
    exact List.prefix_rfl
theorem growB_end (hn : n ≤ 64) {i : Nat} (h : (growB a n V i).length ≤ i) : growB a n V i = allB a n V := by
  rcases Nat.le_total i (2 ^ n) with h1 | h1
  · exact (growN_stop h _ h1).symm
  · exact growN_stop (growB_le hn _) i h1
theorem growL_zero (i : Nat) : growL a n V i 0 = growB a n V i := rfl
theorem growL_succ (i l : Nat) : growL a n V i (l + 1) = addR (growL a n V i l) (transF a n V ((growB a n V i).getD i []) l) := growR_succ _ _ _ _
theorem growL_end {i : Nat} (h : i < (growB a n V i).length) : growL a n V i (2 ^ a.P.length) = growB a n V (i + 1) := (growN_go h).symm
theorem growL_all (hn : n ≤ 64) {i l : Nat} (h : i < (growB a n V i).length) (hl : l ≤ 2 ^ a.P.length) : growL a n V i l <+: allB a n V := by
  have h1 : growL a n V i l <+: growL a n V i (2 ^ a.P.length) := growR_prefix _ _ _ l _ hl
  rw [growL_end h] at h1
  exact h1.trans (growB_all hn _)
theorem growL_from (i l : Nat) : growB a n V i <+: growL a n V i l := growR_prefix _ _ _ 0 l (Nat.zero_le _)
end
theorem prefix_getD {α : Type} {A B : List α} (h : A <+: B) {k : Nat} (hk : k < A.length) (x : α) : B.getD k x = A.getD k x := by
  obtain ⟨C, rfl⟩ := h
  rw [List.getD_eq_getElem?_getD, List.getD_eq_getElem?_getD, List.getElem?_append_left hk]
theorem prefix_idx {A B : List (List Nat)} (h : A <+: B) {L : List Nat} (hL : L ∈ A) : B.idxOf L = A.idxOf L := by
  obtain ⟨C, rfl⟩ := h
  rw [List.idxOf_append, if_pos hL]
/-- The numbers of one row. -/
def numsB (a : Aut) (n : Nat) (V : List Nat) (i : Nat) : List Int := (List.range (2 ^ a.P.length)).map fun l => (((allB a n V).idxOf (transF a n V ((allB a n V).getD i []) l) : Nat) : Int)
/-- The automaton that Build makes. -/
def bldD (a : Aut) (n : Nat) (V : List Nat) : Dfa := ⟨a.P, (List.range (allB a n V).length).map (numsB a n V), (allB a n V).map fun L => decide (0 < ones L)⟩
/-- Its error. -/
def bldE (a : Aut) (n nw : Nat) (V : List Nat) (most : Int) : Int := if chkA a ≠ 0 ∨ nw ≠ n then 130 else if most < ((allB a n V).length : Int) then 131 else 0
/-- A row that is new comes last; one that is old has its place. -/
theorem addR_idx (Ls : List (List Nat)) (L : List Nat) : (addR Ls L).idxOf L = if L ∈ Ls then Ls.idxOf L else Ls.length := by
  unfold addR
  split
  · rfl
  · rename_i h
    rw [List.idxOf_append, if_neg h]
    simp
theorem nums_one {a : Aut} {n : Nat} {V : List Nat} (hn : n ≤ 64) {i l : Nat} (h : i < (growB a n V i).length) (hl : l < 2 ^ a.P.length) :
    (numsB a n V i).getD l 0 = ((if transF a n V ((growB a n V i).getD i []) l ∈ growL a n V i l then (growL a n V i l).idxOf (transF a n V ((growB a n V i).getD i []) l) else (growL a n V i l).length : Nat) : Int) := by
  unfold numsB
  rw [List.getD_eq_getElem?_getD, List.getElem?_map, List.getElem?_range hl]
  simp only [Option.map_some, Option.getD_some]
  rw [prefix_getD (growB_all hn i) h]
  congr 1
  rw [← addR_idx, ← growL_succ]
  refine prefix_idx (growL_all hn h hl) ?_
  rw [growL_succ]
  exact addR_mem _ _
end Go.Proofs.Ytcdepblajobemaa
namespace Go.Proofs.Ytcdepblajobemaa
open Go.RowKit

def findF (Ls : List (List Nat)) (L : List Nat) : Int := if L ∈ Ls then (Ls.idxOf L : Int) else -1

/-- What the look-up of a set's key tells. -/
theorem look_set {w : World} {p mb n : Nat} {v : Value} {es : List Ent} (h : TableAt w p mb v n es) {L : List Nat} (g : Good n L) (s : ByteArray) (hs : keyS n L = s) :
    ∃ c : Int, (Instr.lookup 114 (.map (some mb)) (.string s) true).run Try.prog w = .ok (.tuple #[.int .i64 c, .bool (decide (L ∈ rowsOf es))]) w ∧ (L ∈ rowsOf es → c = ((rowsOf es).idxOf L : Int)) := by
  obtain ⟨D, hD, hI⟩ := h.map
  obtain ⟨u, ps, hrun, hv⟩ := hD.look_ok strKeyed Try.underlying114 (Try.zeroValue3 w) (plainElem_int Try.underlying3 (by decide)) (keyOf_set h.max L)
  obtain ⟨c, rfl, hc, _⟩ := plainElem_int_inv Try.underlying3 hv
  rw [hs] at hrun
  have hc1 := congrArg Prod.fst hc
  by_cases hm : L ∈ rowsOf es
  · have hlt := List.idxOf_lt_length_iff.2 hm
    have hit := hI.hit ((rowsOf es).idxOf L) L (by rw [List.getElem?_eq_getElem hlt, List.getElem_idxOf])
    rw [hit.2] at hrun
    rw [hit.1] at hc1
    refine ⟨c, by simpa [hm] using hrun, fun _ => ?_⟩
    simp only [DataW.lit.injEq, Lit.int.injEq, true_and] at hc1
    exact hc1.symm
  · rw [hI.miss L g hm] at hrun
    exact ⟨c, by simpa [hm] using hrun, fun h' => absurd h' hm⟩

set_option maxHeartbeats 1000000 in
theorem find_any (p mb n q g cap : Nat) (v : Value) (es : List Ent) (L : List Nat) (w : World) (h : TableAt w p mb v n es) (hs : SetAt w q g cap n L) (_hb : es.length ≤ 1000000) :
    Calls Try.prog 100 #[.pointer (some ⟨p, 0, none⟩), .pointer (some ⟨q, 0, none⟩)] w fun e w' => e = .returned (.int .i64 (findF (rowsOf es) L)) ∧ w.grownBy w' none := by
  have hm := h.max
  have h0 := h.cell0
  have h1 := h.cell1
  have hN := hs.cellN
  have hbn : ((n : Int) != (n : Int)) = false := by simp
  obtain ⟨s, Hs⟩ : ∃ s, Hid (keyS n L = s) := ⟨_, rfl⟩
  have HT := Lib.hid h
  have HS := Lib.hid hs
  clear h hs
  go_enter Try.func100, Try.ntmps100
  go_wp2_with fail
  go_quiet (fail)
  go_wp2_with fail
  have HK := Lib.hid fun w' (hg : w.grownBy w' none) => key_h (HS.out.kept hg (by simp) (by simp)) s Hs
  by_cases hmem : L ∈ rowsOf es
  · have hd : decide (L ∈ rowsOf es) = true := by simpa using hmem
    have hf : findF (rowsOf es) L = ((rowsOf es).idxOf L : Int) := by unfold findF; rw [if_pos hmem]
    have HF := Lib.hid hf
    have HD := Lib.hid hd
    have HM := Lib.hid hmem
    clear hf hd hmem
    go_region_with (go_at_call 101; refine (HK.out _ (by exact ⟨rfl, rfl, rfl, Nat.le_refl _, fun _ _ _ => rfl⟩)).mono ?_; rintro e w1 ⟨rfl, hg1⟩; have h1' := (gb_trans (gb_drewN w _ none) hg1 (Or.inl rfl)).cell h1 (by simp); obtain ⟨c, hrun, hc⟩ := look_set (HT.out.kept_none (gb_trans (gb_drewN w _ none) hg1 (Or.inl rfl))) HS.out.good s Hs.out; rw [HD.out] at hrun; obtain rfl := hc HM.out)
    all_goals
      go_wp2
      go_ret
      exact ⟨by rw [HF.out]; rfl, gb_trans (gb_drewN w _ none) hg1 (Or.inl rfl)⟩
  · have hd : decide (L ∈ rowsOf es) = false := by simpa using hmem
    have hf : findF (rowsOf es) L = -1 := by unfold findF; rw [if_neg hmem]
    have HF := Lib.hid hf
    have HD := Lib.hid hd
    clear hf hd hmem
    go_region_with (go_at_call 101; refine (HK.out _ (by exact ⟨rfl, rfl, rfl, Nat.le_refl _, fun _ _ _ => rfl⟩)).mono ?_; rintro e w1 ⟨rfl, hg1⟩; have h1' := (gb_trans (gb_drewN w _ none) hg1 (Or.inl rfl)).cell h1 (by simp); obtain ⟨c, hrun, hc⟩ := look_set (HT.out.kept_none (gb_trans (gb_drewN w _ none) hg1 (Or.inl rfl))) HS.out.good s Hs.out; rw [HD.out] at hrun; clear hc)
    all_goals
      go_wp2
      go_ret
      exact ⟨by rw [HF.out]; rfl, gb_trans (gb_drewN w _ none) hg1 (Or.inl rfl)⟩

set_option maxHeartbeats 1000000 in
/-- A set that came ahead. -/
theorem intern_old (p mb n q g cap : Nat) (v : Value) (es : List Ent) (L : List Nat) (w : World) (h : TableAt w p mb v n es) (hs : SetAt w q g cap n L) (hb : es.length ≤ 1000000) (hL : L ∈ rowsOf es) :
    Calls Try.prog 53 #[.pointer (some ⟨p, 0, none⟩), .pointer (some ⟨q, 0, none⟩)] w fun e w' => e = .returned (.tuple #[.int .i64 (findF (rowsOf es) L), .bool false]) ∧ w.grownBy w' none := by
  have hm := h.max
  have h0 := h.cell0
  have hN := hs.cellN
  have hbn : ((n : Int) != (n : Int)) = false := by simp
  have HF := Lib.hid fun w' (hg : w.grownBy w' none) => find_any p mb n q g cap v es L w' (h.kept_none hg) (hs.kept hg (by simp) (by simp)) hb
  have hf : findF (rowsOf es) L = ((rowsOf es).idxOf L : Int) := by unfold findF; rw [if_pos hL]
  have h9 : 0 ≤ findF (rowsOf es) L := by rw [hf]; omega
  generalize findF (rowsOf es) L = i at HF h9 ⊢
  clear h hs hL hf
  go_enter Try.func53, Try.ntmps53
  go_wp2_with fail
  go_quiet (fail)
  go_wp2_with (go_at_call 100; refine (HF.out _ (gb_drewN w _ none)).mono ?_; rintro e w1 ⟨rfl, hg1⟩)
  go_ret2
  exact ⟨rfl, gb_trans (gb_drewN w _ none) hg1 (Or.inl rfl)⟩

end Go.Proofs.Ytcdepblajobemaa
namespace Go.Proofs.Ytcdepblajobemaa
open Go.RowKit

def Interned (w : World) (p mb : Nat) (v : Value) (n : Nat) (es : List Ent) (L : List Nat) (e : Ending) (w' : World) : Prop :=
  ∃ v' p' g' cap', e = .returned (.tuple #[.int .i64 (es.length : Int), .bool true]) ∧ TableAt w' p mb v' n (es ++ [(p', g', cap', L)]) ∧ w.heap.size ≤ p' ∧ w.heap.size ≤ g' ∧
    (∀ k, v'.ownBlock = some k → v.ownBlock = some k ∨ w.heap.size ≤ k) ∧ Fr (Own3 p mb v) w w'

theorem Try.info50 : (Try.prog.info? 50).map (fun i => (i.zero, i.size, i.bytes)) = some (some (.pointer none), 1, 8) := by kernel_rfl

/-- The map bears one more; nothing else of the table has turned. -/
def Mid6 (w : World) (mb n : Nat) (es : List Ent) (L : List Nat) (wx : World) : Prop :=
  ∃ D, ownsBy wx mb (es.length + 1) D ∧ IdxMap n (rowsOf es ++ [L]) D ∧ Fr (· = mb) w wx
def Mid7 (w : World) (p mb : Nat) (v : Value) (n : Nat) (es : List Ent) (L : List Nat) (w' : World) : Prop :=
  ∃ v' p' g' cap', TableAt w' p mb v' n (es ++ [(p', g', cap', L)]) ∧ w.heap.size ≤ p' ∧ w.heap.size ≤ g' ∧
    (∀ k, v'.ownBlock = some k → v.ownBlock = some k ∨ w.heap.size ≤ k) ∧ Fr (Own3 p mb v) w w'
theorem mid7 {w wx w4 w5 : World} {p mb n p' g' cap' : Nat} {v v' : Value} {es : List Ent} {L M : List Nat} (h : TableAt w p mb v n es) (hL : L ∉ rowsOf es) (hx : Mid6 w mb n es L wx)
    (h1 : wx.heap.size ≤ p') (h2 : wx.heap.size ≤ g') (hs : SetAt w4 p' g' cap' n M) (hM : M = L) (h3 : wx.grownBy w4 none)
    (h5 : w5.ownsRow 0 50 1 v' (es.length + 1) (ptrs es ++ [.pointer (some ⟨p', 0, none⟩)])) (h6 : (w4.alloc (.cells #[.pointer (some ⟨p', 0, none⟩)] 50)).grownBy w5 v.ownBlock) (h7 : ∀ k, v'.ownBlock = some k → v.ownBlock = some k ∨ w4.heap.size ≤ k) :
    Mid7 w p mb v n es L (w5.setCell ⟨p, 2, none⟩ v') := by
  subst hM
  obtain ⟨D, hD, hI, hF⟩ := hx
  have hpm := h.pm
  have hvm := h.vm
  have hvp := h.vp
  have hrest : Fr (Own3 p mb v) w w5 := by
    have h36 : Fr (Own3 p mb v) wx w5 := (Fr.of_none (gb_trans h3 (World.grownBy_alloc w4 _ none) (Or.inl rfl)) : Fr (Own3 p mb v) wx _).trans (Fr.of_gb (S := Own3 p mb v) h6 (fun k e => Or.inr (Or.inr e))) (fun _ h => Or.inl h)
    exact (hF.mono (fun k _ (e : k = mb) => (Or.inr (Or.inl e) : Own3 p mb v k))).trans h36 (fun _ h => Or.inl h)
  have hset : Fr (Own3 p mb v) w5 (w5.setCell ⟨p, 2, none⟩ v') :=
    ⟨rfl, rfl, rfl, by simp [World.setCell], fun k hk hn => Below.heap_setCell _ _ _ _ (fun e => hn (Or.inl e))⟩
  have hall := hrest.trans hset (fun _ h => Or.inl h)
  have hbp : w5.heap[p]? = some (.cells #[.int .i64 (n : Int), .map (some mb), v] 142 (0, 0)) := by
    have e1 : wx.heap[p]? = w.heap[p]? := hF.block p h.lt hpm
    have e2 : (w4.alloc (.cells #[.pointer (some ⟨p', 0, none⟩)] 50)).heap[p]? = wx.heap[p]? := by
      have hl : p < wx.heap.size := Nat.lt_of_lt_of_le h.lt hF.size
      rw [(World.grownBy_alloc w4 _ none).block p (Nat.lt_of_lt_of_le hl h3.size) (by simp), h3.block p hl (by simp)]
    rw [h6.block p (by rw [World.size_alloc]; have := h.lt; have := hF.size; have := h3.size; omega) (fun e => hvp e.symm), e2, e1]
    exact h.blk
  have hfin : ∀ k, k ≠ p → (w5.setCell ⟨p, 2, none⟩ v').heap[k]? = w5.heap[k]? := fun k hk => Below.heap_setCell _ _ _ _ hk
  have hP : Fr (· = p) w5 (w5.setCell ⟨p, 2, none⟩ v') := ⟨rfl, rfl, rfl, by simp [World.setCell], fun k _ hn => hfin k hn⟩
  have hs5 : SetAt (w5.setCell ⟨p, 2, none⟩ v') p' g' cap' n M := by
    have hz : w.heap.size ≤ wx.heap.size := hF.size
    have hpl := h.lt
    have hvl : ∀ k, v.ownBlock = some k → k < w.heap.size := fun k hk => (h.row.lt k hk).2
    have s1 : SetAt w5 p' g' cap' n M := (hs.kept (World.grownBy_alloc w4 _ none) (by simp) (by simp)).kept h6 (fun e => by have := hvl _ e; omega) (fun e => by have := hvl _ e; omega)
    exact hP.set s1 (by show ¬ p' = p; omega) (by show ¬ g' = p; omega)
  refine ⟨v', p', g', cap', ⟨?_, ⟨D, ?_, ?_⟩, ?_, ?_, ?_, h.max⟩, Nat.le_trans hF.size h1, Nat.le_trans hF.size h2, fun k hk => ?_, hall⟩
  · simp only [World.setCell, Array.getElem?_modify, hbp]
    simp
  · have d1 : ownsBy w5 mb (es.length + 1) D := by
      have d0 := ((hD.kept h3 (by simp)).alloc (.cells #[.pointer (some ⟨p', 0, none⟩)] 50)).kept h6 (fun e => hvm e.symm)
      exact d0
    have d2 := hP.map d1 (fun e => hpm e.symm)
    simpa using d2
  · simpa [rowsOf] using hI
  · have r1 : (w5.setCell ⟨p, 2, none⟩ v').ownsRow 0 50 1 v' (es.length + 1) (ptrs es ++ [.pointer (some ⟨p', 0, none⟩)]) :=
      hP.row h5 (fun k hk (e : k = p) => by
        subst e
        rcases h5.2 with ⟨rfl, _⟩ | ⟨g, cap, cur, rfl, _, hg, _⟩
        · simp [Value.ownBlock] at hk
        · simp only [Value.ownBlock, Option.some.injEq] at hk
          subst hk
          rw [hbp] at hg
          simp at hg)
    simpa [ptrs] using r1
  · intro e he
    rcases List.mem_append.1 he with he | he
    · have := h.notSet (h.sets e he).raw
      exact hall.set (h.sets e he) this.1 this.2
    · simp at he
      subst he
      exact hs5
  · simp only [rowsOf, List.map_append, List.map_cons, List.map_nil]
    exact List.nodup_append.2 ⟨h.nodup, by simp, fun a ha b hb => by simp at hb; subst hb; rintro rfl; exact hL ha⟩
  · rcases h7 k hk with h' | h'
    · exact Or.inl h'
    · right
      have := hF.size
      have := h3.size
      omega

set_option maxHeartbeats 2000000 in
/-- A new one. -/
theorem intern_new (p mb n q g cap : Nat) (v : Value) (es : List Ent) (L : List Nat) (w : World) (h : TableAt w p mb v n es) (hs : SetAt w q g cap n L) (hb : es.length ≤ 1000000) (hL : L ∉ rowsOf es) :
    Calls Try.prog 53 #[.pointer (some ⟨p, 0, none⟩), .pointer (some ⟨q, 0, none⟩)] w (Interned w p mb v n es L) := by
  have hm := h.max
  have h0 := h.cell0
  have hN := hs.cellN
  have hbn : ((n : Int) != (n : Int)) = false := by simp
  obtain ⟨a0, cap0, hv⟩ := h.val
  have HF := Lib.hid fun w' (hg : w.grownBy w' none) => find_any p mb n q g cap v es L w' (h.kept_none hg) (hs.kept hg (by simp) (by simp)) hb
  have hf : findF (rowsOf es) L = -1 := by unfold findF; rw [if_neg hL]
  rw [hf] at HF
  obtain ⟨s, Hs⟩ : ∃ s, Hid (keyS n L = s) := ⟨_, rfl⟩
  have HT := Lib.hid h
  have HS := Lib.hid hs
  have HL := Lib.hid hL
  have HV := Lib.hid hv
  clear h hs hf hL hv
  go_enter Try.func53, Try.ntmps53
  go_wp2_with fail
  go_quiet (fail)
  go_upto_region 6 with (go_at_call 100; refine (HF.out _ (gb_drewN w _ none)).mono ?_; rintro e w1 ⟨rfl, hg1⟩)
  have hg0 := gb_trans (gb_drewN w _ none) hg1 (Or.inl rfl)
  have hT1 := HT.out.kept_none hg0
  have hS1 := HS.out.kept hg0 (by simp) (by simp)
  have h1 := hT1.cell1
  have h2 := hT1.cell2
  rw [HV.out] at h2
  have HT1 := Lib.hid hT1
  have HS1 := Lib.hid hS1
  clear hT1 hS1 hg1
  go_cut [] (fun wx => Mid6 w mb n es L wx)
  case first =>
    have HK := Lib.hid fun w' (hg : w1.grownBy w' none) => key_h (HS1.out.kept hg (by simp) (by simp)) s Hs
    go_region_with (go_at_call 101; refine (HK.out _ (by exact ⟨rfl, rfl, rfl, Nat.le_refl _, fun _ _ _ => rfl⟩)).mono ?_; rintro e w2 ⟨rfl, hg2⟩; have hg2' := gb_trans (gb_drewN w1 1 none) hg2 (Or.inl rfl); have h1' := hg2'.cell h1 (by simp); have h2' := hg2'.cell h2 (by simp); obtain ⟨D, hD, hI⟩ := (HT1.out.kept_none hg2').map; obtain ⟨w3, hrun, hD3, hg3⟩ := hD.update strKeyed Try.underlying114 (by unfold maxLen; omega) (keyOf_set hm L) (plainElem_int (e := 3) (q := .i64) (a := (es.length : Int)) Try.underlying3 (WalkArith.wf_i64 (by omega))); rw [Hs.out] at hrun)
    all_goals
      go_wp2_with fail
      go_meet
      refine ⟨_, hD3, ?_, (Fr.of_none (gb_trans hg0 hg2' (Or.inl rfl)) : Fr (· = mb) w w2).trans (Fr.of_gb (S := (· = mb)) hg3 (fun k e => by cases e; rfl)) (fun _ h => Or.inl h)⟩
      have := hI.put HT.out.good HS.out.good HL.out
      rwa [show (rowsOf es).length = es.length by simp [rowsOf]] at this
  case rest =>
    have HX := Lib.hid hcut
    have hne := HT.out.notSet HS.out.raw
    obtain ⟨D, hD, hI, hF⟩ := hcut
    have hpm : p ≠ mb := HT.out.pm
    have h2x : wc.cell? ⟨p, 2, none⟩ = some (.slice a0 es.length cap0) := hF.cell ((HT.out.cell2).trans (by rw [HV.out])) hpm
    have hsx : SetAt wc q g cap n L := hF.set HS.out (fun e => hne.1 (Or.inr (Or.inl e))) (fun e => hne.2 (Or.inr (Or.inl e)))
    have hrow := hF.row HT.out.row (fun k hk e => HT.out.vm (e ▸ hk))
    have hfz : wc.frozen? ⟨p, 2, none⟩ = false := by
      have := HT.out.blk
      rw [← hF.block p HT.out.lt hpm] at this
      simp [World.frozen?, this]
    obtain ⟨i0, hi, hz0, hz1, hz2⟩ := info_parts Try.info50
    have HR := Lib.hid hrow
    have HCo := Lib.hid fun w' (hg : wc.grownBy w' none) => copy_h (hsx.kept hg (by simp) (by simp))
    have HI := Lib.hid (And.intro hi (And.intro hz0 (And.intro hz1 hz2)))
    clear hD hI hne hrow hsx hi hz0 hz1 hz2
    have HFr := Lib.hid hF
    clear hF hpm D h1 h2 hg0
    go_wp2_with fail
    go_cut [] (fun wx => Mid7 w p mb v n es L wx)
    case first =>
      go_region_law (first
        | (refine step_append_lies _ rfl (.tmp 37) (.tmp 40) 140 rfl 0 50 i0 (.pointer none) 1 8 Try.underlying140 HI.out.1 HI.out.2.1 HI.out.2.2.1 HI.out.2.2.2 rfl (by decide) v es.length (ptrs es) HV.out.symm hrow4 ⟨w4.heap.size, 0, none⟩ 1 1 [.pointer (some ⟨p', 0, none⟩)] rfl rfl (cell_one_new _ _ _) (by simp [Value.oneCell']) (by decide) (by unfold maxLen; omega) (by omega) (Nat.zero_le _) _ rfl ?_; intro g5 cap5 w5 hown5 hgr5 hat5 hlt5; have hgb : wc.grownBy w5 v.ownBlock := gb_trans (gb_any (gb_trans hgr' (World.grownBy_alloc w4 _ none) (Or.inl rfl)) _) hgr5 (Or.inr (Or.inl rfl)); have h25 := hgb.cell h2x (fun e => HT.out.vp e.symm); have hf5 : w5.frozen? ⟨p, 2, none⟩ = false := (World.frozen?_of_block (hgb.block p (World.block_lt_of_cell? wc _ h2x) (fun e => HT.out.vp e.symm))).trans hfz; have HAll := Lib.hid (And.intro hown5 (And.intro hgr5 (And.intro hgr' (And.intro hp' (And.intro hg' (And.intro hs' (And.intro hM hat5))))))); clear hown5 hgr5 hgr' hgr hgb hrow4 hp' hg' hs' hM hat5)
        | (go_simp; go_at_call 102; refine (HCo.out _ (by exact ⟨rfl, rfl, rfl, Nat.le_refl _, fun _ _ _ => rfl⟩)).mono ?_; rintro e w4 ⟨p', g', c', M, rfl, hp', hg', hs', hM, hgr⟩; have hgr' := gb_trans (gb_drewN wc 1 none) hgr (Or.inl rfl); have h2' := hgr'.cell h2x (by simp); have h2a := (World.grownBy_alloc w4 (.cells #[.pointer (some ⟨p', 0, none⟩)] 50) none).cell h2' (by simp); have hrow4 := (HR.out.kept hgr' (Classical.em _)).alloc (.cells #[.pointer (some ⟨p', 0, none⟩)] 50)))
      all_goals
        go_wp2_with fail
        go_meet
        have HB := HAll.out
        refine mid7 HT.out HL.out HX.out HB.2.2.2.1 HB.2.2.2.2.1 HB.2.2.2.2.2.1 HB.2.2.2.2.2.2.1 HB.2.2.1 HB.1 HB.2.1 (fun k hk => ?_)
        simp only [Value.ownBlock, Option.some.injEq] at hk
        subst hk
        rcases HB.2.2.2.2.2.2.2 with e | e
        · exact Or.inl e
        · right; rw [e]; simp
    case rest =>
      obtain ⟨v', p', g', c', hT', k1, k2, k3, k4⟩ := hcut
      have HZ := Lib.hid (And.intro hT' (And.intro k1 (And.intro k2 (And.intro k3 k4))))
      have h2' := hT'.cell2
      obtain ⟨a', cap', rfl⟩ := hT'.val
      clear hT' k1 k2 k3 k4
      have hlen : (es ++ [(p', g', c', L)]).length = es.length + 1 := by simp
      rw [hlen] at h2'
      have HLn := Lib.hid hlen
      clear hlen
      go_wp2_with fail
      go_ret2
      exact ⟨_, p', g', c', by simp, HZ.out.1, HZ.out.2.1, HZ.out.2.2.1, HZ.out.2.2.2.1, HZ.out.2.2.2.2⟩
end Go.Proofs.Ytcdepblajobemaa
namespace Go.Proofs.Ytcdepblajobemaa
open Go.RowKit

def InternP (w : World) (p mb : Nat) (v : Value) (n : Nat) (es : List Ent) (L : List Nat) (e : Ending) (w' : World) : Prop :=
  ∃ (v' : Value) (es' : List Ent) (i : Nat) (b : Bool) (x : Ent), e = .returned (.tuple #[.int .i64 (i : Int), .bool b]) ∧ TableAt w' p mb v' n es' ∧ es'[i]? = some x ∧ x.2.2.2 = L ∧ findF (rowsOf es') L = (i : Int) ∧
    b = decide (i = es.length) ∧ es'.length = max es.length (i + 1) ∧ i ≤ es.length ∧ (∀ y ∈ es', y ∈ es ∨ (w.heap.size ≤ y.1 ∧ w.heap.size ≤ y.2.1)) ∧
    (∀ k, v'.ownBlock = some k → v.ownBlock = some k ∨ w.heap.size ≤ k) ∧ Fr (Own3 p mb v) w w'

theorem intern_any (p mb n q g cap : Nat) (v : Value) (es : List Ent) (L : List Nat) (w : World) (h : TableAt w p mb v n es) (hs : SetAt w q g cap n L) (hb : es.length ≤ 1000000) :
    Calls Try.prog 53 #[.pointer (some ⟨p, 0, none⟩), .pointer (some ⟨q, 0, none⟩)] w (InternP w p mb v n es L) := by
  by_cases hL : L ∈ rowsOf es
  · refine (intern_old p mb n q g cap v es L w h hs hb hL).mono ?_
    rintro e w' ⟨rfl, hg⟩
    have hlt := List.idxOf_lt_length_iff.2 hL
    have hlt' : (rowsOf es).idxOf L < es.length := by simpa [rowsOf] using hlt
    have hf : findF (rowsOf es) L = ((rowsOf es).idxOf L : Int) := by unfold findF; rw [if_pos hL]
    have hx : (rowsOf es)[(rowsOf es).idxOf L]? = some L := by rw [List.getElem?_eq_getElem hlt, List.getElem_idxOf]
    generalize (rowsOf es).idxOf L = i at *
    have hx2 := hx
    rw [rowsOf, List.getElem?_map, Option.map_eq_some_iff] at hx2
    obtain ⟨x, hx3, hx4⟩ := hx2
    refine ⟨v, es, i, false, x, by rw [hf], h.kept_none hg, hx3, hx4, hf, ?_, ?_, by omega, fun y hy => Or.inl hy, fun k hk => Or.inl hk, Fr.of_none hg⟩
    · simp; omega
    · rw [Nat.max_eq_left (by exact hlt')]
  · refine (intern_new p mb n q g cap v es L w h hs hb hL).mono ?_
    rintro e w' ⟨v', p', g', c', rfl, hT, k1, k2, k3, k4⟩
    have hl : (rowsOf es).length = es.length := by simp [rowsOf]
    refine ⟨v', _, es.length, true, (p', g', c', L), rfl, hT, by simp, rfl, ?_, by simp, by simp, Nat.le_refl _, fun y hy => ?_, k3, k4⟩
    · have e1 : rowsOf (es ++ [(p', g', c', L)]) = rowsOf es ++ [L] := by simp [rowsOf]
      unfold findF
      rw [e1, if_pos (by simp), List.idxOf_append, if_neg hL, hl]
      simp
    · rcases List.mem_append.1 hy with hy | hy
      · exact Or.inl hy
      · simp at hy; subst hy; exact Or.inr ⟨k1, k2⟩

def cut1 (n : Nat) (L : List Nat) (i : Int) : List Nat := if 0 ≤ i ∧ i < n then cutL L i.toNat else L
/-- A table all of whose blocks lie from Z on. -/
structure TabZ (Z : Nat) (w : World) (p mb : Nat) (v : Value) (n : Nat) (es : List Ent) : Prop where
  at' : TableAt w p mb v n es
  zp : Z ≤ p
  zm : Z ≤ mb
  zv : ∀ k, v.ownBlock = some k → Z ≤ k
  ze : ∀ e ∈ es, Z ≤ e.1 ∧ Z ≤ e.2.1

theorem TabZ.own {Z : Nat} {w : World} {p mb n : Nat} {v : Value} {es : List Ent} (h : TabZ Z w p mb v n es) : ∀ k, Own3 p mb v k → Z ≤ k := by
  rintro k (rfl | rfl | hk)
  · exact h.zp
  · exact h.zm
  · exact h.zv k hk
theorem TabZ.kept_none {Z : Nat} {w w' : World} {p mb n : Nat} {v : Value} {es : List Ent} (h : TabZ Z w p mb v n es) (hg : w.grownBy w' none) : TabZ Z w' p mb v n es :=
  ⟨h.at'.kept_none hg, h.zp, h.zm, h.zv, h.ze⟩
/-- A set beside the table is written. -/
theorem TabZ.kept_set {Z : Nat} {w w' : World} {p mb n q g cap m : Nat} {v : Value} {es : List Ent} {L : List Nat} (h : TabZ Z w p mb v n es) (hs : SetAt w q g cap m L) (hne : ∀ e ∈ es, e.2.1 ≠ g) (hg : w.grownBy w' (some g)) : TabZ Z w' p mb v n es :=
  ⟨h.at'.kept (S := (· = g)) (Fr.of_gb hg (fun k e => by cases e; rfl)) (fun k hk (e : k = g) => (h.at'.notSet hs.raw).2 (e ▸ hk)) (fun e he => ⟨fun (e1 : e.1 = g) => (h.at'.sets e he).raw.ne hs.raw e1, hne e he⟩), h.zp, h.zm, h.zv, h.ze⟩
theorem TabZ.glt {Z : Nat} {w : World} {p mb n : Nat} {v : Value} {es : List Ent} (h : TabZ Z w p mb v n es) : ∀ e ∈ es, e.2.1 < w.heap.size := fun e he => (h.at'.sets e he).glt

/-- Rows of whole numbers that came in. -/
def RowsAt (w : World) (v : Value) (R : List (List Int)) : Prop :=
  ∃ a cap, v = .slice a R.length cap ∧ R.length ≤ 17592186043904 ∧
    (R = [] ∨ ∃ b off, a = some ⟨b, off, none⟩ ∧ ∀ k, k < R.length → ∃ u, w.cell? ⟨b, off + k, none⟩ = some u ∧ IntsAt w u (R.getD k []))
theorem IntsAt.below {w w' : World} {v : Value} {A : List Int} (h : IntsAt w v A) (hb : Below w.heap.size w w') : IntsAt w' v A := by
  obtain ⟨a, cap, rfl, h1, h2, h3⟩ := h
  refine ⟨a, cap, rfl, h1, h2, ?_⟩
  rcases h3 with h3 | ⟨b, off, rfl, h3⟩
  · exact Or.inl h3
  · exact Or.inr ⟨b, off, rfl, fun k hk => (hb.cell (p := ⟨b, off + k, none⟩) (World.block_lt_of_cell? w _ (h3 k hk))).trans (h3 k hk)⟩
end Go.Proofs.Ytcdepblajobemaa
namespace Go.Proofs.Ytcdepblajobemaa
open Go.RowKit

/-- The place of a row. -/
def idxF (Ls : List (List Nat)) (L : List Nat) : Nat := if L ∈ Ls then Ls.idxOf L else Ls.length
def InternR (w : World) (p mb : Nat) (v : Value) (n : Nat) (es : List Ent) (L : List Nat) (e : Ending) (w' : World) : Prop :=
  ∃ v' es' b, e = .returned (.tuple #[.int .i64 (idxF (rowsOf es) L : Int), .bool b]) ∧ TableAt w' p mb v' n es' ∧ Hid (rowsOf es' = addR (rowsOf es) L) ∧
    (∀ k, v'.ownBlock = some k → v.ownBlock = some k ∨ w.heap.size ≤ k) ∧ Fr (Own3 p mb v) w w'
theorem intern_row (p mb n q g cap : Nat) (v : Value) (es : List Ent) (L : List Nat) (w : World) (h : TableAt w p mb v n es) (hs : SetAt w q g cap n L) (hb : es.length ≤ 1000000) :
    Calls Try.prog 53 #[.pointer (some ⟨p, 0, none⟩), .pointer (some ⟨q, 0, none⟩)] w (InternR w p mb v n es L) := by
  by_cases hL : L ∈ rowsOf es
  · refine (intern_old p mb n q g cap v es L w h hs hb hL).mono ?_
    rintro e w' ⟨rfl, hg⟩
    refine ⟨v, es, false, ?_, h.kept_none hg, Lib.hid ?_, fun k hk => Or.inl hk, Fr.of_none hg⟩
    · unfold findF idxF
      rw [if_pos hL, if_pos hL]
    · unfold addR
      rw [if_pos hL]
  · refine (intern_new p mb n q g cap v es L w h hs hb hL).mono ?_
    rintro e w' ⟨v', p', g', cap', rfl, ht, _, _, hv, hf⟩
    refine ⟨v', _, true, ?_, ht, Lib.hid ?_, hv, hf⟩
    · unfold idxF
      rw [if_neg hL]
      simp [rowsOf]
    · unfold addR
      rw [if_neg hL]
      simp [rowsOf]
end Go.Proofs.Ytcdepblajobemaa
namespace Go.Proofs.Ytcdepblajobemaa
open Go.RowKit

set_option maxHeartbeats 400000 in
theorem wid_any (p g cap n : Nat) (L : List Nat) (w : World) (h : SetAt w p g cap n L) :
    Calls Try.prog 50 #[.pointer (some ⟨p, 0, none⟩)] w fun e w' => e = .returned (.int .i64 (n : Int)) ∧ w = w' := by
  have hN := h.cellN
  go_enter Try.func50, Try.ntmps50
  go_wp2
  go_ret
  exact ⟨rfl, rfl⟩
theorem results_dfa {fn : Func} {p q : Tmp} (h : fn.results = #[.cell p 27, .tmp q]) (tmps : Array Value) (w : World) (g : Nat) (cs : Array Value) (hp : tmps.getD p undef = .pointer (some ⟨g, 0, none⟩)) (hg : w.heap[g]? = some (.cells cs 27 (0, 0))) (hc : cs.size = 3) :
    (results fn tmps).run Try.prog w = .ok (.tuple #[.agg cs, tmps.getD q undef]) w := by
  have hp' : tmps[p]?.getD undef = .pointer (some ⟨g, 0, none⟩) := by simpa using hp
  have hi : (Try.prog.info? 27).map (·.size) = some cs.size := by rw [hc]; kernel_rfl
  simp [results, h, hp', asAddr, run_loadVar_row w g 27 27 cs (0, 0) _ hg Try.underlying27 rfl hi]
end Go.Proofs.Ytcdepblajobemaa
namespace Go.Proofs.Ytcdepblajobemaa
open Go.RowKit

/-- The cells of a Buchi's box. -/
theorem buchi_cells {w : World} {b : Nat} {x0 x1 x2 x3 x4 : Value} (h : w.heap[b]? = some (.cells #[x0, x1, x2, x3, x4] 47 (0, 0))) :
    w.cell? ⟨b, 0, none⟩ = some x0 ∧ w.cell? ⟨b, 1, none⟩ = some x1 ∧ w.cell? ⟨b, 2, none⟩ = some x2 ∧ w.cell? ⟨b, 3, none⟩ = some x3 ∧ w.cell? ⟨b, 4, none⟩ = some x4 := by
  refine ⟨?_, ?_, ?_, ?_, ?_⟩ <;> simp [World.cell?, h]
theorem dfa_cells {w : World} {b : Nat} {x0 x1 x2 : Value} (h : w.heap[b]? = some (.cells #[x0, x1, x2] 27 (0, 0))) :
    w.cell? ⟨b, 0, none⟩ = some x0 ∧ w.cell? ⟨b, 1, none⟩ = some x1 ∧ w.cell? ⟨b, 2, none⟩ = some x2 ∧ ∀ k, w.frozen? ⟨b, k, none⟩ = false := by
  refine ⟨?_, ?_, ?_, fun k => ?_⟩ <;> simp [World.cell?, World.frozen?, h]
theorem gb_setAt (w : World) (b i : Nat) (v : Value) : w.grownBy (w.setCell ⟨b, i, none⟩ v) (some b) :=
  ⟨rfl, rfl, rfl, by simp [World.setCell], fun k _ hk => heap_setCell_other _ _ _ _ (fun e => hk (by simp [e]))⟩
theorem set3 {w : World} {b : Nat} {x0 x1 x2 : Value} {t : TypeId} (h : w.heap[b]? = some (.cells #[x0, x1, x2] t (0, 0))) (y0 y1 y2 : Value) :
    (((w.setCell ⟨b, 0, none⟩ y0).setCell ⟨b, 1, none⟩ y1).setCell ⟨b, 2, none⟩ y2).heap[b]? = some (.cells #[y0, y1, y2] t (0, 0)) ∧
    w.grownBy (((w.setCell ⟨b, 0, none⟩ y0).setCell ⟨b, 1, none⟩ y1).setCell ⟨b, 2, none⟩ y2) (some b) :=
  ⟨heap_setCell_same _ b 2 _ t y2 (heap_setCell_same _ b 1 _ t y1 (heap_setCell_same _ b 0 _ t y0 h)), gb_trans (gb_trans (gb_setAt _ _ _ _) (gb_setAt _ _ _ _) (Or.inr (Or.inl rfl))) (gb_setAt _ _ _ _) (Or.inr (Or.inl rfl))⟩
theorem chkA_or (a : Aut) : chkA a = 0 ∨ chkA a = 100 := by
  unfold chkA chkG
  split
  · exact Or.inl rfl
  · exact Or.inr rfl
set_option maxHeartbeats 4000000 in
theorem bld_no (vp vi ve vf : Value) (a : Aut) (q g cap nw : Nat) (V : List Nat) (most : Int) (w : World) (h : AutAt w vp vi ve vf a) (hs : SetAt w q g cap nw V) (hbad : chkA a ≠ 0 ∨ (nw : Int) ≠ a.n) :
    Calls Try.prog 23 #[autV vp vi ve vf a.n, .pointer (some ⟨q, 0, none⟩), .int .i64 most] w fun e w' => e = .returned (.tuple #[.agg #[.slice none 0 0, .slice none 0 0, .slice none 0 0], .int .i64 130]) ∧ w.grownBy w' none := by
  have HA := Lib.hid h
  have HS := Lib.hid hs
  obtain ⟨ap, cp, rfl, _⟩ := h.p
  obtain ⟨ai, ci, rfl, _⟩ := h.i
  obtain ⟨ae, ce, rfl, _⟩ := h.e
  obtain ⟨af, cf, rfl, _⟩ := h.f
  clear h hs
  have hga := World.grownBy_alloc w (.cells #[.slice ap a.P.length cp, .int .i64 a.n, .slice ai a.I.length ci, .slice ae a.E.length ce, .slice af a.F.length cf] 47) none
  have hba := heap_alloc_new w (.cells #[.slice ap a.P.length cp, .int .i64 a.n, .slice ai a.I.length ci, .slice ae a.E.length ce, .slice af a.F.length cf] 47)
  have hgb := World.grownBy_alloc (w.alloc (.cells #[.slice ap a.P.length cp, .int .i64 a.n, .slice ai a.I.length ci, .slice ae a.E.length ce, .slice af a.F.length cf] 47)) (.cells #[.slice none 0 0, .slice none 0 0, .slice none 0 0] 27) none
  have hbd := heap_alloc_new (w.alloc (.cells #[.slice ap a.P.length cp, .int .i64 a.n, .slice ai a.I.length ci, .slice ae a.E.length ce, .slice af a.F.length cf] 47)) (.cells #[.slice none 0 0, .slice none 0 0, .slice none 0 0] 27)
  have hbx := hgb.block w.heap.size (by simp [World.size_alloc]) (by simp) |>.trans hba
  rw [World.size_alloc] at hbd
  have HC : Hid (∀ wx, w.grownBy wx none → Calls Try.prog 49 #[autV (.slice ap a.P.length cp) (.slice ai a.I.length ci) (.slice ae a.E.length ce) (.slice af a.F.length cf) a.n] wx fun e w' => e = .returned (.int .i64 (chkA a)) ∧ wx.grownBy w' none) := Lib.hid fun wx hx => check_any _ _ _ _ a wx (HA.out.kept hx)
  have HW : Hid (∀ wx, w.grownBy wx none → Calls Try.prog 50 #[.pointer (some ⟨q, 0, none⟩)] wx fun e w' => e = .returned (.int .i64 (nw : Int)) ∧ wx = w') := Lib.hid fun wx hx => wid_any _ _ _ _ _ wx (HS.out.kept hx (by simp) (by simp))
  unfold autV at HC ⊢
  go_enter Try.func23, Try.ntmps23
  go_wp2_with fail
  go_step3
  go_wp2
  have HGD := Lib.hid (gb_trans hga hgb (Or.inl rfl))
  have HBX := Lib.hid hbx
  have HSZ := Lib.hid (show ((w.alloc (.cells #[.slice ap a.P.length cp, .int .i64 a.n, .slice ai a.I.length ci, .slice ae a.E.length ce, .slice af a.F.length cf] 47)).alloc (.cells #[.slice none 0 0, .slice none 0 0, .slice none 0 0] 27)).heap.size = w.heap.size + 1 + 1 by rw [World.size_alloc, World.size_alloc])
  have HBD := Lib.hid hbd
  clear hga hgb hba hbx hbd
  generalize ((w.alloc (.cells #[.slice ap a.P.length cp, .int .i64 a.n, .slice ai a.I.length ci, .slice ae a.E.length ce, .slice af a.F.length cf] 47)).alloc (.cells #[.slice none 0 0, .slice none 0 0, .slice none 0 0] 27)) = w0 at HGD HBX HBD HSZ ⊢
  have HSS : Hid (∀ wx, w0.grownBy wx none → w0.grownBy wx none ∧ wx.cell? ⟨w.heap.size, 0, none⟩ = some (.slice ap a.P.length cp) ∧ wx.cell? ⟨w.heap.size, 1, none⟩ = some (.int .i64 a.n) ∧ wx.cell? ⟨w.heap.size, 2, none⟩ = some (.slice ai a.I.length ci) ∧ wx.cell? ⟨w.heap.size, 3, none⟩ = some (.slice ae a.E.length ce) ∧ wx.cell? ⟨w.heap.size, 4, none⟩ = some (.slice af a.F.length cf)) := Lib.hid fun wx hx => by
    obtain ⟨b0, b1, b2, b3, b4⟩ := buchi_cells HBX.out
    exact ⟨hx, hx.cell b0 (by simp), hx.cell b1 (by simp), hx.cell b2 (by simp), hx.cell b3 (by simp), hx.cell b4 (by simp)⟩
  have hS0 := HSS.out _ (gb_drew w0 none)
  by_cases hc : chkA a = 0
  case neg =>
    rw [(chkA_or a).resolve_left hc] at HC
    clear hc hbad
    refine wp_region_held_drew (S := (fun wx => w0.grownBy wx none ∧ wx.cell? ⟨w.heap.size, 0, none⟩ = some (.slice ap a.P.length cp) ∧ wx.cell? ⟨w.heap.size, 1, none⟩ = some (.int .i64 a.n) ∧ wx.cell? ⟨w.heap.size, 2, none⟩ = some (.slice ai a.I.length ci) ∧ wx.cell? ⟨w.heap.size, 3, none⟩ = some (.slice ae a.E.length ce) ∧ wx.cell? ⟨w.heap.size, 4, none⟩ = some (.slice af a.F.length cf))) (by kernel_rfl) (by exact hS0) (fun hHeld => ?_)
    refine wpAnyH_take (i := 0) (oi := ({ dst := some 19, op := Go.Op.load 47 (Go.Operand.tmp 3), type := 47, pos := "dfa.go:48", after := #[], guard := none } : Oper)) (v := ?_) rfl (by kernel_rfl) (by kernel_rfl) (by kernel_rfl) (fun _ _ _ h => h) (Or.inl ⟨by rfl, ?_⟩) (by assumption) ?_
    rotate_left
    · (intro wS hSw; (try dsimp only at hSw); go_simp <;> with_reducible rfl)
    try simp only [Act.put, List.setIfInBounds_toArray, List.set_cons_zero, List.set_cons_succ]
    refine wpAnyH_ready (rs := [1]) (by kernel_rfl) (by simp) ?_
    refine AllReadyH.cons (o := ({ dst := some 20, op := Go.Op.call { callee := Go.Callee.value (Go.Operand.func 49), args := #[Go.Operand.tmp 19], argTypes := #[47] }, type := 33, pos := "dfa.go:48", after := #[{ on := 0, ground := Go.Ground.data }], guard := none } : Oper)) rfl (fun K hK => ?_) AllReadyH.nil
    go_simp
    ((with_reducible refine (HC.out _ (gb_trans HGD.out (And.left (by assumption)) (Or.inl rfl))).mono ?_); rintro e w1 ⟨rfl, hg1⟩; have hS1 := HSS.out _ (gb_trans (And.left (by assumption)) hg1 (Or.inl rfl)))
    refine hK.out _ _ (by exact hS1) (fun hHeld => ?_)
    clear hK K
    try simp only [Act.put, List.setIfInBounds_toArray, List.set_cons_zero, List.set_cons_succ]
    refine wpAnyH_take (i := 2) (oi := ({ dst := some 21, op := Go.Op.binOp Go.BinOp.neq 33 (Go.Operand.tmp 20) (Go.Operand.const (Go.Value.int Go.IntKind.i64 0)) 33, type := 4, pos := "dfa.go:48", after := #[{ on := 1, ground := Go.Ground.data }], guard := none } : Oper)) (v := ?_) rfl (by kernel_rfl) (by kernel_rfl) (by kernel_rfl) (fun _ _ _ h => h) (Or.inl ⟨by rfl, ?_⟩) (by assumption) ?_
    rotate_left
    · (intro wS hSw; (try dsimp only at hSw); go_simp <;> with_reducible rfl)
    try simp only [Act.put, List.setIfInBounds_toArray, List.set_cons_zero, List.set_cons_succ]
    refine wpAnyH_take (i := 3) (oi := ({ dst := some 22, op := Go.Op.move (Go.Operand.tmp 21), type := 4, pos := "dfa.go:48", after := #[{ on := 2, ground := Go.Ground.data }, { on := 1, ground := Go.Ground.chain }], guard := none } : Oper)) (v := ?_) rfl (by kernel_rfl) (by kernel_rfl) (by kernel_rfl) (fun _ _ _ h => h) (Or.inl ⟨by rfl, ?_⟩) (by assumption) ?_
    rotate_left
    · (intro wS hSw; (try dsimp only at hSw); go_simp <;> with_reducible rfl)
    try simp only [Act.put, List.setIfInBounds_toArray, List.set_cons_zero, List.set_cons_succ]
    refine wpAnyH_take (i := 4) (oi := ({ dst := some 23, op := Go.Op.move (Go.Operand.tmp 1), type := 50, pos := "dfa.go:48", after := #[{ on := 3, ground := Go.Ground.guard }], guard := some (3, false) } : Oper)) (v := undef) rfl (by kernel_rfl) (by kernel_rfl) (by kernel_rfl) (fun _ _ _ h => h) (Or.inr ⟨by rfl, rfl⟩) (by assumption) ?_
    try simp only [Act.put, List.setIfInBounds_toArray, List.set_cons_zero, List.set_cons_succ]
    refine wpAnyH_take (i := 5) (oi := ({ dst := some 24, op := Go.Op.call { callee := Go.Callee.value (Go.Operand.func 50), args := #[Go.Operand.tmp 23], argTypes := #[50] }, type := 3, pos := "dfa.go:48", after := #[{ on := 4, ground := Go.Ground.data }, { on := 3, ground := Go.Ground.chain }, { on := 3, ground := Go.Ground.guard }], guard := some (3, false) } : Oper)) (v := undef) rfl (by kernel_rfl) (by kernel_rfl) (by kernel_rfl) (fun _ _ _ h => h) (Or.inr ⟨by rfl, rfl⟩) (by assumption) ?_
    try simp only [Act.put, List.setIfInBounds_toArray, List.set_cons_zero, List.set_cons_succ]
    refine wpAnyH_take (i := 6) (oi := ({ dst := some 25, op := Go.Op.fieldAddr 47 (Go.Operand.tmp 3) 1, type := 0, pos := "dfa.go:48", after := #[{ on := 3, ground := Go.Ground.guard }], guard := some (3, false) } : Oper)) (v := undef) rfl (by kernel_rfl) (by kernel_rfl) (by kernel_rfl) (fun _ _ _ h => h) (Or.inr ⟨by rfl, rfl⟩) (by assumption) ?_
    try simp only [Act.put, List.setIfInBounds_toArray, List.set_cons_zero, List.set_cons_succ]
    refine wpAnyH_take (i := 7) (oi := ({ dst := some 26, op := Go.Op.load 3 (Go.Operand.tmp 25), type := 3, pos := "dfa.go:48", after := #[{ on := 6, ground := Go.Ground.data }, { on := 3, ground := Go.Ground.guard }], guard := some (3, false) } : Oper)) (v := undef) rfl (by kernel_rfl) (by kernel_rfl) (by kernel_rfl) (fun _ _ _ h => h) (Or.inr ⟨by rfl, rfl⟩) (by assumption) ?_
    try simp only [Act.put, List.setIfInBounds_toArray, List.set_cons_zero, List.set_cons_succ]
    refine wpAnyH_take (i := 8) (oi := ({ dst := some 27, op := Go.Op.binOp Go.BinOp.neq 3 (Go.Operand.tmp 24) (Go.Operand.tmp 26) 3, type := 4, pos := "dfa.go:48", after := #[{ on := 5, ground := Go.Ground.data }, { on := 7, ground := Go.Ground.data }, { on := 3, ground := Go.Ground.guard }], guard := some (3, false) } : Oper)) (v := undef) rfl (by kernel_rfl) (by kernel_rfl) (by kernel_rfl) (fun _ _ _ h => h) (Or.inr ⟨by rfl, rfl⟩) (by assumption) ?_
    try simp only [Act.put, List.setIfInBounds_toArray, List.set_cons_zero, List.set_cons_succ]
    refine wpAnyH_take (i := 9) (oi := ({ dst := some 28, op := Go.Op.pick (Go.Operand.tmp 22) (Go.Operand.const (Go.Value.bool true)) (Go.Operand.tmp 27), type := 4, pos := "dfa.go:48", after := #[{ on := 3, ground := Go.Ground.data }, { on := 8, ground := Go.Ground.data }], guard := none } : Oper)) (v := ?_) rfl (by kernel_rfl) (by kernel_rfl) (by kernel_rfl) (fun _ _ _ h => h) (Or.inl ⟨by rfl, ?_⟩) (by assumption) ?_
    rotate_left
    · (intro wS hSw; (try dsimp only at hSw); go_simp <;> with_reducible rfl)
    try simp only [Act.put, List.setIfInBounds_toArray, List.set_cons_zero, List.set_cons_succ]
    refine wpAnyH_done (by kernel_rfl) ?_ _
    obtain ⟨hw1, _⟩ := hHeld
    have hd1 := (hw1.block _ (by rw [HSZ.out]; omega) (by simp)).trans HBD.out
    have HG1 := Lib.hid hw1
    obtain ⟨c0, c1, c2, f0⟩ := dfa_cells hd1
    have f1 := f0 1
    have f2 := f0 2
    have f0 := f0 0
    have HD1 := Lib.hid hd1
    clear hw1 hd1
    go_wp2
    rw [Exit.noGoto_ret]
    obtain ⟨hs3, hg3⟩ := set3 HD1.out (.slice none 0 0) (.slice none 0 0) (.slice none 0 0)
    exact bodyPost_ret (results_dfa rfl _ _ (w.heap.size + 1) _ rfl hs3 rfl) rfl ⟨rfl, gb_trans (gb_trans HGD.out HG1.out (Or.inl rfl)) hg3 (Or.inr (Or.inr ⟨_, rfl, by omega⟩))⟩
  have hne : (((nw : Int) != a.n) = true) := by
    rw [bne_iff_ne]
    rcases hbad with h | h
    · exact absurd hc h
    · exact h
  rw [hc] at HC
  clear hc hbad
  refine wp_region_held_drew (S := (fun wx => w0.grownBy wx none ∧ wx.cell? ⟨w.heap.size, 0, none⟩ = some (.slice ap a.P.length cp) ∧ wx.cell? ⟨w.heap.size, 1, none⟩ = some (.int .i64 a.n) ∧ wx.cell? ⟨w.heap.size, 2, none⟩ = some (.slice ai a.I.length ci) ∧ wx.cell? ⟨w.heap.size, 3, none⟩ = some (.slice ae a.E.length ce) ∧ wx.cell? ⟨w.heap.size, 4, none⟩ = some (.slice af a.F.length cf))) (by kernel_rfl) (by exact hS0) (fun hHeld => ?_)
  refine wpAnyH_take (i := 0) (oi := ({ dst := some 19, op := Go.Op.load 47 (Go.Operand.tmp 3), type := 47, pos := "dfa.go:48", after := #[], guard := none } : Oper)) (v := ?_) rfl (by kernel_rfl) (by kernel_rfl) (by kernel_rfl) (fun _ _ _ h => h) (Or.inl ⟨by rfl, ?_⟩) (by assumption) ?_
  rotate_left
  · (intro wS hSw; (try dsimp only at hSw); go_simp <;> with_reducible rfl)
  try simp only [Act.put, List.setIfInBounds_toArray, List.set_cons_zero, List.set_cons_succ]
  refine wpAnyH_ready (rs := [1]) (by kernel_rfl) (by simp) ?_
  refine AllReadyH.cons (o := ({ dst := some 20, op := Go.Op.call { callee := Go.Callee.value (Go.Operand.func 49), args := #[Go.Operand.tmp 19], argTypes := #[47] }, type := 33, pos := "dfa.go:48", after := #[{ on := 0, ground := Go.Ground.data }], guard := none } : Oper)) rfl (fun K hK => ?_) AllReadyH.nil
  go_simp
  ((with_reducible refine (HC.out _ (gb_trans HGD.out (And.left (by assumption)) (Or.inl rfl))).mono ?_); rintro e w1 ⟨rfl, hg1⟩; have hS1 := HSS.out _ (gb_trans (And.left (by assumption)) hg1 (Or.inl rfl)))
  refine hK.out _ _ (by exact hS1) (fun hHeld => ?_)
  clear hK K
  try simp only [Act.put, List.setIfInBounds_toArray, List.set_cons_zero, List.set_cons_succ]
  refine wpAnyH_take (i := 2) (oi := ({ dst := some 21, op := Go.Op.binOp Go.BinOp.neq 33 (Go.Operand.tmp 20) (Go.Operand.const (Go.Value.int Go.IntKind.i64 0)) 33, type := 4, pos := "dfa.go:48", after := #[{ on := 1, ground := Go.Ground.data }], guard := none } : Oper)) (v := ?_) rfl (by kernel_rfl) (by kernel_rfl) (by kernel_rfl) (fun _ _ _ h => h) (Or.inl ⟨by rfl, ?_⟩) (by assumption) ?_
  rotate_left
  · (intro wS hSw; (try dsimp only at hSw); go_simp <;> with_reducible rfl)
  try simp only [Act.put, List.setIfInBounds_toArray, List.set_cons_zero, List.set_cons_succ]
  refine wpAnyH_take (i := 3) (oi := ({ dst := some 22, op := Go.Op.move (Go.Operand.tmp 21), type := 4, pos := "dfa.go:48", after := #[{ on := 2, ground := Go.Ground.data }, { on := 1, ground := Go.Ground.chain }], guard := none } : Oper)) (v := ?_) rfl (by kernel_rfl) (by kernel_rfl) (by kernel_rfl) (fun _ _ _ h => h) (Or.inl ⟨by rfl, ?_⟩) (by assumption) ?_
  rotate_left
  · (intro wS hSw; (try dsimp only at hSw); go_simp <;> with_reducible rfl)
  try simp only [Act.put, List.setIfInBounds_toArray, List.set_cons_zero, List.set_cons_succ]
  refine wpAnyH_take (i := 4) (oi := ({ dst := some 23, op := Go.Op.move (Go.Operand.tmp 1), type := 50, pos := "dfa.go:48", after := #[{ on := 3, ground := Go.Ground.guard }], guard := some (3, false) } : Oper)) (v := ?_) rfl (by kernel_rfl) (by kernel_rfl) (by kernel_rfl) (fun _ _ _ h => h) (Or.inl ⟨by rfl, ?_⟩) (by assumption) ?_
  rotate_left
  · (intro wS hSw; (try dsimp only at hSw); go_simp <;> with_reducible rfl)
  try simp only [Act.put, List.setIfInBounds_toArray, List.set_cons_zero, List.set_cons_succ]
  refine wpAnyH_take (i := 6) (oi := ({ dst := some 25, op := Go.Op.fieldAddr 47 (Go.Operand.tmp 3) 1, type := 0, pos := "dfa.go:48", after := #[{ on := 3, ground := Go.Ground.guard }], guard := some (3, false) } : Oper)) (v := ?_) rfl (by kernel_rfl) (by kernel_rfl) (by kernel_rfl) (fun _ _ _ h => h) (Or.inl ⟨by rfl, ?_⟩) (by assumption) ?_
  rotate_left
  · (intro wS hSw; (try dsimp only at hSw); go_simp <;> with_reducible rfl)
  try simp only [Act.put, List.setIfInBounds_toArray, List.set_cons_zero, List.set_cons_succ]
  refine wpAnyH_take (i := 7) (oi := ({ dst := some 26, op := Go.Op.load 3 (Go.Operand.tmp 25), type := 3, pos := "dfa.go:48", after := #[{ on := 6, ground := Go.Ground.data }, { on := 3, ground := Go.Ground.guard }], guard := some (3, false) } : Oper)) (v := ?_) rfl (by kernel_rfl) (by kernel_rfl) (by kernel_rfl) (fun _ _ _ h => h) (Or.inl ⟨by rfl, ?_⟩) (by assumption) ?_
  rotate_left
  · (intro wS hSw; (try dsimp only at hSw); go_simp <;> with_reducible rfl)
  try simp only [Act.put, List.setIfInBounds_toArray, List.set_cons_zero, List.set_cons_succ]
  refine wpAnyH_ready (rs := [5]) (by kernel_rfl) (by simp) ?_
  refine AllReadyH.cons (o := ({ dst := some 24, op := Go.Op.call { callee := Go.Callee.value (Go.Operand.func 50), args := #[Go.Operand.tmp 23], argTypes := #[50] }, type := 3, pos := "dfa.go:48", after := #[{ on := 4, ground := Go.Ground.data }, { on := 3, ground := Go.Ground.chain }, { on := 3, ground := Go.Ground.guard }], guard := some (3, false) } : Oper)) rfl (fun K hK => ?_) AllReadyH.nil
  go_simp
  ((with_reducible refine (HW.out _ (gb_trans HGD.out (And.left (by assumption)) (Or.inl rfl))).mono ?_); rintro e w2 ⟨rfl, rfl⟩)
  refine hK.out _ _ (by assumption) (fun hHeld => ?_)
  clear hK K
  try simp only [Act.put, List.setIfInBounds_toArray, List.set_cons_zero, List.set_cons_succ]
  refine wpAnyH_take (i := 8) (oi := ({ dst := some 27, op := Go.Op.binOp Go.BinOp.neq 3 (Go.Operand.tmp 24) (Go.Operand.tmp 26) 3, type := 4, pos := "dfa.go:48", after := #[{ on := 5, ground := Go.Ground.data }, { on := 7, ground := Go.Ground.data }, { on := 3, ground := Go.Ground.guard }], guard := some (3, false) } : Oper)) (v := ?_) rfl (by kernel_rfl) (by kernel_rfl) (by kernel_rfl) (fun _ _ _ h => h) (Or.inl ⟨by rfl, ?_⟩) (by assumption) ?_
  rotate_left
  · (intro wS hSw; (try dsimp only at hSw); go_simp <;> with_reducible rfl)
  try simp only [Act.put, List.setIfInBounds_toArray, List.set_cons_zero, List.set_cons_succ]
  refine wpAnyH_take (i := 9) (oi := ({ dst := some 28, op := Go.Op.pick (Go.Operand.tmp 22) (Go.Operand.const (Go.Value.bool true)) (Go.Operand.tmp 27), type := 4, pos := "dfa.go:48", after := #[{ on := 3, ground := Go.Ground.data }, { on := 8, ground := Go.Ground.data }], guard := none } : Oper)) (v := ?_) rfl (by kernel_rfl) (by kernel_rfl) (by kernel_rfl) (fun _ _ _ h => h) (Or.inl ⟨by rfl, ?_⟩) (by assumption) ?_
  rotate_left
  · (intro wS hSw; (try dsimp only at hSw); go_simp <;> with_reducible rfl)
  try simp only [Act.put, List.setIfInBounds_toArray, List.set_cons_zero, List.set_cons_succ]
  refine wpAnyH_done (by kernel_rfl) ?_ _
  obtain ⟨hw1, _⟩ := hHeld
  have hd1 := (hw1.block _ (by rw [HSZ.out]; omega) (by simp)).trans HBD.out
  have HG1 := Lib.hid hw1
  obtain ⟨c0, c1, c2, f0⟩ := dfa_cells hd1
  have f1 := f0 1
  have f2 := f0 2
  have f0 := f0 0
  have HD1 := Lib.hid hd1
  clear hw1 hd1
  go_wp2
  rw [Exit.noGoto_ret]
  obtain ⟨hs3, hg3⟩ := set3 HD1.out (.slice none 0 0) (.slice none 0 0) (.slice none 0 0)
  exact bodyPost_ret (results_dfa rfl _ _ (w.heap.size + 1) _ rfl hs3 rfl) rfl ⟨rfl, gb_trans (gb_trans HGD.out HG1.out (Or.inl rfl)) hg3 (Or.inr (Or.inr ⟨_, rfl, by omega⟩))⟩
end Go.Proofs.Ytcdepblajobemaa
namespace Go.Proofs.Ytcdepblajobemaa
open Go.RowKit

theorem Try.info3 : (Try.prog.info? 3).map (fun i => (i.zero, i.size, i.bytes)) = some (some (.int .i64 0), 1, 8) := by kernel_rfl
theorem Try.info4 : (Try.prog.info? 4).map (fun i => (i.zero, i.size, i.bytes)) = some (some (.bool false), 1, 1) := by kernel_rfl
theorem Try.info43 : (Try.prog.info? 43).map (fun i => (i.zero, i.size, i.bytes)) = some (some (.slice none 0 0), 1, 24) := by kernel_rfl
def tv01 (x : Bool) : Value := .bool x
def iv (x : Int) : Value := .int .i64 x
theorem own_blk' {w : World} {Z e n k : Nat} {v : Value} {xs : List Value} (h : w.ownsRow Z e 1 v n xs) (hk : v.ownBlock = some k) : ∃ cur, w.heap[k]? = some (.cells cur e (0, 0)) := by
  rcases h.2 with ⟨rfl, _⟩ | ⟨g', cap', cur, rfl, _, hg, _⟩
  · simp [Value.ownBlock] at hk
  · simp only [Value.ownBlock, Option.some.injEq] at hk
    subst hk
    exact ⟨cur, hg⟩
theorem own_val {w : World} {Z e n : Nat} {v : Value} {xs : List Value} (h : w.ownsRow Z e 1 v n xs) : ∃ a cap, v = .slice a n cap := by
  rcases h.2 with ⟨rfl, h0⟩ | ⟨g, cap, cur, rfl, _⟩
  · exact ⟨none, 0, by rw [h0]⟩
  · exact ⟨_, _, rfl⟩
theorem own_cell {w : World} {Z e n : Nat} {v : Value} {xs : List Value} (h : w.ownsRow Z e 1 v n xs) (k : Nat) (hk : k < n) : ∃ g cap, v = .slice (some ⟨g, 0, none⟩) n cap ∧ n ≤ cap ∧ w.cell? ⟨g, k, none⟩ = xs[k]? := by
  rcases h.2 with ⟨_, h0⟩ | ⟨g, cap, cur, rfl, hb, hg, hc, _⟩
  · omega
  · exact ⟨g, cap, rfl, hc, h.cellAt k (by omega)⟩
theorem own_off {w : World} {Z e n p : Nat} {e' : TypeId} {v : Value} {xs : List Value} {c : Array Value} {fr : Nat × Nat} (h : w.ownsRow Z e 1 v n xs) (hb : w.heap[p]? = some (.cells c e' fr)) (he : e ≠ e') : v.ownBlock = none ∨ v.ownBlock ≠ some p := by
  rcases hv : v.ownBlock with _ | k
  · exact Or.inl rfl
  · right
    intro e2
    obtain rfl : k = p := Option.some.inj e2
    obtain ⟨c', hc⟩ := own_blk' h hv
    rw [hc] at hb
    simp only [Option.some.injEq, Obj.cells.injEq] at hb
    exact he hb.2.1
theorem own_off' {w : World} {Z e n p : Nat} {e' : TypeId} {v : Value} {xs : List Value} {c : Array Value} {fr : Nat × Nat} (h : w.ownsRow Z e 1 v n xs) (hb : w.heap[p]? = some (.cells c e' fr)) (he : e ≠ e') : v.ownBlock ≠ some p := by
  rcases own_off h hb he with e1 | e1
  · rw [e1]; exact fun e2 => by cases e2
  · exact e1
theorem own_apart {w : World} {Z Z' e e' n m : Nat} {v u : Value} {xs ys : List Value} (h : w.ownsRow Z e 1 v n xs) (h2 : w.ownsRow Z' e' 1 u m ys) (he : e ≠ e') : u.ownBlock = none ∨ u.ownBlock ≠ v.ownBlock := by
  rcases hu : u.ownBlock with _ | k
  · exact Or.inl rfl
  · right
    intro e2
    obtain ⟨c, hc⟩ := own_blk' h2 hu
    rcases own_off h hc he with h0 | h0
    · rw [h0] at e2; cases e2
    · exact h0 e2.symm
theorem own_base {w : World} {Z Z' e n : Nat} {v : Value} {xs : List Value} (h : w.ownsRow Z e 1 v n xs) (hz : Z' ≤ Z) : w.ownsRow Z' e 1 v n xs := by
  refine ⟨h.1, ?_⟩
  rcases h.2 with h2 | ⟨g, cap, cur, hv, hb, rest⟩
  · exact Or.inl h2
  · exact Or.inr ⟨g, cap, cur, hv, by omega, rest⟩
theorem gb_set {w : World} {a : Addr} {v : Value} : w.grownBy (w.setCell a v) (some a.block) :=
  ⟨rfl, rfl, rfl, by simp [World.setCell], fun _ _ hk => Below.heap_setCell _ _ _ _ (fun e => hk (by rw [e]))⟩
/-- Two slices lie apart. -/
def Sep (v v' : Value) : Prop := ∀ b, v.ownBlock = some b → v'.ownBlock ≠ some b
theorem Sep.symm {v v' : Value} (h : Sep v v') : Sep v' v := fun b hb e => h b e hb
theorem Sep.off {v v' : Value} {b : Nat} (h : Sep v v') (hb : v.ownBlock = some b) : v'.ownBlock = none ∨ v'.ownBlock ≠ some b := Or.inr (h b hb)
theorem Sep.off' {v v' : Value} (h : Sep v v') : v'.ownBlock = none ∨ v'.ownBlock ≠ v.ownBlock := by
  rcases hv : v'.ownBlock with _ | b
  · exact Or.inl rfl
  · exact Or.inr fun e => h b e.symm hv
end Go.Proofs.Ytcdepblajobemaa
