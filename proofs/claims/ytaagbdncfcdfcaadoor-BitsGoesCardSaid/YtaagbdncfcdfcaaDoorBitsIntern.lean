/- Bits: Intern of a new set. -/
import Derived.Test.YtaagbdncfcdfcaaDoorBitsFind
import Derived.Maps.AppendAt
import Derived.Deep.AppendLies
import Derived.Deep.RegionLaw
namespace Go.Proofs.YtaagbdncfcdfcaaDoor
open Go.RowKit

def Interned (w : World) (p mb : Nat) (v : Value) (n : Nat) (es : List Ent) (L : List Nat) (e : Ending) (w' : World) : Prop :=
  ∃ v' p' g' cap', e = .returned (.tuple #[.int .i64 (es.length : Int), .bool true]) ∧ TableAt w' p mb v' n (es ++ [(p', g', cap', L)]) ∧ w.heap.size ≤ p' ∧ w.heap.size ≤ g' ∧
    (∀ k, v'.ownBlock = some k → v.ownBlock = some k ∨ w.heap.size ≤ k) ∧ Fr (Own3 p mb v) w w'

theorem Tryd.info23 : (Tryd.prog.info? 23).map (fun i => (i.zero, i.size, i.bytes)) = some (some (.pointer none), 1, 8) := by kernel_rfl

/-- The map bears one more; nothing else of the table has turned. -/
def Mid6 (w : World) (mb n : Nat) (es : List Ent) (L : List Nat) (wx : World) : Prop :=
  ∃ D, ownsBy wx mb (es.length + 1) D ∧ IdxMap n (rowsOf es ++ [L]) D ∧ Fr (· = mb) w wx
def Mid7 (w : World) (p mb : Nat) (v : Value) (n : Nat) (es : List Ent) (L : List Nat) (w' : World) : Prop :=
  ∃ v' p' g' cap', TableAt w' p mb v' n (es ++ [(p', g', cap', L)]) ∧ w.heap.size ≤ p' ∧ w.heap.size ≤ g' ∧
    (∀ k, v'.ownBlock = some k → v.ownBlock = some k ∨ w.heap.size ≤ k) ∧ Fr (Own3 p mb v) w w'
theorem mid7 {w wx w4 w5 : World} {p mb n p' g' cap' : Nat} {v v' : Value} {es : List Ent} {L M : List Nat} (h : TableAt w p mb v n es) (hL : L ∉ rowsOf es) (hx : Mid6 w mb n es L wx)
    (h1 : wx.heap.size ≤ p') (h2 : wx.heap.size ≤ g') (hs : SetAt w4 p' g' cap' n M) (hM : M = L) (h3 : wx.grownBy w4 none)
    (h5 : w5.ownsRow 0 23 1 v' (es.length + 1) (ptrs es ++ [.pointer (some ⟨p', 0, none⟩)])) (h6 : (w4.alloc (.cells #[.pointer (some ⟨p', 0, none⟩)] 23)).grownBy w5 v.ownBlock) (h7 : ∀ k, v'.ownBlock = some k → v.ownBlock = some k ∨ w4.heap.size ≤ k) :
    Mid7 w p mb v n es L (w5.setCell ⟨p, 2, none⟩ v') := by
  subst hM
  obtain ⟨D, hD, hI, hF⟩ := hx
  have hpm := h.pm
  have hvm := h.vm
  have hvp := h.vp
  have hrest : Fr (Own3 p mb v) w w5 := by
    have h36 : Fr (Own3 p mb v) wx w5 := (Fr.of_none (gb_trans h3 (World.grownBy_alloc w4 _ none) (Or.inl rfl)) : Fr (Own3 p mb v) wx _).trans (Fr.of_gb (S := Own3 p mb v) h6 (fun k e => Or.inr (Or.inr e))) (fun _ h => Or.inl h)
    exact (hF.mono (fun k _ (e : k = mb) => (Or.inr (Or.inl e) : Own3 p mb v k))).trans h36 (fun _ h => Or.inl h)
  have hset : Fr (Own3 p mb v) w5 (w5.setCell ⟨p, 2, none⟩ v') :=
    ⟨rfl, rfl, rfl, by simp [World.setCell], fun k hk hn => Below.heap_setCell _ _ _ _ (fun e => hn (Or.inl e))⟩
  have hall := hrest.trans hset (fun _ h => Or.inl h)
  have hbp : w5.heap[p]? = some (.cells #[.int .i64 (n : Int), .map (some mb), v] 69 (0, 0)) := by
    have e1 : wx.heap[p]? = w.heap[p]? := hF.block p h.lt hpm
    have e2 : (w4.alloc (.cells #[.pointer (some ⟨p', 0, none⟩)] 23)).heap[p]? = wx.heap[p]? := by
      have hl : p < wx.heap.size := Nat.lt_of_lt_of_le h.lt hF.size
      rw [(World.grownBy_alloc w4 _ none).block p (Nat.lt_of_lt_of_le hl h3.size) (by simp), h3.block p hl (by simp)]
    rw [h6.block p (by rw [World.size_alloc]; have := h.lt; have := hF.size; have := h3.size; omega) (fun e => hvp e.symm), e2, e1]
    exact h.blk
  have hfin : ∀ k, k ≠ p → (w5.setCell ⟨p, 2, none⟩ v').heap[k]? = w5.heap[k]? := fun k hk => Below.heap_setCell _ _ _ _ hk
  have hP : Fr (· = p) w5 (w5.setCell ⟨p, 2, none⟩ v') := ⟨rfl, rfl, rfl, by simp [World.setCell], fun k _ hn => hfin k hn⟩
  have hs5 : SetAt (w5.setCell ⟨p, 2, none⟩ v') p' g' cap' n M := by
    have hz : w.heap.size ≤ wx.heap.size := hF.size
    have hpl := h.lt
    have hvl : ∀ k, v.ownBlock = some k → k < w.heap.size := fun k hk => (h.row.lt k hk).2
    have s1 : SetAt w5 p' g' cap' n M := (hs.kept (World.grownBy_alloc w4 _ none) (by simp) (by simp)).kept h6 (fun e => by have := hvl _ e; omega) (fun e => by have := hvl _ e; omega)
    exact hP.set s1 (by show ¬ p' = p; omega) (by show ¬ g' = p; omega)
  refine ⟨v', p', g', cap', ⟨?_, ⟨D, ?_, ?_⟩, ?_, ?_, ?_, h.max⟩, Nat.le_trans hF.size h1, Nat.le_trans hF.size h2, fun k hk => ?_, hall⟩
  · simp only [World.setCell, Array.getElem?_modify, hbp]
    simp
  · have d1 : ownsBy w5 mb (es.length + 1) D := by
      have d0 := ((hD.kept h3 (by simp)).alloc (.cells #[.pointer (some ⟨p', 0, none⟩)] 23)).kept h6 (fun e => hvm e.symm)
      exact d0
    have d2 := hP.map d1 (fun e => hpm e.symm)
    simpa using d2
  · simpa [rowsOf] using hI
  · have r1 : (w5.setCell ⟨p, 2, none⟩ v').ownsRow 0 23 1 v' (es.length + 1) (ptrs es ++ [.pointer (some ⟨p', 0, none⟩)]) :=
      hP.row h5 (fun k hk (e : k = p) => by
        subst e
        rcases h5.2 with ⟨rfl, _⟩ | ⟨g, cap, cur, rfl, _, hg, _⟩
        · simp [Value.ownBlock] at hk
        · simp only [Value.ownBlock, Option.some.injEq] at hk
          subst hk
          rw [hbp] at hg
          simp at hg)
    simpa [ptrs] using r1
  · intro e he
    rcases List.mem_append.1 he with he | he
    · have := h.notSet (h.sets e he).raw
      exact hall.set (h.sets e he) this.1 this.2
    · simp at he
      subst he
      exact hs5
  · simp only [rowsOf, List.map_append, List.map_cons, List.map_nil]
    exact List.nodup_append.2 ⟨h.nodup, by simp, fun a ha b hb => by simp at hb; subst hb; rintro rfl; exact hL ha⟩
  · rcases h7 k hk with h' | h'
    · exact Or.inl h'
    · right
      have := hF.size
      have := h3.size
      omega

set_option maxHeartbeats 2000000 in
/-- A new one. -/
theorem intern_new (p mb n q g cap : Nat) (v : Value) (es : List Ent) (L : List Nat) (w : World) (h : TableAt w p mb v n es) (hs : SetAt w q g cap n L) (hb : es.length ≤ 1000000) (hL : L ∉ rowsOf es) :
    Calls Tryd.prog 29 #[.pointer (some ⟨p, 0, none⟩), .pointer (some ⟨q, 0, none⟩)] w (Interned w p mb v n es L) := by
  have hm := h.max
  have h0 := h.cell0
  have hN := hs.cellN
  have hbn : ((n : Int) != (n : Int)) = false := by simp
  obtain ⟨a0, cap0, hv⟩ := h.val
  have HF := Lib.hid fun w' (hg : w.grownBy w' none) => find_any p mb n q g cap v es L w' (h.kept_none hg) (hs.kept hg (by simp) (by simp)) hb
  have hf : findF (rowsOf es) L = -1 := by unfold findF; rw [if_neg hL]
  rw [hf] at HF
  obtain ⟨s, Hs⟩ : ∃ s, Hid (keyS n L = s) := ⟨_, rfl⟩
  have HT := Lib.hid h
  have HS := Lib.hid hs
  have HL := Lib.hid hL
  have HV := Lib.hid hv
  clear h hs hf hL hv
  go_enter Tryd.func29, Tryd.ntmps29
  go_wp2_with fail
  go_quiet (fail)
  go_upto_region 6 with (go_at_call 55; refine (HF.out _ (gb_drewN w _ none)).mono ?_; rintro e w1 ⟨rfl, hg1⟩)
  have hg0 := gb_trans (gb_drewN w _ none) hg1 (Or.inl rfl)
  have hT1 := HT.out.kept_none hg0
  have hS1 := HS.out.kept hg0 (by simp) (by simp)
  have h1 := hT1.cell1
  have h2 := hT1.cell2
  rw [HV.out] at h2
  have HT1 := Lib.hid hT1
  have HS1 := Lib.hid hS1
  clear hT1 hS1 hg1
  go_cut [] (fun wx => Mid6 w mb n es L wx)
  case first =>
    have HK := Lib.hid fun w' (hg : w1.grownBy w' none) => key_h (HS1.out.kept hg (by simp) (by simp)) s Hs
    go_region_with (go_at_call 28; refine (HK.out _ (by exact ⟨rfl, rfl, rfl, Nat.le_refl _, fun _ _ _ => rfl⟩)).mono ?_; rintro e w2 ⟨rfl, hg2⟩; have hg2' := gb_trans (gb_drewN w1 1 none) hg2 (Or.inl rfl); have h1' := hg2'.cell h1 (by simp); have h2' := hg2'.cell h2 (by simp); obtain ⟨D, hD, hI⟩ := (HT1.out.kept_none hg2').map; obtain ⟨w3, hrun, hD3, hg3⟩ := hD.update strKeyed Tryd.underlying67 (by unfold maxLen; omega) (keyOf_set hm L) (plainElem_int (e := 3) (q := .i64) (a := (es.length : Int)) Tryd.underlying3 (WalkArith.wf_i64 (by omega))); rw [Hs.out] at hrun)
    all_goals
      go_wp2_with fail
      go_meet
      refine ⟨_, hD3, ?_, (Fr.of_none (gb_trans hg0 hg2' (Or.inl rfl)) : Fr (· = mb) w w2).trans (Fr.of_gb (S := (· = mb)) hg3 (fun k e => by cases e; rfl)) (fun _ h => Or.inl h)⟩
      have := hI.put HT.out.good HS.out.good HL.out
      rwa [show (rowsOf es).length = es.length by simp [rowsOf]] at this
  case rest =>
    have HX := Lib.hid hcut
    have hne := HT.out.notSet HS.out.raw
    obtain ⟨D, hD, hI, hF⟩ := hcut
    have hpm : p ≠ mb := HT.out.pm
    have h2x : wc.cell? ⟨p, 2, none⟩ = some (.slice a0 es.length cap0) := hF.cell ((HT.out.cell2).trans (by rw [HV.out])) hpm
    have hsx : SetAt wc q g cap n L := hF.set HS.out (fun e => hne.1 (Or.inr (Or.inl e))) (fun e => hne.2 (Or.inr (Or.inl e)))
    have hrow := hF.row HT.out.row (fun k hk e => HT.out.vm (e ▸ hk))
    have hfz : wc.frozen? ⟨p, 2, none⟩ = false := by
      have := HT.out.blk
      rw [← hF.block p HT.out.lt hpm] at this
      simp [World.frozen?, this]
    obtain ⟨i0, hi, hz0, hz1, hz2⟩ := info_parts Tryd.info23
    have HR := Lib.hid hrow
    have HCo := Lib.hid fun w' (hg : wc.grownBy w' none) => copy_h (hsx.kept hg (by simp) (by simp))
    have HI := Lib.hid (And.intro hi (And.intro hz0 (And.intro hz1 hz2)))
    clear hD hI hne hrow hsx hi hz0 hz1 hz2
    have HFr := Lib.hid hF
    clear hF hpm D h1 h2 hg0
    go_wp2_with fail
    go_cut [] (fun wx => Mid7 w p mb v n es L wx)
    case first =>
      go_region_law (first
        | (refine step_append_lies _ rfl (.tmp 37) (.tmp 40) 46 rfl 0 23 i0 (.pointer none) 1 8 Tryd.underlying46 HI.out.1 HI.out.2.1 HI.out.2.2.1 HI.out.2.2.2 rfl (by decide) v es.length (ptrs es) HV.out.symm hrow4 ⟨w4.heap.size, 0, none⟩ 1 1 [.pointer (some ⟨p', 0, none⟩)] rfl rfl (cell_one_new _ _ _) (by simp [Value.oneCell']) (by decide) (by unfold maxLen; omega) (by omega) (Nat.zero_le _) _ rfl ?_; intro g5 cap5 w5 hown5 hgr5 hat5 hlt5; have hgb : wc.grownBy w5 v.ownBlock := gb_trans (gb_any (gb_trans hgr' (World.grownBy_alloc w4 _ none) (Or.inl rfl)) _) hgr5 (Or.inr (Or.inl rfl)); have h25 := hgb.cell h2x (fun e => HT.out.vp e.symm); have hf5 : w5.frozen? ⟨p, 2, none⟩ = false := (World.frozen?_of_block (hgb.block p (World.block_lt_of_cell? wc _ h2x) (fun e => HT.out.vp e.symm))).trans hfz; have HAll := Lib.hid (And.intro hown5 (And.intro hgr5 (And.intro hgr' (And.intro hp' (And.intro hg' (And.intro hs' (And.intro hM hat5))))))); clear hown5 hgr5 hgr' hgr hgb hrow4 hp' hg' hs' hM hat5)
        | (go_simp; go_at_call 33; refine (HCo.out _ (by exact ⟨rfl, rfl, rfl, Nat.le_refl _, fun _ _ _ => rfl⟩)).mono ?_; rintro e w4 ⟨p', g', c', M, rfl, hp', hg', hs', hM, hgr⟩; have hgr' := gb_trans (gb_drewN wc 1 none) hgr (Or.inl rfl); have h2' := hgr'.cell h2x (by simp); have h2a := (World.grownBy_alloc w4 (.cells #[.pointer (some ⟨p', 0, none⟩)] 23) none).cell h2' (by simp); have hrow4 := (HR.out.kept hgr' (Classical.em _)).alloc (.cells #[.pointer (some ⟨p', 0, none⟩)] 23)))
      all_goals
        go_wp2_with fail
        go_meet
        have HB := HAll.out
        refine mid7 HT.out HL.out HX.out HB.2.2.2.1 HB.2.2.2.2.1 HB.2.2.2.2.2.1 HB.2.2.2.2.2.2.1 HB.2.2.1 HB.1 HB.2.1 (fun k hk => ?_)
        simp only [Value.ownBlock, Option.some.injEq] at hk
        subst hk
        rcases HB.2.2.2.2.2.2.2 with e | e
        · exact Or.inl e
        · right; rw [e]; simp
    case rest =>
      obtain ⟨v', p', g', c', hT', k1, k2, k3, k4⟩ := hcut
      have HZ := Lib.hid (And.intro hT' (And.intro k1 (And.intro k2 (And.intro k3 k4))))
      have h2' := hT'.cell2
      obtain ⟨a', cap', rfl⟩ := hT'.val
      clear hT' k1 k2 k3 k4
      have hlen : (es ++ [(p', g', c', L)]).length = es.length + 1 := by simp
      rw [hlen] at h2'
      have HLn := Lib.hid hlen
      clear hlen
      go_wp2_with fail
      go_ret2
      exact ⟨_, p', g', c', by simp, HZ.out.1, HZ.out.2.1, HZ.out.2.2.1, HZ.out.2.2.2.1, HZ.out.2.2.2.2⟩
end Go.Proofs.YtaagbdncfcdfcaaDoor
