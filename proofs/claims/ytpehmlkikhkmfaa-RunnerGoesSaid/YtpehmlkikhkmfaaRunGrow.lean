/- Runner: a runner as it grows in 'New'. -/
import Derived.Test.YtpehmlkikhkmfaaRunNewH
import Derived.Maps.OwnSet
namespace Go.Proofs.Ytpehmlkikhkmfaa
open Go.RowKit

/-- A runner that has got its verdicts, what is final and k of its rows. -/
structure GrowAt (Y : Nat) (w1 wx : World) (p mb : Nat) (vk vo vf : Value) (vs : List Value) (R : List (List Int)) (O : List Int) (F : List Bool) (n : Nat) (D : DataW Unit) (k : Nat) : Prop where
  blk : wx.heap[p]? = some (.cells #[vk, vo, vf, .map (some mb), .int .i64 0] 106 (0, 0))
  next : wx.ownsRow Y 107 1 vk k vs
  each : ∀ i, i < k → ∃ v, vs[i]? = some v ∧ wx.ownsRow Y 3 1 v (R.getD i []).length ((R.getD i []).map iv)
  out : wx.ownsRow Y 59 1 vo O.length (O.map ov)
  fin : wx.ownsRow Y 4 1 vf O.length (F.map bv)
  map : wx.ownsMap Try.prog 9 (plainElem (H := Unit) Try.prog 81) mb n D
  bel : Below Y w1 wx
  old : Y ≤ p
  oldm : Y ≤ mb

theorem own_off {w : World} {Z e n p : Nat} {e' : TypeId} {v : Value} {xs : List Value} {c : Array Value} {fr : Nat × Nat} (h : w.ownsRow Z e 1 v n xs) (hb : w.heap[p]? = some (.cells c e' fr)) (he : e ≠ e') : v.ownBlock = none ∨ v.ownBlock ≠ some p := by
  rcases hv : v.ownBlock with _ | k
  · exact Or.inl rfl
  · right
    intro e2
    obtain rfl : k = p := Option.some.inj e2
    obtain ⟨c', hc⟩ := own_blk' h hv
    rw [hc] at hb
    simp only [Option.some.injEq, Obj.cells.injEq] at hb
    exact he hb.2.1
theorem own_apart {w : World} {Z Z' e e' n m : Nat} {v u : Value} {xs ys : List Value} (h : w.ownsRow Z e 1 v n xs) (h2 : w.ownsRow Z' e' 1 u m ys) (he : e ≠ e') : u.ownBlock = none ∨ u.ownBlock ≠ v.ownBlock := by
  rcases hu : u.ownBlock with _ | k
  · exact Or.inl rfl
  · right
    intro e2
    obtain ⟨c, hc⟩ := own_blk' h2 hu
    rcases own_off h hc he with h0 | h0
    · rw [h0] at e2; cases e2
    · exact h0 e2.symm
theorem map_off {w : World} {P : Program} {t : TypeId} {G : Value → Option (DataW Unit × List MemPlace)} {b n Z e m : Nat} {D : DataW Unit} {v : Value} {xs : List Value} (h : w.ownsMap P t G b n D) (h2 : w.ownsRow Z e 1 v m xs) : some b ≠ v.ownBlock := by
  intro e2
  obtain ⟨c, hc⟩ := own_blk' h2 e2.symm
  obtain ⟨es, cl, hb, _⟩ := h
  rw [hc] at hb
  cases hb

section
variable {Y : Nat} {w1 wx w' : World} {p mb n k : Nat} {vk vo vf : Value} {vs : List Value} {R : List (List Int)} {O : List Int} {F : List Bool} {D : DataW Unit}

theorem GrowAt.lt (h : GrowAt Y w1 wx p mb vk vo vf vs R O F n D k) : p < wx.heap.size := (Array.getElem?_eq_some_iff.1 h.blk).1
theorem GrowAt.size (h : GrowAt Y w1 wx p mb vk vo vf vs R O F n D k) : Y ≤ wx.heap.size := by have := h.lt; have := h.old; omega
/-- Another row, or the map, has grown. -/
theorem GrowAt.kept (h : GrowAt Y w1 wx p mb vk vo vf vs R O F n D k) (hg : wx.grownBy w' none) : GrowAt Y w1 w' p mb vk vo vf vs R O F n D k :=
  ⟨by rw [hg.block p h.lt (by simp)]; exact h.blk, h.next.kept hg (Classical.em _), fun i hi => by obtain ⟨v, hv, hr⟩ := h.each i hi; exact ⟨v, hv, hr.kept hg (Classical.em _)⟩, h.out.kept hg (Classical.em _), h.fin.kept hg (Classical.em _), h.map.kept hg (by simp), h.bel.grown hg h.size (fun _ e => by cases e), h.old, h.oldm⟩

theorem gb_set {w : World} {a : Addr} {v : Value} : w.grownBy (w.setCell a v) (some a.block) :=
  ⟨rfl, rfl, rfl, by simp [World.setCell], fun _ _ hk => Below.heap_setCell _ _ _ _ (fun e => hk (by rw [e]))⟩

theorem GrowAt.push {w2 w5 : World} {v : Value} {g cap : Nat} (h : GrowAt Y w1 wx p mb vk vo vf vs R O F n D k) (hl : vs.length = k) (hg2 : wx.grownBy w2 none) (hv : w2.ownsRow Y 3 1 v (R.getD k []).length ((R.getD k []).map iv))
    (h5 : w5.ownsRow Y 107 1 (.slice (some ⟨g, 0, none⟩) (k + 1) cap) (k + 1) (vs ++ [v])) (h6 : (w2.alloc (.cells #[v] 107)).grownBy w5 vk.ownBlock) :
    GrowAt Y w1 (w5.setCell ⟨p, 0, none⟩ (.slice (some ⟨g, 0, none⟩) (k + 1) cap)) p mb (.slice (some ⟨g, 0, none⟩) (k + 1) cap) vo vf (vs ++ [v]) R O F n D (k + 1) := by
  have h2 := h.kept hg2
  have ha := World.grownBy_alloc w2 (.cells #[v] 107) none
  have h3 := h2.kept ha
  have hv3 := hv.kept ha (Classical.em _)
  have hb5 : w5.heap[p]? = some (.cells #[vk, vo, vf, .map (some mb), .int .i64 0] 106 (0, 0)) := by
    rw [h6.block p h3.lt (by
      rcases own_off h3.next h3.blk (by decide) with e | e
      · rw [e]; simp
      · exact fun e2 => e e2.symm)]
    exact h3.blk
  have hgs : w5.grownBy (w5.setCell ⟨p, 0, none⟩ (.slice (some ⟨g, 0, none⟩) (k + 1) cap)) (some p) := gb_set
  have ho5 := h3.out.kept h6 (own_apart h3.next h3.out (by decide))
  have hf5 := h3.fin.kept h6 (own_apart h3.next h3.fin (by decide))
  have hm5 := h3.map.kept h6 (map_off h3.map h3.next)
  have hbel5 : Below Y w1 w5 := h3.bel.grown h6 h3.size (fun j e => (h3.next.lt j e).1)
  have hlt5 : p < w5.heap.size := (Array.getElem?_eq_some_iff.1 hb5).1
  refine ⟨?_, h5.kept hgs (own_off h5 hb5 (by decide)), fun i hi => ?_, ho5.kept hgs (own_off ho5 hb5 (by decide)), hf5.kept hgs (own_off hf5 hb5 (by decide)), hm5.kept hgs (fun e => ?_), hbel5.grown hgs (Nat.le_trans h.old (Nat.le_of_lt hlt5)) (fun j e => by cases e; exact h.old), h.old, h.oldm⟩
  · simp only [World.setCell, Array.getElem?_modify, hb5]
    simp
  · have key : ∃ u, (vs ++ [v])[i]? = some u ∧ w5.ownsRow Y 3 1 u (R.getD i []).length ((R.getD i []).map iv) := by
      by_cases e : i = k
      · subst e
        exact ⟨v, by rw [List.getElem?_append_right (by omega), hl]; simp, hv3.kept h6 (own_apart h3.next hv3 (by decide))⟩
      · obtain ⟨u, hu, hr⟩ := h3.each i (by omega)
        exact ⟨u, by rw [List.getElem?_append_left (by omega)]; exact hu, hr.kept h6 (own_apart h3.next hr (by decide))⟩
    obtain ⟨u, hu, hr⟩ := key
    exact ⟨u, hu, hr.kept hgs (own_off hr hb5 (by decide))⟩
  · obtain ⟨es, cl, hb, _⟩ := hm5
    have e' : mb = p := Option.some.inj e
    rw [e', hb5] at hb
    cases hb

/-- The map has got a name. -/
theorem GrowAt.named {n' : Nat} {D' : DataW Unit} (h : GrowAt Y w1 wx p mb vk vo vf vs R O F n D k) (hm : w'.ownsMap Try.prog 9 (plainElem (H := Unit) Try.prog 81) mb n' D') (hg : wx.grownBy w' (some mb)) :
    GrowAt Y w1 w' p mb vk vo vf vs R O F n' D' k := by
  obtain ⟨es, cl, hb, _⟩ := h.map
  have hoff : ∀ {v : Value} {Z e m : Nat} {xs : List Value}, wx.ownsRow Z e 1 v m xs → v.ownBlock = none ∨ v.ownBlock ≠ some mb := fun hr => by
    rcases hv : Value.ownBlock _ with _ | j
    · exact Or.inl rfl
    · right
      intro e2
      rw [← hv] at e2
      exact map_off h.map hr e2.symm
  refine ⟨?_, h.next.kept hg (hoff h.next), fun i hi => ?_, h.out.kept hg (hoff h.out), h.fin.kept hg (hoff h.fin), hm, h.bel.grown hg h.size (fun j e => by cases e; exact h.oldm), h.old, h.oldm⟩
  · rw [hg.block p h.lt (fun e => by cases e; rw [h.blk] at hb; cases hb)]
    exact h.blk
  · obtain ⟨v, hv, hr⟩ := h.each i hi
    exact ⟨v, hv, hr.kept hg (hoff hr)⟩

theorem FreshAt.grow {w1 wx : World} {vo vf : Value} (h : FreshAt Y w1 wx p mb vo vf O F) (hp : Y ≤ p) (hm : Y ≤ mb) : GrowAt Y w1 wx p mb (.slice none 0 0) vo vf [] R O F 0 (.map []) 0 :=
  ⟨h.blk, World.ownsRow_nil _ _ _ _, fun _ hi => absurd hi (Nat.not_lt_zero _), h.out, h.fin, h.map, h.bel, hp, hm⟩
theorem GrowAt.cell0 (h : GrowAt Y w1 wx p mb vk vo vf vs R O F n D k) : wx.cell? ⟨p, 0, none⟩ = some vk := by simp [World.cell?, h.blk]
theorem GrowAt.cell3 (h : GrowAt Y w1 wx p mb vk vo vf vs R O F n D k) : wx.cell? ⟨p, 3, none⟩ = some (.map (some mb)) := by simp [World.cell?, h.blk]
theorem GrowAt.frozen (h : GrowAt Y w1 wx p mb vk vo vf vs R O F n D k) (j : Nat) : wx.frozen? ⟨p, j, none⟩ = false := by simp [World.frozen?, h.blk]
end

/-- The bit of a name: its place's. -/
def bitK (P : List ByteArray) : Nat → ByteArray → Nat
  | 0, _ => 0
  | k + 1, x => if x = P.getD k ⟨#[]⟩ then 2 ^ k else bitK P k x
def bitF (P : List ByteArray) : ByteArray → Nat := bitK P P.length
theorem bitK_lt (P : List ByteArray) : ∀ k, k ≤ 8 → ∀ x, bitK P k x < 256
  | 0, _, _ => Nat.zero_lt_succ _
  | k + 1, h, x => by
    unfold bitK
    split
    · exact Nat.lt_of_lt_of_le (Nat.pow_lt_pow_right (by decide) (show k < 8 by omega)) (by decide)
    · exact bitK_lt P k (by omega) x
/-- What the map says of names. -/
def Tells (P : List ByteArray) (k : Nat) (D : DataW Unit) : Prop := ∀ x : ByteArray, x.size ≤ maxLen → D.atKey (.string x.data.toList) (.lit (.int .u16 0)) = .lit (.int .u16 (bitK P k x : Int))
theorem Tells.put {P : List ByteArray} {k : Nat} {D : DataW Unit} (h : Tells P k D) (hm : Maps.IsMap D) : Tells P (k + 1) (D.put (.string (P.getD k ⟨#[]⟩).data.toList) (.lit (.int .u16 ((2 ^ k : Nat) : Int)))) := by
  intro x hx
  unfold bitK
  by_cases e : x = P.getD k ⟨#[]⟩
  · rw [if_pos e, e]
    exact Maps.atKey_put_same hm (show WideAt.IsKeyLit (.string (P.getD k ⟨#[]⟩).data.toList) from trivial) _ _
  · rw [if_neg e, Maps.atKey_put_other (fun e2 => e ?_), h x hx]
    simp only [Lit.string.injEq] at e2
    cases x; simp only at e2
    cases hP : P.getD k ⟨#[]⟩
    rw [hP] at e2
    simp only at e2
    rw [Array.toList_inj.1 e2]
theorem Tells.zero (P : List ByteArray) : Tells P 0 (.map []) := fun _ _ => rfl
end Go.Proofs.Ytpehmlkikhkmfaa
