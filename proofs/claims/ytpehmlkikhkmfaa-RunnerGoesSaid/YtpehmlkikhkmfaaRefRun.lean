/- The document's runner: how it lies in memory; New. -/
import Derived.Test.YtpehmlkikhkmfaaRefCheck
import Derived.Test.YtpehmlkikhkmfaaRunEnds
import Derived.Deep.RegionLaw
import Derived.Deep.DeepCutAuto
namespace Go.Proofs.Ytpehmlkikhkmfaa
open Go.RowKit

theorem step_append_own {w : World} {P : Program} {ops : Array Oper} {o : Oper} {a : Act} {K : Act → World → Prop} {Q : Exit → Act → World → Prop} {E : Prop} (hgd : o.guard = none) (s x : Operand) (t : TypeId)
    (ho : o.op = .call { callee := .builtin .append, args := #[s, x], argTypes := #[t, t] })
    (base : Nat) (e : TypeId) (i : TypeInfo) (z : Value) (size bytes : Nat) (ht : P.underlying t = some (.slice e)) (hi : P.info? e = some i) (hz : i.zero = some z)
    (hsize : i.size = size) (hby : i.bytes = bytes) (hzs : z.cells.size = size) (hsz : 0 < size)
    (v : Value) (n : Nat) (xs : List Value) (hs : a.eval s = v) (hown : w.ownsRow base e size v n xs)
    (ad : Addr) (m c : Nat) (news : List Value) (hx : a.eval x = .slice (some ad) m c) (hl : news.length = m * size) (hnews : ∀ j u, news[j]? = some u → w.cell? (ad.add j) = some u) (h1 : ∀ u ∈ news, u.oneCell' = true)
    (h63 : n + m ≤ maxLen) (hbytes : (n + m) * bytes ≤ 140737488355328) (hbase : base ≤ w.heap.size)
    (h : ∀ v' w', w'.ownsRow base e size v' (n + m) (xs ++ news) → w.grownBy w' v.ownBlock → K (a.put o.dst v') w') :
    if Region.wanted o (yielded ops a.tmps) = true then Oper.wp P o a w K Q else E := by
  have hw : Region.wanted o (yielded ops a.tmps) = true := by simp [Region.wanted, hgd]
  rw [if_pos hw]
  exact wp_append_own w s x t ho base e i z size bytes ht hi hz hsize hby hzs hsz v n xs hs hown ad m c news hx hl hnews h1 h63 hbytes hbase fun v' w' h2 h3 _ => h v' w' h2 h3

/-- The document's runner in block q. -/
structure RefAt (w : World) (Y q : Nat) (vp vn vo : Value) (vs : List Value) (P : List ByteArray) (R : List (List Int)) (O : List Int) (s : Nat) : Prop where
  blk : w.heap[q]? = some (.cells #[vp, vn, vo, .int .i64 (s : Int)] 51 (0, 0))
  props : w.ownsRow Y 9 1 vp P.length (P.map sv)
  next : w.ownsRow Y 107 1 vn R.length vs
  each : ∀ i, i < R.length → ∃ v, vs[i]? = some v ∧ w.ownsRow Y 3 1 v (R.getD i []).length ((R.getD i []).map iv)
  out : w.ownsRow Y 59 1 vo O.length (O.map ov)
  old : Y ≤ q

section
variable {w w' : World} {Y q : Nat} {vp vn vo : Value} {vs : List Value} {P : List ByteArray} {R : List (List Int)} {O : List Int} {s : Nat}
theorem RefAt.lt (h : RefAt w Y q vp vn vo vs P R O s) : q < w.heap.size := (Array.getElem?_eq_some_iff.1 h.blk).1
theorem RefAt.size (h : RefAt w Y q vp vn vo vs P R O s) : Y ≤ w.heap.size := by have := h.lt; have := h.old; omega
theorem RefAt.cell0 (h : RefAt w Y q vp vn vo vs P R O s) : w.cell? ⟨q, 0, none⟩ = some vp := by simp [World.cell?, h.blk]
theorem RefAt.cell1 (h : RefAt w Y q vp vn vo vs P R O s) : w.cell? ⟨q, 1, none⟩ = some vn := by simp [World.cell?, h.blk]
theorem RefAt.cell2 (h : RefAt w Y q vp vn vo vs P R O s) : w.cell? ⟨q, 2, none⟩ = some vo := by simp [World.cell?, h.blk]
theorem RefAt.cell3 (h : RefAt w Y q vp vn vo vs P R O s) : w.cell? ⟨q, 3, none⟩ = some (.int .i64 (s : Int)) := by simp [World.cell?, h.blk]
theorem RefAt.frozen (h : RefAt w Y q vp vn vo vs P R O s) (k : Nat) : w.frozen? ⟨q, k, none⟩ = false := by simp [World.frozen?, h.blk]
theorem RefAt.kept (h : RefAt w Y q vp vn vo vs P R O s) (hg : w.grownBy w' none) : RefAt w' Y q vp vn vo vs P R O s :=
  ⟨by rw [hg.block q h.lt (by simp)]; exact h.blk, h.props.kept hg (Classical.em _), h.next.kept hg (Classical.em _), fun i hi => by obtain ⟨v, hv, hr⟩ := h.each i hi; exact ⟨v, hv, hr.kept hg (Classical.em _)⟩, h.out.kept hg (Classical.em _), h.old⟩
/-- Another block of the runners' types has turned. -/
theorem RefAt.far {b : Nat} {c : Array Value} {e : TypeId} {fr : Nat × Nat} (h : RefAt w Y q vp vn vo vs P R O s) (hb : w.heap[b]? = some (.cells c e fr)) (he : e = 106 ∨ e = 51) (hne : q ≠ b) (hg : w.grownBy w' (some b)) : RefAt w' Y q vp vn vo vs P R O s := by
  have h1 : 9 ≠ e := by rcases he with rfl | rfl <;> decide
  have h2 : 107 ≠ e := by rcases he with rfl | rfl <;> decide
  have h3 : 3 ≠ e := by rcases he with rfl | rfl <;> decide
  have h4 : 59 ≠ e := by rcases he with rfl | rfl <;> decide
  exact ⟨by rw [hg.block q h.lt (fun e => hne (Option.some.inj e))]; exact h.blk, h.props.kept hg (own_off h.props hb h1), h.next.kept hg (own_off h.next hb h2), fun i hi => by obtain ⟨v, hv, hr⟩ := h.each i hi; exact ⟨v, hv, hr.kept hg (own_off hr hb h3)⟩, h.out.kept hg (own_off h.out hb h4), h.old⟩
theorem RefAt.goes (h : RefAt w Y q vp vn vo vs P R O s) (t : Nat) : RefAt (w.setCell ⟨q, 3, none⟩ (.int .i64 (t : Int))) Y q vp vn vo vs P R O t := by
  have hg : w.grownBy (w.setCell ⟨q, 3, none⟩ (.int .i64 (t : Int))) (some q) := gb_set
  refine ⟨?_, h.props.kept hg (own_off h.props h.blk (by decide)), h.next.kept hg (own_off h.next h.blk (by decide)), fun i hi => by obtain ⟨v, hv, hr⟩ := h.each i hi; exact ⟨v, hv, hr.kept hg (own_off hr h.blk (by decide))⟩, h.out.kept hg (own_off h.out h.blk (by decide)), h.old⟩
  simp only [World.setCell, Array.getElem?_modify, h.blk]
  simp
theorem RefAt.set0 {P' : List ByteArray} {vp' : Value} (h : RefAt w Y q vp vn vo vs P R O s) (hp : w.ownsRow Y 9 1 vp' P'.length (P'.map sv)) : RefAt (w.setCell ⟨q, 0, none⟩ vp') Y q vp' vn vo vs P' R O s := by
  have hg : w.grownBy (w.setCell ⟨q, 0, none⟩ vp') (some q) := gb_set
  refine ⟨?_, hp.kept hg (own_off hp h.blk (by decide)), h.next.kept hg (own_off h.next h.blk (by decide)), fun i hi => by obtain ⟨v, hv, hr⟩ := h.each i hi; exact ⟨v, hv, hr.kept hg (own_off hr h.blk (by decide))⟩, h.out.kept hg (own_off h.out h.blk (by decide)), h.old⟩
  simp only [World.setCell, Array.getElem?_modify, h.blk]
  simp
theorem RefAt.set2 {O' : List Int} {vo' : Value} (h : RefAt w Y q vp vn vo vs P R O s) (hp : w.ownsRow Y 59 1 vo' O'.length (O'.map ov)) : RefAt (w.setCell ⟨q, 2, none⟩ vo') Y q vp vn vo' vs P R O' s := by
  have hg : w.grownBy (w.setCell ⟨q, 2, none⟩ vo') (some q) := gb_set
  refine ⟨?_, h.props.kept hg (own_off h.props h.blk (by decide)), h.next.kept hg (own_off h.next h.blk (by decide)), fun i hi => by obtain ⟨v, hv, hr⟩ := h.each i hi; exact ⟨v, hv, hr.kept hg (own_off hr h.blk (by decide))⟩, hp.kept hg (own_off hp h.blk (by decide)), h.old⟩
  simp only [World.setCell, Array.getElem?_modify, h.blk]
  simp
theorem RefAt.push {w2 w5 : World} {v : Value} {l : List Int} {g cap : Nat} (h : RefAt w Y q vp vn vo vs P R O s) (hvl : vs.length = R.length) (hg2 : w.grownBy w2 none) (hv : w2.ownsRow Y 3 1 v l.length (l.map iv))
    (h5 : w5.ownsRow Y 107 1 (.slice (some ⟨g, 0, none⟩) (R.length + 1) cap) (R.length + 1) (vs ++ [v])) (h6 : (w2.alloc (.cells #[v] 107)).grownBy w5 vn.ownBlock) :
    RefAt (w5.setCell ⟨q, 1, none⟩ (.slice (some ⟨g, 0, none⟩) (R.length + 1) cap)) Y q vp (.slice (some ⟨g, 0, none⟩) (R.length + 1) cap) vo (vs ++ [v]) P (R ++ [l]) O s := by
  have ha := World.grownBy_alloc w2 (.cells #[v] 107) none
  have h3 := (h.kept hg2).kept ha
  have hv3 := hv.kept ha (Classical.em _)
  have hb5 : w5.heap[q]? = some (.cells #[vp, vn, vo, .int .i64 (s : Int)] 51 (0, 0)) := by
    rw [h6.block q h3.lt (by
      rcases own_off h3.next h3.blk (by decide) with e | e
      · rw [e]; simp
      · exact fun e2 => e e2.symm)]
    exact h3.blk
  have hg : w5.grownBy (w5.setCell ⟨q, 1, none⟩ (.slice (some ⟨g, 0, none⟩) (R.length + 1) cap)) (some q) := gb_set
  have hp5 := h3.props.kept h6 (own_apart h3.next h3.props (by decide))
  have ho5 := h3.out.kept h6 (own_apart h3.next h3.out (by decide))
  refine ⟨?_, hp5.kept hg (own_off hp5 hb5 (by decide)), by rw [List.length_append]; exact h5.kept hg (own_off h5 hb5 (by decide)), fun i hi => ?_, ho5.kept hg (own_off ho5 hb5 (by decide)), h.old⟩
  · simp only [World.setCell, Array.getElem?_modify, hb5]
    simp
  · rw [List.length_append, List.length_singleton] at hi
    by_cases e : i = R.length
    · subst e
      have hv5 := hv3.kept h6 (own_apart h3.next hv3 (by decide))
      refine ⟨v, by rw [List.getElem?_append_right (by omega), hvl, Nat.sub_self]; rfl, ?_⟩
      have e2 : (R ++ [l]).getD R.length [] = l := by rw [List.getD_eq_getElem?_getD, List.getElem?_append_right (by omega), Nat.sub_self]; rfl
      rw [e2]
      exact hv5.kept hg (own_off hv5 hb5 (by decide))
    · obtain ⟨u, hu, hr⟩ := h3.each i (by omega)
      have hr5 := hr.kept h6 (own_apart h3.next hr (by decide))
      refine ⟨u, by rw [List.getElem?_append_left (by have := h.next.1; omega)]; exact hu, ?_⟩
      rw [getD_left (by omega)]
      exact hr5.kept hg (own_off hr5 hb5 (by decide))
end
end Go.Proofs.Ytpehmlkikhkmfaa
