/- Runner: a step of a script. -/
import Derived.Test.YtpehmlkikhkmfaaRunPush
import Derived.Deep.DeepCutAuto
namespace Go.Proofs.Ytpehmlkikhkmfaa
open Go.RowKit

theorem TextsAt.below {w w' : World} {v : Value} {L : List ByteArray} (h : TextsAt w v L) (hb : Below w.heap.size w w') : TextsAt w' v L := h.kept ⟨hb.os, hb.tape, hb.output, hb.size, fun k hk _ => hb.block k hk⟩
theorem pickF_lt (c : Int) (n : Nat) (hn : 0 < n) : pickF c n < n := Nat.mod_lt _ hn
theorem ptr_at {w : World} {Y e n k : Nat} {v : Value} {ps : List Pr} {f : Pr → Nat} (h : w.ownsRow Y e 1 v n (ps.map fun x => ptrV (f x))) (hk : k < n) (hn : ps.length = n) : ∃ g cap, v = .slice (some ⟨g, 0, none⟩) n cap ∧ w.cell? ⟨g, k, none⟩ = some (.pointer (some ⟨f (ps.getD k default), 0, none⟩)) := by
  obtain ⟨g, cap, hv, _, hc⟩ := own_cell h k hk
  refine ⟨g, cap, hv, ?_⟩
  rw [hc, List.getElem?_map, List.getElem?_eq_getElem (by omega), List.getD_eq_getElem?_getD, List.getElem?_eq_getElem (by omega)]
  rfl

theorem Try.info32 : (Try.prog.info? 32).map (fun i => (i.zero, i.size, i.bytes)) = some (some (.pointer none), 1, 8) := by kernel_rfl
theorem Try.info38 : (Try.prog.info? 38).map (fun i => (i.zero, i.size, i.bytes)) = some (some (.pointer none), 1, 8) := by kernel_rfl
theorem play_mid {w w6 : World} {Y pp : Nat} {vr vq v : Value} {ps : List Pr} {P : List ByteArray} {R : List (List Int)} {O : List Int} (h : PlayAt w Y pp vr vq ps P R O) (hg : (w.alloc (.cells #[v] 32)).grownBy w6 vr.ownBlock) :
    w6.cell? ⟨pp, 0, none⟩ = some vr ∧ w6.frozen? ⟨pp, 0, none⟩ = false ∧ w6.cell? ⟨pp, 1, none⟩ = some vq ∧ w6.heap[pp]? = some (.cells #[vr, vq] 45 (0, 0)) := by
  have k1 := h.kept (World.grownBy_alloc w (.cells #[v] 32) none)
  have b6 : w6.heap[pp]? = some (.cells #[vr, vq] 45 (0, 0)) := by
    rw [hg.block pp k1.lt (fun e => by
      rcases own_off k1.rr k1.blk (by decide) with e2 | e2
      · rw [e2] at e; cases e
      · exact e2 e.symm)]
    exact k1.blk
  exact ⟨by simp [World.cell?, b6], by simp [World.frozen?, b6], by simp [World.cell?, b6], b6⟩

theorem play_mid2 {w w6 : World} {Y pp g6 c6 : Nat} {vr vq v : Value} {ps : List Pr} {P : List ByteArray} {R : List (List Int)} {O : List Int} (h : PlayAt w Y pp vr vq ps P R O) (hg : (w.alloc (.cells #[v] 32)).grownBy w6 vr.ownBlock) :
    (w6.setCell ⟨pp, 0, none⟩ (.slice (some ⟨g6, 0, none⟩) (ps.length + 1) c6)).ownsRow Y 38 1 vq ps.length (ps.map fun x => ptrV x.q) ∧ (w6.setCell ⟨pp, 0, none⟩ (.slice (some ⟨g6, 0, none⟩) (ps.length + 1) c6)).heap[pp]? = some (.cells #[.slice (some ⟨g6, 0, none⟩) (ps.length + 1) c6, vq] 45 (0, 0)) := by
  have k1 := h.kept (World.grownBy_alloc w (.cells #[v] 32) none)
  have b6 := (play_mid h hg).2.2.2
  have q6 := k1.rq.kept hg (own_apart k1.rr k1.rq (by decide))
  refine ⟨q6.kept (gb_set (w := w6) (a := ⟨pp, 0, none⟩)) (own_off q6 b6 (by decide)), ?_⟩
  simp only [World.setCell, Array.getElem?_modify, b6]
  simp
theorem play_mid3 {w7 w8 : World} {Y pp n : Nat} {a vq v : Value} {xs : List Value} (hq : w7.ownsRow Y 38 1 vq n xs) (hb : w7.heap[pp]? = some (.cells #[a, vq] 45 (0, 0))) (hg : (w7.alloc (.cells #[v] 38)).grownBy w8 vq.ownBlock) :
    w8.cell? ⟨pp, 1, none⟩ = some vq ∧ w8.frozen? ⟨pp, 1, none⟩ = false := by
  have a8 := World.grownBy_alloc w7 (.cells #[v] 38) none
  have b7a : (w7.alloc (.cells #[v] 38)).heap[pp]? = _ := (a8.block pp (Array.getElem?_eq_some_iff.1 hb).1 (by simp)).trans hb
  have b8 : w8.heap[pp]? = some (.cells #[a, vq] 45 (0, 0)) := by
    rw [hg.block pp (Array.getElem?_eq_some_iff.1 b7a).1 (fun e => by
      rcases own_off (hq.kept a8 (Classical.em _)) b7a (by decide) with e2 | e2
      · rw [e2] at e; cases e
      · exact e2 e.symm)]
    exact b7a
  exact ⟨by simp [World.cell?, b8], by simp [World.frozen?, b8]⟩

/-- What stands through a step. -/
structure Mid (w0 w : World) (Y pp B k : Nat) (P : List ByteArray) (R : List (List Int)) (O : List Int) (pk qk : Nat) (v10 x y z u m0 m1 m2 : Value) (L : List ByteArray) (ps : List Pr) (vr vq : Value) : Prop where
  play : PlayAt w Y pp vr vq ps P R O
  len : ps.length ≤ 8
  lt : k < ps.length
  pk : (ps.getD k default).p = pk
  qk : (ps.getD k default).q = qk
  lent : LentTexts w Y v10 L
  op : w.heap[B + 1]? = some (.cells #[x, y, z, u] 48 (0, 0))
  mo : w.heap[B]? = some (.cells #[m0, m1, m2] 27 (0, 0))
  bel : Below Y w0 w
section
variable {w0 w w' : World} {Y pp B k pk qk s' : Nat} {P : List ByteArray} {R : List (List Int)} {O : List Int} {v10 x y z u m0 m1 m2 vr vq : Value} {L : List ByteArray} {ps : List Pr}
theorem Mid.size (h : Mid w0 w Y pp B k P R O pk qk v10 x y z u m0 m1 m2 L ps vr vq) : Y ≤ w.heap.size := Nat.le_trans h.play.old (Nat.le_of_lt h.play.lt)
theorem Mid.cell0 (h : Mid w0 w Y pp B k P R O pk qk v10 x y z u m0 m1 m2 L ps vr vq) : w.cell? ⟨B + 1, 0, none⟩ = some x := by simp [World.cell?, h.op]
theorem Mid.cell2 (h : Mid w0 w Y pp B k P R O pk qk v10 x y z u m0 m1 m2 L ps vr vq) : w.cell? ⟨B + 1, 2, none⟩ = some z := by simp [World.cell?, h.op]
theorem Mid.box (h : Mid w0 w Y pp B k P R O pk qk v10 x y z u m0 m1 m2 L ps vr vq) : w.cell? ⟨B + 1, 3, none⟩ = some u := by simp [World.cell?, h.op]
theorem Mid.kept (h : Mid w0 w Y pp B k P R O pk qk v10 x y z u m0 m1 m2 L ps vr vq) (hg : w.grownBy w' none) : Mid w0 w' Y pp B k P R O pk qk v10 x y z u m0 m1 m2 L ps vr vq :=
  ⟨h.play.kept hg, h.len, h.lt, h.pk, h.qk, h.lent.kept hg (Classical.em _), by rw [hg.block _ (Array.getElem?_eq_some_iff.1 h.op).1 (by simp)]; exact h.op, by rw [hg.block _ (Array.getElem?_eq_some_iff.1 h.mo).1 (by simp)]; exact h.mo, h.bel.grown hg h.size (fun _ e => by cases e)⟩
theorem LentTexts.off {w : World} {Y b : Nat} {v : Value} {L : List ByteArray} {c : Array Value} {e : TypeId} {fr : Nat × Nat} (h : LentTexts w Y v L) (hb : w.heap[b]? = some (.cells c e fr)) (he : 9 ≠ e) : v.ownBlock = none ∨ v.ownBlock ≠ some b := by
  obtain ⟨g, cap, rfl, h1, h2, h3⟩ := h
  exact own_off (v := .slice (some ⟨g, 0, none⟩) (L.length + 2) cap) h3 hb he
theorem Mid.goP (h : Mid w0 w Y pp B k P R O pk qk v10 x y z u m0 m1 m2 L ps vr vq) (hg : w.grownBy w' (some pk)) (hl : ∃ Z F, Live w' Z pk P R O F s' ∧ Hid (Fins O (turnF R) 3 F)) : Mid w0 w' Y pp B k P R O pk qk v10 x y z u m0 m1 m2 L (ps.set k ((ps.getD k default).goS s')) vr vq := by
  obtain ⟨⟨Z, F, hli, _⟩, _⟩ := h.play.each k h.lt
  obtain ⟨c, fr, hb⟩ := hli.blk
  rw [h.pk] at hb
  refine ⟨h.play.moveP h.lt (by rw [h.pk]; exact hg) (by rw [h.pk]; exact hl), by rw [List.length_set]; exact h.len, by rw [List.length_set]; exact h.lt, by rw [getD_set h.lt, if_pos rfl]; exact h.pk, by rw [getD_set h.lt, if_pos rfl]; exact h.qk, h.lent.kept hg (h.lent.off hb (by decide)), ?_, ?_, h.bel.grown hg h.size (fun j e => by cases e; have := (h.play.lo k h.lt).1; rw [h.pk] at this; exact this)⟩
  · rw [hg.block _ (Array.getElem?_eq_some_iff.1 h.op).1 (fun e => blk_ne h.op hb (by decide) (Option.some.inj e))]; exact h.op
  · rw [hg.block _ (Array.getElem?_eq_some_iff.1 h.mo).1 (fun e => blk_ne h.mo hb (by decide) (Option.some.inj e))]; exact h.mo
theorem Mid.goQ (h : Mid w0 w Y pp B k P R O pk qk v10 x y z u m0 m1 m2 L ps vr vq) (hg : w.grownBy w' (some qk)) (hl : Ref w' qk P R O s') : Mid w0 w' Y pp B k P R O pk qk v10 x y z u m0 m1 m2 L (ps.set k ((ps.getD k default).goT s')) vr vq := by
  obtain ⟨_, hri⟩ := h.play.each k h.lt
  obtain ⟨c, fr, hb⟩ := hri.blk
  rw [h.qk] at hb
  refine ⟨h.play.moveQ h.lt (by rw [h.qk]; exact hg) (by rw [h.qk]; exact hl), by rw [List.length_set]; exact h.len, by rw [List.length_set]; exact h.lt, by rw [getD_set h.lt, if_pos rfl]; exact h.pk, by rw [getD_set h.lt, if_pos rfl]; exact h.qk, h.lent.kept hg (h.lent.off hb (by decide)), ?_, ?_, h.bel.grown hg h.size (fun j e => by cases e; have := (h.play.lo k h.lt).2; rw [h.qk] at this; exact this)⟩
  · rw [hg.block _ (Array.getElem?_eq_some_iff.1 h.op).1 (fun e => blk_ne h.op hb (by decide) (Option.some.inj e))]; exact h.op
  · rw [hg.block _ (Array.getElem?_eq_some_iff.1 h.mo).1 (fun e => blk_ne h.mo hb (by decide) (Option.some.inj e))]; exact h.mo
theorem row_blk {w w' : World} {Y n b : Nat} {e e' : TypeId} {v : Value} {xs : List Value} {c : Array Value} {fr : Nat × Nat} (hb : w.heap[b]? = some (.cells c e' fr)) (hr : w.ownsRow Y e 1 v n xs) (he : e ≠ e') (hg : w.grownBy w' v.ownBlock) : w'.heap[b]? = some (.cells c e' fr) := by
  rw [hg.block b (Array.getElem?_eq_some_iff.1 hb).1 (fun e2 => by
    rcases own_off hr hb he with e3 | e3
    · rw [e3] at e2; cases e2
    · exact e3 e2.symm)]
  exact hb
theorem row_lent {w w' : World} {Y n : Nat} {e : TypeId} {v u : Value} {xs : List Value} {L : List ByteArray} (h : LentTexts w Y u L) (hr : w.ownsRow Y e 1 v n xs) (he : e ≠ 9) (hg : w.grownBy w' v.ownBlock) : LentTexts w' Y u L := by
  refine h.kept hg ?_
  obtain ⟨g, cap, rfl, h1, h2, h3⟩ := h
  exact own_apart (u := .slice (some ⟨g, 0, none⟩) (L.length + 2) cap) hr h3 he
/-- One more stands beside them, in the middle of a step. -/
theorem Mid.push {w0 w w6 w8 : World} {Y pp B k pk qk g6 c6 g8 c8 : Nat} {P : List ByteArray} {R : List (List Int)} {O : List Int} {v10 a0 a1 a2 a3 m0 m1 m2 vr vq : Value} {L : List ByteArray} {ps : List Pr} {x : Pr} (h : Mid w0 w Y pp B k P R O pk qk v10 a0 a1 a2 a3 m0 m1 m2 L ps vr vq) (hx : PairAt w P R O x) (h8b : ps.length < 8)
    (hnp : ∀ i, i < ps.length → (ps.getD i default).p ≠ x.p) (hnq : ∀ i, i < ps.length → (ps.getD i default).q ≠ x.q) (hlo : Y ≤ x.p ∧ Y ≤ x.q)
    (h6 : w6.ownsRow Y 32 1 (.slice (some ⟨g6, 0, none⟩) (ps.length + 1) c6) (ps.length + 1) ((ps.map fun x => ptrV x.p) ++ [ptrV x.p])) (hg6 : (w.alloc (.cells #[ptrV x.p] 32)).grownBy w6 vr.ownBlock)
    (h8 : w8.ownsRow Y 38 1 (.slice (some ⟨g8, 0, none⟩) (ps.length + 1) c8) (ps.length + 1) ((ps.map fun x => ptrV x.q) ++ [ptrV x.q])) (hg8 : ((w6.setCell ⟨pp, 0, none⟩ (.slice (some ⟨g6, 0, none⟩) (ps.length + 1) c6)).alloc (.cells #[ptrV x.q] 38)).grownBy w8 vq.ownBlock) :
    Mid w0 (w8.setCell ⟨pp, 1, none⟩ (.slice (some ⟨g8, 0, none⟩) (ps.length + 1) c8)) Y pp B k P R O pk qk v10 a0 a1 a2 a3 m0 m1 m2 L (ps ++ [x]) (.slice (some ⟨g6, 0, none⟩) (ps.length + 1) c6) (.slice (some ⟨g8, 0, none⟩) (ps.length + 1) c8) := by
  have hplay := h.play.push hx hnp hnq hlo h6 hg6 h8 hg8
  have hgl : (ps ++ [x]).getD k default = ps.getD k default := by rw [List.getD_eq_getElem?_getD, List.getElem?_append_left h.lt, ← List.getD_eq_getElem?_getD]
  have a := h.kept (World.grownBy_alloc w (.cells #[ptrV x.p] 32) none)
  have b6 := row_blk a.play.blk a.play.rr (by decide) hg6
  have o6 := row_blk a.op a.play.rr (by decide) hg6
  have n6 := row_blk a.mo a.play.rr (by decide) hg6
  have l6 := row_lent a.lent a.play.rr (by decide) hg6
  have q6 := a.play.rq.kept hg6 (own_apart a.play.rr a.play.rq (by decide))
  have e6 : Below Y w0 w6 := a.bel.grown hg6 a.size (fun j e => (a.play.rr.lt j e).1)
  have s7 : w6.grownBy (w6.setCell ⟨pp, 0, none⟩ (.slice (some ⟨g6, 0, none⟩) (ps.length + 1) c6)) (some pp) := gb_set
  have z6 : Y ≤ w6.heap.size := Nat.le_trans h.play.old (Nat.le_of_lt (Array.getElem?_eq_some_iff.1 b6).1)
  have o7 := (s7.block _ (Array.getElem?_eq_some_iff.1 o6).1 (fun e => blk_ne o6 b6 (by decide) (Option.some.inj e))).trans o6
  have n7 := (s7.block _ (Array.getElem?_eq_some_iff.1 n6).1 (fun e => blk_ne n6 b6 (by decide) (Option.some.inj e))).trans n6
  have l7 := l6.kept s7 (l6.off b6 (by decide))
  have q7 := q6.kept s7 (own_off q6 b6 (by decide))
  have e7 : Below Y w0 _ := e6.grown s7 z6 (fun j e => by cases e; exact h.play.old)
  have b7 : (w6.setCell ⟨pp, 0, none⟩ (.slice (some ⟨g6, 0, none⟩) (ps.length + 1) c6)).heap[pp]? = some (.cells #[.slice (some ⟨g6, 0, none⟩) (ps.length + 1) c6, vq] 45 (0, 0)) := by
    simp only [World.setCell, Array.getElem?_modify, b6]
    simp
  generalize w6.setCell ⟨pp, 0, none⟩ (.slice (some ⟨g6, 0, none⟩) (ps.length + 1) c6) = w7 at s7 o7 n7 l7 q7 e7 b7 hg8
  have z7 : Y ≤ w7.heap.size := Nat.le_trans z6 s7.size
  have a7 := World.grownBy_alloc w7 (.cells #[ptrV x.q] 38) none
  have q7a := q7.kept a7 (Classical.em _)
  have o8 := row_blk ((a7.block _ (Array.getElem?_eq_some_iff.1 o7).1 (by simp)).trans o7) q7a (by decide) hg8
  have n8 := row_blk ((a7.block _ (Array.getElem?_eq_some_iff.1 n7).1 (by simp)).trans n7) q7a (by decide) hg8
  have b8 := row_blk ((a7.block _ (Array.getElem?_eq_some_iff.1 b7).1 (by simp)).trans b7) q7a (by decide) hg8
  have l8 := row_lent (l7.kept a7 (Classical.em _)) q7a (by decide) hg8
  have e8 : Below Y w0 w8 := (e7.grown a7 z7 (fun _ e => by cases e)).grown hg8 (Nat.le_trans z7 a7.size) (fun j e => (q7a.lt j e).1)
  have s9 : w8.grownBy (w8.setCell ⟨pp, 1, none⟩ (.slice (some ⟨g8, 0, none⟩) (ps.length + 1) c8)) (some pp) := gb_set
  have z8 : Y ≤ w8.heap.size := Nat.le_trans (Nat.le_trans z7 a7.size) hg8.size
  exact ⟨hplay, by rw [List.length_append, List.length_singleton]; omega, by rw [List.length_append, List.length_singleton]; have := h.lt; omega, by rw [hgl]; exact h.pk, by rw [hgl]; exact h.qk, l8.kept s9 (l8.off b8 (by decide)), (s9.block _ (Array.getElem?_eq_some_iff.1 o8).1 (fun e => blk_ne o8 b8 (by decide) (Option.some.inj e))).trans o8, (s9.block _ (Array.getElem?_eq_some_iff.1 n8).1 (fun e => blk_ne n8 b8 (by decide) (Option.some.inj e))).trans n8, e8.grown s9 z8 (fun j e => by cases e; exact h.play.old)⟩
/-- Both have gone on alike. -/
theorem pairs_eq (hst : ∀ i, i < ps.length → (ps.getD i default).s = (ps.getD i default).t) (hk : k < ps.length) : ∀ i, i < ((ps.set k ((ps.getD k default).goS s')).set k (((ps.set k ((ps.getD k default).goS s')).getD k default).goT s')).length → (((ps.set k ((ps.getD k default).goS s')).set k (((ps.set k ((ps.getD k default).goS s')).getD k default).goT s')).getD i default).s = (((ps.set k ((ps.getD k default).goS s')).set k (((ps.set k ((ps.getD k default).goS s')).getD k default).goT s')).getD i default).t := by
  intro i hi
  rw [List.length_set, List.length_set] at hi
  have h2 : k < (ps.set k ((ps.getD k default).goS s')).length := by rw [List.length_set]; exact hk
  rw [getD_set h2]
  by_cases e : k = i
  · rw [if_pos e, getD_set hk, if_pos rfl]; rfl
  · rw [if_neg e, getD_set hk, if_neg e]
    exact hst i hi
end

set_option maxRecDepth 100000 in
set_option maxHeartbeats 20000000 in
theorem pstep_any {w0 w : World} {Y pp : Nat} {vr vq vp vn vo x y z u : Value} {ps : List Pr} {P : List ByteArray} {R : List (List Int)} {O : List Int} {d : OpD}
    (hY : Y = w0.heap.size) (hM : MachAt w0 vp vn vo P R O) (hE : mErr P R O = 0) (hn : O.length ≤ 200000) (hop : OpAt w0 x y z u d) (hnm : d.names.length ≤ 100000) (hB : Below Y w0 w)
    (h : PlayAt w Y pp vr vq ps P R O) (h0 : 0 < ps.length) (h8 : ps.length ≤ 8) (hst : ∀ i, i < ps.length → (ps.getD i default).s = (ps.getD i default).t) :
    Calls Try.prog 17 #[.pointer (some ⟨pp, 0, none⟩), .agg #[vp, vn, vo], .agg #[x, y, z, u]] w fun e w' => e = .returned (.bool true) ∧ ∃ vr' vq' ps', PlayAt w' Y pp vr' vq' ps' P R O ∧ 0 < ps'.length ∧ ps'.length ≤ 8 ∧ (∀ i, i < ps'.length → (ps'.getD i default).s = (ps'.getD i default).t) ∧ Below Y w0 w' := by
  obtain ⟨rfl, rfl, rfl, hk1, hk2, hk3, hTx, hSh⟩ := hop
  have hYw : Y ≤ w.heap.size := by rw [hY]; exact hB.size
  have HM : Hid (∀ wx, Below Y w0 wx → MachAt wx vp vn vo P R O) := Lib.hid fun wx hb => hM.below (by rw [← hY]; exact hb)
  have HT : Hid (∀ wx, Below Y w0 wx → TextsAt wx u d.names) := Lib.hid fun wx hb => hTx.below (by rw [← hY]; exact hb)
  have HE := Lib.hid hE
  have ha := gb_trans (World.grownBy_alloc w (.cells #[vp, vn, vo] 27) none) (World.grownBy_alloc _ (.cells #[.int .i64 d.kind, .int .i64 d.who, .int .i64 d.n, u] 48) none) (Or.inl rfl)
  have b1 := blk_up (o := .cells #[.int .i64 d.kind, .int .i64 d.who, .int .i64 d.n, u] 48) (heap_alloc_new w (.cells #[vp, vn, vo] 27))
  have b2 := heap_alloc_new (w.alloc (.cells #[vp, vn, vo] 27)) (.cells #[.int .i64 d.kind, .int .i64 d.who, .int .i64 d.n, u] 48)
  rw [World.size_alloc] at b2
  have h1 := h.kept ha
  have hB1 : Below Y w0 _ := hB.grown ha hYw (fun _ e => by cases e)
  have hpw := h.lt
  obtain ⟨au, cu, nu, rfl⟩ : ∃ au cu nu, u = .slice au nu cu := by obtain ⟨au, cu, e, _⟩ := hTx; exact ⟨au, cu, _, e⟩
  obtain ⟨k, hk⟩ : ∃ k, Hid (k = pickF d.who ps.length) := ⟨_, Lib.hid rfl⟩
  have hkl : k < ps.length := by rw [hk.out]; exact pickF_lt _ _ h0
  have HPk : Hid (∀ wx, Calls Try.prog 36 #[.int .i64 d.who, .int .i64 (ps.length : Int)] wx fun e w' => e = .returned (.int .i64 (k : Int)) ∧ w' = wx) := Lib.hid fun wx => by
    rw [hk.out]
    exact pick_any wx d.who ps.length h0 (by omega) hk2.1 hk2.2
  clear hM hE hTx hB hY
  go_enter Try.func17, Try.ntmps17
  go_wp2_with fail
  generalize (w.alloc (.cells #[vp, vn, vo] 27)).alloc (.cells #[.int .i64 d.kind, .int .i64 d.who, .int .i64 d.n, .slice au nu cu] 48) = w1 at ha b1 b2 h1 hB1 ⊢
  have c1 : w1.cell? ⟨w.heap.size + 1, 1, none⟩ = some (.int .i64 d.who) := by simp [World.cell?, b2]
  have p0 : w1.cell? ⟨pp, 0, none⟩ = some vr := by simp [World.cell?, h1.blk]
  have p1 : w1.cell? ⟨pp, 1, none⟩ = some vq := by simp [World.cell?, h1.blk]
  obtain ⟨gr, cr, rfl, hcr⟩ := ptr_at (f := Pr.p) h1.rr hkl rfl
  obtain ⟨gq, cq, rfl, hcq⟩ := ptr_at (f := Pr.q) h1.rq hkl rfl
  go_quiet ((go_at_call 36; exact Calls.quiet_of_same (HPk.out _)))
  have hgd := gb_drewN w1 nq none
  have h2 := h1.kept hgd
  have hB2 : Below Y w0 (w1.drewN nq) := hB1.grown hgd (Nat.le_trans hYw ha.size) (fun _ e => by cases e)
  have c2 : (w1.drewN nq).heap[w.heap.size]? = some (.cells #[vp, vn, vo] 27 (0, 0)) := b1
  have c3 : (w1.drewN nq).heap[w.heap.size + 1]? = some (.cells #[.int .i64 d.kind, .int .i64 d.who, .int .i64 d.n, .slice au nu cu] 48 (0, 0)) := b2
  have hcr2 := hgd.cell hcr (by simp)
  have hcq2 := hgd.cell hcq (by simp)
  have p02 := hgd.cell p0 (by simp)
  have p12 := hgd.cell p1 (by simp)
  clear c1 p0 p1 hcr hcq h1 hB1 b1 b2 HPk h
  have hG2 := gb_trans ha hgd (Or.inl rfl)
  clear ha hgd
  generalize w1.drewN nq = w2 at h2 hB2 c2 c3 hcr2 hcq2 p02 p12 hG2 ⊢
  have HLe := Lib.hid (lent_texts (HT.out _ hB2) (by omega))
  have hY2 : Y ≤ w2.heap.size := Nat.le_trans hYw hG2.size
  have n3 : w2.cell? ⟨w.heap.size + 1, 3, none⟩ = some (.slice au nu cu) := by simp [World.cell?, c3]
  have hMid : Hid (∀ wx v', LentTexts wx w2.heap.size v' d.names → w2.grownBy wx none → Mid w0 wx Y pp w.heap.size k P R O (ps.getD k default).p (ps.getD k default).q v' (.int .i64 d.kind) (.int .i64 d.who) (.int .i64 d.n) (.slice au nu cu) vp vn vo d.names ps (.slice (some ⟨gr, 0, none⟩) ps.length cr) (.slice (some ⟨gq, 0, none⟩) ps.length cq)) := Lib.hid fun wx v' hl hg => by
    have e2 : wx.heap[w.heap.size + 1]? = _ := (hg.block _ (Array.getElem?_eq_some_iff.1 c3).1 (by simp)).trans c3
    have e1 : wx.heap[w.heap.size]? = _ := (hg.block _ (Array.getElem?_eq_some_iff.1 c2).1 (by simp)).trans c2
    refine ⟨h2.kept hg, h8, hkl, rfl, rfl, ?_, e2, e1, hB2.grown hg hY2 (fun _ e => by cases e)⟩
    obtain ⟨g, c, hv, l1, l2, l3⟩ := hl
    exact ⟨g, c, hv, l1, l2, own_base l3 hY2⟩
  obtain ⟨pk, hpk⟩ : ∃ pk, Hid (pk = (ps.getD k default).p) := ⟨_, Lib.hid rfl⟩
  obtain ⟨qk, hqk⟩ : ∃ qk, Hid (qk = (ps.getD k default).q) := ⟨_, Lib.hid rfl⟩
  rw [← hpk.out] at hcr2 hMid
  rw [← hqk.out] at hcq2 hMid
  have hkI : (k : Int) < (ps.length : Int) := by omega
  clear h2 hB2 c2 c3
  go_upto_region 5 with (go_at_call 20; refine HLe.out.mono ?_; rintro e w3 ⟨v10, rfl, hl3, hg3⟩; have HMid := Lib.hid (hMid.out _ _ hl3 hg3); have k0 := HMid.out.cell0; clear hl3)
  go_cut [11] (fun s11 wx => s11 = .bool true ∧ wx = w3)
  case first =>
    go_wp2_with fail
    go_meet
    exact ⟨rfl, rfl⟩
  obtain ⟨rfl, rfl⟩ := hcut
  refine ‹∀ (a : Act) (w : World), Code.wp _ (Code.seq (Code.seq _ _) _) _ a w → _› _ _ ?_
  apply wp_seq_k
  intro K2 hK2
  go_cut [11] (fun s11 wx => s11 = .bool true ∧ ∃ vr' vq' ps', Hid (Mid w0 wx Y pp w.heap.size k P R O pk qk v10 (.int .i64 d.kind) (.int .i64 d.who) (.int .i64 d.n) (.slice au nu cu) vp vn vo d.names ps' vr' vq') ∧ Hid (∀ i, i < ps'.length → (ps'.getD i default).s = (ps'.getD i default).t))
  case first =>
    have HMd := HMid
    obtain ⟨⟨Z, F, hLv, hFn⟩, hRf⟩ := HMid.out.play.each k hkl
    rw [← hst k hkl, ← hqk.out] at hRf
    rw [← hpk.out] at hLv
    have HLv := Lib.hid hLv
    have HRf := Lib.hid hRf
    have HSeq : Hid (∀ s', _) := Lib.hid fun s' => pairs_eq (s' := s') hst hkl
    obtain ⟨s, hs⟩ : ∃ s, Hid (s = (ps.getD k default).s) := ⟨_, Lib.hid rfl⟩
    rw [← hs.out] at hLv hRf HLv HRf
    have hsl := hLv.st
    have k2 := HMid.out.cell2
    have k3 := HMid.out.box
    obtain ⟨cP, fP, hbP⟩ := hLv.blk
    obtain ⟨cQ, fQ, hbQ⟩ := hRf.blk
    have hpq : pk ≠ qk := blk_ne hbP hbQ (by decide)
    have HFn := hFn
    have HP : Hid (∀ wx s', wc.grownBy wx (some pk) → Live wx Z pk P R O F s' → Mid w0 wx Y pp w.heap.size k P R O pk qk v10 (.int .i64 d.kind) (.int .i64 d.who) (.int .i64 d.n) (.slice au nu cu) vp vn vo d.names (ps.set k ((ps.getD k default).goS s')) (.slice (some ⟨gr, 0, none⟩) ps.length cr) (.slice (some ⟨gq, 0, none⟩) ps.length cq) ∧ Ref wx qk P R O s) := Lib.hid fun wx s' hg hl =>
      ⟨HMid.out.goP hg ⟨Z, F, hl, HFn⟩, HRf.out.turn hbP (by decide) (by decide) (by decide) (by decide) (fun e => hpq e.symm) hg⟩
    have HQ : Hid (∀ wx wy s', Mid w0 wx Y pp w.heap.size k P R O pk qk v10 (.int .i64 d.kind) (.int .i64 d.who) (.int .i64 d.n) (.slice au nu cu) vp vn vo d.names (ps.set k ((ps.getD k default).goS s')) (.slice (some ⟨gr, 0, none⟩) ps.length cr) (.slice (some ⟨gq, 0, none⟩) ps.length cq) → wx.grownBy wy (some qk) → Ref wy qk P R O s' → (∃ vr' vq' ps', Hid (Mid w0 wy Y pp w.heap.size k P R O pk qk v10 (.int .i64 d.kind) (.int .i64 d.who) (.int .i64 d.n) (.slice au nu cu) vp vn vo d.names ps' vr' vq') ∧ Hid (∀ i, i < ps'.length → (ps'.getD i default).s = (ps'.getD i default).t))) := Lib.hid fun wx wy s' hm hg hr =>
      ⟨_, _, _, Lib.hid (hm.goQ hg hr), Lib.hid (HSeq.out s')⟩
    clear hLv hRf hbP hbQ hcr2 hcq2 p02 p12 hMid n3
    by_cases e1 : d.kind = 1
    · rw [e1] at k0
      clear e1
      obtain ⟨l, hl1, hl2⟩ : ∃ l : Nat, l ≤ 65535 ∧ IntKind.u16.wrap d.n = (l : Int) := ⟨(d.n % 65536).toNat, by omega, by rw [IntKind.wrap_u16, Int.toNat_of_nonneg (Int.emod_nonneg _ (by decide))]⟩
      have HS1 := Lib.hid (live_step HLv.out HE.out l hl1)
      have HS2 : Hid (∀ wx, Ref wx qk P R O s → Calls Try.prog 35 #[.pointer (some ⟨qk, 0, none⟩), .int .u16 (l : Int)] wx fun e w' => e = .returned (.int .u8 (O.getD (stepF R P.length s l) 0)) ∧ Ref w' qk P R O (stepF R P.length s l) ∧ wx.grownBy w' (some qk)) := Lib.hid fun wx h => refstep_any h HE.out hsl l hl1
      generalize stepF R P.length s l = s' at HS1 HS2
      generalize O.getD s' 0 = y at HS1 HS2
      go_wp2_with (first
        | (go_at_call 29; refine HS1.out.mono ?_; rintro e w4 ⟨rfl, hl4, hg4⟩; have HP4 := Lib.hid (HP.out _ _ hg4 hl4); have k4 := HP4.out.1.cell2)
        | (go_at_call 35; refine (HS2.out _ HP4.out.2).mono ?_; rintro e w5 ⟨rfl, hl5, hg5⟩; have HEnd := Lib.hid (HQ.out _ _ _ HP4.out.1 hg5 hl5)))
      go_meet
      exact ⟨by simp, HEnd.out⟩
    have n1 : (d.kind == 1) = false := beq_eq_false_iff_ne.2 e1
    clear e1
    have HTv : Hid (TextsAt wc v10 d.names) := Lib.hid (HMid.out.lent.at (texts_wf (HT.out _ HMid.out.bel)).1 (texts_wf (HT.out _ HMid.out.bel)).2)
    have hPl := listF_len (mErr_zero HE.out).1
    have hlet : letF (bitF P) d.names ≤ 65535 := by
      have := refL_lt P d.names P.length hPl
      rw [refL_letF (mErr_zero HE.out).1] at this
      omega
    have HLt : Hid (∀ wx, Below Y w0 wx → Ref wx qk P R O s → Calls Try.prog 53 #[.pointer (some ⟨qk, 0, none⟩), .slice au nu cu] wx fun e w' => e = .returned (.int .u16 (letF (bitF P) d.names : Int)) ∧ Ref w' qk P R O s ∧ wx.grownBy w' none) := Lib.hid fun wx hb hr =>
      (refletter_any hr (mErr_zero HE.out).1 (HT.out _ hb)).mono fun e w' ⟨he, hg⟩ => ⟨he, hr.kept hg, hg⟩
    by_cases e2 : d.kind = 2
    · rw [e2] at k0
      clear e2 n1
      have HE1 := Lib.hid (live_event HLv.out HE.out HTv.out)
      rw [show nextF P R s d.names = stepF R P.length s (letF (bitF P) d.names) from rfl] at HE1
      have HS2 : Hid (∀ wx, Ref wx qk P R O s → Calls Try.prog 35 #[.pointer (some ⟨qk, 0, none⟩), .int .u16 (letF (bitF P) d.names : Int)] wx fun e w' => e = .returned (.int .u8 (O.getD (stepF R P.length s (letF (bitF P) d.names)) 0)) ∧ Ref w' qk P R O (stepF R P.length s (letF (bitF P) d.names)) ∧ wx.grownBy w' (some qk)) := Lib.hid fun wx h => refstep_any h HE.out hsl _ hlet
      generalize stepF R P.length s (letF (bitF P) d.names) = s' at HE1 HS2
      generalize O.getD s' 0 = y at HE1 HS2
      generalize letF (bitF P) d.names = l at HLt HS2 hlet
      go_wp2_with (first
        | (go_at_call 28; refine HE1.out.mono ?_; rintro e w4 ⟨rfl, hl4, hg4⟩; have HP4 := Lib.hid (HP.out _ _ hg4 hl4); have k4 := HP4.out.1.box)
        | (go_at_call 53; refine (HLt.out _ HP4.out.1.bel HP4.out.2).mono ?_; rintro e w5 ⟨rfl, hr5, hg5⟩; have HP5 := Lib.hid (HP4.out.1.kept hg5))
        | (go_at_call 35; refine (HS2.out _ hr5).mono ?_; rintro e w6 ⟨rfl, hl6, hg6⟩; have HEnd := Lib.hid (HQ.out _ _ _ HP5.out hg6 hl6)))
      go_meet
      exact ⟨by simp, HEnd.out⟩
    have n2 : (d.kind == 2) = false := beq_eq_false_iff_ne.2 e2
    clear e2
    have HSame : Hid (∀ wx, wc.grownBy wx none → (∃ vr' vq' ps', Hid (Mid w0 wx Y pp w.heap.size k P R O pk qk v10 (.int .i64 d.kind) (.int .i64 d.who) (.int .i64 d.n) (.slice au nu cu) vp vn vo d.names ps' vr' vq') ∧ Hid (∀ i, i < ps'.length → (ps'.getD i default).s = (ps'.getD i default).t))) := Lib.hid fun wx hg => ⟨_, _, _, Lib.hid (HMid.out.kept hg), Lib.hid hst⟩
    by_cases e3 : d.kind = 3
    · rw [e3] at k0
      clear e3 n1 n2
      have HL1 := Lib.hid (live_letter HLv.out HTv.out)
      generalize letF (bitF P) d.names = l at HLt HL1 hlet
      go_wp2_with (first
        | (go_at_call 30; refine HL1.out.mono ?_; rintro e w4 ⟨rfl, _, rfl⟩)
        | (go_at_call 53; refine (HLt.out _ HMid.out.bel HRf.out).mono ?_; rintro e w5 ⟨rfl, hr5, hg5⟩; have HEnd := Lib.hid (HSame.out _ hg5)))
      go_meet
      exact ⟨by simp, HEnd.out⟩
    have n3 : (d.kind == 3) = false := beq_eq_false_iff_ne.2 e3
    clear e3 HLt hlet
    by_cases e4 : d.kind = 4
    · rw [e4] at k0
      clear e4 n1 n2 n3
      have HR1 := Lib.hid (live_reset HLv.out)
      have HEnd4 : Hid (∀ w4, Mid w0 w4 Y pp w.heap.size k P R O pk qk v10 (.int .i64 d.kind) (.int .i64 d.who) (.int .i64 d.n) (.slice au nu cu) vp vn vo d.names (ps.set k ((ps.getD k default).goS 0)) (.slice (some ⟨gr, 0, none⟩) ps.length cr) (.slice (some ⟨gq, 0, none⟩) ps.length cq) → Ref w4 qk P R O s → _) := Lib.hid fun w4 hm hr => HQ.out w4 _ 0 hm (gb_set (w := w4) (a := ⟨qk, 3, none⟩) (v := .int .i64 ((0 : Nat) : Int))) (hr.goes 0)
      go_wp2_with (go_at_call 54; refine HR1.out.mono ?_; rintro e w4 ⟨rfl, hl4, hg4⟩; have HP4 := Lib.hid (HP.out _ _ hg4 hl4); have k4 := HP4.out.2.cell3; have f4 := HP4.out.2.frozen3; have HEnd := Lib.hid (HEnd4.out _ HP4.out.1 HP4.out.2))
      go_meet
      exact ⟨rfl, HEnd.out⟩
    have n4 : (d.kind == 4) = false := beq_eq_false_iff_ne.2 e4
    clear e4
    by_cases e5 : d.kind = 5
    · rw [e5] at k0
      clear e5 n1 n2 n3 n4
      have hRO := (mErr_zero HE.out).2.2.1
      by_cases hin : 0 ≤ d.n ∧ d.n < (O.length : Int)
      · obtain ⟨t, ht⟩ : ∃ t : Nat, d.n = (t : Int) := ⟨d.n.toNat, by omega⟩
        have htl : t < O.length := by omega
        have HG1 := Lib.hid (live_goto HLv.out t htl)
        have HG2 : Hid (∀ wx, Ref wx qk P R O s → Calls Try.prog 55 #[.pointer (some ⟨qk, 0, none⟩), .int .i64 (t : Int)] wx fun e w' => e = .returned (.int .i64 0) ∧ Ref w' qk P R O t ∧ wx.grownBy w' (some qk)) := Lib.hid fun wx h => refgoto_yes h hRO hn t htl
        rw [ht] at k2
        clear hin hRO
        rw [← ht] at HG1 HG2 k2
        clear ht htl
        go_wp2_with (first
          | (go_at_call 31; refine HG1.out.mono ?_; rintro e w4 ⟨rfl, hl4, hg4⟩; have HP4 := Lib.hid (HP.out _ _ hg4 hl4); have k4 := HP4.out.1.cell2)
          | (go_at_call 55; refine (HG2.out _ HP4.out.2).mono ?_; rintro e w5 ⟨rfl, hl5, hg5⟩; have HEnd := Lib.hid (HQ.out _ _ _ HP4.out.1 hg5 hl5)))
        go_meet
        exact ⟨by simp, HEnd.out⟩
      · have hno : d.n < 0 ∨ (O.length : Int) ≤ d.n := by omega
        have HG1 := Lib.hid (live_goto_no HLv.out d.n hno)
        have HG2 := Lib.hid (refgoto_no HRf.out hRO hn d.n hno)
        have HEnd := Lib.hid (HSame.out _ (gb_refl wc none))
        clear hin hno hRO
        go_wp2_with (first
          | (go_at_call 31; refine HG1.out.mono ?_; rintro e w4 ⟨rfl, rfl⟩)
          | (go_at_call 55; refine HG2.out.mono ?_; rintro e w5 ⟨rfl, rfl⟩))
        go_meet
        exact ⟨by simp, HEnd.out⟩
    have n5 : (d.kind == 5) = false := beq_eq_false_iff_ne.2 e5
    clear e5
    by_cases e6 : d.kind = 6
    · rw [e6] at k0
      clear e6
      have q0 : wc.cell? ⟨pp, 0, none⟩ = some (.slice (some ⟨gr, 0, none⟩) ps.length cr) := by simp [World.cell?, HMid.out.play.blk]
      have m0 : wc.cell? ⟨w.heap.size, 0, none⟩ = some vp := by simp [World.cell?, HMid.out.mo]
      have m1 : wc.cell? ⟨w.heap.size, 1, none⟩ = some vn := by simp [World.cell?, HMid.out.mo]
      have m2 : wc.cell? ⟨w.heap.size, 2, none⟩ = some vo := by simp [World.cell?, HMid.out.mo]
      by_cases h8b : ps.length < 8
      · have h8I : (ps.length : Int) < 8 := by omega
        have HN1 := Lib.hid (new_live vp vn vo wc (HM.out _ HMid.out.bel) HE.out hn)
        have HN2 : Hid (∀ wx, Below Y w0 wx → Calls Try.prog 16 #[.agg #[vp, vn, vo]] wx fun e w' => ∃ q vp' vn' vo' vs, e = .returned (.tuple #[.pointer (some ⟨q, 0, none⟩), .int .i64 0]) ∧ RefAt w' wx.heap.size q vp' vn' vo' vs P R O 0 ∧ wx.grownBy w' none) := Lib.hid fun wx hb => refnew_yes vp vn vo P R O wx (HM.out _ hb) HE.out hn
        obtain ⟨ip, hip, hp0, hp1, hp2⟩ := info_parts Try.info32
        obtain ⟨iq, hiq, hq0, hq1, hq2⟩ := info_parts Try.info38
        go_wp2_with (first
          | (go_at_call 13; refine HN1.out.mono ?_; rintro e w4 ⟨p', F', rfl, hl4, hf4, hg4, hp4⟩; have HM4 := Lib.hid (HMid.out.kept hg4); have HL4 := Lib.hid hl4; have x0 := hg4.cell m0 (by simp); have x1 := hg4.cell m1 (by simp); have x2 := hg4.cell m2 (by simp); clear hl4)
          | (go_at_call 16; refine (HN2.out _ HM4.out.bel).mono ?_; rintro e w5 ⟨q', vp', vn', vo', vs', rfl, hr5, hg5⟩; have HM5 := Lib.hid (HM4.out.kept hg5); have HL5 := Lib.hid (HL4.out.kept hg5); have HR5 := Lib.hid hr5; have HX5 := Lib.hid (show PairAt w5 P R O ⟨p', q', 0, 0⟩ from ⟨⟨_, F', HL4.out.kept hg5, hf4⟩, ⟨_, _, _, _, hr5.base (Nat.zero_le _)⟩⟩); clear hr5; have y0 : w5.cell? ⟨pp, 0, none⟩ = some (.slice (some ⟨gr, 0, none⟩) ps.length cr) := (by simp [World.cell?, HM5.out.play.blk]); have y0a := (World.grownBy_alloc w5 (.cells #[.pointer (some ⟨p', 0, none⟩)] 32) none).cell y0 (by simp))
          | (at_builtin; refine wpList_append_lies _ rfl (.tmp 133) (.tmp 135) 42 rfl Y 32 ip (.pointer none) 1 8 Try.underlying42 hip hp0 hp1 hp2 rfl (by decide) (.slice (some ⟨gr, 0, none⟩) ps.length cr) ps.length (ps.map fun x => ptrV x.p) rfl (HM5.out.play.rr.alloc _) ⟨w5.heap.size, 0, none⟩ 1 1 [.pointer (some ⟨p', 0, none⟩)] rfl rfl (cell_one_new _ _ _) (by simp [Value.oneCell']) (by decide) (by unfold maxLen; omega) (by omega) (by rw [World.size_alloc]; exact Nat.le_succ_of_le HM5.out.size) _ rfl ?_; intro g6 c6 w6 hown6 hgr6 hat6 hlt6; have HO6 := Lib.hid hown6; have HG6 := Lib.hid hgr6; have hb6 := play_mid HM5.out.play hgr6; have z0 := hb6.1; have zf := hb6.2.1; have z1 := hb6.2.2.1; have HB6 := Lib.hid hb6.2.2.2; have hm7 := play_mid2 (g6 := g6) (c6 := c6) HM5.out.play hgr6; have HQ7 := Lib.hid hm7.1; have HB7 := Lib.hid hm7.2; have hz7 : (w6.setCell ⟨pp, 0, none⟩ (.slice (some ⟨g6, 0, none⟩) (ps.length + 1) c6)).heap.size = w6.heap.size := (by simp [World.setCell]); have HZ7 := Lib.hid hz7; have u1 : (w6.setCell ⟨pp, 0, none⟩ (.slice (some ⟨g6, 0, none⟩) (ps.length + 1) c6)).cell? ⟨pp, 1, none⟩ = some (.slice (some ⟨gq, 0, none⟩) ps.length cq) := (by simp [World.cell?, hm7.2]); have hcn := cell_one_new (w6.setCell ⟨pp, 0, none⟩ (.slice (some ⟨g6, 0, none⟩) (ps.length + 1) c6)) (.pointer (some ⟨q', 0, none⟩)) 38; rw [hz7] at hcn; have HCn := Lib.hid hcn; have HY6 : Hid (Y ≤ w6.heap.size) := Lib.hid (Nat.le_of_lt (Nat.lt_of_le_of_lt HM5.out.play.old (Array.getElem?_eq_some_iff.1 HB6.out).1)); clear hown6 hgr6 hat6 hlt6 hb6 hm7 hz7 hcn)
          | (at_builtin; refine wpList_append_lies _ rfl (.tmp 143) (.tmp 145) 43 rfl Y 38 iq (.pointer none) 1 8 Try.underlying43 hiq hq0 hq1 hq2 rfl (by decide) (.slice (some ⟨gq, 0, none⟩) ps.length cq) ps.length (ps.map fun x => ptrV x.q) rfl (HQ7.out.alloc _) ⟨w6.heap.size, 0, none⟩ 1 1 [.pointer (some ⟨q', 0, none⟩)] rfl rfl HCn.out (by simp [Value.oneCell']) (by decide) (by unfold maxLen; omega) (by omega) (by rw [World.size_alloc, HZ7.out]; exact Nat.le_succ_of_le HY6.out) _ rfl ?_; intro g8 c8 w8 hown8 hgr8 hat8 hlt8; have hm8 := play_mid3 HQ7.out HB7.out hgr8; have v1 := hm8.1; have vf := hm8.2; have HO8 := Lib.hid hown8; have HG8 := Lib.hid hgr8; clear hown8 hgr8 hat8 hlt8 hm8))
        have hY4 : wc.heap.size ≤ w4.heap.size := hg4.size
        have HEnd := Lib.hid (HM5.out.push (x := ⟨p', q', 0, 0⟩) HX5.out h8b (fun i hi e => by
          obtain ⟨⟨Z9, F9, hl9, _⟩, _⟩ := HMid.out.play.each i hi
          have h1 := hl9.lt
          rw [e] at h1
          exact absurd h1 (by show ¬ p' < _; omega)) (fun i hi e => by
          obtain ⟨_, hr9⟩ := HM4.out.play.each i hi
          have h1 := hr9.lt
          have h2 := HR5.out.old
          rw [e] at h1
          exact absurd h1 (by show ¬ q' < _; omega)) ⟨Nat.le_trans HMid.out.size hp4, Nat.le_trans HM4.out.size HR5.out.old⟩ HO6.out HG6.out HO8.out HG8.out)
        go_meet
        refine ⟨rfl, _, _, _, HEnd, Lib.hid (fun i hi => ?_)⟩
        rw [List.length_append, List.length_singleton] at hi
        by_cases e : i < ps.length
        · rw [List.getD_eq_getElem?_getD, List.getElem?_append_left e, ← List.getD_eq_getElem?_getD]
          exact hst i e
        · obtain rfl : i = ps.length := by omega
          rw [List.getD_eq_getElem?_getD, List.getElem?_append_right (Nat.le_refl _), Nat.sub_self]
          rfl
      · have h8I : ¬ (ps.length : Int) < 8 := by omega
        have HEnd := Lib.hid (⟨_, _, _, Lib.hid (HMid.out.kept (gb_refl wc none)), Lib.hid hst⟩ : (∃ vr' vq' ps', Hid (Mid w0 wc Y pp w.heap.size k P R O pk qk v10 (.int .i64 d.kind) (.int .i64 d.who) (.int .i64 d.n) (.slice au nu cu) vp vn vo d.names ps' vr' vq') ∧ Hid (∀ i, i < ps'.length → (ps'.getD i default).s = (ps'.getD i default).t)))
        go_wp2_with fail
        go_meet
        exact ⟨rfl, HEnd.out⟩
    have n6 : (d.kind == 6) = false := beq_eq_false_iff_ne.2 e6
    clear e6
    have HEnd := Lib.hid (HSame.out _ (gb_refl wc none))
    go_wp2_with fail
    go_meet
    exact ⟨rfl, HEnd.out⟩
  case rest =>
    obtain ⟨rfl, vr', vq', ps', HMd, HEq⟩ := hcut
    have n3 := HMd.out.box
    have HWh := Lib.hid (whole_texts HMd.out.lent (HT.out _ HMd.out.bel))
    have HPr := Lib.hid (HMd.out.play.each k HMd.out.lt)
    have heq := HEq.out k HMd.out.lt
    have hpk2 := HMd.out.pk
    have hqk2 := HMd.out.qk
    clear k0 hcr2 hcq2 p02 p12 HMid hMid
    obtain ⟨⟨Z, F, hLv, hFn⟩, hRf⟩ := HPr.out
    rw [← heq] at hRf
    rw [hpk2] at hLv
    rw [hqk2] at hRf
    have HLv := Lib.hid hLv
    have HRf := Lib.hid hRf
    generalize (ps'.getD k default).s = s at hLv hRf HLv HRf
    have hs := hLv.st
    obtain ⟨gt, ct, hc2, hct⟩ := hRf.out hs
    have hc3 := hRf.cell3
    have HSS : Hid (∀ wx, wc.grownBy wx none → (wc.grownBy wx none ∧ wx.cell? ⟨qk, 2, none⟩ = some (.slice (some ⟨gt, 0, none⟩) O.length ct) ∧ wx.cell? ⟨qk, 3, none⟩ = some (.int .i64 (s : Int)) ∧ wx.cell? ⟨gt, s, none⟩ = some (.int .u8 (O.getD s 0)))) := Lib.hid fun wx h => ⟨h, h.cell hc2 (by simp), h.cell hc3 (by simp), h.cell hct (by simp)⟩
    have HSta : Hid (∀ wx, wc.grownBy wx none → Calls Try.prog 18 #[.pointer (some ⟨pk, 0, none⟩)] wx fun e w' => e = .returned (.int .i64 (s : Int)) ∧ wx = w') := Lib.hid fun wx h => live_state (HLv.out.kept h)
    have HVer : Hid (∀ wx, wc.grownBy wx none → Calls Try.prog 32 #[.pointer (some ⟨pk, 0, none⟩)] wx fun e w' => e = .returned (.int .u8 (O.getD s 0)) ∧ wc.grownBy w' none) := Lib.hid fun wx h => (live_verdict (HLv.out.kept h)).mono fun e w' ⟨he, _, hg⟩ => ⟨he, gb_trans h hg (Or.inl rfl)⟩
    have HFin : Hid (∀ wx, wc.grownBy wx none → Calls Try.prog 38 #[.pointer (some ⟨pk, 0, none⟩)] wx fun e w' => e = .returned (.bool (F.getD s false)) ∧ wc.grownBy w' none) := Lib.hid fun wx h => (live_final (HLv.out.kept h)).mono fun e w' ⟨he, _, hg⟩ => ⟨he, gb_trans h hg (Or.inl rfl)⟩
    have HRfi : Hid (∀ wx, wc.grownBy wx none → Calls Try.prog 56 #[.pointer (some ⟨qk, 0, none⟩)] wx fun e w' => e = .returned (.bool (F.getD s false)) ∧ wc.grownBy w' none) := Lib.hid fun wx h => (ref_final (HRf.out.kept h) (HM.out _ HMd.out.bel) HE.out hn hs hFn.out).mono fun e w' ⟨he, hg⟩ => ⟨he, gb_trans h hg (Or.inl rfl)⟩
    generalize O.getD s 0 = ov0 at HSS HVer
    generalize F.getD s false = fb at HFin HRfi
    have hsO : (s : Int) < (O.length : Int) := by omega
    clear hLv hRf hc2 hc3 hct hs heq hpk2 hqk2
    refine hK2 _ _ ?_
    go_wp2_with (go_at_call 22; refine HWh.out.mono ?_; rintro e w4 ⟨rfl, hg4⟩)
    have hS0 := HSS.out _ (gb_trans hg4 (gb_drew w4 none) (Or.inl rfl))
    go_region_held3 (fun wx => wc.grownBy wx none ∧ wx.cell? ⟨qk, 2, none⟩ = some (.slice (some ⟨gt, 0, none⟩) O.length ct) ∧ wx.cell? ⟨qk, 3, none⟩ = some (.int .i64 (s : Int)) ∧ wx.cell? ⟨gt, s, none⟩ = some (.int .u8 ov0)) (assumption)
      (first
      | (go_at_call 18; refine (HSta.out _ (by exact And.left (by assumption))).mono ?_; rintro e w5 ⟨rfl, rfl⟩)
      | (go_at_call 32; refine (HVer.out _ (by exact And.left (by assumption))).mono ?_; rintro e w6 ⟨rfl, hg6⟩; have hS6 := HSS.out _ hg6)
      | (go_at_call 38; refine (HFin.out _ (by exact And.left (by assumption))).mono ?_; rintro e w7 ⟨rfl, hg7⟩; have hS7 := HSS.out _ hg7)
      | (go_at_call 56; refine (HRfi.out _ (by exact And.left (by assumption))).mono ?_; rintro e w8 ⟨rfl, hg8⟩; have hS8 := HSS.out _ hg8))
    all_goals
      go_wp2_with fail
      go_ret
      exact ⟨rfl, vr', vq', ps', HMd.out.play.kept hg8, Nat.lt_of_le_of_lt (Nat.zero_le _) HMd.out.lt, HMd.out.len, HEq.out, HMd.out.bel.grown hg8 (Nat.le_trans HMd.out.play.old (Nat.le_of_lt HMd.out.play.lt)) (fun _ e => by cases e)⟩
end Go.Proofs.Ytpehmlkikhkmfaa
