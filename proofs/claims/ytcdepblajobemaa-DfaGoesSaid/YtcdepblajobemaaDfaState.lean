/- Dfa: what Build has at hand, in plain Lean. -/
import Derived.Test.YtcdepblajobemaaDfaOwn
set_option maxRecDepth 100000
namespace Go.Proofs.Ytcdepblajobemaa
open Go.RowKit

/-- A DFA's lists, each of its own. -/
structure BuiltAt (Z : Nat) (w : World) (vp vn vl : Value) (us : List Value) (P : List ByteArray) (R : List (List Int)) (B : List Bool) : Prop where
  p : w.ownsRow Z 9 1 vp P.length (P.map sv)
  n : w.ownsRow Z 43 1 vn R.length us
  u : us.length = R.length
  each : ∀ k, k < R.length → w.ownsRow Z 3 1 (us.getD k default) (R.getD k []).length ((R.getD k []).map iv)
  sep : ∀ i j, i < us.length → j < us.length → i ≠ j → Sep (us.getD i default) (us.getD j default)
  b : w.ownsRow Z 4 1 vl B.length (B.map tv01)

section
variable {Z : Nat} {w w' : World} {vp vn vl : Value} {us : List Value} {P : List ByteArray} {R : List (List Int)} {B : List Bool}
theorem BuiltAt.keptS {S : Nat → Prop} (h : BuiltAt Z w vp vn vl us P R B) (hf : Fr S w w') (h1 : ∀ b, vp.ownBlock = some b → ¬ S b) (h2 : ∀ b, vn.ownBlock = some b → ¬ S b) (h3 : ∀ b, vl.ownBlock = some b → ¬ S b)
    (h4 : ∀ k, k < us.length → ∀ b, (us.getD k default).ownBlock = some b → ¬ S b) : BuiltAt Z w' vp vn vl us P R B :=
  ⟨hf.row h.p h1, hf.row h.n h2, h.u, fun k hk => hf.row (h.each k hk) (h4 k (by have := h.u; omega)), h.sep, hf.row h.b h3⟩
theorem BuiltAt.kept (h : BuiltAt Z w vp vn vl us P R B) (hg : w.grownBy w' none) : BuiltAt Z w' vp vn vl us P R B :=
  h.keptS (S := fun _ => False) (Fr.of_none hg) (fun _ _ h => h) (fun _ _ h => h) (fun _ _ h => h) (fun _ _ _ _ h => h)
/-- A block of numbers or of words is written. -/
theorem BuiltAt.far {b : Nat} {c : Array Value} {e : TypeId} {fr : Nat × Nat} (h : BuiltAt Z w vp vn vl us P R B) (hg : w.grownBy w' (some b)) (hb : w.heap[b]? = some (.cells c e fr)) (he : 9 ≠ e ∧ 43 ≠ e ∧ 4 ≠ e)
    (hu : ∀ k, k < us.length → (us.getD k default).ownBlock ≠ some b) : BuiltAt Z w' vp vn vl us P R B :=
  h.keptS (S := (· = b)) (Fr.of_gb hg (fun k e => by cases e; rfl)) (fun k hk (e : k = b) => own_off' h.p hb he.1 (e ▸ hk)) (fun k hk (e : k = b) => own_off' h.n hb he.2.1 (e ▸ hk)) (fun k hk (e : k = b) => own_off' h.b hb he.2.2 (e ▸ hk))
    (fun k hk k2 h2 (e : k2 = b) => hu k hk (e ▸ h2))
theorem own_foreign {p mb n Z2 e m : Nat} {v u : Value} {es : List Ent} {xs : List Value} (h : TableAt w p mb v n es) (ho : w.ownsRow Z2 e 1 u m xs) (h1 : e ≠ 142) (h2 : e ≠ 50) : ∀ b, u.ownBlock = some b → ¬ Own3 p mb v b := by
  intro b hb
  obtain ⟨c, hc⟩ := own_blk' ho hb
  exact h.foreign hc h1 h2
/-- The table's own blocks are written. -/
theorem BuiltAt.table {p mb n : Nat} {v : Value} {es : List Ent} (h : BuiltAt Z w vp vn vl us P R B) (ht : TableAt w p mb v n es) (hf : Fr (Own3 p mb v) w w') : BuiltAt Z w' vp vn vl us P R B :=
  h.keptS hf (own_foreign ht h.p (by decide) (by decide)) (own_foreign ht h.n (by decide) (by decide)) (own_foreign ht h.b (by decide) (by decide)) (fun k hk => own_foreign ht (h.each k (by have := h.u; omega)) (by decide) (by decide))
end

def nilS : Value := .slice none 0 0
/-- All that Build has at hand. -/
structure BldAt (Z bx bz bd : Nat) (A : Array Value) (w : World) (tp tm : Nat) (tv : Value) (n : Nat) (es : List Ent) (vp vn vl : Value) (us : List Value) (P : List ByteArray) (R : List (List Int)) (B : List Bool) : Prop where
  tab : TableAt w tp tm tv n es
  zp : Z ≤ tp
  zm : Z ≤ tm
  zv : ∀ k, tv.ownBlock = some k → Z ≤ k
  box : w.heap[bx]? = some (.cells A 47 (0, 0))
  zero : w.heap[bz]? = some (.cells #[nilS, nilS, nilS] 27 (0, 0))
  dfa : w.heap[bd]? = some (.cells #[vp, vn, vl] 27 (0, 0))
  ne : bz ≠ bd
  zd : Z ≤ bd
  out : BuiltAt Z w vp vn vl us P R B

section
variable {Z bx bz bd : Nat} {A : Array Value} {w w' : World} {tp tm : Nat} {tv : Value} {n : Nat} {es : List Ent} {vp vn vl : Value} {us : List Value} {P : List ByteArray} {R : List (List Int)} {B : List Bool}
theorem blk_kept {k : Nat} {o : Obj} {r : Option Nat} (h : w.heap[k]? = some o) (hg : w.grownBy w' r) (hr : some k ≠ r) : w'.heap[k]? = some o := by
  rw [hg.block k (Array.getElem?_eq_some_iff.1 h).1 hr]
  exact h
theorem blk_ne {k b : Nat} {c c' : Array Value} {e e' : TypeId} {fr fr' : Nat × Nat} (h : w.heap[k]? = some (.cells c e fr)) (hb : w.heap[b]? = some (.cells c' e' fr')) (he : e ≠ e') : some k ≠ some b := by
  intro e2
  obtain rfl : k = b := Option.some.inj e2
  rw [h] at hb
  simp only [Option.some.injEq, Obj.cells.injEq] at hb
  exact he hb.2.1
namespace BldAt
theorem own (h : BldAt Z bx bz bd A w tp tm tv n es vp vn vl us P R B) : ∀ k, Own3 tp tm tv k → Z ≤ k := by
  rintro k (rfl | rfl | hk)
  · exact h.zp
  · exact h.zm
  · exact h.zv k hk
theorem kept (h : BldAt Z bx bz bd A w tp tm tv n es vp vn vl us P R B) (hg : w.grownBy w' none) : BldAt Z bx bz bd A w' tp tm tv n es vp vn vl us P R B :=
  ⟨h.tab.kept_none hg, h.zp, h.zm, h.zv, blk_kept h.box hg (by simp), blk_kept h.zero hg (by simp), blk_kept h.dfa hg (by simp), h.ne, h.zd, h.out.kept hg⟩
/-- A block of numbers or of words that is none of these is written. -/
theorem far {b : Nat} {c : Array Value} {e : TypeId} {fr : Nat × Nat} (h : BldAt Z bx bz bd A w tp tm tv n es vp vn vl us P R B) (hg : w.grownBy w' (some b)) (hb : w.heap[b]? = some (.cells c e fr)) (he : e = 3 ∨ e = 111)
    (hs : ∀ x ∈ es, x.2.1 ≠ b) (hu : ∀ k, k < us.length → (us.getD k default).ownBlock ≠ some b) : BldAt Z bx bz bd A w' tp tm tv n es vp vn vl us P R B := by
  have hf : Fr (· = b) w w' := Fr.of_gb hg (fun k e => by cases e; rfl)
  refine ⟨h.tab.kept hf ?_ ?_, h.zp, h.zm, h.zv, blk_kept h.box hg (blk_ne h.box hb (by rcases he with rfl | rfl <;> decide)), blk_kept h.zero hg (blk_ne h.zero hb (by rcases he with rfl | rfl <;> decide)), blk_kept h.dfa hg (blk_ne h.dfa hb (by rcases he with rfl | rfl <;> decide)), h.ne, h.zd, h.out.far hg hb (by rcases he with rfl | rfl <;> decide) hu⟩
  · intro k hk (e2 : k = b)
    subst e2
    exact h.tab.foreign hb (by rcases he with rfl | rfl <;> decide) (by rcases he with rfl | rfl <;> decide) hk
  · intro x hx
    refine ⟨fun (e2 : x.1 = b) => ?_, hs x hx⟩
    have h1 := (h.tab.sets x hx).raw.blk
    exact blk_ne h1 hb (by rcases he with rfl | rfl <;> decide) (by rw [e2])
/-- The table has got a row, or not. -/
theorem table {tv' : Value} {es' : List Ent} (h : BldAt Z bx bz bd A w tp tm tv n es vp vn vl us P R B) (ht : TableAt w' tp tm tv' n es') (hv : ∀ k, tv'.ownBlock = some k → tv.ownBlock = some k ∨ w.heap.size ≤ k) (hf : Fr (Own3 tp tm tv) w w') (hZ : Z ≤ w.heap.size) : BldAt Z bx bz bd A w' tp tm tv' n es' vp vn vl us P R B := by
  have hk : ∀ {k : Nat} {c : Array Value} {e : TypeId} {fr : Nat × Nat}, w.heap[k]? = some (.cells c e fr) → e ≠ 142 → e ≠ 50 → w'.heap[k]? = some (.cells c e fr) := fun {k c e fr} h1 h2 h3 => by
    rw [hf.block k (Array.getElem?_eq_some_iff.1 h1).1 (h.tab.foreign h1 h2 h3)]
    exact h1
  refine ⟨ht, h.zp, h.zm, fun k e => ?_, hk h.box (by decide) (by decide), hk h.zero (by decide) (by decide), hk h.dfa (by decide) (by decide), h.ne, h.zd, h.out.table h.tab hf⟩
  rcases hv k e with h1 | h1
  · exact h.zv k h1
  · omega
theorem size (h : BldAt Z bx bz bd A w tp tm tv n es vp vn vl us P R B) : Z ≤ w.heap.size := by have := (Array.getElem?_eq_some_iff.1 h.dfa).1; have := h.zd; omega
theorem setg (h : BldAt Z bx bz bd A w tp tm tv n es vp vn vl us P R B) : ∀ x ∈ es, x.2.1 < w.heap.size := fun x hx => (h.tab.sets x hx).glt
theorem ulim (h : BldAt Z bx bz bd A w tp tm tv n es vp vn vl us P R B) : ∀ k, k < us.length → ∀ b, (us.getD k default).ownBlock = some b → Z ≤ b ∧ b < w.heap.size := fun k hk b hb => (h.out.each k (by have := h.out.u; omega)).lt b hb
theorem cellsA {x0 x1 x2 x3 x4 : Value} (h : BldAt Z bx bz bd #[x0, x1, x2, x3, x4] w tp tm tv n es vp vn vl us P R B) : w.cell? ⟨bx, 0, none⟩ = some x0 ∧ w.cell? ⟨bx, 1, none⟩ = some x1 ∧ w.cell? ⟨bx, 2, none⟩ = some x2 ∧ w.cell? ⟨bx, 3, none⟩ = some x3 ∧ w.cell? ⟨bx, 4, none⟩ = some x4 := buchi_cells h.box
/-- A row is set behind the others. -/
theorem next {w2 w5 : World} {v : Value} {A1 : List Int} {g c : Nat} (h : BldAt Z bx bz bd A w tp tm tv n es vp vn vl us P R B) (hv : w.ownsRow Z 3 1 v A1.length (A1.map iv)) (hs : ∀ k, k < us.length → Sep (us.getD k default) v) (h2 : w2 = w.alloc (.cells #[v] 43))
    (h5 : w5.ownsRow Z 43 1 (.slice (some ⟨g, 0, none⟩) (R.length + 1) c) (R.length + 1) (us ++ [v])) (h6 : w2.grownBy w5 vn.ownBlock) :
    BldAt Z bx bz bd A (w5.setCell ⟨bd, 1, none⟩ (.slice (some ⟨g, 0, none⟩) (R.length + 1) c)) tp tm tv n es vp (.slice (some ⟨g, 0, none⟩) (R.length + 1) c) vl (us ++ [v]) P (R ++ [A1]) B ∧ w.grownBy w5 vn.ownBlock ∧ w5.cell? ⟨bd, 1, none⟩ = some vn ∧ w5.frozen? ⟨bd, 1, none⟩ = false := by
  subst h2
  have hg : w.grownBy w5 vn.ownBlock := gb_trans (gb_any (World.grownBy_alloc w _ none) _) h6 (Or.inr (Or.inl rfl))
  have hn := h.out.n
  have tk : ∀ {k : Nat} {c : Array Value} {e : TypeId} {fr : Nat × Nat}, w.heap[k]? = some (.cells c e fr) → 43 ≠ e → w5.heap[k]? = some (.cells c e fr) := fun {k c e fr} h1 h2 => blk_kept h1 hg (fun e2 => own_off' hn h1 h2 e2.symm)
  have hd5 := tk h.dfa (by decide)
  have hgs : w5.grownBy (w5.setCell ⟨bd, 1, none⟩ (.slice (some ⟨g, 0, none⟩) (R.length + 1) c)) (some bd) := gb_set
  have tk2 : ∀ {k : Nat} {c' : Array Value} {e : TypeId} {fr : Nat × Nat}, w5.heap[k]? = some (.cells c' e fr) → e ≠ 27 → (w5.setCell ⟨bd, 1, none⟩ (.slice (some ⟨g, 0, none⟩) (R.length + 1) c)).heap[k]? = some (.cells c' e fr) := fun {k c' e fr} h1 h2 => blk_kept h1 hgs (blk_ne h1 hd5 h2)
  have rw5 : ∀ {e m : Nat} {u : Value} {xs : List Value}, w.ownsRow Z e 1 u m xs → e ≠ 43 → e ≠ 27 → (w5.setCell ⟨bd, 1, none⟩ (.slice (some ⟨g, 0, none⟩) (R.length + 1) c)).ownsRow Z e 1 u m xs := fun {e m u xs} h1 h2 h3 => by
    have h4 := h1.kept hg (own_apart hn h1 (fun e2 => h2 e2.symm))
    exact h4.kept hgs (own_off h4 hd5 h3)
  have ht5 : TableAt w5 tp tm tv n es := h.tab.kept (S := fun k => vn.ownBlock = some k) (Fr.of_gb hg (fun k e => e)) (fun k hk e => (own_foreign h.tab hn (by decide) (by decide) k e hk)) (fun x hx => by
    have h1 := (h.tab.sets x hx).raw
    obtain ⟨cur, hc⟩ := h1.gblk
    exact ⟨own_off' hn h1.blk (by decide), own_off' hn hc (by decide)⟩)
  refine ⟨⟨?_, h.zp, h.zm, h.zv, tk2 (tk h.box (by decide)) (by decide), ?_, ?_, h.ne, h.zd, ⟨rw5 h.out.p (by decide) (by decide), ?_, by simp [h.out.u], ?_, ?_, rw5 h.out.b (by decide) (by decide)⟩⟩, hg, ?_, ?_⟩
  · refine ht5.kept (S := (· = bd)) (Fr.of_gb hgs (fun k e => by cases e; rfl)) (fun k hk (e : k = bd) => ht5.foreign hd5 (by decide) (by decide) (e ▸ hk)) (fun x hx => ?_)
    have h1 := (ht5.sets x hx).raw
    obtain ⟨cur, hc⟩ := h1.gblk
    exact ⟨fun (e : x.1 = bd) => blk_ne h1.blk hd5 (by decide) (by rw [e]), fun (e : x.2.1 = bd) => blk_ne hc hd5 (by decide) (by rw [e])⟩
  · exact blk_kept (tk h.zero (by decide)) hgs (fun e => h.ne (Option.some.inj e))
  · exact heap_setCell_same w5 bd 1 _ _ _ hd5
  · rw [List.length_append, List.length_singleton]
    exact h5.kept hgs (own_off h5 hd5 (by decide))
  · intro k hk
    rw [List.length_append, List.length_singleton] at hk
    have hul := h.out.u
    by_cases e1 : k < R.length
    · rw [List.getD_eq_getElem?_getD, List.getD_eq_getElem?_getD, List.getElem?_append_left (by omega), List.getElem?_append_left e1, ← List.getD_eq_getElem?_getD, ← List.getD_eq_getElem?_getD]
      exact rw5 (h.out.each k e1) (by decide) (by decide)
    · obtain rfl : k = R.length := by omega
      rw [List.getD_eq_getElem?_getD, List.getD_eq_getElem?_getD, List.getElem?_append_right (by omega), List.getElem?_append_right (Nat.le_refl _), hul, Nat.sub_self]
      exact rw5 hv (by decide) (by decide)
  · have key : ∀ i j, i < us.length + 1 → j < us.length + 1 → i < j → Sep ((us ++ [v]).getD i default) ((us ++ [v]).getD j default) := fun i j hi hj hij => by
      rw [List.getD_eq_getElem?_getD, List.getD_eq_getElem?_getD, List.getElem?_append_left (by omega), ← List.getD_eq_getElem?_getD]
      by_cases e1 : j < us.length
      · rw [List.getElem?_append_left e1, ← List.getD_eq_getElem?_getD]
        exact h.out.sep i j (by omega) e1 (by omega)
      · obtain rfl : j = us.length := by omega
        rw [List.getElem?_append_right (Nat.le_refl _), Nat.sub_self]
        exact hs i (by omega)
    intro i j hi hj hne
    rw [List.length_append, List.length_singleton] at hi hj
    rcases Nat.lt_or_gt_of_ne hne with h1 | h1
    · exact key i j hi hj h1
    · exact (key j i hj hi h1).symm
  · simp [World.cell?, hd5]
  · simp [World.frozen?, hd5]
/-- Whether a row lives is set behind the others. -/
theorem live {w2 w5 : World} {x : Bool} {g c : Nat} (h : BldAt Z bx bz bd A w tp tm tv n es vp vn vl us P R B) (h2 : w2 = w.alloc (.cells #[.bool x] 4))
    (h5 : w5.ownsRow Z 4 1 (.slice (some ⟨g, 0, none⟩) (B.length + 1) c) (B.length + 1) (B.map tv01 ++ [.bool x])) (h6 : w2.grownBy w5 vl.ownBlock) :
    BldAt Z bx bz bd A (w5.setCell ⟨bd, 2, none⟩ (.slice (some ⟨g, 0, none⟩) (B.length + 1) c)) tp tm tv n es vp vn (.slice (some ⟨g, 0, none⟩) (B.length + 1) c) us P R (B ++ [x]) ∧ w.grownBy w5 vl.ownBlock ∧ w5.cell? ⟨bd, 2, none⟩ = some vl ∧ w5.frozen? ⟨bd, 2, none⟩ = false := by
  subst h2
  have hg : w.grownBy w5 vl.ownBlock := gb_trans (gb_any (World.grownBy_alloc w _ none) _) h6 (Or.inr (Or.inl rfl))
  have hn := h.out.b
  have tk : ∀ {k : Nat} {c : Array Value} {e : TypeId} {fr : Nat × Nat}, w.heap[k]? = some (.cells c e fr) → 4 ≠ e → w5.heap[k]? = some (.cells c e fr) := fun {k c e fr} h1 h2 => blk_kept h1 hg (fun e2 => own_off' hn h1 h2 e2.symm)
  have hd5 := tk h.dfa (by decide)
  have hgs : w5.grownBy (w5.setCell ⟨bd, 2, none⟩ (.slice (some ⟨g, 0, none⟩) (B.length + 1) c)) (some bd) := gb_set
  have tk2 : ∀ {k : Nat} {c' : Array Value} {e : TypeId} {fr : Nat × Nat}, w5.heap[k]? = some (.cells c' e fr) → e ≠ 27 → (w5.setCell ⟨bd, 2, none⟩ (.slice (some ⟨g, 0, none⟩) (B.length + 1) c)).heap[k]? = some (.cells c' e fr) := fun {k c' e fr} h1 h2 => blk_kept h1 hgs (blk_ne h1 hd5 h2)
  have rw5 : ∀ {e m : Nat} {u : Value} {xs : List Value}, w.ownsRow Z e 1 u m xs → e ≠ 4 → e ≠ 27 → (w5.setCell ⟨bd, 2, none⟩ (.slice (some ⟨g, 0, none⟩) (B.length + 1) c)).ownsRow Z e 1 u m xs := fun {e m u xs} h1 h2 h3 => by
    have h4 := h1.kept hg (own_apart hn h1 (fun e2 => h2 e2.symm))
    exact h4.kept hgs (own_off h4 hd5 h3)
  have ht5 : TableAt w5 tp tm tv n es := h.tab.kept (S := fun k => vl.ownBlock = some k) (Fr.of_gb hg (fun k e => e)) (fun k hk e => (own_foreign h.tab hn (by decide) (by decide) k e hk)) (fun x hx => by
    have h1 := (h.tab.sets x hx).raw
    obtain ⟨cur, hc⟩ := h1.gblk
    exact ⟨own_off' hn h1.blk (by decide), own_off' hn hc (by decide)⟩)
  refine ⟨⟨?_, h.zp, h.zm, h.zv, tk2 (tk h.box (by decide)) (by decide), ?_, ?_, h.ne, h.zd, ⟨rw5 h.out.p (by decide) (by decide), rw5 h.out.n (by decide) (by decide), h.out.u, fun k hk => rw5 (h.out.each k hk) (by decide) (by decide), h.out.sep, ?_⟩⟩, hg, ?_, ?_⟩
  · refine ht5.kept (S := (· = bd)) (Fr.of_gb hgs (fun k e => by cases e; rfl)) (fun k hk (e : k = bd) => ht5.foreign hd5 (by decide) (by decide) (e ▸ hk)) (fun x hx => ?_)
    have h1 := (ht5.sets x hx).raw
    obtain ⟨cur, hc⟩ := h1.gblk
    exact ⟨fun (e : x.1 = bd) => blk_ne h1.blk hd5 (by decide) (by rw [e]), fun (e : x.2.1 = bd) => blk_ne hc hd5 (by decide) (by rw [e])⟩
  · exact blk_kept (tk h.zero (by decide)) hgs (fun e => h.ne (Option.some.inj e))
  · exact heap_setCell_same w5 bd 2 _ _ _ hd5
  · rw [List.length_append, List.length_singleton, List.map_append]
    exact h5.kept hgs (own_off h5 hd5 (by decide))
  · simp [World.cell?, hd5]
  · simp [World.frozen?, hd5]
end BldAt
end
end Go.Proofs.Ytcdepblajobemaa
