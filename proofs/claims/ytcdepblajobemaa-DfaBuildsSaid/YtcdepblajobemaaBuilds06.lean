/- Dfa: what Build has at hand, in plain Lean. -/
import Derived.Test.YtcdepblajobemaaBuilds05
set_option maxRecDepth 100000
namespace Go.Proofs.Ytcdepblajobemaa
open Go.RowKit

/-- A DFA's lists, each of its own. -/
structure BuiltAt (Z : Nat) (w : World) (vp vn vl : Value) (us : List Value) (P : List ByteArray) (R : List (List Int)) (B : List Bool) : Prop where
  p : w.ownsRow Z 9 1 vp P.length (P.map sv)
  n : w.ownsRow Z 43 1 vn R.length us
  u : us.length = R.length
  each : ∀ k, k < R.length → w.ownsRow Z 3 1 (us.getD k default) (R.getD k []).length ((R.getD k []).map iv)
  sep : ∀ i j, i < us.length → j < us.length → i ≠ j → Sep (us.getD i default) (us.getD j default)
  b : w.ownsRow Z 4 1 vl B.length (B.map tv01)

section
variable {Z : Nat} {w w' : World} {vp vn vl : Value} {us : List Value} {P : List ByteArray} {R : List (List Int)} {B : List Bool}
theorem BuiltAt.keptS {S : Nat → Prop} (h : BuiltAt Z w vp vn vl us P R B) (hf : Fr S w w') (h1 : ∀ b, vp.ownBlock = some b → ¬ S b) (h2 : ∀ b, vn.ownBlock = some b → ¬ S b) (h3 : ∀ b, vl.ownBlock = some b → ¬ S b)
    (h4 : ∀ k, k < us.length → ∀ b, (us.getD k default).ownBlock = some b → ¬ S b) : BuiltAt Z w' vp vn vl us P R B :=
  ⟨hf.row h.p h1, hf.row h.n h2, h.u, fun k hk => hf.row (h.each k hk) (h4 k (by have := h.u; omega)), h.sep, hf.row h.b h3⟩
theorem BuiltAt.kept (h : BuiltAt Z w vp vn vl us P R B) (hg : w.grownBy w' none) : BuiltAt Z w' vp vn vl us P R B :=
  h.keptS (S := fun _ => False) (Fr.of_none hg) (fun _ _ h => h) (fun _ _ h => h) (fun _ _ h => h) (fun _ _ _ _ h => h)
/-- A block of numbers or of words is written. -/
theorem BuiltAt.far {b : Nat} {c : Array Value} {e : TypeId} {fr : Nat × Nat} (h : BuiltAt Z w vp vn vl us P R B) (hg : w.grownBy w' (some b)) (hb : w.heap[b]? = some (.cells c e fr)) (he : 9 ≠ e ∧ 43 ≠ e ∧ 4 ≠ e)
    (hu : ∀ k, k < us.length → (us.getD k default).ownBlock ≠ some b) : BuiltAt Z w' vp vn vl us P R B :=
  h.keptS (S := (· = b)) (Fr.of_gb hg (fun k e => by cases e; rfl)) (fun k hk (e : k = b) => own_off' h.p hb he.1 (e ▸ hk)) (fun k hk (e : k = b) => own_off' h.n hb he.2.1 (e ▸ hk)) (fun k hk (e : k = b) => own_off' h.b hb he.2.2 (e ▸ hk))
    (fun k hk k2 h2 (e : k2 = b) => hu k hk (e ▸ h2))
theorem own_foreign {p mb n Z2 e m : Nat} {v u : Value} {es : List Ent} {xs : List Value} (h : TableAt w p mb v n es) (ho : w.ownsRow Z2 e 1 u m xs) (h1 : e ≠ 142) (h2 : e ≠ 50) : ∀ b, u.ownBlock = some b → ¬ Own3 p mb v b := by
  intro b hb
  obtain ⟨c, hc⟩ := own_blk' ho hb
  exact h.foreign hc h1 h2
/-- The table's own blocks are written. -/
theorem BuiltAt.table {p mb n : Nat} {v : Value} {es : List Ent} (h : BuiltAt Z w vp vn vl us P R B) (ht : TableAt w p mb v n es) (hf : Fr (Own3 p mb v) w w') : BuiltAt Z w' vp vn vl us P R B :=
  h.keptS hf (own_foreign ht h.p (by decide) (by decide)) (own_foreign ht h.n (by decide) (by decide)) (own_foreign ht h.b (by decide) (by decide)) (fun k hk => own_foreign ht (h.each k (by have := h.u; omega)) (by decide) (by decide))
end

def nilS : Value := .slice none 0 0
/-- All that Build has at hand. -/
structure BldAt (Z bx bz bd : Nat) (A : Array Value) (w : World) (tp tm : Nat) (tv : Value) (n : Nat) (es : List Ent) (vp vn vl : Value) (us : List Value) (P : List ByteArray) (R : List (List Int)) (B : List Bool) : Prop where
  tab : TableAt w tp tm tv n es
  zp : Z ≤ tp
  zm : Z ≤ tm
  zv : ∀ k, tv.ownBlock = some k → Z ≤ k
  box : w.heap[bx]? = some (.cells A 47 (0, 0))
  zero : w.heap[bz]? = some (.cells #[nilS, nilS, nilS] 27 (0, 0))
  dfa : w.heap[bd]? = some (.cells #[vp, vn, vl] 27 (0, 0))
  ne : bz ≠ bd
  zd : Z ≤ bd
  out : BuiltAt Z w vp vn vl us P R B

section
variable {Z bx bz bd : Nat} {A : Array Value} {w w' : World} {tp tm : Nat} {tv : Value} {n : Nat} {es : List Ent} {vp vn vl : Value} {us : List Value} {P : List ByteArray} {R : List (List Int)} {B : List Bool}
theorem blk_kept {k : Nat} {o : Obj} {r : Option Nat} (h : w.heap[k]? = some o) (hg : w.grownBy w' r) (hr : some k ≠ r) : w'.heap[k]? = some o := by
  rw [hg.block k (Array.getElem?_eq_some_iff.1 h).1 hr]
  exact h
theorem blk_ne {k b : Nat} {c c' : Array Value} {e e' : TypeId} {fr fr' : Nat × Nat} (h : w.heap[k]? = some (.cells c e fr)) (hb : w.heap[b]? = some (.cells c' e' fr')) (he : e ≠ e') : some k ≠ some b := by
  intro e2
  obtain rfl : k = b := Option.some.inj e2
  rw [h] at hb
  simp only [Option.some.injEq, Obj.cells.injEq] at hb
  exact he hb.2.1
namespace BldAt
theorem own (h : BldAt Z bx bz bd A w tp tm tv n es vp vn vl us P R B) : ∀ k, Own3 tp tm tv k → Z ≤ k := by
  rintro k (rfl | rfl | hk)
  · exact h.zp
  · exact h.zm
  · exact h.zv k hk
theorem kept (h : BldAt Z bx bz bd A w tp tm tv n es vp vn vl us P R B) (hg : w.grownBy w' none) : BldAt Z bx bz bd A w' tp tm tv n es vp vn vl us P R B :=
  ⟨h.tab.kept_none hg, h.zp, h.zm, h.zv, blk_kept h.box hg (by simp), blk_kept h.zero hg (by simp), blk_kept h.dfa hg (by simp), h.ne, h.zd, h.out.kept hg⟩
/-- A block of numbers or of words that is none of these is written. -/
theorem far {b : Nat} {c : Array Value} {e : TypeId} {fr : Nat × Nat} (h : BldAt Z bx bz bd A w tp tm tv n es vp vn vl us P R B) (hg : w.grownBy w' (some b)) (hb : w.heap[b]? = some (.cells c e fr)) (he : e = 3 ∨ e = 111)
    (hs : ∀ x ∈ es, x.2.1 ≠ b) (hu : ∀ k, k < us.length → (us.getD k default).ownBlock ≠ some b) : BldAt Z bx bz bd A w' tp tm tv n es vp vn vl us P R B := by
  have hf : Fr (· = b) w w' := Fr.of_gb hg (fun k e => by cases e; rfl)
  refine ⟨h.tab.kept hf ?_ ?_, h.zp, h.zm, h.zv, blk_kept h.box hg (blk_ne h.box hb (by rcases he with rfl | rfl <;> decide)), blk_kept h.zero hg (blk_ne h.zero hb (by rcases he with rfl | rfl <;> decide)), blk_kept h.dfa hg (blk_ne h.dfa hb (by rcases he with rfl | rfl <;> decide)), h.ne, h.zd, h.out.far hg hb (by rcases he with rfl | rfl <;> decide) hu⟩
  · intro k hk (e2 : k = b)
    subst e2
    exact h.tab.foreign hb (by rcases he with rfl | rfl <;> decide) (by rcases he with rfl | rfl <;> decide) hk
  · intro x hx
    refine ⟨fun (e2 : x.1 = b) => ?_, hs x hx⟩
    have h1 := (h.tab.sets x hx).raw.blk
    exact blk_ne h1 hb (by rcases he with rfl | rfl <;> decide) (by rw [e2])
/-- The table has got a row, or not. -/
theorem table {tv' : Value} {es' : List Ent} (h : BldAt Z bx bz bd A w tp tm tv n es vp vn vl us P R B) (ht : TableAt w' tp tm tv' n es') (hv : ∀ k, tv'.ownBlock = some k → tv.ownBlock = some k ∨ w.heap.size ≤ k) (hf : Fr (Own3 tp tm tv) w w') (hZ : Z ≤ w.heap.size) : BldAt Z bx bz bd A w' tp tm tv' n es' vp vn vl us P R B := by
  have hk : ∀ {k : Nat} {c : Array Value} {e : TypeId} {fr : Nat × Nat}, w.heap[k]? = some (.cells c e fr) → e ≠ 142 → e ≠ 50 → w'.heap[k]? = some (.cells c e fr) := fun {k c e fr} h1 h2 h3 => by
    rw [hf.block k (Array.getElem?_eq_some_iff.1 h1).1 (h.tab.foreign h1 h2 h3)]
    exact h1
  refine ⟨ht, h.zp, h.zm, fun k e => ?_, hk h.box (by decide) (by decide), hk h.zero (by decide) (by decide), hk h.dfa (by decide) (by decide), h.ne, h.zd, h.out.table h.tab hf⟩
  rcases hv k e with h1 | h1
  · exact h.zv k h1
  · omega
theorem size (h : BldAt Z bx bz bd A w tp tm tv n es vp vn vl us P R B) : Z ≤ w.heap.size := by have := (Array.getElem?_eq_some_iff.1 h.dfa).1; have := h.zd; omega
theorem setg (h : BldAt Z bx bz bd A w tp tm tv n es vp vn vl us P R B) : ∀ x ∈ es, x.2.1 < w.heap.size := fun x hx => (h.tab.sets x hx).glt
theorem ulim (h : BldAt Z bx bz bd A w tp tm tv n es vp vn vl us P R B) : ∀ k, k < us.length → ∀ b, (us.getD k default).ownBlock = some b → Z ≤ b ∧ b < w.heap.size := fun k hk b hb => (h.out.each k (by have := h.out.u; omega)).lt b hb
theorem cellsA {x0 x1 x2 x3 x4 : Value} (h : BldAt Z bx bz bd #[x0, x1, x2, x3, x4] w tp tm tv n es vp vn vl us P R B) : w.cell? ⟨bx, 0, none⟩ = some x0 ∧ w.cell? ⟨bx, 1, none⟩ = some x1 ∧ w.cell? ⟨bx, 2, none⟩ = some x2 ∧ w.cell? ⟨bx, 3, none⟩ = some x3 ∧ w.cell? ⟨bx, 4, none⟩ = some x4 := buchi_cells h.box
/-- A row is set behind the others. -/
theorem next {w2 w5 : World} {v : Value} {A1 : List Int} {g c : Nat} (h : BldAt Z bx bz bd A w tp tm tv n es vp vn vl us P R B) (hv : w.ownsRow Z 3 1 v A1.length (A1.map iv)) (hs : ∀ k, k < us.length → Sep (us.getD k default) v) (h2 : w2 = w.alloc (.cells #[v] 43))
    (h5 : w5.ownsRow Z 43 1 (.slice (some ⟨g, 0, none⟩) (R.length + 1) c) (R.length + 1) (us ++ [v])) (h6 : w2.grownBy w5 vn.ownBlock) :
    BldAt Z bx bz bd A (w5.setCell ⟨bd, 1, none⟩ (.slice (some ⟨g, 0, none⟩) (R.length + 1) c)) tp tm tv n es vp (.slice (some ⟨g, 0, none⟩) (R.length + 1) c) vl (us ++ [v]) P (R ++ [A1]) B ∧ w.grownBy w5 vn.ownBlock ∧ w5.cell? ⟨bd, 1, none⟩ = some vn ∧ w5.frozen? ⟨bd, 1, none⟩ = false := by
  subst h2
  have hg : w.grownBy w5 vn.ownBlock := gb_trans (gb_any (World.grownBy_alloc w _ none) _) h6 (Or.inr (Or.inl rfl))
  have hn := h.out.n
  have tk : ∀ {k : Nat} {c : Array Value} {e : TypeId} {fr : Nat × Nat}, w.heap[k]? = some (.cells c e fr) → 43 ≠ e → w5.heap[k]? = some (.cells c e fr) := fun {k c e fr} h1 h2 => blk_kept h1 hg (fun e2 => own_off' hn h1 h2 e2.symm)
  have hd5 := tk h.dfa (by decide)
  have hgs : w5.grownBy (w5.setCell ⟨bd, 1, none⟩ (.slice (some ⟨g, 0, none⟩) (R.length + 1) c)) (some bd) := gb_set
  have tk2 : ∀ {k : Nat} {c' : Array Value} {e : TypeId} {fr : Nat × Nat}, w5.heap[k]? = some (.cells c' e fr) → e ≠ 27 → (w5.setCell ⟨bd, 1, none⟩ (.slice (some ⟨g, 0, none⟩) (R.length + 1) c)).heap[k]? = some (.cells c' e fr) := fun {k c' e fr} h1 h2 => blk_kept h1 hgs (blk_ne h1 hd5 h2)
  have rw5 : ∀ {e m : Nat} {u : Value} {xs : List Value}, w.ownsRow Z e 1 u m xs → e ≠ 43 → e ≠ 27 → (w5.setCell ⟨bd, 1, none⟩ (.slice (some ⟨g, 0, none⟩) (R.length + 1) c)).ownsRow Z e 1 u m xs := fun {e m u xs} h1 h2 h3 => by
    have h4 := h1.kept hg (own_apart hn h1 (fun e2 => h2 e2.symm))
    exact h4.kept hgs (own_off h4 hd5 h3)
  have ht5 : TableAt w5 tp tm tv n es := h.tab.kept (S := fun k => vn.ownBlock = some k) (Fr.of_gb hg (fun k e => e)) (fun k hk e => (own_foreign h.tab hn (by decide) (by decide) k e hk)) (fun x hx => by
    have h1 := (h.tab.sets x hx).raw
    obtain ⟨cur, hc⟩ := h1.gblk
    exact ⟨own_off' hn h1.blk (by decide), own_off' hn hc (by decide)⟩)
  refine ⟨⟨?_, h.zp, h.zm, h.zv, tk2 (tk h.box (by decide)) (by decide), ?_, ?_, h.ne, h.zd, ⟨rw5 h.out.p (by decide) (by decide), ?_, by simp [h.out.u], ?_, ?_, rw5 h.out.b (by decide) (by decide)⟩⟩, hg, ?_, ?_⟩
  · refine ht5.kept (S := (· = bd)) (Fr.of_gb hgs (fun k e => by cases e; rfl)) (fun k hk (e : k = bd) => ht5.foreign hd5 (by decide) (by decide) (e ▸ hk)) (fun x hx => ?_)
    have h1 := (ht5.sets x hx).raw
    obtain ⟨cur, hc⟩ := h1.gblk
    exact ⟨fun (e : x.1 = bd) => blk_ne h1.blk hd5 (by decide) (by rw [e]), fun (e : x.2.1 = bd) => blk_ne hc hd5 (by decide) (by rw [e])⟩
  · exact blk_kept (tk h.zero (by decide)) hgs (fun e => h.ne (Option.some.inj e))
  · exact heap_setCell_same w5 bd 1 _ _ _ hd5
  · rw [List.length_append, List.length_singleton]
    exact h5.kept hgs (own_off h5 hd5 (by decide))
  · intro k hk
    rw [List.length_append, List.length_singleton] at hk
    have hul := h.out.u
    by_cases e1 : k < R.length
    · rw [List.getD_eq_getElem?_getD, List.getD_eq_getElem?_getD, List.getElem?_append_left (by omega), List.getElem?_append_left e1, ← List.getD_eq_getElem?_getD, ← List.getD_eq_getElem?_getD]
      exact rw5 (h.out.each k e1) (by decide) (by decide)
    · obtain rfl : k = R.length := by omega
      rw [List.getD_eq_getElem?_getD, List.getD_eq_getElem?_getD, List.getElem?_append_right (by omega), List.getElem?_append_right (Nat.le_refl _), hul, Nat.sub_self]
      exact rw5 hv (by decide) (by decide)
  · have key : ∀ i j, i < us.length + 1 → j < us.length + 1 → i < j → Sep ((us ++ [v]).getD i default) ((us ++ [v]).getD j default) := fun i j hi hj hij => by
      rw [List.getD_eq_getElem?_getD, List.getD_eq_getElem?_getD, List.getElem?_append_left (by omega), ← List.getD_eq_getElem?_getD]
      by_cases e1 : j < us.length
      · rw [List.getElem?_append_left e1, ← List.getD_eq_getElem?_getD]
        exact h.out.sep i j (by omega) e1 (by omega)
      · obtain rfl : j = us.length := by omega
        rw [List.getElem?_append_right (Nat.le_refl _), Nat.sub_self]
        exact hs i (by omega)
    intro i j hi hj hne
    rw [List.length_append, List.length_singleton] at hi hj
    rcases Nat.lt_or_gt_of_ne hne with h1 | h1
    · exact key i j hi hj h1
    · exact (key j i hj hi h1).symm
  · simp [World.cell?, hd5]
  · simp [World.frozen?, hd5]
/-- Whether a row lives is set behind the others. -/
theorem live {w2 w5 : World} {x : Bool} {g c : Nat} (h : BldAt Z bx bz bd A w tp tm tv n es vp vn vl us P R B) (h2 : w2 = w.alloc (.cells #[.bool x] 4))
    (h5 : w5.ownsRow Z 4 1 (.slice (some ⟨g, 0, none⟩) (B.length + 1) c) (B.length + 1) (B.map tv01 ++ [.bool x])) (h6 : w2.grownBy w5 vl.ownBlock) :
    BldAt Z bx bz bd A (w5.setCell ⟨bd, 2, none⟩ (.slice (some ⟨g, 0, none⟩) (B.length + 1) c)) tp tm tv n es vp vn (.slice (some ⟨g, 0, none⟩) (B.length + 1) c) us P R (B ++ [x]) ∧ w.grownBy w5 vl.ownBlock ∧ w5.cell? ⟨bd, 2, none⟩ = some vl ∧ w5.frozen? ⟨bd, 2, none⟩ = false := by
  subst h2
  have hg : w.grownBy w5 vl.ownBlock := gb_trans (gb_any (World.grownBy_alloc w _ none) _) h6 (Or.inr (Or.inl rfl))
  have hn := h.out.b
  have tk : ∀ {k : Nat} {c : Array Value} {e : TypeId} {fr : Nat × Nat}, w.heap[k]? = some (.cells c e fr) → 4 ≠ e → w5.heap[k]? = some (.cells c e fr) := fun {k c e fr} h1 h2 => blk_kept h1 hg (fun e2 => own_off' hn h1 h2 e2.symm)
  have hd5 := tk h.dfa (by decide)
  have hgs : w5.grownBy (w5.setCell ⟨bd, 2, none⟩ (.slice (some ⟨g, 0, none⟩) (B.length + 1) c)) (some bd) := gb_set
  have tk2 : ∀ {k : Nat} {c' : Array Value} {e : TypeId} {fr : Nat × Nat}, w5.heap[k]? = some (.cells c' e fr) → e ≠ 27 → (w5.setCell ⟨bd, 2, none⟩ (.slice (some ⟨g, 0, none⟩) (B.length + 1) c)).heap[k]? = some (.cells c' e fr) := fun {k c' e fr} h1 h2 => blk_kept h1 hgs (blk_ne h1 hd5 h2)
  have rw5 : ∀ {e m : Nat} {u : Value} {xs : List Value}, w.ownsRow Z e 1 u m xs → e ≠ 4 → e ≠ 27 → (w5.setCell ⟨bd, 2, none⟩ (.slice (some ⟨g, 0, none⟩) (B.length + 1) c)).ownsRow Z e 1 u m xs := fun {e m u xs} h1 h2 h3 => by
    have h4 := h1.kept hg (own_apart hn h1 (fun e2 => h2 e2.symm))
    exact h4.kept hgs (own_off h4 hd5 h3)
  have ht5 : TableAt w5 tp tm tv n es := h.tab.kept (S := fun k => vl.ownBlock = some k) (Fr.of_gb hg (fun k e => e)) (fun k hk e => (own_foreign h.tab hn (by decide) (by decide) k e hk)) (fun x hx => by
    have h1 := (h.tab.sets x hx).raw
    obtain ⟨cur, hc⟩ := h1.gblk
    exact ⟨own_off' hn h1.blk (by decide), own_off' hn hc (by decide)⟩)
  refine ⟨⟨?_, h.zp, h.zm, h.zv, tk2 (tk h.box (by decide)) (by decide), ?_, ?_, h.ne, h.zd, ⟨rw5 h.out.p (by decide) (by decide), rw5 h.out.n (by decide) (by decide), h.out.u, fun k hk => rw5 (h.out.each k hk) (by decide) (by decide), h.out.sep, ?_⟩⟩, hg, ?_, ?_⟩
  · refine ht5.kept (S := (· = bd)) (Fr.of_gb hgs (fun k e => by cases e; rfl)) (fun k hk (e : k = bd) => ht5.foreign hd5 (by decide) (by decide) (e ▸ hk)) (fun x hx => ?_)
    have h1 := (ht5.sets x hx).raw
    obtain ⟨cur, hc⟩ := h1.gblk
    exact ⟨fun (e : x.1 = bd) => blk_ne h1.blk hd5 (by decide) (by rw [e]), fun (e : x.2.1 = bd) => blk_ne hc hd5 (by decide) (by rw [e])⟩
  · exact blk_kept (tk h.zero (by decide)) hgs (fun e => h.ne (Option.some.inj e))
  · exact heap_setCell_same w5 bd 2 _ _ _ hd5
  · rw [List.length_append, List.length_singleton, List.map_append]
    exact h5.kept hgs (own_off h5 hd5 (by decide))
  · simp [World.cell?, hd5]
  · simp [World.frozen?, hd5]
end BldAt
end
end Go.Proofs.Ytcdepblajobemaa
namespace Go.Proofs.Ytcdepblajobemaa
open Go.RowKit

theorem gb_fr {S : Nat → Prop} {a b c : World} (h : a.grownBy b none) (hf : Fr S b c) (hS : ∀ k, S k → a.heap.size ≤ k) : a.grownBy c none :=
  ⟨hf.os.trans h.os, hf.tape.trans h.tape, hf.output.trans h.output, Nat.le_trans h.size hf.size, fun i hi _ => by
    rw [hf.block i (by have := h.size; omega) (fun e => by have := hS i e; omega)]
    exact h.block i hi (by simp)⟩
theorem bld_start {w w6 w7 : World} {tp tm n : Nat} {tv v : Value} {es : List Ent} {A : Array Value} {P : List ByteArray} (hbx : w6.heap[w.heap.size]? = some (.cells A 47 (0, 0)))
    (hbz : w6.heap[w.heap.size + 1]? = some (.cells #[.slice none 0 0, .slice none 0 0, .slice none 0 0] 27 (0, 0))) (ht : TableAt w6 tp tm tv n es) (htp : w.heap.size ≤ tp) (htm : w.heap.size ≤ tm) (hv : ∀ k, tv.ownBlock = some k → w.heap.size ≤ k)
    (hg : w6.grownBy w7 none) (ho : w7.ownsRow w6.heap.size 9 1 v P.length (P.map sv)) (hZ : w.heap.size ≤ w6.heap.size) :
    BldAt w.heap.size w.heap.size (w.heap.size + 1) w7.heap.size A (w7.alloc (.cells #[v, .slice none 0 0, .slice none 0 0] 27)) tp tm tv n es v (.slice none 0 0) (.slice none 0 0) [] P [] [] := by
  have hga := World.grownBy_alloc w7 (.cells #[v, .slice none 0 0, .slice none 0 0] 27) none
  have hg8 := gb_trans hg hga (Or.inl rfl)
  have hlt := (Array.getElem?_eq_some_iff.1 hbz).1
  exact ⟨ht.kept_none hg8, htp, htm, hv, blk_kept hbx hg8 (by simp), blk_kept hbz hg8 (by simp), heap_alloc_new _ _, by have := hg.size; omega, by have := hg.size; omega,
    ⟨own_base (ho.kept hga (Classical.em _)) hZ, World.ownsRow_nil _ _ _ _, rfl, fun k hk => absurd hk (Nat.not_lt_zero _), fun i j hi => absurd hi (Nat.not_lt_zero _), World.ownsRow_nil _ _ _ _⟩⟩

def outR (a : Aut) (n : Nat) (V : List Nat) (k : Nat) : List (List Int) := (List.range k).map (numsB a n V)
def outB (a : Aut) (n : Nat) (V : List Nat) (k : Nat) : List Bool := ((allB a n V).take k).map fun L => decide (0 < ones L)
theorem outR_len (a : Aut) (n : Nat) (V : List Nat) (k : Nat) : (outR a n V k).length = k := by simp [outR]
theorem outR_succ (a : Aut) (n : Nat) (V : List Nat) (k : Nat) : outR a n V (k + 1) = outR a n V k ++ [numsB a n V k] := by simp [outR, List.range_succ]
theorem outB_succ (a : Aut) (n : Nat) (V : List Nat) (k : Nat) (h : k < (allB a n V).length) : outB a n V (k + 1) = outB a n V k ++ [decide (0 < ones ((allB a n V).getD k []))] := by
  unfold outB
  rw [List.take_succ_eq_append_getElem h, List.map_append, List.getD_eq_getElem?_getD, List.getElem?_eq_getElem h]
  rfl
theorem outB_len (a : Aut) (n : Nat) (V : List Nat) (k : Nat) (h : k ≤ (allB a n V).length) : (outB a n V k).length = k := by simp [outB]; omega
theorem numsB_len (a : Aut) (n : Nat) (V : List Nat) (k : Nat) : (numsB a n V k).length = 2 ^ a.P.length := by simp [numsB]

/-- What holds ahead of a round over the rows. -/
structure BInv (w : World) (a : Aut) (n : Nat) (V : List Nat) (A : Array Value) (bd tp tm : Nat) (vp : Value) (k : Nat) (tv : Value) (es : List Ent) (vn vl : Value) (us : List Value) (wr : World) : Prop where
  bld : BldAt w.heap.size w.heap.size (w.heap.size + 1) bd A wr tp tm tv n es vp vn vl us a.P (outR a n V k) (outB a n V k)
  rows : rowsOf es = growB a n V k
  grown : w.grownBy wr none
  le : k ≤ (growB a n V k).length
/-- .. ahead of a round over the letters. -/
structure LInv (w : World) (a : Aut) (n : Nat) (V : List Nat) (A : Array Value) (bd tp tm : Nat) (vp : Value) (k l : Nat) (tv : Value) (es : List Ent) (vn vl : Value) (us : List Value) (pf gf cf : Nat) (vr : Value) (wx : World) : Prop where
  bld : BldAt w.heap.size w.heap.size (w.heap.size + 1) bd A wx tp tm tv n es vp vn vl us a.P (outR a n V k) (outB a n V k)
  rows : rowsOf es = growL a n V k l
  grown : w.grownBy wx none
  set : SetAt wx pf gf cf n ((growB a n V k).getD k [])
  row : wx.ownsRow w.heap.size 3 1 vr l (((numsB a n V k).take l).map iv)
  sep : ∀ j, j < us.length → Sep (us.getD j default) vr
  lt : k < (growB a n V k).length
/-- .. when the letter's row is in the table, its number not yet put down. -/
structure MInv (w : World) (a : Aut) (n : Nat) (V : List Nat) (A : Array Value) (bd tp tm : Nat) (vp : Value) (k l : Nat) (tv : Value) (es : List Ent) (vn vl : Value) (us : List Value) (pf gf cf : Nat) (vr : Value) (wx : World) : Prop where
  bld : BldAt w.heap.size w.heap.size (w.heap.size + 1) bd A wx tp tm tv n es vp vn vl us a.P (outR a n V k) (outB a n V k)
  rows : rowsOf es = growL a n V k (l + 1)
  grown : w.grownBy wx none
  set : SetAt wx pf gf cf n ((growB a n V k).getD k [])
  row : wx.ownsRow w.heap.size 3 1 vr l (((numsB a n V k).take l).map iv)
  sep : ∀ j, j < us.length → Sep (us.getD j default) vr
  lt : k < (growB a n V k).length

section
variable {w : World} {a : Aut} {n : Nat} {V : List Nat} {A : Array Value} {bd tp tm : Nat} {vp : Value} {k l : Nat} {tv : Value} {es : List Ent} {vn vl : Value} {us : List Value} {pf gf cf : Nat} {vr : Value} {wr wx : World}
theorem BInv.len (h : BInv w a n V A bd tp tm vp k tv es vn vl us wr) : es.length = (growB a n V k).length := by rw [← h.rows]; simp [rowsOf]
theorem LInv.len (h : LInv w a n V A bd tp tm vp k l tv es vn vl us pf gf cf vr wx) : es.length = (growL a n V k l).length := by rw [← h.rows]; simp [rowsOf]
theorem MInv.len (h : MInv w a n V A bd tp tm vp k l tv es vn vl us pf gf cf vr wx) : es.length = (growL a n V k (l + 1)).length := by rw [← h.rows]; simp [rowsOf]
theorem pow14 {n : Nat} (h : n ≤ 14) : 2 ^ n ≤ 16384 := Nat.pow_le_pow_right (by decide) h
theorem BInv.few (h : BInv w a n V A bd tp tm vp k tv es vn vl us wr) (hn : n ≤ 14) : es.length ≤ 2 ^ n := by rw [h.len]; exact growB_le (by omega) k
theorem LInv.few (h : LInv w a n V A bd tp tm vp k l tv es vn vl us pf gf cf vr wx) (hn : n ≤ 14) : es.length ≤ 2 ^ n := by rw [h.len]; exact growL_le (by omega) k l
theorem MInv.few (h : MInv w a n V A bd tp tm vp k l tv es vn vl us pf gf cf vr wx) (hn : n ≤ 14) : es.length ≤ 2 ^ n := by rw [h.len]; exact growL_le (by omega) k (l + 1)
/-- The row at hand is taken out, a list for its numbers made. -/
theorem LInv.start {w1 w2 : World} (h : BInv w a n V A bd tp tm vp k tv es vn vl us wr) (hlt : k < (growB a n V k).length) (h1 : wr.grownBy w1 none) (hs : SetAt w1 pf gf cf n ((growB a n V k).getD k [])) (h2 : w1.grownBy w2 none) (ho : w2.ownsRow w1.heap.size 3 1 vr 0 []) :
    LInv w a n V A bd tp tm vp k 0 tv es vn vl us pf gf cf vr w2 := by
  have h3 := gb_trans h1 h2 (Or.inl rfl)
  have hsz := h.grown.size
  have hsz1 := h1.size
  refine ⟨h.bld.kept h3, h.rows, gb_trans h.grown h3 (Or.inl rfl), hs.kept h2 (by simp) (by simp), ?_, fun j hj b hb e => ?_, hlt⟩
  · rw [List.take_zero]
    exact own_base ho (by omega)
  · have h4 := h.bld.ulim j hj b hb
    have h5 := ho.lt b e
    omega
/-- The letter's row is made, and stands in the table. -/
theorem LInv.mid {x1 x2 x3 : World} {p2 g2 c2 : Nat} {tv' : Value} {es' : List Ent} {M M0 : List Nat} (h : LInv w a n V A bd tp tm vp k l tv es vn vl us pf gf cf vr wx) (h1 : wx.grownBy x1 none) (hs1 : SetAt x1 p2 g2 c2 n M0) (hg2 : wx.heap.size ≤ g2) (h2 : x1.grownBy x2 (some g2))
    (ht : TableAt x3 tp tm tv' n es') (hr : rowsOf es' = addR (rowsOf es) M) (hM : M = transF a n V ((growB a n V k).getD k []) l) (hv : ∀ k, tv'.ownBlock = some k → tv.ownBlock = some k ∨ x2.heap.size ≤ k) (hf : Fr (Own3 tp tm tv) x2 x3) :
    MInv w a n V A bd tp tm vp k l tv' es' vn vl us pf gf cf vr x3 := by
  have b1 := h.bld.kept h1
  obtain ⟨cur, hc⟩ := hs1.raw.gblk
  have hsz := h.grown.size
  have hsz1 := h1.size
  have hsz2 := h2.size
  have b2 := b1.far h2 hc (Or.inr rfl) (fun x hx => by have := h.bld.setg x hx; omega) (fun j hj e => by have := (h.bld.ulim j hj _ e).2; omega)
  have b3 := b2.table ht hv hf (by omega)
  have h12 : wx.grownBy x2 none := gb_trans h1 h2 (Or.inr (Or.inr ⟨g2, rfl, hg2⟩))
  have hs2 : SetAt x2 pf gf cf n _ := h.set.kept h12 (by simp) (by simp)
  have hr2 := h.row.kept h12 (Classical.em _)
  refine ⟨b3, ?_, gb_fr (gb_trans h.grown h12 (Or.inl rfl)) hf b2.own, hf.set hs2 (b2.tab.notSet hs2.raw).1 (b2.tab.notSet hs2.raw).2, hf.row hr2 (own_foreign b2.tab hr2 (by decide) (by decide)), h.sep, h.lt⟩
  rw [hr, hM, h.rows, growL_succ]
theorem idx_num (hn : n ≤ 14) (h : LInv w a n V A bd tp tm vp k l tv es vn vl us pf gf cf vr wx) (hl : l < 2 ^ a.P.length) : (idxF (rowsOf es) (transF a n V ((growB a n V k).getD k []) l) : Int) = (numsB a n V k).getD l 0 := by
  rw [nums_one (by omega) h.lt hl, h.rows]
  unfold idxF
  rfl
theorem take_nums {A1 : List Int} {l : Nat} (h : l < A1.length) : (A1.take (l + 1)).map iv = (A1.take l).map iv ++ [.int .i64 (A1.getD l 0)] := by
  rw [List.take_succ_eq_append_getElem h, List.map_append, List.getD_eq_getElem?_getD, List.getElem?_eq_getElem h]
  rfl
/-- The number is put down. -/
theorem MInv.push {x4 x5 : World} {g c : Nat} (h : MInv w a n V A bd tp tm vp k l tv es vn vl us pf gf cf vr wx) (hl : l < 2 ^ a.P.length) (x : Int) (hx : x = (numsB a n V k).getD l 0) (h4 : x4 = wx.alloc (.cells #[.int .i64 x] 3))
    (h5 : x5.ownsRow w.heap.size 3 1 (.slice (some ⟨g, 0, none⟩) (l + 1) c) (l + 1) (((numsB a n V k).take l).map iv ++ [.int .i64 x])) (h6 : x4.grownBy x5 vr.ownBlock) (hg : vr.ownBlock = some g ∨ g = x4.heap.size) :
    LInv w a n V A bd tp tm vp k (l + 1) tv es vn vl us pf gf cf (.slice (some ⟨g, 0, none⟩) (l + 1) c) x5 := by
  subst h4
  have hga := World.grownBy_alloc wx (.cells #[.int .i64 x] 3) none
  have b4 := h.bld.kept hga
  have s4 := h.set.kept hga (by simp) (by simp)
  have r4 := h.row.kept hga (Classical.em _)
  have hrow : x5.ownsRow w.heap.size 3 1 (.slice (some ⟨g, 0, none⟩) (l + 1) c) (l + 1) (((numsB a n V k).take (l + 1)).map iv) := by
    rw [take_nums (by rw [numsB_len]; exact hl), ← hx]
    exact h5
  have hsep : ∀ j, j < us.length → Sep (us.getD j default) (.slice (some ⟨g, 0, none⟩) (l + 1) c) := fun j hj b hb e => by
    obtain rfl : g = b := by simpa [Value.ownBlock] using e
    rcases hg with h7 | h7
    · exact h.sep j hj _ hb h7
    · have := (h.bld.ulim j hj _ hb).2
      have := hga.size
      omega
  rcases hv : vr.ownBlock with _ | b
  · rw [hv] at h6
    exact ⟨b4.kept h6, h.rows, gb_trans (gb_trans h.grown hga (Or.inl rfl)) h6 (Or.inl rfl), s4.kept h6 (by simp) (by simp), hrow, hsep, h.lt⟩
  · rw [hv] at h6
    obtain ⟨cur, hc⟩ := own_blk' r4 hv
    have hbZ := (r4.lt b hv).1
    obtain ⟨cs, hcs⟩ := s4.raw.gblk
    refine ⟨b4.far h6 hc (Or.inl rfl) (fun y hy e => ?_) (fun j hj e => h.sep j hj b e hv), h.rows, gb_trans (gb_trans h.grown hga (Or.inl rfl)) h6 (Or.inr (Or.inr ⟨b, rfl, hbZ⟩)), s4.kept h6 (fun e => blk_ne hc s4.raw.blk (by decide) e) (fun e => blk_ne hc hcs (by decide) e), hrow, hsep, h.lt⟩
    obtain ⟨cy, hcy⟩ := (b4.tab.sets y hy).raw.gblk
    exact blk_ne hc hcy (by decide) (by rw [e])
/-- A limit that is passed. -/
theorem MInv.over (hn : n ≤ 14) (h : MInv w a n V A bd tp tm vp k l tv es vn vl us pf gf cf vr wx) (hl : l < 2 ^ a.P.length) {most : Int} (hm : most < (es.length : Int)) : most < ((allB a n V).length : Int) := by
  have h1 := (growL_all (n := n) (V := V) (by omega) h.lt (show l + 1 ≤ 2 ^ a.P.length by omega)).length_le
  rw [h.len] at hm
  omega
/-- The row stands behind the others; whether it lives is not yet told. -/
structure NInv (w : World) (a : Aut) (n : Nat) (V : List Nat) (A : Array Value) (bd tp tm : Nat) (vp : Value) (k : Nat) (tv : Value) (es : List Ent) (vn vl : Value) (us : List Value) (pf gf cf : Nat) (wx : World) : Prop where
  bld : BldAt w.heap.size w.heap.size (w.heap.size + 1) bd A wx tp tm tv n es vp vn vl us a.P (outR a n V (k + 1)) (outB a n V k)
  rows : rowsOf es = growB a n V (k + 1)
  grown : w.grownBy wx none
  set : SetAt wx pf gf cf n ((growB a n V k).getD k [])
  lt : k < (growB a n V k).length
theorem LInv.put {y2 : World} {g c : Nat} (h : LInv w a n V A bd tp tm vp k (2 ^ a.P.length) tv es vn vl us pf gf cf vr wx) (h2 : y2.ownsRow w.heap.size 43 1 (.slice (some ⟨g, 0, none⟩) (k + 1) c) (k + 1) (us ++ [vr])) (h3 : (wx.alloc (.cells #[vr] 43)).grownBy y2 vn.ownBlock) :
    NInv w a n V A bd tp tm vp k tv es (.slice (some ⟨g, 0, none⟩) (k + 1) c) vl (us ++ [vr]) pf gf cf (y2.setCell ⟨bd, 1, none⟩ (.slice (some ⟨g, 0, none⟩) (k + 1) c)) ∧ y2.cell? ⟨bd, 1, none⟩ = some vn ∧ y2.frozen? ⟨bd, 1, none⟩ = false := by
  have hor := outR_len a n V k
  have hnl := numsB_len a n V k
  have hrow := h.row
  rw [List.take_of_length_le (by omega)] at hrow
  have hN := h.bld.next (A1 := numsB a n V k) (w5 := y2) (g := g) (c := c) (by rw [hnl]; exact hrow) h.sep rfl (by rw [hor]; exact h2) h3
  rw [hor] at hN
  obtain ⟨b1, f1, c1, c2⟩ := hN
  have e1 : w.grownBy y2 none := gb_trans h.grown f1 (by
    rcases hv : vn.ownBlock with _ | b
    · exact Or.inl rfl
    · exact Or.inr (Or.inr ⟨b, rfl, (h.bld.out.n.lt b hv).1⟩))
  have hrs := h.rows
  rw [growL_end h.lt] at hrs
  obtain ⟨cs, hcs⟩ := h.set.raw.gblk
  have s5 : SetAt y2 pf gf cf n _ := h.set.kept f1 (own_off' h.bld.out.n h.set.raw.blk (by decide)) (own_off' h.bld.out.n hcs (by decide))
  obtain ⟨cs5, hcs5⟩ := s5.raw.gblk
  have hd5 : y2.heap[bd]? = some (.cells #[vp, vn, vl] 27 (0, 0)) := blk_kept h.bld.dfa f1 (fun e2 => own_off' h.bld.out.n h.bld.dfa (by decide) e2.symm)
  refine ⟨⟨by rw [outR_succ]; exact b1, hrs, gb_trans e1 gb_set (Or.inr (Or.inr ⟨bd, rfl, h.bld.zd⟩)), s5.kept gb_set (fun e => blk_ne hd5 s5.raw.blk (by decide) e) (fun e => blk_ne hd5 hcs5 (by decide) e), h.lt⟩, c1, c2⟩
theorem NInv.put {y4 : World} {g' c' : Nat} {x : Bool} (hn : n ≤ 14) (h : NInv w a n V A bd tp tm vp k tv es vn vl us pf gf cf wx) (hx : x = true ↔ 0 < ones ((growB a n V k).getD k []))
    (h5 : y4.ownsRow w.heap.size 4 1 (.slice (some ⟨g', 0, none⟩) (k + 1) c') (k + 1) ((outB a n V k).map tv01 ++ [.bool x])) (h6 : (wx.drew.alloc (.cells #[.bool x] 4)).grownBy y4 vl.ownBlock) :
    BInv w a n V A bd tp tm vp (k + 1) tv es vn (.slice (some ⟨g', 0, none⟩) (k + 1) c') us (y4.setCell ⟨bd, 2, none⟩ (.slice (some ⟨g', 0, none⟩) (k + 1) c')) ∧ y4.cell? ⟨bd, 2, none⟩ = some vl ∧ y4.frozen? ⟨bd, 2, none⟩ = false := by
  have hall := growB_all (a := a) (V := V) (n := n) (by omega) k
  have hka : k < (allB a n V).length := Nat.lt_of_lt_of_le h.lt hall.length_le
  have hob := outB_len a n V k (by omega)
  have hxx : x = decide (0 < ones ((growB a n V k).getD k [])) := by
    rw [Bool.eq_iff_iff, decide_eq_true_iff]
    exact hx
  have hL := (h.bld.kept (gb_drew wx none)).live (w5 := y4) (x := x) (g := g') (c := c') rfl (by rw [hob]; exact h5) h6
  rw [hob] at hL
  obtain ⟨b3, f2, c1, c2⟩ := hL
  have e3 : w.grownBy y4 none := gb_trans (gb_trans h.grown (gb_drew wx none) (Or.inl rfl)) f2 (by
    rcases hv : vl.ownBlock with _ | b
    · exact Or.inl rfl
    · exact Or.inr (Or.inr ⟨b, rfl, (h.bld.out.b.lt b hv).1⟩))
  refine ⟨⟨?_, h.rows, gb_trans e3 gb_set (Or.inr (Or.inr ⟨bd, rfl, h.bld.zd⟩)), ?_⟩, c1, c2⟩
  · rw [outB_succ a n V k hka, prefix_getD hall h.lt, ← hxx]
    exact b3
  · have h8 : (growB a n V k).length ≤ (growB a n V (k + 1)).length := by
      rw [← growL_end h.lt]
      exact (growL_from k (2 ^ a.P.length)).length_le
    have := h.lt
    omega
/-- All rows are done. -/
theorem BInv.whole (hn : n ≤ 14) (h : BInv w a n V A bd tp tm vp k tv es vn vl us wr) (hk : ¬ k < es.length) : growB a n V k = allB a n V ∧ BuiltAt w.heap.size wr vp vn vl us (bldD a n V).P (bldD a n V).R (bldD a n V).B := by
  rw [h.len] at hk
  have h1 := growB_end (a := a) (n := n) (V := V) (by omega) (i := k) (by omega)
  have h2 := h.le
  rw [h1] at h2 hk
  obtain rfl : k = (allB a n V).length := by omega
  refine ⟨h1, ?_⟩
  have h3 := h.bld.out
  unfold outB outR at h3
  rw [List.take_length] at h3
  exact h3
end
theorem cell_one_new (w : World) (x : Value) (t : TypeId) : ∀ j u, [x][j]? = some u → (w.alloc (.cells #[x] t)).cell? ((⟨w.heap.size, 0, none⟩ : Addr).add j) = some u :=
  World.news_of_block (cs := #[x]) (t := t) (fr := (0, 0)) (heap_alloc_new w _)
/-- The automaton is handed over by a box. -/
theorem BuiltAt.zero {Z b : Nat} {w w' : World} {vp vn vl : Value} {us : List Value} {P : List ByteArray} {R : List (List Int)} {B : List Bool} {c : Array Value} {fr : Nat × Nat} (h : BuiltAt Z w vp vn vl us P R B) (hg : w.grownBy w' (some b)) (hb : w.heap[b]? = some (.cells c 27 fr)) : BuiltAt Z w' vp vn vl us P R B :=
  h.keptS (S := (· = b)) (Fr.of_gb hg (fun k e => by cases e; rfl)) (fun k hk (e : k = b) => own_off' h.p hb (by decide) (e ▸ hk)) (fun k hk (e : k = b) => own_off' h.n hb (by decide) (e ▸ hk)) (fun k hk (e : k = b) => own_off' h.b hb (by decide) (e ▸ hk))
    (fun k hk k2 h2 (e : k2 = b) => own_off' (h.each k (by have := h.u; omega)) hb (by decide) (e ▸ h2))
section
variable {w : World} {a : Aut} {n : Nat} {V : List Nat} {A : Array Value} {bd tp tm : Nat} {vp : Value} {k l : Nat} {tv : Value} {es : List Ent} {vn vl : Value} {us : List Value} {pf gf cf : Nat} {vr : Value} {wr wx : World}
theorem LInv.tab2 {x1 x2 : World} {p2 g2 c2 : Nat} {M0 : List Nat} (h : LInv w a n V A bd tp tm vp k l tv es vn vl us pf gf cf vr wx) (h1 : wx.grownBy x1 none) (hs1 : SetAt x1 p2 g2 c2 n M0) (hg2 : wx.heap.size ≤ g2) (h2 : x1.grownBy x2 (some g2)) : TableAt x2 tp tm tv n es := by
  have b1 := h.bld.kept h1
  obtain ⟨cur, hc⟩ := hs1.raw.gblk
  exact (b1.far h2 hc (Or.inr rfl) (fun x hx => by have := h.bld.setg x hx; omega) (fun j hj e => by have := (h.bld.ulim j hj _ e).2; omega)).tab
theorem BInv.row (h : BInv w a n V A bd tp tm vp k tv es vn vl us wr) {x : Ent} (hx : es[k]? = some x) : x.2.2.2 = (growB a n V k).getD k [] := by
  rw [← h.rows, List.getD_eq_getElem?_getD]
  simp [rowsOf, hx]
theorem BInv.fin {c0 c1 c2 : Value} {wz : World} (h : BInv w a n V A bd tp tm vp k tv es vn vl us wr) (hz : wz = (((wr.setCell ⟨w.heap.size + 1, 0, none⟩ c0).setCell ⟨w.heap.size + 1, 1, none⟩ c1).setCell ⟨w.heap.size + 1, 2, none⟩ c2)) : wz.heap[w.heap.size + 1]? = some (.cells #[c0, c1, c2] 27 (0, 0)) ∧ w.grownBy wz none ∧ wr.grownBy wz (some (w.heap.size + 1)) := by
  subst hz
  obtain ⟨h1, h2⟩ := set3 h.bld.zero c0 c1 c2
  exact ⟨h1, gb_trans h.grown h2 (Or.inr (Or.inr ⟨_, rfl, Nat.le_succ _⟩)), h2⟩
theorem MInv.fin {c0 c1 c2 : Value} {wz : World} (h : MInv w a n V A bd tp tm vp k l tv es vn vl us pf gf cf vr wx) (hz : wz = (((wx.setCell ⟨w.heap.size + 1, 0, none⟩ c0).setCell ⟨w.heap.size + 1, 1, none⟩ c1).setCell ⟨w.heap.size + 1, 2, none⟩ c2)) : wz.heap[w.heap.size + 1]? = some (.cells #[c0, c1, c2] 27 (0, 0)) ∧ w.grownBy wz none := by
  subst hz
  obtain ⟨h1, h2⟩ := set3 h.bld.zero c0 c1 c2
  exact ⟨h1, gb_trans h.grown h2 (Or.inr (Or.inr ⟨_, rfl, Nat.le_succ _⟩))⟩
theorem BInv.over (hn : n ≤ 14) (h : BInv w a n V A bd tp tm vp k tv es vn vl us wr) {most : Int} (hm : most < (es.length : Int)) : most < ((allB a n V).length : Int) := by
  have h1 := (growB_all (a := a) (n := n) (V := V) (by omega) k).length_le
  rw [h.len] at hm
  omega
end
end Go.Proofs.Ytcdepblajobemaa
