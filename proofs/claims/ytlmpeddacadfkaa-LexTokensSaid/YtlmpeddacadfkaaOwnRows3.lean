/- Lists whose elements are of three cells, that are marked, that grow, that are looked at: what lies where, in plain Lean. -/
import Derived.Test.YtlmpeddacadfkaaLexTokens
import Derived.ArgAppend
namespace Go.Proofs.Ytlmpeddacadfkaa
open Go.RowKit

/-- append, and what becomes of the old row: the new slice lies in it, or everything stands as it was. -/
theorem wpList_append_keeps {P : Program} (w : World) {ops : Array Oper} {rest : List Oper} {o : Oper} {a : Act} {Q : Exit → Act → World → Prop} (hgd : o.guard = none) (s x : Operand) (t : TypeId)
    (ho : o.op = .call { callee := .builtin .append, args := #[s, x], argTypes := #[t, t] })
    (base : Nat) (e : TypeId) (i : TypeInfo) (z : Value) (size bytes : Nat) (ht : P.underlying t = some (.slice e)) (hi : P.info? e = some i) (hz : i.zero = some z)
    (hsize : i.size = size) (hby : i.bytes = bytes) (hzs : z.cells.size = size) (hsz : 0 < size)
    (v : Value) (n : Nat) (xs : List Value) (hs : a.eval s = v) (hown : w.ownsRow base e size v n xs)
    (ad : Addr) (m c : Nat) (news : List Value) (hx : a.eval x = .slice (some ad) m c) (hl : news.length = m * size) (hnews : ∀ j u, news[j]? = some u → w.cell? (ad.add j) = some u) (h1 : ∀ u ∈ news, u.oneCell' = true)
    (hm : 0 < m) (h63 : n + m ≤ maxLen) (hbytes : (n + m) * bytes ≤ 140737488355328) (hbase : base ≤ w.heap.size)
    (h : ∀ g cap w', w'.ownsRow base e size (.slice (some ⟨g, 0, none⟩) (n + m) cap) (n + m) (xs ++ news) → (v = .slice (some ⟨g, 0, none⟩) n cap ∧ w.grownBy w' (some g) ∨ w.heap.size ≤ g ∧ w.grownBy w' none) → wpList P ops Q rest (a.put o.dst (.slice (some ⟨g, 0, none⟩) (n + m) cap)) w') : wpList P ops Q (o :: rest) a w := by
  have hgrow : ∀ v' w', w'.ownsRow w.heap.size e size v' (n + m) (xs ++ news) → w.grownBy w' none → wpList P ops Q rest (a.put o.dst v') w' := fun v' w' h2 h3 => by
    obtain ⟨g, cap, rfl, hg, _⟩ := h2.form (by omega)
    refine h g cap w' ⟨h2.1, ?_⟩ (Or.inr ⟨hg, h3⟩)
    rcases h2.2 with h4 | ⟨g', cap', cur, hv, hb, hrest⟩
    · exact Or.inl h4
    · exact Or.inr ⟨g', cap', cur, hv, Nat.le_trans hbase hb, hrest⟩
  rcases hown.2 with ⟨rfl, rfl⟩ | ⟨g, cap, cur, rfl, hb, hg, hnc, hcm, hcs, htake⟩
  · exact wpList_append_grows w hgd s x t ho e i z size bytes ht hi hz hsize hby hzs hsz none 0 0 xs hs (fun _ => ⟨rfl, rfl⟩) (by simpa using hown.1) (fun b e => by cases e) ad m c news hx hl hnews h1 (by omega) h63 hbytes hgrow
  · by_cases hr : n + m ≤ cap
    · exact wpList_append_fits w hgd s x t ho base e i size ht hi hsize g n cap xs hs hown ad m c news hx hl hnews h1 hr fun w' h2 h3 => h g cap w' h2 (Or.inl ⟨rfl, h3⟩)
    · exact wpList_append_grows w hgd s x t ho e i z size bytes ht hi hz hsize hby hzs hsz (some ⟨g, 0, none⟩) n cap xs hs (fun e => by cases e) hown.1 (fun b hb j u hj => by cases hb; exact hown.cells rfl j u hj) ad m c news hx hl hnews h1 (by omega) h63 hbytes hgrow

/-- Nothing below Y turned, and of what lies elsewhere nothing that is of another kind. -/
structure Only (e Y : Nat) (w w' : World) : Prop where
  bel : Below Y w w'
  far : ∀ (k : Nat) (c : Array Value) (e' : TypeId) (fr : Nat × Nat), w.heap[k]? = some (.cells c e' fr) → e' ≠ e → w'.heap[k]? = some (.cells c e' fr)
theorem Only.refl (e Y : Nat) (w : World) : Only e Y w w := ⟨Below.refl _ _, fun _ _ _ _ h _ => h⟩
theorem Only.grown {e Y : Nat} {w wr w' : World} {row : Option Nat} (h : Only e Y w wr) (hg : wr.grownBy w' row) (hY : Y ≤ wr.heap.size) (hr : ∀ k, row = some k → Y ≤ k ∧ (w.heap.size ≤ k ∨ ∃ c fr, wr.heap[k]? = some (.cells c e fr))) : Only e Y w w' := by
  refine ⟨h.bel.grown hg hY (fun k e => (hr k e).1), fun k c e' fr hk hne => ?_⟩
  have h1 := h.far k c e' fr hk hne
  rw [hg.block k (Array.getElem?_eq_some_iff.1 h1).1 (fun e2 => ?_)]
  · exact h1
  · rcases (hr k e2.symm).2 with h2 | ⟨c2, fr2, h2⟩
    · have := (Array.getElem?_eq_some_iff.1 hk).1
      omega
    · rw [h1] at h2
      simp only [Option.some.injEq, Obj.cells.injEq] at h2
      exact hne h2.2.1
/-- Two slices lie apart. -/
def Sep (v v' : Value) : Prop := ∀ b, v.ownBlock = some b → v'.ownBlock ≠ some b
theorem Sep.symm {v v' : Value} (h : Sep v v') : Sep v' v := fun b hb e => h b e hb
theorem Sep.off {v v' : Value} {b : Nat} (h : Sep v v') (hb : v.ownBlock = some b) : v'.ownBlock = none ∨ v'.ownBlock ≠ some b := Or.inr (h b hb)
theorem own_blkS {w : World} {Z e z n k : Nat} {v : Value} {xs : List Value} (h : w.ownsRow Z e z v n xs) (hk : v.ownBlock = some k) : ∃ cur, w.heap[k]? = some (.cells cur e (0, 0)) := by
  rcases h.2 with ⟨rfl, _⟩ | ⟨g', cap', cur, rfl, _, hg, _⟩
  · simp [Value.ownBlock] at hk
  · simp only [Value.ownBlock, Option.some.injEq] at hk
    subst hk
    exact ⟨cur, hg⟩
theorem own_valS {w : World} {Z e z n : Nat} {v : Value} {xs : List Value} (h : w.ownsRow Z e z v n xs) : ∃ a cap, v = .slice a n cap := by
  rcases h.2 with ⟨rfl, h0⟩ | ⟨g, cap, cur, rfl, _⟩
  · exact ⟨none, 0, by rw [h0]⟩
  · exact ⟨_, _, rfl⟩
theorem own_offS {w : World} {Z e z n p : Nat} {e' : TypeId} {v : Value} {xs : List Value} {c : Array Value} {fr : Nat × Nat} (h : w.ownsRow Z e z v n xs) (hb : w.heap[p]? = some (.cells c e' fr)) (he : e ≠ e') : v.ownBlock = none ∨ v.ownBlock ≠ some p := by
  rcases hv : v.ownBlock with _ | k
  · exact Or.inl rfl
  · right
    intro e2
    obtain rfl : k = p := Option.some.inj e2
    obtain ⟨c', hc⟩ := own_blkS h hv
    rw [hc] at hb
    simp only [Option.some.injEq, Obj.cells.injEq] at hb
    exact he hb.2.1
theorem own_apartS {w : World} {Z Z' e e' z z' n m : Nat} {v u : Value} {xs ys : List Value} (h : w.ownsRow Z e z v n xs) (h2 : w.ownsRow Z' e' z' u m ys) (he : e ≠ e') : u.ownBlock = none ∨ u.ownBlock ≠ v.ownBlock := by
  rcases hu : u.ownBlock with _ | k
  · exact Or.inl rfl
  · right
    intro e2
    obtain ⟨c, hc⟩ := own_blkS h2 hu
    rcases own_offS h hc he with h0 | h0
    · rw [h0] at e2; cases e2
    · exact h0 e2.symm
theorem own_cellS {w : World} {Z e z n : Nat} {v : Value} {xs : List Value} (h : w.ownsRow Z e z v n xs) (k : Nat) (hk : k < n) : ∃ g cap, v = .slice (some ⟨g, 0, none⟩) n cap ∧ n ≤ cap ∧ ∀ j, j < z → w.cell? ⟨g, k * z + j, none⟩ = xs[k * z + j]? := by
  rcases h.2 with ⟨_, h0⟩ | ⟨g, cap, cur, rfl, hb, hg, hc, _⟩
  · omega
  · refine ⟨g, cap, rfl, hc, fun j hj => h.cellAt _ ?_⟩
    have : k * z + z ≤ n * z := by rw [← Nat.succ_mul]; exact Nat.mul_le_mul_right z hk
    omega
theorem own_preS {w : World} {Y e z n m : Nat} {g cap : Nat} {xs ys : List Value} (h : w.ownsRow Y e z (.slice (some ⟨g, 0, none⟩) (n + m) cap) (n + m) (xs ++ ys)) (hx : xs.length = n * z) : w.ownsRow Y e z (.slice (some ⟨g, 0, none⟩) n cap) n xs := by
  refine ⟨hx, ?_⟩
  rcases h.2 with ⟨h0, _⟩ | ⟨g', cap', cur, hv, hb, hg, hnc, hcm, hcs, htk⟩
  · cases h0
  · cases hv
    refine Or.inr ⟨g, cap, cur, rfl, hb, hg, by omega, hcm, hcs, ?_⟩
    have h1 : List.take (n * z) (List.take ((n + m) * z) cur.toList) = List.take (n * z) (xs ++ ys) := by rw [htk]
    rw [List.take_take, Nat.min_eq_left (Nat.mul_le_mul_right z (Nat.le_add_right n m))] at h1
    rw [h1, List.take_left' hx]
/-- Two rows in one block have the same room. -/
theorem own_capS {w : World} {Y Z e z n m : Nat} (hz : 0 < z) {g cap : Nat} {v : Value} {xs ys : List Value} (h : w.ownsRow Y e z (.slice (some ⟨g, 0, none⟩) n cap) n xs) (h2 : w.ownsRow Z e z v m ys) (hv : v.ownBlock = some g) : v = .slice (some ⟨g, 0, none⟩) m cap := by
  rcases h.2 with ⟨h0, _⟩ | ⟨g', cap', cur, hv', hb, hg, hnc, hcm, hcs, htk⟩
  · cases h0
  · cases hv'
    rcases h2.2 with ⟨h0, _⟩ | ⟨g2, cap2, cur2, rfl, hb2, hg2, hnc2, hcm2, hcs2, htk2⟩
    · rw [h0] at hv; cases hv
    · obtain rfl : g2 = g := by simpa [Value.ownBlock] using hv
      rw [hg] at hg2
      simp only [Option.some.injEq, Obj.cells.injEq] at hg2
      obtain ⟨rfl, _⟩ := hg2
      have : cap = cap2 := Nat.eq_of_mul_eq_mul_right hz (by omega)
      rw [this]
theorem own_holds {w : World} {Y e z n g cap : Nat} {xs : List Value} (h : w.ownsRow Y e z (.slice (some ⟨g, 0, none⟩) n cap) n xs) : ∃ c, w.heap[g]? = some (.cells c e (0, 0)) := by
  rcases h.2 with ⟨h0, _⟩ | ⟨g', cap', cur, hv, hb, hg, _⟩
  · cases h0
  · cases hv
    exact ⟨_, hg⟩
/-- A row whose first places bear marks. -/
def MarkRow (w : World) (Y e : Nat) (v : Value) (n K : Nat) (f : Nat → Nat → Value) : Prop := ∃ xs, w.ownsRow Y e 3 v n xs ∧ ∀ k, k < K → ∀ j, j < 3 → xs[k * 3 + j]? = some (f k j)
/-- A row that bears marks, and behind them others. -/
def GrownRow (w : World) (Y e : Nat) (v : Value) (n K : Nat) (f g : Nat → Nat → Value) : Prop := ∃ xs, w.ownsRow Y e 3 v (n + K) xs ∧ (∀ k, k < n → ∀ j, j < 3 → xs[k * 3 + j]? = some (f k j)) ∧ ∀ k, k < K → ∀ j, j < 3 → xs[(n + k) * 3 + j]? = some (g k j)
theorem MarkRow.kept {w w' : World} {Y e n K : Nat} {v : Value} {f : Nat → Nat → Value} {r : Option Nat} (h : MarkRow w Y e v n K f) (hg : w.grownBy w' r) (hne : v.ownBlock = none ∨ v.ownBlock ≠ r) : MarkRow w' Y e v n K f := by
  obtain ⟨xs, h1, h2⟩ := h
  exact ⟨xs, h1.kept hg hne, h2⟩
theorem GrownRow.kept {w w' : World} {Y e n K : Nat} {v : Value} {f g : Nat → Nat → Value} {r : Option Nat} (h : GrownRow w Y e v n K f g) (hg : w.grownBy w' r) (hne : v.ownBlock = none ∨ v.ownBlock ≠ r) : GrownRow w' Y e v n K f g := by
  obtain ⟨xs, h1, h2, h3⟩ := h
  exact ⟨xs, h1.kept hg hne, h2, h3⟩
theorem MarkRow.lt {w : World} {Y e n K : Nat} {v : Value} {f : Nat → Nat → Value} (h : MarkRow w Y e v n K f) : ∀ b, v.ownBlock = some b → Y ≤ b ∧ b < w.heap.size := by
  obtain ⟨xs, h1, _⟩ := h
  exact h1.lt
theorem GrownRow.lt {w : World} {Y e n K : Nat} {v : Value} {f g : Nat → Nat → Value} (h : GrownRow w Y e v n K f g) : ∀ b, v.ownBlock = some b → Y ≤ b ∧ b < w.heap.size := by
  obtain ⟨xs, h1, _⟩ := h
  exact h1.lt

/-- Lists, each apart, marked as far as the K-th place of the I-th. -/
structure OwnP1 (w : World) (Y e : Nat) (vs : List Value) (ns : Nat → Nat) (mk : Nat → Nat → Nat → Value) (I K : Nat) : Prop where
  rows : ∀ i, i < vs.length → MarkRow w Y e (vs.getD i default) (ns i) (if i < I then ns i else if i = I then K else 0) (mk i)
  sep : ∀ i j, i < vs.length → j < vs.length → i ≠ j → Sep (vs.getD i default) (vs.getD j default)

section
variable {w w' : World} {Y e : Nat} {vs : List Value} {ns : Nat → Nat} {mk mg : Nat → Nat → Nat → Value} {I K : Nat}
theorem OwnP1.kept (h : OwnP1 w Y e vs ns mk I K) (hg : w.grownBy w' none) : OwnP1 w' Y e vs ns mk I K :=
  ⟨fun i hi => (h.rows i hi).kept hg (Classical.em _), h.sep⟩
theorem OwnP1.next (h : OwnP1 w Y e vs ns mk I (ns I)) : OwnP1 w Y e vs ns mk (I + 1) 0 := by
  refine ⟨fun i hi => ?_, h.sep⟩
  have h1 := h.rows i hi
  by_cases c1 : i < I
  · rw [if_pos c1] at h1; rw [if_pos (by omega)]; exact h1
  · by_cases c2 : i = I
    · subst c2; rw [if_neg c1, if_pos rfl] at h1; rw [if_pos (by omega)]; exact h1
    · rw [if_neg c1, if_neg c2] at h1; rw [if_neg (by omega), ite_self]; exact h1
theorem OwnP1.at (h : OwnP1 w Y e vs ns mk I K) (hI : I < vs.length) : ∃ a cap, vs.getD I default = .slice a (ns I) cap := by
  obtain ⟨xs, h1, _⟩ := h.rows I hI
  exact own_valS h1
/-- The K-th place of the I-th list gets its mark. -/
theorem OwnP1.store (h : OwnP1 w Y e vs ns mk I K) (hI : I < vs.length) (hK : K < ns I) : ∃ g cap, vs.getD I default = .slice (some ⟨g, 0, none⟩) (ns I) cap ∧ (∀ j, j < 3 → ∃ u, w.cell? ⟨g, K * 3 + j, none⟩ = some u) ∧ (∀ j, w.frozen? ⟨g, j, none⟩ = false) ∧
    OwnP1 (((w.setCell ⟨g, K * 3, none⟩ (mk I K 0)).setCell ⟨g, K * 3 + 1, none⟩ (mk I K 1)).setCell ⟨g, K * 3 + 2, none⟩ (mk I K 2)) Y e vs ns mk I (K + 1) ∧ w.grownBy (((w.setCell ⟨g, K * 3, none⟩ (mk I K 0)).setCell ⟨g, K * 3 + 1, none⟩ (mk I K 1)).setCell ⟨g, K * 3 + 2, none⟩ (mk I K 2)) (some g) ∧ Y ≤ g ∧ ∃ c, w.heap[g]? = some (.cells c e (0, 0)) := by
  obtain ⟨xs, h1, h2⟩ := h.rows I hI
  rw [if_neg (Nat.lt_irrefl _), if_pos rfl] at h2
  obtain ⟨g, cap, hv, _, hc⟩ := own_cellS h1 K hK
  have hl : xs.length = ns I * 3 := h1.1
  rw [hv] at h1
  have s1 := h1.stored (K * 3) (mk I K 0)
  have s2 := s1.1.stored (K * 3 + 1) (mk I K 1)
  have s3 := s2.1.stored (K * 3 + 2) (mk I K 2)
  have hg3 := gb_trans (gb_trans s1.2 s2.2 (Or.inr (Or.inl rfl))) s3.2 (Or.inr (Or.inl rfl))
  have hYg := (h1.lt g rfl).1
  have hob : (vs.getD I default).ownBlock = some g := by rw [hv]; rfl
  refine ⟨g, cap, hv, fun j hj => ⟨_, (hc j hj).trans (List.getElem?_eq_getElem (by omega))⟩, fun j => h1.frozenAt j, ⟨fun i hi => ?_, h.sep⟩, hg3, hYg, own_holds h1⟩
  by_cases e1 : i = I
  · subst e1
    rw [if_neg (Nat.lt_irrefl _), if_pos rfl, hv]
    refine ⟨_, s3.1, fun k hk j hj => ?_⟩
    by_cases e2 : K = k
    · subst e2
      rcases (show j = 0 ∨ j = 1 ∨ j = 2 by omega) with rfl | rfl | rfl
      · rw [List.getElem?_set_ne (by omega), List.getElem?_set_ne (by omega)]
        exact List.getElem?_set_self (by omega)
      · rw [List.getElem?_set_ne (by omega), List.getElem?_set_self (by simp; omega)]
      · rw [List.getElem?_set_self (by simp; omega)]
    · rw [List.getElem?_set_ne (by omega), List.getElem?_set_ne (by omega), List.getElem?_set_ne (by omega)]
      exact h2 k (by omega) j hj
  · have h3 := (h.rows i hi).kept hg3 ((h.sep I i hI hi (fun e2 => e1 e2.symm)).off hob)
    by_cases c1 : i < I
    · rw [if_pos c1] at h3 ⊢; exact h3
    · rw [if_neg c1, if_neg e1] at h3 ⊢; exact h3

/-- Lists that are marked, the first of them grown into longer ones. -/
structure OwnP2 (w : World) (Y e : Nat) (vs : List Value) (ns : Nat → Nat) (mk mg : Nat → Nat → Nat → Value) (ls : List Value) : Prop where
  rows : ∀ i, i < vs.length → MarkRow w Y e (vs.getD i default) (ns i) (ns i) (mk i)
  sep : ∀ i j, i < vs.length → j < vs.length → i ≠ j → Sep (vs.getD i default) (vs.getD j default)
  long : ∀ i, i < ls.length → GrownRow w Y e (ls.getD i default) (ns i) 16 (mk i) (mg i)
  sepL : ∀ i j, i < ls.length → j < vs.length → i ≠ j → Sep (ls.getD i default) (vs.getD j default)
  sepLL : ∀ i j, i < ls.length → j < ls.length → i ≠ j → Sep (ls.getD i default) (ls.getD j default)
theorem OwnP1.turn (h : OwnP1 w Y e vs ns mk vs.length 0) : OwnP2 w Y e vs ns mk mg [] :=
  ⟨fun i hi => by have := h.rows i hi; rw [if_pos hi] at this; exact this, h.sep, fun i hi => absurd hi (Nat.not_lt_zero _), fun i j hi => absurd hi (Nat.not_lt_zero _), fun i j hi => absurd hi (Nat.not_lt_zero _)⟩
/-- The one that grows now. -/
structure OwnX (w : World) (Y e : Nat) (vs : List Value) (ns : Nat → Nat) (mk mg : Nat → Nat → Nat → Value) (ls : List Value) (x : Value) (K : Nat) : Prop where
  p2 : OwnP2 w Y e vs ns mk mg ls
  row : GrownRow w Y e x (ns ls.length) K (mk ls.length) (mg ls.length)
  sepV : ∀ j, j < vs.length → j ≠ ls.length → Sep x (vs.getD j default)
  sepX : ∀ j, j < ls.length → Sep x (ls.getD j default)
variable {ls : List Value} {x : Value}
theorem OwnP2.kept (h : OwnP2 w Y e vs ns mk mg ls) (hg : w.grownBy w' none) : OwnP2 w' Y e vs ns mk mg ls :=
  ⟨fun i hi => (h.rows i hi).kept hg (Classical.em _), h.sep, fun i hi => (h.long i hi).kept hg (Classical.em _), h.sepL, h.sepLL⟩
/-- A block of another kind has turned. -/
theorem OwnP2.far {b e' : Nat} {c : Array Value} {fr : Nat × Nat} (h : OwnP2 w Y e vs ns mk mg ls) (hg : w.grownBy w' (some b)) (hb : w.heap[b]? = some (.cells c e' fr)) (he : e ≠ e') : OwnP2 w' Y e vs ns mk mg ls :=
  ⟨fun i hi => by obtain ⟨xs, h1, h2⟩ := h.rows i hi; exact ⟨xs, h1.kept hg (own_offS h1 hb he), h2⟩, h.sep, fun i hi => by obtain ⟨xs, h1, h2⟩ := h.long i hi; exact ⟨xs, h1.kept hg (own_offS h1 hb he), h2⟩, h.sepL, h.sepLL⟩
/-- A row of another kind has grown. -/
theorem OwnP2.apart {Z e' z n : Nat} {u : Value} {xs : List Value} (h : OwnP2 w Y e vs ns mk mg ls) (hu : w.ownsRow Z e' z u n xs) (he : e' ≠ e) (hg : w.grownBy w' u.ownBlock) : OwnP2 w' Y e vs ns mk mg ls :=
  ⟨fun i hi => by obtain ⟨xs, h1, h2⟩ := h.rows i hi; exact ⟨xs, h1.kept hg (own_apartS hu h1 he), h2⟩, h.sep, fun i hi => by obtain ⟨xs, h1, h2⟩ := h.long i hi; exact ⟨xs, h1.kept hg (own_apartS hu h1 he), h2⟩, h.sepL, h.sepLL⟩
theorem OwnX.apart {K Z e' z n : Nat} {u : Value} {xs : List Value} (h : OwnX w Y e vs ns mk mg ls x K) (hu : w.ownsRow Z e' z u n xs) (he : e' ≠ e) (hg : w.grownBy w' u.ownBlock) : OwnX w' Y e vs ns mk mg ls x K :=
  ⟨h.p2.apart hu he hg, by obtain ⟨xs, h1, h2⟩ := h.row; exact ⟨xs, h1.kept hg (own_apartS hu h1 he), h2⟩, h.sepV, h.sepX⟩
theorem OwnX.kept {K : Nat} (h : OwnX w Y e vs ns mk mg ls x K) (hg : w.grownBy w' none) : OwnX w' Y e vs ns mk mg ls x K :=
  ⟨h.p2.kept hg, h.row.kept hg (Classical.em _), h.sepV, h.sepX⟩
theorem OwnP2.begin (h : OwnP2 w Y e vs ns mk mg ls) (hI : ls.length < vs.length) : OwnX w Y e vs ns mk mg ls (vs.getD ls.length default) 0 := by
  obtain ⟨xs, h1, h2⟩ := h.rows ls.length hI
  exact ⟨h, ⟨xs, h1, h2, fun k hk => absurd hk (Nat.not_lt_zero _)⟩, fun j hj hne => h.sep _ _ hI hj (fun e2 => hne e2.symm), fun j hj => (h.sepL j _ hj hI (by omega)).symm⟩
theorem OwnX.val {K : Nat} (h : OwnX w Y e vs ns mk mg ls x K) : ∃ a cap, x = .slice a (ns ls.length + K) cap := by
  obtain ⟨xs, h1, _⟩ := h.row
  exact own_valS h1
/-- It has grown by one. -/
theorem OwnX.push {w1 : World} {K g cap : Nat} {xs : List Value} (h : OwnX w Y e vs ns mk mg ls x K) (h0 : w.grownBy w1 none) (hx : w.ownsRow Y e 3 x (ns ls.length + K) xs) (hm : ∀ k, k < ns ls.length → ∀ j, j < 3 → xs[k * 3 + j]? = some (mk ls.length k j)) (hq : ∀ k, k < K → ∀ j, j < 3 → xs[(ns ls.length + k) * 3 + j]? = some (mg ls.length k j))
    (h1 : w'.ownsRow Y e 3 (.slice (some ⟨g, 0, none⟩) (ns ls.length + K + 1) cap) (ns ls.length + K + 1) (xs ++ [mg ls.length K 0, mg ls.length K 1, mg ls.length K 2]))
    (h2 : x = .slice (some ⟨g, 0, none⟩) (ns ls.length + K) cap ∧ w1.grownBy w' (some g) ∨ w1.heap.size ≤ g ∧ w1.grownBy w' none) : OwnX w' Y e vs ns mk mg ls (.slice (some ⟨g, 0, none⟩) (ns ls.length + K + 1) cap) (K + 1) := by
  have hl : xs.length = (ns ls.length + K) * 3 := hx.1
  have hrow : GrownRow w' Y e (.slice (some ⟨g, 0, none⟩) (ns ls.length + K + 1) cap) (ns ls.length) (K + 1) (mk ls.length) (mg ls.length) := ⟨_, h1, fun k hk j hj => by rw [List.getElem?_append_left (by omega)]; exact hm k hk j hj, fun k hk j hj => by
    by_cases e1 : k < K
    · rw [List.getElem?_append_left (by omega)]; exact hq k e1 j hj
    · obtain rfl : k = K := by omega
      rw [List.getElem?_append_right (by omega), hl, Nat.add_sub_cancel_left]
      rcases (show j = 0 ∨ j = 1 ∨ j = 2 by omega) with rfl | rfl | rfl <;> rfl⟩
  have hw1 := h.kept h0
  rcases h2 with ⟨hb, hg⟩ | ⟨hb, hg⟩
  · subst hb
    have hxo : ∀ {v : Value}, Sep (.slice (some ⟨g, 0, none⟩) (ns ls.length + K) cap) v → v.ownBlock = none ∨ v.ownBlock ≠ some g := fun hs => hs.off rfl
    have hsame : ∀ {v : Value}, Sep (.slice (some ⟨g, 0, none⟩) (ns ls.length + K) cap) v → Sep (.slice (some ⟨g, 0, none⟩) (ns ls.length + K + 1) cap) v := fun hs b hb => hs b (by simpa [Value.ownBlock] using hb)
    refine ⟨⟨fun i hi => ?_, hw1.p2.sep, fun i hi => (hw1.p2.long i hi).kept hg (hxo (h.sepX i hi)), hw1.p2.sepL, hw1.p2.sepLL⟩, hrow, fun j hj hne => hsame (h.sepV j hj hne), fun j hj => hsame (h.sepX j hj)⟩
    by_cases e1 : i = ls.length
    · subst e1
      obtain ⟨ys, hy, hym⟩ := hw1.p2.rows ls.length hi
      by_cases e2 : (vs.getD ls.length default).ownBlock = some g
      · have hv := own_capS (by decide) (hx.kept h0 (Classical.em _)) hy e2
        rw [hv]
        have hxs : xs = xs.take (ns ls.length * 3) ++ xs.drop (ns ls.length * 3) := (List.take_append_drop _ _).symm
        rw [hxs, List.append_assoc] at h1
        refine ⟨xs.take (ns ls.length * 3), own_preS (m := K + 1) h1 (by rw [List.length_take]; omega), fun k hk j hj => ?_⟩
        rw [List.getElem?_take, if_pos (by omega)]
        exact hm k hk j hj
      · exact ⟨ys, hy.kept hg (Or.inr e2), hym⟩
    · exact (hw1.p2.rows i hi).kept hg (hxo (h.sepV i hi e1))
  · have hnew : ∀ {v : Value}, (∀ b, v.ownBlock = some b → Y ≤ b ∧ b < w1.heap.size) → Sep (.slice (some ⟨g, 0, none⟩) (ns ls.length + K + 1) cap) v := fun hv b hbg e2 => by
      obtain rfl : g = b := by simpa [Value.ownBlock] using hbg
      have := (hv _ e2).2
      omega
    exact ⟨hw1.p2.kept hg, hrow, fun j hj _ => hnew (hw1.p2.rows j hj).lt, fun j hj => hnew (hw1.p2.long j hj).lt⟩
/-- It stands beside the others. -/
theorem OwnX.done (h : OwnX w Y e vs ns mk mg ls x 16) : OwnP2 w Y e vs ns mk mg (ls ++ [x]) := by
  have hg : ∀ i, i < (ls ++ [x]).length → (i < ls.length ∧ (ls ++ [x]).getD i default = ls.getD i default) ∨ (i = ls.length ∧ (ls ++ [x]).getD i default = x) := fun i hi => by
    rw [List.length_append, List.length_singleton] at hi
    by_cases c : i < ls.length
    · left; exact ⟨c, by rw [List.getD_eq_getElem?_getD, List.getElem?_append_left c, ← List.getD_eq_getElem?_getD]⟩
    · right
      obtain rfl : i = ls.length := by omega
      exact ⟨rfl, by rw [List.getD_eq_getElem?_getD, List.getElem?_append_right (Nat.le_refl _), Nat.sub_self]; rfl⟩
  refine ⟨h.p2.rows, h.p2.sep, fun i hi => ?_, fun i j hi hj hij => ?_, fun i j hi hj hij => ?_⟩
  · rcases hg i hi with ⟨c, e1⟩ | ⟨rfl, e1⟩
    · rw [e1]; exact h.p2.long i c
    · rw [e1]; exact h.row
  · rcases hg i hi with ⟨c, e1⟩ | ⟨rfl, e1⟩
    · rw [e1]; exact h.p2.sepL i j c hj hij
    · rw [e1]; exact h.sepV j hj (fun e2 => hij e2.symm)
  · rcases hg i hi with ⟨c, e1⟩ | ⟨rfl, e1⟩
    · rcases hg j hj with ⟨d, e2⟩ | ⟨rfl, e2⟩
      · rw [e1, e2]; exact h.p2.sepLL i j c d hij
      · rw [e1, e2]; exact (h.sepX i c).symm
    · rcases hg j hj with ⟨d, e2⟩ | ⟨rfl, e2⟩
      · rw [e1, e2]; exact h.sepX j d
      · exact absurd rfl hij
end
end Go.Proofs.Ytlmpeddacadfkaa
