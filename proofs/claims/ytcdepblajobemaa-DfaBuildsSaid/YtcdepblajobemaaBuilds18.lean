/- Lists that are marked, that grow, that are looked at: what lies where, in plain Lean. -/
import Derived.Test.YtcdepblajobemaaBuilds17
import Derived.ArgAppend
set_option maxRecDepth 100000
namespace Go.Proofs.Ytcdepblajobemaa
open Go.RowKit

/-- append, and what becomes of the old row: the new slice lies in it, or everything stands as it was. -/
theorem wpList_append_keeps {P : Program} (w : World) {ops : Array Oper} {rest : List Oper} {o : Oper} {a : Act} {Q : Exit → Act → World → Prop} (hgd : o.guard = none) (s x : Operand) (t : TypeId)
    (ho : o.op = .call { callee := .builtin .append, args := #[s, x], argTypes := #[t, t] })
    (base : Nat) (e : TypeId) (i : TypeInfo) (z : Value) (size bytes : Nat) (ht : P.underlying t = some (.slice e)) (hi : P.info? e = some i) (hz : i.zero = some z)
    (hsize : i.size = size) (hby : i.bytes = bytes) (hzs : z.cells.size = size) (hsz : 0 < size)
    (v : Value) (n : Nat) (xs : List Value) (hs : a.eval s = v) (hown : w.ownsRow base e size v n xs)
    (ad : Addr) (m c : Nat) (news : List Value) (hx : a.eval x = .slice (some ad) m c) (hl : news.length = m * size) (hnews : ∀ j u, news[j]? = some u → w.cell? (ad.add j) = some u) (h1 : ∀ u ∈ news, u.oneCell' = true)
    (hm : 0 < m) (h63 : n + m ≤ maxLen) (hbytes : (n + m) * bytes ≤ 140737488355328) (hbase : base ≤ w.heap.size)
    (h : ∀ g cap w', w'.ownsRow base e size (.slice (some ⟨g, 0, none⟩) (n + m) cap) (n + m) (xs ++ news) → (v = .slice (some ⟨g, 0, none⟩) n cap ∧ w.grownBy w' (some g) ∨ w.heap.size ≤ g ∧ w.grownBy w' none) → wpList P ops Q rest (a.put o.dst (.slice (some ⟨g, 0, none⟩) (n + m) cap)) w') : wpList P ops Q (o :: rest) a w := by
  have hgrow : ∀ v' w', w'.ownsRow w.heap.size e size v' (n + m) (xs ++ news) → w.grownBy w' none → wpList P ops Q rest (a.put o.dst v') w' := fun v' w' h2 h3 => by
    obtain ⟨g, cap, rfl, hg, _⟩ := h2.form (by omega)
    refine h g cap w' ⟨h2.1, ?_⟩ (Or.inr ⟨hg, h3⟩)
    rcases h2.2 with h4 | ⟨g', cap', cur, hv, hb, hrest⟩
    · exact Or.inl h4
    · exact Or.inr ⟨g', cap', cur, hv, Nat.le_trans hbase hb, hrest⟩
  rcases hown.2 with ⟨rfl, rfl⟩ | ⟨g, cap, cur, rfl, hb, hg, hnc, hcm, hcs, htake⟩
  · exact wpList_append_grows w hgd s x t ho e i z size bytes ht hi hz hsize hby hzs hsz none 0 0 xs hs (fun _ => ⟨rfl, rfl⟩) (by simpa using hown.1) (fun b e => by cases e) ad m c news hx hl hnews h1 (by omega) h63 hbytes hgrow
  · by_cases hr : n + m ≤ cap
    · exact wpList_append_fits w hgd s x t ho base e i size ht hi hsize g n cap xs hs hown ad m c news hx hl hnews h1 hr fun w' h2 h3 => h g cap w' h2 (Or.inl ⟨rfl, h3⟩)
    · exact wpList_append_grows w hgd s x t ho e i z size bytes ht hi hz hsize hby hzs hsz (some ⟨g, 0, none⟩) n cap xs hs (fun e => by cases e) hown.1 (fun b hb j u hj => by cases hb; exact hown.cells rfl j u hj) ad m c news hx hl hnews h1 (by omega) h63 hbytes hgrow

/-- Nothing below Y turned, and of what lies elsewhere nothing that is of another kind. -/
structure Only (e Y : Nat) (w w' : World) : Prop where
  bel : Below Y w w'
  far : ∀ (k : Nat) (c : Array Value) (e' : TypeId) (fr : Nat × Nat), w.heap[k]? = some (.cells c e' fr) → e' ≠ e → w'.heap[k]? = some (.cells c e' fr)
theorem Only.refl (e Y : Nat) (w : World) : Only e Y w w := ⟨Below.refl _ _, fun _ _ _ _ h _ => h⟩
theorem Only.grown {e Y : Nat} {w wr w' : World} {row : Option Nat} (h : Only e Y w wr) (hg : wr.grownBy w' row) (hY : Y ≤ wr.heap.size) (hr : ∀ k, row = some k → Y ≤ k ∧ (w.heap.size ≤ k ∨ ∃ c fr, wr.heap[k]? = some (.cells c e fr))) : Only e Y w w' := by
  refine ⟨h.bel.grown hg hY (fun k e => (hr k e).1), fun k c e' fr hk hne => ?_⟩
  have h1 := h.far k c e' fr hk hne
  rw [hg.block k (Array.getElem?_eq_some_iff.1 h1).1 (fun e2 => ?_)]
  · exact h1
  · rcases (hr k e2.symm).2 with h2 | ⟨c2, fr2, h2⟩
    · have := (Array.getElem?_eq_some_iff.1 hk).1
      omega
    · rw [h1] at h2
      simp only [Option.some.injEq, Obj.cells.injEq] at h2
      exact hne h2.2.1
theorem own_pre {w : World} {Y e n m : Nat} {g cap : Nat} {xs ys : List Value} (h : w.ownsRow Y e 1 (.slice (some ⟨g, 0, none⟩) (n + m) cap) (n + m) (xs ++ ys)) (hx : xs.length = n) : w.ownsRow Y e 1 (.slice (some ⟨g, 0, none⟩) n cap) n xs := by
  refine ⟨by omega, ?_⟩
  rcases h.2 with ⟨h0, _⟩ | ⟨g', cap', cur, hv, hb, hg, hnc, hcm, hcs, htk⟩
  · cases h0
  · cases hv
    refine Or.inr ⟨g, cap, cur, rfl, hb, hg, by omega, hcm, hcs, ?_⟩
    have h1 : List.take n (List.take (n + m) cur.toList) = List.take n (xs ++ ys) := by rw [← htk]; simp
    rw [List.take_take, Nat.min_eq_left (by omega)] at h1
    rw [Nat.mul_one, h1, List.take_left' hx]
/-- Two rows in one block have the same room. -/
theorem own_cap {w : World} {Y Z e n m : Nat} {g cap : Nat} {v : Value} {xs ys : List Value} (h : w.ownsRow Y e 1 (.slice (some ⟨g, 0, none⟩) n cap) n xs) (h2 : w.ownsRow Z e 1 v m ys) (hv : v.ownBlock = some g) : v = .slice (some ⟨g, 0, none⟩) m cap := by
  rcases h.2 with ⟨h0, _⟩ | ⟨g', cap', cur, hv', hb, hg, hnc, hcm, hcs, htk⟩
  · cases h0
  · cases hv'
    rcases h2.2 with ⟨h0, _⟩ | ⟨g2, cap2, cur2, rfl, hb2, hg2, hnc2, hcm2, hcs2, htk2⟩
    · rw [h0] at hv; cases hv
    · obtain rfl : g2 = g := by simpa [Value.ownBlock] using hv
      rw [hg] at hg2
      simp only [Option.some.injEq, Obj.cells.injEq] at hg2
      obtain ⟨rfl, _⟩ := hg2
      have : cap = cap2 := by omega
      rw [this]

theorem own_holds {w : World} {Y e n g cap : Nat} {xs : List Value} (h : w.ownsRow Y e 1 (.slice (some ⟨g, 0, none⟩) n cap) n xs) : ∃ c, w.heap[g]? = some (.cells c e (0, 0)) := by
  rcases h.2 with ⟨h0, _⟩ | ⟨g', cap', cur, hv, hb, hg, _⟩
  · cases h0
  · cases hv
    exact ⟨_, hg⟩
/-- A row whose first places bear marks. -/
def MarkRow (w : World) (Y e : Nat) (v : Value) (n K : Nat) (f : Nat → Value) : Prop := ∃ xs, w.ownsRow Y e 1 v n xs ∧ ∀ k, k < K → xs[k]? = some (f k)
/-- A row that bears marks, and behind them others. -/
def GrownRow (w : World) (Y e : Nat) (v : Value) (n K : Nat) (f g : Nat → Value) : Prop := ∃ xs, w.ownsRow Y e 1 v (n + K) xs ∧ (∀ k, k < n → xs[k]? = some (f k)) ∧ ∀ k, k < K → xs[n + k]? = some (g k)
theorem MarkRow.kept {w w' : World} {Y e n K : Nat} {v : Value} {f : Nat → Value} {r : Option Nat} (h : MarkRow w Y e v n K f) (hg : w.grownBy w' r) (hne : v.ownBlock = none ∨ v.ownBlock ≠ r) : MarkRow w' Y e v n K f := by
  obtain ⟨xs, h1, h2⟩ := h
  exact ⟨xs, h1.kept hg hne, h2⟩
theorem GrownRow.kept {w w' : World} {Y e n K : Nat} {v : Value} {f g : Nat → Value} {r : Option Nat} (h : GrownRow w Y e v n K f g) (hg : w.grownBy w' r) (hne : v.ownBlock = none ∨ v.ownBlock ≠ r) : GrownRow w' Y e v n K f g := by
  obtain ⟨xs, h1, h2, h3⟩ := h
  exact ⟨xs, h1.kept hg hne, h2, h3⟩
theorem MarkRow.lt {w : World} {Y e n K : Nat} {v : Value} {f : Nat → Value} (h : MarkRow w Y e v n K f) : ∀ b, v.ownBlock = some b → Y ≤ b ∧ b < w.heap.size := by
  obtain ⟨xs, h1, _⟩ := h
  exact h1.lt
theorem GrownRow.lt {w : World} {Y e n K : Nat} {v : Value} {f g : Nat → Value} (h : GrownRow w Y e v n K f g) : ∀ b, v.ownBlock = some b → Y ≤ b ∧ b < w.heap.size := by
  obtain ⟨xs, h1, _⟩ := h
  exact h1.lt

/-- Lists, each apart, marked as far as the K-th place of the I-th. -/
structure OwnP1 (w : World) (Y e : Nat) (vs : List Value) (ns : Nat → Nat) (mk : Nat → Nat → Value) (I K : Nat) : Prop where
  rows : ∀ i, i < vs.length → MarkRow w Y e (vs.getD i default) (ns i) (if i < I then ns i else if i = I then K else 0) (mk i)
  sep : ∀ i j, i < vs.length → j < vs.length → i ≠ j → Sep (vs.getD i default) (vs.getD j default)

section
variable {w w' : World} {Y e : Nat} {vs : List Value} {ns : Nat → Nat} {mk mg : Nat → Nat → Value} {I K : Nat}
theorem OwnP1.kept (h : OwnP1 w Y e vs ns mk I K) (hg : w.grownBy w' none) : OwnP1 w' Y e vs ns mk I K :=
  ⟨fun i hi => (h.rows i hi).kept hg (Classical.em _), h.sep⟩
theorem OwnP1.next (h : OwnP1 w Y e vs ns mk I (ns I)) : OwnP1 w Y e vs ns mk (I + 1) 0 := by
  refine ⟨fun i hi => ?_, h.sep⟩
  have h1 := h.rows i hi
  by_cases c1 : i < I
  · rw [if_pos c1] at h1; rw [if_pos (by omega)]; exact h1
  · by_cases c2 : i = I
    · subst c2; rw [if_neg c1, if_pos rfl] at h1; rw [if_pos (by omega)]; exact h1
    · rw [if_neg c1, if_neg c2] at h1; rw [if_neg (by omega), ite_self]; exact h1
theorem OwnP1.at (h : OwnP1 w Y e vs ns mk I K) (hI : I < vs.length) : ∃ a cap, vs.getD I default = .slice a (ns I) cap := by
  obtain ⟨xs, h1, _⟩ := h.rows I hI
  exact own_val h1
/-- The K-th place of the I-th list gets its mark. -/
theorem OwnP1.store (h : OwnP1 w Y e vs ns mk I K) (hI : I < vs.length) (hK : K < ns I) : ∃ g cap u0, vs.getD I default = .slice (some ⟨g, 0, none⟩) (ns I) cap ∧ w.cell? ⟨g, K, none⟩ = some u0 ∧ w.frozen? ⟨g, K, none⟩ = false ∧ OwnP1 (w.setCell ⟨g, K, none⟩ (mk I K)) Y e vs ns mk I (K + 1) ∧ w.grownBy (w.setCell ⟨g, K, none⟩ (mk I K)) (some g) ∧ Y ≤ g ∧ ∃ c, w.heap[g]? = some (.cells c e (0, 0)) := by
  obtain ⟨xs, h1, h2⟩ := h.rows I hI
  rw [if_neg (Nat.lt_irrefl _), if_pos rfl] at h2
  obtain ⟨g, cap, hv, _, hc⟩ := own_cell h1 K hK
  have hl : xs.length = ns I := by have := h1.1; omega
  have hu : xs[K]? = some (xs[K]'(by omega)) := List.getElem?_eq_getElem (by omega)
  rw [hv] at h1
  have hst := h1.stored K (mk I K)
  have hYg := (h1.lt g rfl).1
  have hob : (vs.getD I default).ownBlock = some g := by rw [hv]; rfl
  refine ⟨g, cap, _, hv, hc.trans hu, h1.frozenAt K, ⟨fun i hi => ?_, h.sep⟩, hst.2, hYg, own_holds h1⟩
  by_cases e1 : i = I
  · subst e1
    rw [if_neg (Nat.lt_irrefl _), if_pos rfl, hv]
    refine ⟨_, hst.1, fun k hk => ?_⟩
    by_cases e2 : K = k
    · subst e2; rw [List.getElem?_set_self (by omega)]
    · rw [List.getElem?_set_ne e2]; exact h2 k (by omega)
  · have h3 := (h.rows i hi).kept hst.2 ((h.sep I i hI hi (fun e2 => e1 e2.symm)).off hob)
    by_cases c1 : i < I
    · rw [if_pos c1] at h3 ⊢; exact h3
    · rw [if_neg c1, if_neg e1] at h3 ⊢; exact h3

/-- Lists that are marked, the first of them grown into longer ones. -/
structure OwnP2 (w : World) (Y e : Nat) (vs : List Value) (ns : Nat → Nat) (mk mg : Nat → Nat → Value) (ls : List Value) : Prop where
  rows : ∀ i, i < vs.length → MarkRow w Y e (vs.getD i default) (ns i) (ns i) (mk i)
  sep : ∀ i j, i < vs.length → j < vs.length → i ≠ j → Sep (vs.getD i default) (vs.getD j default)
  long : ∀ i, i < ls.length → GrownRow w Y e (ls.getD i default) (ns i) 16 (mk i) (mg i)
  sepL : ∀ i j, i < ls.length → j < vs.length → i ≠ j → Sep (ls.getD i default) (vs.getD j default)
  sepLL : ∀ i j, i < ls.length → j < ls.length → i ≠ j → Sep (ls.getD i default) (ls.getD j default)
theorem OwnP1.turn (h : OwnP1 w Y e vs ns mk vs.length 0) : OwnP2 w Y e vs ns mk mg [] :=
  ⟨fun i hi => by have := h.rows i hi; rw [if_pos hi] at this; exact this, h.sep, fun i hi => absurd hi (Nat.not_lt_zero _), fun i j hi => absurd hi (Nat.not_lt_zero _), fun i j hi => absurd hi (Nat.not_lt_zero _)⟩
/-- The one that grows now. -/
structure OwnX (w : World) (Y e : Nat) (vs : List Value) (ns : Nat → Nat) (mk mg : Nat → Nat → Value) (ls : List Value) (x : Value) (K : Nat) : Prop where
  p2 : OwnP2 w Y e vs ns mk mg ls
  row : GrownRow w Y e x (ns ls.length) K (mk ls.length) (mg ls.length)
  sepV : ∀ j, j < vs.length → j ≠ ls.length → Sep x (vs.getD j default)
  sepX : ∀ j, j < ls.length → Sep x (ls.getD j default)
variable {ls : List Value} {x : Value}
theorem OwnP2.kept (h : OwnP2 w Y e vs ns mk mg ls) (hg : w.grownBy w' none) : OwnP2 w' Y e vs ns mk mg ls :=
  ⟨fun i hi => (h.rows i hi).kept hg (Classical.em _), h.sep, fun i hi => (h.long i hi).kept hg (Classical.em _), h.sepL, h.sepLL⟩
/-- A block of another kind has turned. -/
theorem OwnP2.far {b e' : Nat} {c : Array Value} {fr : Nat × Nat} (h : OwnP2 w Y e vs ns mk mg ls) (hg : w.grownBy w' (some b)) (hb : w.heap[b]? = some (.cells c e' fr)) (he : e ≠ e') : OwnP2 w' Y e vs ns mk mg ls :=
  ⟨fun i hi => by obtain ⟨xs, h1, h2⟩ := h.rows i hi; exact ⟨xs, h1.kept hg (own_off h1 hb he), h2⟩, h.sep, fun i hi => by obtain ⟨xs, h1, h2⟩ := h.long i hi; exact ⟨xs, h1.kept hg (own_off h1 hb he), h2⟩, h.sepL, h.sepLL⟩
/-- A row of another kind has grown. -/
theorem OwnP2.apart {Z e' n : Nat} {u : Value} {xs : List Value} (h : OwnP2 w Y e vs ns mk mg ls) (hu : w.ownsRow Z e' 1 u n xs) (he : e' ≠ e) (hg : w.grownBy w' u.ownBlock) : OwnP2 w' Y e vs ns mk mg ls :=
  ⟨fun i hi => by obtain ⟨xs, h1, h2⟩ := h.rows i hi; exact ⟨xs, h1.kept hg (own_apart hu h1 he), h2⟩, h.sep, fun i hi => by obtain ⟨xs, h1, h2⟩ := h.long i hi; exact ⟨xs, h1.kept hg (own_apart hu h1 he), h2⟩, h.sepL, h.sepLL⟩
theorem OwnX.apart {K Z e' n : Nat} {u : Value} {xs : List Value} (h : OwnX w Y e vs ns mk mg ls x K) (hu : w.ownsRow Z e' 1 u n xs) (he : e' ≠ e) (hg : w.grownBy w' u.ownBlock) : OwnX w' Y e vs ns mk mg ls x K :=
  ⟨h.p2.apart hu he hg, by obtain ⟨xs, h1, h2⟩ := h.row; exact ⟨xs, h1.kept hg (own_apart hu h1 he), h2⟩, h.sepV, h.sepX⟩
theorem OwnX.kept {K : Nat} (h : OwnX w Y e vs ns mk mg ls x K) (hg : w.grownBy w' none) : OwnX w' Y e vs ns mk mg ls x K :=
  ⟨h.p2.kept hg, h.row.kept hg (Classical.em _), h.sepV, h.sepX⟩
theorem OwnP2.begin (h : OwnP2 w Y e vs ns mk mg ls) (hI : ls.length < vs.length) : OwnX w Y e vs ns mk mg ls (vs.getD ls.length default) 0 := by
  obtain ⟨xs, h1, h2⟩ := h.rows ls.length hI
  exact ⟨h, ⟨xs, h1, h2, fun k hk => absurd hk (Nat.not_lt_zero _)⟩, fun j hj hne => h.sep _ _ hI hj (fun e2 => hne e2.symm), fun j hj => (h.sepL j _ hj hI (by omega)).symm⟩
theorem OwnX.val {K : Nat} (h : OwnX w Y e vs ns mk mg ls x K) : ∃ a cap, x = .slice a (ns ls.length + K) cap := by
  obtain ⟨xs, h1, _⟩ := h.row
  exact own_val h1
/-- It has grown by one. -/
theorem OwnX.push {w1 : World} {K g cap : Nat} {xs : List Value} (h : OwnX w Y e vs ns mk mg ls x K) (h0 : w.grownBy w1 none) (hx : w.ownsRow Y e 1 x (ns ls.length + K) xs) (hm : ∀ k, k < ns ls.length → xs[k]? = some (mk ls.length k)) (hq : ∀ k, k < K → xs[ns ls.length + k]? = some (mg ls.length k))
    (h1 : w'.ownsRow Y e 1 (.slice (some ⟨g, 0, none⟩) (ns ls.length + K + 1) cap) (ns ls.length + K + 1) (xs ++ [mg ls.length K]))
    (h2 : x = .slice (some ⟨g, 0, none⟩) (ns ls.length + K) cap ∧ w1.grownBy w' (some g) ∨ w1.heap.size ≤ g ∧ w1.grownBy w' none) : OwnX w' Y e vs ns mk mg ls (.slice (some ⟨g, 0, none⟩) (ns ls.length + K + 1) cap) (K + 1) := by
  have hl : xs.length = ns ls.length + K := by have := hx.1; omega
  have hrow : GrownRow w' Y e (.slice (some ⟨g, 0, none⟩) (ns ls.length + K + 1) cap) (ns ls.length) (K + 1) (mk ls.length) (mg ls.length) := ⟨_, h1, fun k hk => by rw [List.getElem?_append_left (by omega)]; exact hm k hk, fun k hk => by
    by_cases e1 : k < K
    · rw [List.getElem?_append_left (by omega)]; exact hq k e1
    · obtain rfl : k = K := by omega
      rw [List.getElem?_append_right (by omega), hl, Nat.sub_self]; rfl⟩
  have hw1 := h.kept h0
  rcases h2 with ⟨hb, hg⟩ | ⟨hb, hg⟩
  · subst hb
    have hxo : ∀ {v : Value}, Sep (.slice (some ⟨g, 0, none⟩) (ns ls.length + K) cap) v → v.ownBlock = none ∨ v.ownBlock ≠ some g := fun hs => hs.off rfl
    have hsame : ∀ {v : Value}, Sep (.slice (some ⟨g, 0, none⟩) (ns ls.length + K) cap) v → Sep (.slice (some ⟨g, 0, none⟩) (ns ls.length + K + 1) cap) v := fun hs b hb => hs b (by simpa [Value.ownBlock] using hb)
    refine ⟨⟨fun i hi => ?_, hw1.p2.sep, fun i hi => (hw1.p2.long i hi).kept hg (hxo (h.sepX i hi)), hw1.p2.sepL, hw1.p2.sepLL⟩, hrow, fun j hj hne => hsame (h.sepV j hj hne), fun j hj => hsame (h.sepX j hj)⟩
    by_cases e1 : i = ls.length
    · subst e1
      obtain ⟨ys, hy, hym⟩ := hw1.p2.rows ls.length hi
      by_cases e2 : (vs.getD ls.length default).ownBlock = some g
      · have hv := own_cap (hx.kept h0 (Classical.em _)) hy e2
        rw [hv]
        have hxs : xs = xs.take (ns ls.length) ++ xs.drop (ns ls.length) := (List.take_append_drop _ _).symm
        rw [hxs, List.append_assoc] at h1
        refine ⟨xs.take (ns ls.length), own_pre (m := K + 1) h1 (by rw [List.length_take]; omega), fun k hk => ?_⟩
        rw [List.getElem?_take, if_pos hk]
        exact hm k hk
      · exact ⟨ys, hy.kept hg (Or.inr e2), hym⟩
    · exact (hw1.p2.rows i hi).kept hg (hxo (h.sepV i hi e1))
  · have hnew : ∀ {v : Value}, (∀ b, v.ownBlock = some b → Y ≤ b ∧ b < w1.heap.size) → Sep (.slice (some ⟨g, 0, none⟩) (ns ls.length + K + 1) cap) v := fun hv b hbg e2 => by
      obtain rfl : g = b := by simpa [Value.ownBlock] using hbg
      have := (hv _ e2).2
      omega
    exact ⟨hw1.p2.kept hg, hrow, fun j hj _ => hnew (hw1.p2.rows j hj).lt, fun j hj => hnew (hw1.p2.long j hj).lt⟩
/-- It stands beside the others. -/
theorem OwnX.done (h : OwnX w Y e vs ns mk mg ls x 16) : OwnP2 w Y e vs ns mk mg (ls ++ [x]) := by
  have hg : ∀ i, i < (ls ++ [x]).length → (i < ls.length ∧ (ls ++ [x]).getD i default = ls.getD i default) ∨ (i = ls.length ∧ (ls ++ [x]).getD i default = x) := fun i hi => by
    rw [List.length_append, List.length_singleton] at hi
    by_cases c : i < ls.length
    · left; exact ⟨c, by rw [List.getD_eq_getElem?_getD, List.getElem?_append_left c, ← List.getD_eq_getElem?_getD]⟩
    · right
      obtain rfl : i = ls.length := by omega
      exact ⟨rfl, by rw [List.getD_eq_getElem?_getD, List.getElem?_append_right (Nat.le_refl _), Nat.sub_self]; rfl⟩
  refine ⟨h.p2.rows, h.p2.sep, fun i hi => ?_, fun i j hi hj hij => ?_, fun i j hi hj hij => ?_⟩
  · rcases hg i hi with ⟨c, e1⟩ | ⟨rfl, e1⟩
    · rw [e1]; exact h.p2.long i c
    · rw [e1]; exact h.row
  · rcases hg i hi with ⟨c, e1⟩ | ⟨rfl, e1⟩
    · rw [e1]; exact h.p2.sepL i j c hj hij
    · rw [e1]; exact h.sepV j hj (fun e2 => hij e2.symm)
  · rcases hg i hi with ⟨c, e1⟩ | ⟨rfl, e1⟩
    · rcases hg j hj with ⟨d, e2⟩ | ⟨rfl, e2⟩
      · rw [e1, e2]; exact h.p2.sepLL i j c d hij
      · rw [e1, e2]; exact (h.sepX i c).symm
    · rcases hg j hj with ⟨d, e2⟩ | ⟨rfl, e2⟩
      · rw [e1, e2]; exact h.sepX j d
      · exact absurd rfl hij
/-- Other marks where none is asked for. -/
theorem OwnP1.congr {mk' : Nat → Nat → Value} (h : OwnP1 w Y e vs ns mk I K) (hm : ∀ i k, k < (if i < I then ns i else if i = I then K else 0) → mk i k = mk' i k) : OwnP1 w Y e vs ns mk' I K := by
  refine ⟨fun i hi => ?_, h.sep⟩
  obtain ⟨xs, h1, h2⟩ := h.rows i hi
  exact ⟨xs, h1, fun k hk => by rw [← hm i k hk]; exact h2 k hk⟩
/-- All anew. -/
theorem OwnP2.anew {mk' : Nat → Nat → Value} (h : OwnP2 w Y e vs ns mk mg ls) : OwnP1 w Y e vs ns mk' 0 0 := by
  refine ⟨fun i hi => ?_, h.sep⟩
  obtain ⟨xs, h1, h2⟩ := h.rows i hi
  exact ⟨xs, h1, fun k hk => absurd hk (by rw [if_neg (Nat.not_lt_zero _), ite_self]; exact Nat.not_lt_zero _)⟩
theorem OwnP2.congrL {mg' : Nat → Nat → Value} (h : OwnP2 w Y e vs ns mk mg ls) (hm : ∀ i k, i < ls.length → k < 16 → mg i k = mg' i k) : OwnP2 w Y e vs ns mk mg' ls := by
  refine ⟨h.rows, h.sep, fun i hi => ?_, h.sepL, h.sepLL⟩
  obtain ⟨xs, h1, h2, h3⟩ := h.long i hi
  exact ⟨xs, h1, h2, fun k hk => by rw [← hm i k hi hk]; exact h3 k hk⟩
theorem OwnX.congrL {K : Nat} {mg' : Nat → Nat → Value} (h : OwnX w Y e vs ns mk mg ls x K) (hm : ∀ i k, i < ls.length ∧ k < 16 ∨ i = ls.length ∧ k < K → mg i k = mg' i k) : OwnX w Y e vs ns mk mg' ls x K := by
  refine ⟨h.p2.congrL (fun i k hi hk => hm i k (Or.inl ⟨hi, hk⟩)), ?_, h.sepV, h.sepX⟩
  obtain ⟨xs, h1, h2, h3⟩ := h.row
  exact ⟨xs, h1, h2, fun k hk => by rw [← hm _ k (Or.inr ⟨rfl, hk⟩)]; exact h3 k hk⟩
end
/-- One list more, made last. -/
theorem own1_push {w w' : World} {Y e n : Nat} {vs : List Value} {v : Value} {xs : List Value} {mk : Nat → Nat → Value} (h : OwnP1 w Y e vs (fun _ => n) mk 0 0) (hv : w.ownsRow Y e 1 v n xs) (hs : ∀ i, i < vs.length → Sep (vs.getD i default) v) : OwnP1 w Y e (vs ++ [v]) (fun _ => n) mk 0 0 := by
  have e0 : ∀ i : Nat, (if i < 0 then n else if i = 0 then 0 else 0) = 0 := fun i => by rw [if_neg (Nat.not_lt_zero _), ite_self]
  have hgt : ∀ i, i < (vs ++ [v]).length → (i < vs.length ∧ (vs ++ [v]).getD i default = vs.getD i default) ∨ (i = vs.length ∧ (vs ++ [v]).getD i default = v) := fun i hi => by
    rw [List.length_append, List.length_singleton] at hi
    by_cases c : i < vs.length
    · left; exact ⟨c, by rw [List.getD_eq_getElem?_getD, List.getElem?_append_left c, ← List.getD_eq_getElem?_getD]⟩
    · right
      obtain rfl : i = vs.length := by omega
      exact ⟨rfl, by rw [List.getD_eq_getElem?_getD, List.getElem?_append_right (Nat.le_refl _), Nat.sub_self]; rfl⟩
  refine ⟨fun i hi => ?_, fun i j hi hj hij => ?_⟩
  · rw [e0]
    rcases hgt i hi with ⟨c, e1⟩ | ⟨rfl, e1⟩
    · rw [e1]
      have := h.rows i c
      rw [e0] at this
      exact this
    · rw [e1]
      exact ⟨xs, hv, fun k hk => absurd hk (Nat.not_lt_zero _)⟩
  · rcases hgt i hi with ⟨c, e1⟩ | ⟨rfl, e1⟩
    · rcases hgt j hj with ⟨d, e2⟩ | ⟨rfl, e2⟩
      · rw [e1, e2]; exact h.sep i j c d hij
      · rw [e1, e2]; exact hs i c
    · rcases hgt j hj with ⟨d, e2⟩ | ⟨rfl, e2⟩
      · rw [e1, e2]; exact (hs j d).symm
      · exact absurd rfl hij
/-- What turns no such row leaves them. -/
theorem own1_over {w w' : World} {Y e n : Nat} {vs : List Value} {mk : Nat → Nat → Value} (h : OwnP1 w Y e vs (fun _ => n) mk 0 0) (hf : ∀ (k : Nat) (c : Array Value) (fr : Nat × Nat), w.heap[k]? = some (.cells c e fr) → w'.heap[k]? = some (.cells c e fr)) : OwnP1 w' Y e vs (fun _ => n) mk 0 0 := by
  refine ⟨fun i hi => ?_, h.sep⟩
  obtain ⟨xs, h1, h2⟩ := h.rows i hi
  refine ⟨xs, ⟨h1.1, ?_⟩, h2⟩
  rcases h1.2 with h3 | ⟨g, cap, cur, hv, hb, hg, hrest⟩
  · exact Or.inl h3
  · exact Or.inr ⟨g, cap, cur, hv, hb, hf _ _ _ hg, hrest⟩
theorem own1_nil (w : World) (Y e n : Nat) (mk : Nat → Nat → Value) : OwnP1 w Y e [] (fun _ => n) mk 0 0 := ⟨fun i hi => absurd hi (Nat.not_lt_zero _), fun i _ hi => absurd hi (Nat.not_lt_zero _)⟩
end Go.Proofs.Ytcdepblajobemaa
namespace Go.Proofs.Ytcdepblajobemaa
open Go.RowKit

def mkI (i k : Nat) : Value := .int .i64 ((i : Int) * 1000 + (k : Int))
def mgI (i k : Nat) : Value := .int .i64 ((-1 - (i : Int)) * 1000 + (k : Int))

set_option maxRecDepth 100000 in
set_option maxHeartbeats 4000000 in
theorem own_ints {w : World} {Y : Nat} {lv : Value} {vs : List Value} {ns : Nat → Nat} (hl : w.ownsRow Y 43 1 lv vs.length vs) (hP : OwnP1 w Y 3 vs ns mkI 0 0) (hn : ∀ i, i < vs.length → ns i ≤ 1000000) (hm : vs.length ≤ 1000000) (hYw : Y ≤ w.heap.size) :
    Calls Try.prog 80 #[lv] w fun e w' => e = .returned (.bool true) ∧ Only 3 Y w w' := by
  have HL := Lib.hid hl
  have HP := Lib.hid hP
  have HN := Lib.hid hn
  obtain ⟨al, cl, rfl⟩ := own_val hl
  obtain ⟨i0, hi0, hz0a, hz1a, hz2a⟩ := info_parts Try.info3
  obtain ⟨i1, hi1, hz0b, hz1b, hz2b⟩ := info_parts Try.info43
  clear hl hP hn
  go_enter Try.func80, Try.ntmps80
  go_wp2_with fail
  go_loopw [3] (fun i wr => ∃ (I : Nat), I ≤ vs.length ∧ i = .int .i64 (I : Int) ∧ Hid (OwnP1 wr Y 3 vs ns mkI I 0) ∧ Hid (wr.ownsRow Y 43 1 (.slice al vs.length cl) vs.length vs) ∧ Hid (Only 3 Y w wr)) (fun i _ => vs.length - (intOf i).toNat)
  case atStart => exact ⟨0, by omega, rfl, HP, HL, Lib.hid (Only.refl _ _ _)⟩
  case round =>
    obtain ⟨I, hI, rfl, HP1, HL1, HB1⟩ := hrel
    by_cases hlt : I < vs.length
    · have hltI : (I : Int) < (vs.length : Int) := by omega
      have hnI := HN.out I hlt
      go_wp2_with fail
      go_loopw [4] (fun i wr => ∃ (K : Nat), K ≤ ns I ∧ i = .int .i64 (K : Int) ∧ Hid (OwnP1 wr Y 3 vs ns mkI I K) ∧ Hid (wr.ownsRow Y 43 1 (.slice al vs.length cl) vs.length vs) ∧ Hid (Only 3 Y w wr)) (fun i _ => ns I - (intOf i).toNat)
      case atStart => exact ⟨0, by omega, rfl, HP1, HL1, HB1⟩
      case round =>
        obtain ⟨K, hK, rfl, HP2, HL2, HB2⟩ := hrel
        obtain ⟨g1, c1, hv1, _, hc1⟩ := own_cell HL2.out I hlt
        cases hv1
        rw [show vs[I]? = some (vs.getD I default) by rw [List.getD_eq_getElem?_getD, List.getElem?_eq_getElem hlt]; rfl] at hc1
        by_cases hlk : K < ns I
        · have hltK : (K : Int) < (ns I : Int) := by omega
          obtain ⟨g, cap, u0, hv, hc, hf, hP3, hg3, hYg, cg, hbg⟩ := HP2.out.store hlt hlk
          rw [hv] at hc1
          unfold mkI at hP3 hg3
          have HEnd := Lib.hid (And.intro hP3 (And.intro (HL2.out.kept hg3 (own_off HL2.out hbg (by decide))) (HB2.out.grown hg3 (Nat.le_trans hYw HB2.out.bel.size) (fun _ e => by cases e; exact ⟨hYg, Or.inr ⟨_, _, hbg⟩⟩))))
          clear hP3 hg3 hbg
          go_wp2_with fail
          exact ⟨⟨K + 1, by omega, by go_num, Lib.hid HEnd.out.1, Lib.hid HEnd.out.2.1, Lib.hid HEnd.out.2.2⟩, by simp [intOf]; omega⟩
        · obtain rfl : K = ns I := by omega
          have hltK : ¬ ((ns I : Int) < (ns I : Int)) := by omega
          obtain ⟨a, cap, hv⟩ := HP2.out.at hlt
          rw [hv] at hc1
          go_wp2_with fail
          exact ⟨⟨I + 1, by omega, by go_num, Lib.hid HP2.out.next, HL2, HB2⟩, by simp [intOf]; omega⟩
    · obtain rfl : I = vs.length := by omega
      have hltI : ¬ ((vs.length : Int) < (vs.length : Int)) := by omega
      go_wp2_with fail
      have HQ0 : Hid (OwnP2 wr Y 3 vs ns mkI mgI []) := Lib.hid HP1.out.turn
      have HZ : Hid (Y ≤ wr.heap.size ∧ w.heap.size ≤ wr.heap.size) := Lib.hid ⟨Nat.le_trans hYw HB1.out.bel.size, HB1.out.bel.size⟩
      have HGl : Hid (∀ b, (Value.slice al vs.length cl).ownBlock = some b → b < wr.heap.size) := Lib.hid fun b hb => (HL1.out.lt b hb).2
      have hz0 : wr.heap.size ≤ wr.heap.size := Nat.le_refl _
      generalize hZ : wr.heap.size = Z at HZ HGl hz0
      clear HP1 HP hI hlt
      go_loopw [6, 5] (fun i lg wr => ∃ (I : Nat) (ls : List Value), I ≤ vs.length ∧ i = .int .i64 (I : Int) ∧ ls.length = I ∧ wr.ownsRow Z 43 1 lg I ls ∧ Hid (OwnP2 wr Y 3 vs ns mkI mgI ls) ∧ Hid (wr.ownsRow Y 43 1 (.slice al vs.length cl) vs.length vs) ∧ Hid (Only 3 Y w wr) ∧ Z ≤ wr.heap.size) (fun i _ _ => vs.length - (intOf i).toNat)
      case atStart => exact ⟨0, [], by omega, rfl, rfl, World.ownsRow_nil _ _ _ _, HQ0, HL1, HB1, by omega⟩
      case round =>
        obtain ⟨I, ls, hI, rfl, hll, hown, HQ, HL, HB, hz⟩ := hrel
        obtain ⟨ag, cg, rfl⟩ := own_val hown
        by_cases hlt : I < vs.length
        · have hltI : (I : Int) < (vs.length : Int) := by omega
          have hnI := HN.out I hlt
          obtain ⟨g1, c1, hv1, _, hc1⟩ := own_cell HL.out I hlt
          cases hv1
          rw [show vs[I]? = some (vs.getD I default) by rw [List.getD_eq_getElem?_getD, List.getElem?_eq_getElem hlt]; rfl] at hc1
          have hX0 := HQ.out.begin (by omega)
          rw [hll] at hX0
          obtain ⟨a0, c0, hv0⟩ : ∃ a0 c0, vs.getD I default = .slice a0 (ns I) c0 := by
            obtain ⟨xs, h1, _⟩ := HQ.out.rows I hlt
            exact own_val h1
          rw [hv0] at hX0 hc1
          have HX0 := Lib.hid hX0
          have HOwn := Lib.hid hown
          clear hX0 hown
          go_wp2_with fail
          go_loopw [7, 8] (fun x k wr => ∃ (K : Nat), K ≤ 16 ∧ k = .int .i64 (K : Int) ∧ Hid (OwnX wr Y 3 vs ns mkI mgI ls x K) ∧ Hid (wr.ownsRow Z 43 1 (.slice ag I cg) I ls) ∧ Hid (wr.ownsRow Y 43 1 (.slice (some ⟨g1, 0, none⟩) vs.length cl) vs.length vs) ∧ Hid (Only 3 Y w wr) ∧ Z ≤ wr.heap.size) (fun _ k _ => 16 - (intOf k).toNat)
          case atStart => exact ⟨0, by omega, rfl, HX0, HOwn, HL, HB, hz⟩
          case round =>
            obtain ⟨K, hK, rfl, HX, HOw, HLr, HBr, hzr⟩ := hrel
            obtain ⟨ax, cx, rfl⟩ := HX.out.val
            have hYr : Y ≤ wr.heap.size := Nat.le_trans HZ.out.1 hzr
            rw [hll]
            by_cases hlk : K < 16
            · have hltK : (K : Int) < 16 := by omega
              obtain ⟨xs, hx, hxm, hxq⟩ := HX.out.row
              have hga := World.grownBy_alloc wr (.cells #[.int .i64 ((-1 - (I : Int)) * 1000 + (K : Int))] 3) none
              have hxa := hx.kept hga (Classical.em _)
              rw [hll] at hxa
              have HXA := Lib.hid hxa
              clear hxa
              go_wp2_with (at_builtin; (refine wpList_append_keeps _ rfl (.tmp 52) (.tmp 58) 43 rfl Y 3 i0 (.int .i64 0) 1 8 Try.underlying43 hi0 hz0a hz1a hz2a rfl (by decide) (.slice ax (ns I + K) cx) (ns I + K) xs rfl HXA.out ⟨wr.heap.size, 0, none⟩ 1 1 [.int .i64 ((-1 - (I : Int)) * 1000 + (K : Int))] rfl rfl (cell_one_new _ _ _) (by simp [Value.oneCell']) (by decide) (by unfold maxLen; omega) (by omega) (by rw [World.size_alloc]; omega) ?_; intro g5 cap5 w5 hown5 hor5; have HO5 := Lib.hid hown5; have HR5 := Lib.hid hor5; clear hown5 hor5))
              have hP5 := HX.out.push hga hx hxm hxq (by rw [hll]; exact HO5.out) (by rw [hll]; exact HR5.out)
              rw [hll] at hP5
              have hK5 : Hid ((w5.ownsRow Z 43 1 (.slice ag I cg) I ls) ∧ (w5.ownsRow Y 43 1 (.slice (some ⟨g1, 0, none⟩) vs.length cl) vs.length vs) ∧ Only 3 Y w w5 ∧ wr.heap.size ≤ w5.heap.size) := Lib.hid (by
                have hBa := HBr.out.grown hga hYr (fun _ e => by cases e)
                have hLa := HOw.out.kept hga (Classical.em _)
                have hla := HLr.out.kept hga (Classical.em _)
                have hsz := hga.size
                rcases HR5.out with ⟨he, hg⟩ | ⟨hg0, hg⟩
                · obtain ⟨cc, hcc⟩ := own_holds (he ▸ HXA.out)
                  exact ⟨hLa.kept hg (own_off hLa hcc (by decide)), hla.kept hg (own_off hla hcc (by decide)), hBa.grown hg (Nat.le_trans hYr hsz) (fun b e => by cases e; exact ⟨(HXA.out.lt _ (by rw [he]; rfl)).1, Or.inr ⟨_, _, hcc⟩⟩), Nat.le_trans hsz hg.size⟩
                · exact ⟨hLa.kept hg (Classical.em _), hla.kept hg (Classical.em _), hBa.grown hg (Nat.le_trans hYr hsz) (fun b e => by cases e), Nat.le_trans hsz hg.size⟩)
              exact ⟨⟨K + 1, by omega, by go_num, Lib.hid hP5, Lib.hid hK5.out.1, Lib.hid hK5.out.2.1, Lib.hid hK5.out.2.2.1, Nat.le_trans hzr hK5.out.2.2.2⟩, by simp [intOf]; omega⟩
            · obtain rfl : K = 16 := by omega
              have hltK : ¬ ((16 : Int) < 16) := by omega
              have hga := World.grownBy_alloc wr (.cells #[.slice ax (ns I + 16) cx] 43) none
              have HLA := Lib.hid (HOw.out.kept hga (Classical.em _))
              go_wp2_with (at_builtin; (refine wpList_append_lies _ rfl (.tmp 60) (.tmp 62) 24 rfl Z 43 i1 (.slice none 0 0) 1 24 Try.underlying24 hi1 hz0b hz1b hz2b rfl (by decide) (.slice ag I cg) I ls rfl HLA.out ⟨wr.heap.size, 0, none⟩ 1 1 [.slice ax (ns I + 16) cx] rfl rfl (cell_one_new _ _ _) (by simp [Value.oneCell']) (by decide) (by unfold maxLen; omega) (by omega) (by rw [World.size_alloc]; omega) _ rfl ?_; intro g5 cap5 w5 hown5 hgr5 hat5 hlt5))
              have hP5 := ((HX.out.kept hga).apart HLA.out (by decide) hgr5).done
              have hlb : ∀ b, (Value.slice ag I cg).ownBlock = some b → Z ≤ b := fun b hb => (HLA.out.lt b hb).1
              have hl5 : w5.ownsRow Y 43 1 (.slice (some ⟨g1, 0, none⟩) vs.length cl) vs.length vs := (HLr.out.kept hga (Classical.em _)).kept hgr5 (Or.inr (fun e2 => by
                have h1 := hlb g1 e2.symm
                have h2 := HGl.out g1 rfl
                omega))
              have hB5 : Only 3 Y w w5 := (HBr.out.grown hga hYr (fun _ e => by cases e)).grown hgr5 (Nat.le_trans hYr hga.size) (fun b hb => ⟨Nat.le_trans HZ.out.1 (hlb b hb), Or.inl (Nat.le_trans HZ.out.2 (hlb b hb))⟩)
              have hz5 : Z ≤ w5.heap.size := Nat.le_trans hzr (Nat.le_trans hga.size hgr5.size)
              exact ⟨⟨I + 1, ls ++ [.slice ax (ns I + 16) cx], by omega, by go_num, by simp [hll], hown5, Lib.hid (by rw [hll] at hP5; exact hP5), Lib.hid hl5, Lib.hid hB5, hz5⟩, by simp [intOf]; omega⟩
        · obtain rfl : I = vs.length := by omega
          have hltI : ¬ ((vs.length : Int) < (vs.length : Int)) := by omega
          have HOwn := Lib.hid hown
          clear hown
          go_wp2_with fail
          go_loop [9] (fun i => ∃ (I : Nat), I ≤ vs.length ∧ i = .int .i64 (I : Int)) (fun i => vs.length - (intOf i).toNat)
          case atStart => exact ⟨0, by omega, rfl⟩
          case round =>
            obtain ⟨I, hI, rfl⟩ := hrel
            by_cases hlt : I < vs.length
            · have hltI : (I : Int) < (vs.length : Int) := by omega
              have hnI := HN.out I hlt
              obtain ⟨g1, c1, hv1, _, hc1⟩ := own_cell HL.out I hlt
              cases hv1
              rw [show vs[I]? = some (vs.getD I default) by rw [List.getD_eq_getElem?_getD, List.getElem?_eq_getElem hlt]; rfl] at hc1
              obtain ⟨g2, c2, hv2, _, hc2⟩ := own_cell HOwn.out I hlt
              cases hv2
              rw [show ls[I]? = some (ls.getD I default) by rw [List.getD_eq_getElem?_getD, List.getElem?_eq_getElem (by omega)]; rfl] at hc2
              obtain ⟨xs, hx, hxm⟩ := HQ.out.rows I hlt
              obtain ⟨ys, hy, hym, hyq⟩ := HQ.out.long I (by omega)
              obtain ⟨a3, c3, hv3⟩ := own_val hx
              obtain ⟨g4, c4, hv4, _, _⟩ := own_cell hy 0 (by omega)
              rw [hv3] at hx hc1
              rw [hv4] at hy hc2
              have HRx : Hid (∀ K, K < ns I → ∃ g, a3 = some ⟨g, 0, none⟩ ∧ wr.cell? ⟨g, K, none⟩ = some (mkI I K)) := Lib.hid fun K hK => by
                obtain ⟨g, c, e1, _, e2⟩ := own_cell hx K hK
                cases e1
                exact ⟨g, rfl, by rw [e2]; exact hxm K hK⟩
              have HRy : Hid (∀ K, K < ns I → wr.cell? ⟨g4, K, none⟩ = some (mkI I K)) := Lib.hid fun K hK => by
                obtain ⟨g, c, e1, _, e2⟩ := own_cell hy K (by omega)
                cases e1
                rw [e2]; exact hym K hK
              have HRz : Hid (∀ K, K < 16 → wr.cell? ⟨g4, ns I + K, none⟩ = some (mgI I K)) := Lib.hid fun K hK => by
                obtain ⟨g, c, e1, _, e2⟩ := own_cell hy (ns I + K) (by omega)
                cases e1
                rw [e2]; exact hyq K hK
              clear hx hy hxm hym hyq
              go_wp2_with fail
              go_loop [11] (fun i => ∃ (K : Nat), K ≤ ns I ∧ i = .int .i64 (K : Int)) (fun i => ns I - (intOf i).toNat)
              case atStart => exact ⟨0, by omega, rfl⟩
              case round =>
                obtain ⟨K, hK, rfl⟩ := hrel
                by_cases hlk : K < ns I
                · have hltK : (K : Int) < (ns I : Int) := by omega
                  obtain ⟨g3, rfl, r1⟩ := HRx.out K hlk
                  have r2 := HRy.out K hlk
                  unfold mkI at r1 r2
                  go_wp2_with fail
                  exact ⟨⟨K + 1, by omega, by go_num⟩, by simp [intOf]; omega⟩
                · obtain rfl : K = ns I := by omega
                  have hltK : ¬ ((ns I : Int) < (ns I : Int)) := by omega
                  go_wp2_with fail
                  go_loop [12] (fun i => ∃ (K : Nat), K ≤ 16 ∧ i = .int .i64 (K : Int)) (fun i => 16 - (intOf i).toNat)
                  case atStart => exact ⟨0, by omega, rfl⟩
                  case round =>
                    obtain ⟨K, hK, rfl⟩ := hrel
                    by_cases hlk : K < 16
                    · have hltK : (K : Int) < 16 := by omega
                      have r3 := HRz.out K hlk
                      unfold mgI at r3
                      go_wp2_with fail
                      exact ⟨⟨K + 1, by omega, by go_num⟩, by simp [intOf]; omega⟩
                    · obtain rfl : K = 16 := by omega
                      have hltK : ¬ ((16 : Int) < 16) := by omega
                      go_wp2_with fail
                      exact ⟨⟨I + 1, by omega, by go_num⟩, by simp [intOf]; omega⟩
            · obtain rfl : I = vs.length := by omega
              have hltI : ¬ ((vs.length : Int) < (vs.length : Int)) := by omega
              go_wp2_with fail
              go_ret
              exact ⟨rfl, HB.out⟩
end Go.Proofs.Ytcdepblajobemaa
namespace Go.Proofs.Ytcdepblajobemaa
open Go.RowKit

def byteS (L : List Int) : ByteArray := L.foldl (fun r n => r.push (UInt8.ofNat n.toNat)) ByteArray.empty
theorem string_block {w : World} {g : Nat} {L : List Int} (h : w.heap[g]? = some (.cells (L.map (Value.int .u8)).toArray 5 (0, 0))) :
    (convert 148 9 (.slice (some ⟨g, 0, none⟩) L.length L.length)).run Try.prog w = .ok (.string (byteS L)) w := by
  have hl := run_loadCells_list (P := Try.prog) w ⟨g, 0, none⟩ (L.map (Value.int .u8)) (fun j v hj => by
    rw [Addr.add_lit, Nat.zero_add]
    simp [World.cell?, h, hj])
  rw [List.length_map] at hl
  rw [run_convert_bytes_string w _ _ _ _ L.length L.length Try.underlying148 Try.underlying5 Try.underlying9, run_bytesToString w _ L.length L.length L hl]
  rfl
/-- What 'mark' says of a list and a place. -/
def markP (a b : Nat) : ByteArray := byteS [97 + (a : Int) % 26, 97 + (a : Int) / 26 % 26, 97 + (a : Int) / 676 % 26, 97 + (b : Int) % 26, 97 + (b : Int) / 26 % 26]
def markN (a b : Nat) : ByteArray := ⟨#[45]⟩ ++ markP a b
set_option maxRecDepth 100000 in
set_option maxHeartbeats 2000000 in
theorem markp_any (a b : Nat) (w : World) (ha : a ≤ 100000000) (hb : b ≤ 100000000) : Calls Try.prog 108 #[.int .i64 (a : Int), .int .i64 (b : Int)] w fun e w' => e = .returned (.string (markP a b)) ∧ w.grownBy w' none := by
  have haI : ¬ ((a : Int) < 0) := by omega
  have hst : (convert 148 9 (.slice (some ⟨w.heap.size, 0, none⟩) 5 5)).run Try.prog (w.alloc (.cells #[.int .u8 (97 + (a : Int) % 26), .int .u8 (97 + (a : Int) / 26 % 26), .int .u8 (97 + (a : Int) / 676 % 26), .int .u8 (97 + (b : Int) % 26), .int .u8 (97 + (b : Int) / 26 % 26)] 5)) = .ok (.string (markP a b)) (w.alloc (.cells #[.int .u8 (97 + (a : Int) % 26), .int .u8 (97 + (a : Int) / 26 % 26), .int .u8 (97 + (a : Int) / 676 % 26), .int .u8 (97 + (b : Int) % 26), .int .u8 (97 + (b : Int) / 26 % 26)] 5)) :=
    string_block (L := [97 + (a : Int) % 26, 97 + (a : Int) / 26 % 26, 97 + (a : Int) / 676 % 26, 97 + (b : Int) % 26, 97 + (b : Int) / 26 % 26]) (heap_alloc_new w _)
  generalize markP a b = m at hst
  go_enter Try.func108, Try.ntmps108
  go_wp2_with fail
  go_ret
  exact ⟨rfl, World.grownBy_alloc _ _ _⟩
set_option maxRecDepth 100000 in
set_option maxHeartbeats 2000000 in
theorem markn_any (i b : Nat) (w : World) (ha : i ≤ 10000000) (hb : b ≤ 100000000) : Calls Try.prog 108 #[.int .i64 (-1 - (i : Int)), .int .i64 (b : Int)] w fun e w' => e = .returned (.string (markN (i + 1) b)) ∧ w.grownBy w' none := by
  have haI : (-1 - (i : Int) < 0) := by omega
  have HM := Lib.hid (markp_any (i + 1) b w (by omega) hb)
  rw [show ((i + 1 : Nat) : Int) = -(-1 - (i : Int)) by omega] at HM
  go_enter Try.func108, Try.ntmps108
  go_wp2_with (go_at_call 108; refine HM.out.mono ?_; rintro e w1 ⟨rfl, hg1⟩)
  go_ret
  exact ⟨rfl, hg1⟩
end Go.Proofs.Ytcdepblajobemaa
