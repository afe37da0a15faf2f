/- Runner: a search through a machine, in plain Lean, and how it lies in memory. -/
import Derived.Test.YtpehmlkikhkmfaaRunReach
import Derived.Test.YtpehmlkikhkmfaaRunReads
namespace Go.Proofs.Ytpehmlkikhkmfaa
open Go.RowKit

/-- A search from s: S tells what was seen, W holds it; the first i of W are done. -/
structure EndI (R : List (List Int)) (O : List Int) (s : Nat) (S : List Bool) (W : List Int) (i : Nat) : Prop where
  el : ∀ x ∈ W, x = (x.toNat : Int) ∧ x.toNat < R.length ∧ Reach R s x.toNat
  both : ∀ x, x < R.length → (S.getD x false = true ↔ (x : Int) ∈ W)
  src : (s : Int) ∈ W
  len : S.length = R.length
  count : W.length + falses S = R.length
  done : ∀ k, k < i → O.getD (W.getD k 0).toNat 0 = O.getD s 0 ∧ ∀ y ∈ R.getD (W.getD k 0).toNat [], S.getD y.toNat false = true

theorem falses_spread {st : List Bool × List Int} {n : Int} (hn : n.toNat < st.1.length) : (spread st n).2.length + falses (spread st n).1 = st.2.length + falses st.1 := by
  unfold spread
  split
  · rfl
  · rename_i h
    have := falses_set hn (by simpa using h)
    simp only [List.length_append, List.length_cons, List.length_nil]
    omega
theorem falses_spreads (l : List Int) : ∀ (st : List Bool × List Int), (∀ n ∈ l, n.toNat < st.1.length) → (spreads st l).2.length + falses (spreads st l).1 = st.2.length + falses st.1 := by
  induction l with
  | nil => intros; rfl
  | cons y l ih =>
    intro st h
    rw [show spreads st (y :: l) = spreads (spread st y) l from rfl, ih _ (fun n hn => by rw [spread_len]; exact h n (List.mem_cons_of_mem _ hn)), falses_spread (h y List.mem_cons_self)]
theorem spread_ext (st : List Bool × List Int) (n : Int) : ∃ more, (spread st n).2 = st.2 ++ more := by
  unfold spread
  split
  · exact ⟨[], by simp⟩
  · exact ⟨[n], rfl⟩
theorem spreads_ext (l : List Int) : ∀ st : List Bool × List Int, ∃ more, (spreads st l).2 = st.2 ++ more := by
  induction l with
  | nil => intro st; exact ⟨[], by simp [spreads]⟩
  | cons y l ih =>
    intro st
    obtain ⟨m1, h1⟩ := spread_ext st y
    obtain ⟨m2, h2⟩ := ih (spread st y)
    exact ⟨m1 ++ m2, by rw [show spreads st (y :: l) = spreads (spread st y) l from rfl, h2, h1, List.append_assoc]⟩
theorem getD_left {α : Type} {a b : List α} {d : α} {k : Nat} (h : k < a.length) : (a ++ b).getD k d = a.getD k d := by
  rw [List.getD_eq_getElem?_getD, List.getElem?_append_left h, ← List.getD_eq_getElem?_getD]
theorem getD_in {α : Type} {a : List α} {d : α} {k : Nat} (h : k < a.length) : a.getD k d ∈ a := by
  rw [List.getD_eq_getElem?_getD, List.getElem?_eq_getElem h]
  exact List.getElem_mem h

section
variable {R : List (List Int)} {O : List Int} {s i : Nat} {S : List Bool} {W : List Int}

theorem EndI.start (hs : s < R.length) : EndI R O s ((List.replicate R.length false).set s true) [(s : Int)] 0 := by
  have hf : (List.replicate R.length false).getD s false = false := by rw [List.getD_eq_getElem?_getD, List.getElem?_replicate, if_pos hs]; rfl
  refine ⟨fun x hx => ?_, fun x hx => ?_, by simp, by simp, ?_, fun k hk => absurd hk (Nat.not_lt_zero _)⟩
  · rw [List.mem_singleton] at hx
    subst hx
    rw [Int.toNat_natCast]
    exact ⟨rfl, hs, .here⟩
  · rw [getD_setB _ _ _ _ (by simpa using hs), List.mem_singleton]
    by_cases e : s = x
    · subst e; simp
    · rw [if_neg e, List.getD_eq_getElem?_getD, List.getElem?_replicate, if_pos hx]
      simp
      omega
  · have := falses_set (T := List.replicate R.length false) (k := s) (by simpa using hs) hf
    have e : falses (List.replicate R.length false) = R.length := by simp [falses]
    simp only [List.length_cons, List.length_nil]
    omega
theorem EndI.rows (h : EndI R O s S W i) (hR : rowsF R = true) (hi : i < W.length) : ∀ y ∈ R.getD (W.getD i 0).toNat [], y.toNat < S.length ∧ y = (y.toNat : Int) := by
  intro y hy
  have hx := (h.el _ (getD_in (d := 0) hi)).2.1
  obtain ⟨j, hj, e⟩ := List.getElem_of_mem hy
  obtain ⟨m, hm, e2⟩ := inF_nat (rowsF_in hR hx hj)
  rw [List.getD_eq_getElem?_getD, List.getElem?_eq_getElem hj, Option.getD_some, e] at e2
  rw [h.len, e2, Int.toNat_natCast]
  exact ⟨hm, rfl⟩
/-- One more is done. -/
theorem EndI.step (h : EndI R O s S W i) (hR : rowsF R = true) (hi : i < W.length) (hO : O.getD (W.getD i 0).toNat 0 = O.getD s 0) :
    EndI R O s (spreads (S, W) (R.getD (W.getD i 0).toNat [])).1 (spreads (S, W) (R.getD (W.getD i 0).toNat [])).2 (i + 1) := by
  have hl := h.rows hR hi
  have hx := h.el _ (getD_in (d := 0) hi)
  have hset := fun t => spreads_set (s := t) (R.getD (W.getD i 0).toNat []) (S, W) (fun y hy => (hl y hy).1)
  obtain ⟨more, hmore⟩ := spreads_ext (R.getD (W.getD i 0).toNat []) (S, W)
  refine ⟨fun x hx2 => ?_, fun x hxn => ?_, spreads_keep _ _ _ h.src, by rw [spreads_len]; exact h.len, ?_, fun k hk => ?_⟩
  · rcases spreads_work _ _ x hx2 with h2 | h2
    · exact h.el x h2
    · obtain ⟨j, hj, e⟩ := List.getElem_of_mem h2
      refine ⟨(hl x h2).2, by have := (hl x h2).1; rw [h.len] at this; exact this, ?_⟩
      have := Reach.go (R := R) (s := s) _ j hx.2.2 hj
      rwa [List.getD_eq_getElem?_getD, List.getElem?_eq_getElem hj, Option.getD_some, e] at this
  · rw [hset]
    constructor
    · rintro (h2 | ⟨y, hy, e⟩)
      · exact spreads_keep _ _ _ ((h.both x hxn).1 h2)
      · by_cases hT : S.getD x false = true
        · exact spreads_keep _ _ _ ((h.both x hxn).1 hT)
        · exact spreads_new _ (S, W) hl x ((hset x).2 (Or.inr ⟨y, hy, e⟩)) (by simpa using hT)
    · intro h2
      rcases spreads_work _ _ _ h2 with h2 | h2
      · exact Or.inl ((h.both x hxn).2 h2)
      · exact Or.inr ⟨_, h2, Int.toNat_natCast _⟩
  · rw [falses_spreads _ _ (fun y hy => (hl y hy).1)]
    exact h.count
  · rw [hmore, getD_left (by show k < W.length; omega)]
    by_cases e : k = i
    · subst e
      exact ⟨hO, fun y hy => (hset _).2 (Or.inr ⟨y, hy, rfl⟩)⟩
    · obtain ⟨h1, h2⟩ := h.done k (by omega)
      exact ⟨h1, fun y hy => (hset _).2 (Or.inl (h2 y hy))⟩
theorem EndI.all (h : EndI R O s S W W.length) (hR : rowsF R = true) (hs : s < R.length) : ∀ t, Reach R s t → O.getD t 0 = O.getD s 0 := by
  have inW : ∀ t, Reach R s t → t < R.length ∧ S.getD t false = true := by
    intro t ht
    induction ht with
    | here => exact ⟨hs, (h.both s hs).2 h.src⟩
    | go u j hu hj ih =>
      refine ⟨(Reach.go u j hu hj).lt hR hs, ?_⟩
      obtain ⟨k, hk, e⟩ := List.getElem_of_mem ((h.both u ih.1).1 ih.2)
      have := (h.done k hk).2 ((R.getD u []).getD j 0)
      rw [List.getD_eq_getElem?_getD (l := W), List.getElem?_eq_getElem hk, Option.getD_some, e, Int.toNat_natCast] at this
      exact this (getD_in hj)
  intro t ht
  obtain ⟨h1, h2⟩ := inW t ht
  obtain ⟨k, hk, e⟩ := List.getElem_of_mem ((h.both t h1).1 h2)
  have := (h.done k hk).1
  rwa [List.getD_eq_getElem?_getD (l := W), List.getElem?_eq_getElem hk, Option.getD_some, e, Int.toNat_natCast] at this
theorem EndI.some (h : EndI R O s S W i) (hi : i < W.length) (hO : O.getD (W.getD i 0).toNat 0 ≠ O.getD s 0) : ¬ ∀ t, Reach R s t → O.getD t 0 = O.getD s 0 :=
  fun ha => hO (ha _ (h.el _ (getD_in (d := 0) hi)).2.2)
end

/-- How a search lies in memory. -/
structure EndAt (Y n g : Nat) (w1 wr : World) (vw : Value) (S : List Bool) (W : List Int) : Prop where
  told : wr.ownsRow Y 4 1 (.slice (some ⟨g, 0, none⟩) n n) n (S.map bv)
  len : S.length = n
  work : wr.ownsRow Y 3 1 vw W.length (W.map iv)
  bel : Below Y w1 wr
  yz : Y ≤ g

section
variable {Y n g : Nat} {w1 wr w' : World} {vw : Value} {S : List Bool} {W : List Int}
theorem EndAt.size (h : EndAt Y n g w1 wr vw S W) : Y ≤ wr.heap.size := Nat.le_trans h.yz (Nat.le_of_lt (h.told.lt g rfl).2)
theorem EndAt.kept (h : EndAt Y n g w1 wr vw S W) (hg : wr.grownBy w' none) : EndAt Y n g w1 w' vw S W :=
  ⟨h.told.kept hg (Classical.em _), h.len, h.work.kept hg (Classical.em _), h.bel.grown hg h.size (fun _ e => by cases e), h.yz⟩
theorem EndAt.cell (h : EndAt Y n g w1 wr vw S W) (k : Nat) (hk : k < n) : wr.cell? ⟨g, k, none⟩ = some (.bool (S.getD k false)) ∧ wr.frozen? ⟨g, k, none⟩ = false :=
  ⟨bool_cell h.told h.len k hk, h.told.frozenAt k⟩
theorem EndAt.at (h : EndAt Y n g w1 wr vw S W) (i : Nat) (hi : i < W.length) : ∃ b cap, vw = .slice (some ⟨b, 0, none⟩) W.length cap ∧ wr.cell? ⟨b, i, none⟩ = some (.int .i64 (W.getD i 0)) := by
  obtain ⟨b, cap, hv, _, hc⟩ := own_cell h.work i hi
  exact ⟨b, cap, hv, by rw [hc, iv_at hi]⟩
theorem EndAt.set (h : EndAt Y n g w1 wr vw S W) (k : Nat) : EndAt Y n g w1 (wr.setCell ⟨g, k, none⟩ (.bool true)) vw (S.set k true) W := by
  have hs := h.told.stored k (.bool true)
  refine ⟨by rw [List.map_set]; exact hs.1, by rw [List.length_set]; exact h.len, h.work.kept hs.2 (own_apart h.told h.work (by decide)), h.bel.setCell h.yz _, h.yz⟩
theorem EndAt.push (h : EndAt Y n g w1 wr vw S W) {q b cap : Nat} (h5 : w'.ownsRow Y 3 1 (.slice (some ⟨b, 0, none⟩) (W.length + 1) cap) (W.length + 1) (W.map iv ++ [.int .i64 (q : Int)])) (h6 : (wr.alloc (.cells #[.int .i64 (q : Int)] 3)).grownBy w' vw.ownBlock) :
    EndAt Y n g w1 w' (.slice (some ⟨b, 0, none⟩) (W.length + 1) cap) S (W ++ [(q : Int)]) := by
  have ha := World.grownBy_alloc wr (.cells #[.int .i64 (q : Int)] 3) none
  have h2 := h.kept ha
  refine ⟨h2.told.kept h6 (own_apart h2.work h2.told (by decide)), h.len, ?_, h2.bel.grown h6 h2.size (fun j e => (h2.work.lt j e).1), h.yz⟩
  rw [List.length_append, List.map_append]
  exact h5
end
end Go.Proofs.Ytpehmlkikhkmfaa
