/- Rows that are slid: a slice of our own that begins behind its block's first cell; appended to. -/
import Derived.Test.YtpehmlkikhkmfaaRunTurned
namespace Go.Proofs.Ytpehmlkikhkmfaa
open Go Go.RowKit

section
variable {P : Program}

/-- A slice of one-celled things, of our own, wherever it begins in its block. -/
def Win (w : World) (base : Nat) (e : TypeId) (v : Value) (xs : List Value) : Prop :=
  (v = .slice none 0 0 ∧ xs = []) ∨
   ∃ g off cap cur, v = .slice (some ⟨g, off, none⟩) xs.length cap ∧ base ≤ g ∧ w.heap[g]? = some (.cells cur e (0, 0)) ∧ xs.length ≤ cap ∧ cap ≤ maxLen ∧ off + cap ≤ cur.size ∧ (cur.toList.drop off).take xs.length = xs

theorem Win.nil (w : World) (base : Nat) (e : TypeId) : Win w base e (.slice none 0 0) [] := Or.inl ⟨rfl, rfl⟩
theorem Win.kept {w w' : World} {base : Nat} {e : TypeId} {v : Value} {xs : List Value} {row : Option Nat} (h : Win w base e v xs) (hg : w.grownBy w' row) (hne : v.ownBlock = none ∨ v.ownBlock ≠ row) : Win w' base e v xs := by
  rcases h with h | ⟨g, off, cap, cur, rfl, hb, hgg, rest⟩
  · exact .inl h
  · refine .inr ⟨g, off, cap, cur, rfl, hb, ?_, rest⟩
    rw [hg.block g (Array.getElem?_eq_some_iff.1 hgg).1 (by simpa [Value.ownBlock] using hne)]
    exact hgg
theorem Win.lt {w : World} {base : Nat} {e : TypeId} {v : Value} {xs : List Value} (h : Win w base e v xs) : ∀ k, v.ownBlock = some k → base ≤ k ∧ k < w.heap.size := by
  intro k hk
  rcases h with ⟨rfl, _⟩ | ⟨g, off, cap, cur, rfl, hb, hg, _⟩
  · simp [Value.ownBlock] at hk
  · simp [Value.ownBlock] at hk
    subst hk
    exact ⟨hb, (Array.getElem?_eq_some_iff.1 hg).1⟩
theorem Win.blk {w : World} {base : Nat} {e : TypeId} {v : Value} {xs : List Value} (h : Win w base e v xs) {k : Nat} (hk : v.ownBlock = some k) : ∃ cur, w.heap[k]? = some (.cells cur e (0, 0)) := by
  rcases h with ⟨rfl, _⟩ | ⟨g, off, cap, cur, rfl, hb, hg, _⟩
  · simp [Value.ownBlock] at hk
  · simp only [Value.ownBlock, Option.some.injEq] at hk
    subst hk
    exact ⟨cur, hg⟩
theorem Win.val {w : World} {base : Nat} {e : TypeId} {v : Value} {xs : List Value} (h : Win w base e v xs) : ∃ a cap, v = .slice a xs.length cap ∧ xs.length ≤ cap := by
  rcases h with ⟨rfl, rfl⟩ | ⟨g, off, cap, cur, rfl, hb, hg, hc, _⟩
  · exact ⟨none, 0, rfl, Nat.le_refl _⟩
  · exact ⟨_, cap, rfl, hc⟩
/-- The first of it, and what is left. -/
theorem Win.head {w : World} {base : Nat} {e : TypeId} {v x : Value} {xs : List Value} (h : Win w base e v (x :: xs)) :
    ∃ g off cap, v = .slice (some ⟨g, off, none⟩) (xs.length + 1) cap ∧ xs.length + 1 ≤ cap ∧ w.cell? ⟨g, off, none⟩ = some x ∧ Win w base e (.slice (if cap = 1 then some ⟨g, off, none⟩ else some ⟨g, off + 1, none⟩) xs.length (cap - 1)) xs := by
  rcases h with ⟨_, h⟩ | ⟨g, off, cap, cur, rfl, hb, hg, hc, hm, hs, ht⟩
  · cases h
  · simp only [List.length_cons] at hc ht ⊢
    refine ⟨g, off, cap, rfl, hc, ?_, ?_⟩
    · have h0 : ((cur.toList.drop off).take (xs.length + 1))[0]? = some x := by rw [ht]; rfl
      rw [List.getElem?_take, if_pos (by omega), List.getElem?_drop] at h0
      simp only [World.cell?, hg]
      simpa using h0
    · by_cases h1 : cap = 1
      · rw [if_pos h1]
        obtain rfl : xs = [] := List.eq_nil_of_length_eq_zero (by omega)
        exact Or.inr ⟨g, off, cap - 1, cur, rfl, hb, hg, by simp, by omega, by omega, by simp⟩
      · rw [if_neg h1]
        refine Or.inr ⟨g, off + 1, cap - 1, cur, rfl, hb, hg, by omega, by omega, by omega, ?_⟩
        have h1 := congrArg (List.drop 1) ht
        rw [List.drop_take, List.drop_drop] at h1
        simpa using h1

theorem run_append_room_win (w : World) (t ty e : TypeId) (i : TypeInfo) (ht : P.underlying t = some (.slice e)) (hi : P.info? e = some i) (hs1 : i.size = 1)
    (g off n cap : Nat) (cur : Array Value) (hg : w.heap[g]? = some (.cells cur e (0, 0)))
    (a : Addr) (c : Nat) (u : Value) (hu : w.cell? (a.add 0) = some u) (h1 : u.oneCell' = true) (hroom : n + 1 ≤ cap) (hfit : off + n + 1 ≤ cur.size) :
    (Builtin.append_ #[t, t] ty #[.slice (some ⟨g, off, none⟩) n cap, .slice (some a) 1 c]).run P w =
      .ok (.slice (some ⟨g, off, none⟩) (n + 1) cap) (w.setRow g (cur.toList.take (off + n) ++ [u] ++ cur.toList.drop (off + n + 1)).toArray) := by
  have hf := run_firstCells_some (P := P) w 1 1 a 1 c [u] rfl (fun j v hj => by
    match j, hj with
    | 0, hj => simp at hj; subst hj; exact hu)
  have hst := run_storeCells_at P g (off + n) e [u] 0 cur w hg (by simpa using hfit) (by simpa using h1)
  simp only [Nat.add_zero] at hst
  have hadd : (⟨g, off, none⟩ : Addr).add n = ⟨g, off + n, none⟩ := by unfold Addr.add; split <;> simp_all
  simp [Builtin.append_, run_underlying ht, sizeOf, typeInfo, hi, hs1, Builtin.lenOf, hroom, hf, hadd, hst]

/-- A NEW CELL BEHIND A SLID ROW: in its own block, or all of it in a new one. -/
theorem run_append_win (w : World) (t ty : TypeId) (base : Nat) (e : TypeId) (i : TypeInfo) (z : Value) (bytes : Nat) (ht : P.underlying t = some (.slice e)) (hi : P.info? e = some i) (hz : i.zero = some z)
    (hs1 : i.size = 1) (hby : i.bytes = bytes) (hzs : z.cells.size = 1) (v : Value) (xs : List Value) (hown : Win w base e v xs)
    (ad : Addr) (c : Nat) (u : Value) (hu : w.cell? (ad.add 0) = some u) (h1 : u.oneCell' = true)
    (h63 : xs.length + 1 ≤ maxLen) (hbytes : (xs.length + 1) * bytes ≤ 140737488355328) (hbase : base ≤ w.heap.size) :
    ∃ g off cap w', (Builtin.append_ #[t, t] ty #[v, .slice (some ad) 1 c]).run P w = .ok (.slice (some ⟨g, off, none⟩) (xs.length + 1) cap) w' ∧
      Win w' base e (.slice (some ⟨g, off, none⟩) (xs.length + 1) cap) (xs ++ [u]) ∧ w.grownBy w' v.ownBlock ∧ (v.ownBlock = some g ∨ g = w.heap.size) ∧ g < w'.heap.size := by
  have hnews : ∀ j x, [u][j]? = some x → w.cell? (ad.add j) = some x := fun j x hj => by
    match j, hj with
    | 0, hj => simp at hj; subst hj; exact hu
  have hx1 : (xs ++ [u]).length = xs.length + 1 := by simp
  have hsmall : ((xs.length + 1 : Nat) : Int) ≤ 9223372036854775807 := by simp only [maxLen] at h63; omega
  have grown : ∀ (old : Nat) (row : Option Nat),
      Win (w.drew.alloc (.cells (xs.toArray ++ [u].toArray ++ Builtin.zeroCells z.cells (grownCap w (xs.length + 1) old e - (xs.length + 1))) e)) base e
        (.slice (some ⟨w.heap.size, 0, none⟩) (xs.length + 1) (grownCap w (xs.length + 1) old e)) (xs ++ [u]) ∧
      w.grownBy (w.drew.alloc (.cells (xs.toArray ++ [u].toArray ++ Builtin.zeroCells z.cells (grownCap w (xs.length + 1) old e - (xs.length + 1))) e)) row := by
    intro old row
    have hge := grownCap_ge w (xs.length + 1) old e
    have hcm := grownCap_le_maxLen w (xs.length + 1) old e h63
    refine ⟨.inr ⟨w.heap.size, 0, _, _, by rw [hx1], hbase, heap_alloc_new w.drew _, by omega, hcm, ?_, ?_⟩, ⟨rfl, rfl, rfl, by simp, fun k hk _ => (World.grownBy_alloc w.drew _ none).block k hk (by simp)⟩⟩
    · simp only [Array.size_append, List.size_toArray, size_zeroCells, hzs, List.length_cons, List.length_nil]
      omega
    · simp only [Array.toList_append, List.drop_zero]
      exact List.take_left
  rcases hown with ⟨rfl, rfl⟩ | ⟨g, off, cap, cur, rfl, hbg, hg, hnc, hcm, hcs, htake⟩
  · have hr := run_append_nil (P := P) w t ty e i z ht hi hz ad 1 c [u] (by simp [hs1]) hnews (by decide) (by decide) (by rw [hby]; have h := hbytes; simp at h ⊢; omega)
    have hgr := grown 0 (Value.ownBlock (.slice none 0 0))
    simp only [List.length_nil, Nat.zero_add, List.nil_append, Array.empty_append] at hgr hr ⊢
    exact ⟨_, _, _, _, hr, hgr.1, hgr.2, Or.inr rfl, by simp⟩
  · by_cases hroom : xs.length + 1 ≤ cap
    · have hr := run_append_room_win (P := P) w t ty e i ht hi hs1 g off xs.length cap cur hg ad c u hu h1 hroom (by omega)
      have hsr := setRow_heap w g cur (cur.toList.take (off + xs.length) ++ [u] ++ cur.toList.drop (off + xs.length + 1)).toArray e (0, 0) hg
      refine ⟨g, off, cap, _, hr, .inr ⟨g, off, cap, _, by rw [hx1], hbg, hsr, by omega, hcm, ?_, ?_⟩, ⟨rfl, rfl, rfl, by simp, fun k _ hk => setRow_other w g k _ (fun e => hk (by simp [Value.ownBlock, e]))⟩, Or.inl rfl, (Array.getElem?_eq_some_iff.1 hsr).1⟩
      · simp only [List.size_toArray, List.length_append, List.length_take, List.length_drop, Array.length_toList, List.length_cons, List.length_nil]
        omega
      · have hl : (cur.toList.take (off + xs.length)).length = off + xs.length := by rw [List.length_take]; have := Array.length_toList (xs := cur); omega
        have e1 : off + xs.length - off = xs.length := by omega
        have hd : (cur.toList.take (off + xs.length) ++ ([u] ++ cur.toList.drop (off + xs.length + 1))).drop off = xs ++ ([u] ++ cur.toList.drop (off + xs.length + 1)) := by
          rw [List.drop_append_of_le_length (by rw [hl]; omega), List.drop_take, e1, htake]
        rw [List.append_assoc, hd, ← List.append_assoc]
        exact List.take_left
    · have holds : ∀ j x, xs[j]? = some x → w.cell? ((⟨g, off, none⟩ : Addr).add j) = some x := fun j x hj => by
        rw [Addr.add_lit]
        simp only [World.cell?, hg]
        rw [← htake, List.getElem?_take] at hj
        split at hj
        · rw [List.getElem?_drop] at hj
          simpa using hj
        · cases hj
      have hr := run_append_grow (P := P) w t ty e i z ht hi hz ⟨g, off, none⟩ xs.length cap xs (by rw [hs1, Nat.mul_one]) holds ad 1 c [u] (by simp [hs1]) hnews (by omega) hsmall (by rw [hby]; exact growslice_fits (by omega) hbytes)
      have hgr := grown cap (Value.ownBlock (.slice (some ⟨g, off, none⟩) xs.length cap))
      exact ⟨_, _, _, _, hr, hgr.1, hgr.2, Or.inr rfl, by simp⟩

theorem wp_append_win {w : World} {o : Oper} {a : Act} {K : Act → World → Prop} {Q : Exit → Act → World → Prop} (s x : Operand) (t : TypeId)
    (ho : o.op = .call { callee := .builtin .append, args := #[s, x], argTypes := #[t, t] })
    (base : Nat) (e : TypeId) (i : TypeInfo) (z : Value) (bytes : Nat) (ht : P.underlying t = some (.slice e)) (hi : P.info? e = some i) (hz : i.zero = some z)
    (hs1 : i.size = 1) (hby : i.bytes = bytes) (hzs : z.cells.size = 1) (v : Value) (xs : List Value) (hs : a.eval s = v) (hown : Win w base e v xs)
    (ad : Addr) (c : Nat) (u : Value) (hx : a.eval x = .slice (some ad) 1 c) (hu : w.cell? (ad.add 0) = some u) (h1 : u.oneCell' = true)
    (h63 : xs.length + 1 ≤ maxLen) (hbytes : (xs.length + 1) * bytes ≤ 140737488355328) (hbase : base ≤ w.heap.size) (H : Nat) (hH : w.heap.size = H)
    (h : ∀ g off cap w', Win w' base e (.slice (some ⟨g, off, none⟩) (xs.length + 1) cap) (xs ++ [u]) → w.grownBy w' v.ownBlock → (v.ownBlock = some g ∨ g = H) → g < w'.heap.size → K (a.put o.dst (.slice (some ⟨g, off, none⟩) (xs.length + 1) cap)) w') : o.wp P a w K Q := by
  obtain ⟨g, off, cap, w', hr, h2, h3, h4, h5⟩ := run_append_win (P := P) w t o.type base e i z bytes ht hi hz hs1 hby hzs v xs hown ad c u hu h1 h63 hbytes hbase
  unfold Oper.wp execOp
  simp only [ho, resolve, invoke, builtin, Sem.run_bind, Sem.run_pure, Result.andThen_ok, List.map_toArray, List.map_cons, List.map_nil, hs, hx, hr]
  exact h g off cap w' h2 h3 (by rw [← hH]; exact h4) h5

theorem wpList_append_win {w : World} {ops : Array Oper} {rest : List Oper} {o : Oper} {a : Act} {Q : Exit → Act → World → Prop} (hgd : o.guard = none) (s x : Operand) (t : TypeId)
    (ho : o.op = .call { callee := .builtin .append, args := #[s, x], argTypes := #[t, t] })
    (base : Nat) (e : TypeId) (i : TypeInfo) (z : Value) (bytes : Nat) (ht : P.underlying t = some (.slice e)) (hi : P.info? e = some i) (hz : i.zero = some z)
    (hs1 : i.size = 1) (hby : i.bytes = bytes) (hzs : z.cells.size = 1) (v : Value) (xs : List Value) (hs : a.eval s = v) (hown : Win w base e v xs)
    (ad : Addr) (c : Nat) (u : Value) (hx : a.eval x = .slice (some ad) 1 c) (hu : w.cell? (ad.add 0) = some u) (h1 : u.oneCell' = true)
    (h63 : xs.length + 1 ≤ maxLen) (hbytes : (xs.length + 1) * bytes ≤ 140737488355328) (hbase : base ≤ w.heap.size) (H : Nat) (hH : w.heap.size = H)
    (h : ∀ g off cap w', Win w' base e (.slice (some ⟨g, off, none⟩) (xs.length + 1) cap) (xs ++ [u]) → w.grownBy w' v.ownBlock → (v.ownBlock = some g ∨ g = H) → g < w'.heap.size → wpList P ops Q rest (a.put o.dst (.slice (some ⟨g, off, none⟩) (xs.length + 1) cap)) w') : wpList P ops Q (o :: rest) a w :=
  wpList_plain hgd fun _ hK => wp_append_win s x t ho base e i z bytes ht hi hz hs1 hby hzs v xs hs hown ad c u hx hu h1 h63 hbytes hbase H hH fun g off cap w' h2 h3 h4 h5 => hK _ _ (h g off cap w' h2 h3 h4 h5)
end
end Go.Proofs.Ytpehmlkikhkmfaa
