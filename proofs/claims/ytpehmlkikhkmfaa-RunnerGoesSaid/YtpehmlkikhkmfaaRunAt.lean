/- Runner: how a runner lies in memory; its short methods. -/
import Derived.Test.YtpehmlkikhkmfaaRunClone
namespace Go.Proofs.Ytpehmlkikhkmfaa
open Go.RowKit

/-- A runner in block p: rows, verdicts, what is final, each a row of our own; its state. -/
structure RunAt (w : World) (p mb : Nat) (vn vo vf : Value) (vs : List Value) (R : List (List Int)) (O : List Int) (F : List Bool) (s : Nat) : Prop where
  blk : w.heap[p]? = some (.cells #[vn, vo, vf, .map (some mb), .int .i64 (s : Int)] 106 (0, 0))
  next : w.ownsRow 0 107 1 vn R.length vs
  each : ∀ i, i < R.length → ∃ v, vs[i]? = some v ∧ w.ownsRow 0 3 1 v (R.getD i []).length ((R.getD i []).map iv)
  out : w.ownsRow 0 59 1 vo O.length (O.map ov)
  fin : w.ownsRow 0 4 1 vf F.length (F.map bv)
  lr : R.length = O.length
  lf : F.length = O.length
  st : s < O.length
  small : O.length ≤ 200000
  inr : ∀ i, i < R.length → ∀ j, j < (R.getD i []).length → inF R.length ((R.getD i []).getD j 0) = true

theorem own_cell {w : World} {Z e n : Nat} {v : Value} {xs : List Value} (h : w.ownsRow Z e 1 v n xs) (k : Nat) (hk : k < n) : ∃ g cap, v = .slice (some ⟨g, 0, none⟩) n cap ∧ n ≤ cap ∧ w.cell? ⟨g, k, none⟩ = xs[k]? := by
  rcases h.2 with ⟨_, h0⟩ | ⟨g, cap, cur, rfl, hb, hg, hc, _⟩
  · omega
  · exact ⟨g, cap, rfl, hc, h.cellAt k (by omega)⟩

theorem bv_at {F : List Bool} {s : Nat} (hs : s < F.length) : (F.map bv)[s]? = some (.bool (F.getD s false)) := by
  rw [List.getElem?_map, List.getElem?_eq_getElem hs, List.getD_eq_getElem?_getD, List.getElem?_eq_getElem hs]; rfl
theorem ov_at {F : List Int} {s : Nat} (hs : s < F.length) : (F.map ov)[s]? = some (.int .u8 (F.getD s 0)) := by
  rw [List.getElem?_map, List.getElem?_eq_getElem hs, List.getD_eq_getElem?_getD, List.getElem?_eq_getElem hs]; rfl
theorem iv_at {F : List Int} {s : Nat} (hs : s < F.length) : (F.map iv)[s]? = some (.int .i64 (F.getD s 0)) := by
  rw [List.getElem?_map, List.getElem?_eq_getElem hs, List.getD_eq_getElem?_getD, List.getElem?_eq_getElem hs]; rfl

namespace RunAt
variable {w w' : World} {p mb : Nat} {vn vo vf : Value} {vs : List Value} {R : List (List Int)} {O : List Int} {F : List Bool} {s : Nat}
theorem lt (h : RunAt w p mb vn vo vf vs R O F s) : p < w.heap.size := (Array.getElem?_eq_some_iff.1 h.blk).1
theorem cell0 (h : RunAt w p mb vn vo vf vs R O F s) : w.cell? ⟨p, 0, none⟩ = some vn := by simp [World.cell?, h.blk]
theorem cell1 (h : RunAt w p mb vn vo vf vs R O F s) : w.cell? ⟨p, 1, none⟩ = some vo := by simp [World.cell?, h.blk]
theorem cell2 (h : RunAt w p mb vn vo vf vs R O F s) : w.cell? ⟨p, 2, none⟩ = some vf := by simp [World.cell?, h.blk]
theorem cell3 (h : RunAt w p mb vn vo vf vs R O F s) : w.cell? ⟨p, 3, none⟩ = some (.map (some mb)) := by simp [World.cell?, h.blk]
theorem cell4 (h : RunAt w p mb vn vo vf vs R O F s) : w.cell? ⟨p, 4, none⟩ = some (.int .i64 (s : Int)) := by simp [World.cell?, h.blk]
theorem frozen (h : RunAt w p mb vn vo vf vs R O F s) (k : Nat) : w.frozen? ⟨p, k, none⟩ = false := by simp [World.frozen?, h.blk]
theorem kept (h : RunAt w p mb vn vo vf vs R O F s) (hg : w.grownBy w' none) : RunAt w' p mb vn vo vf vs R O F s :=
  ⟨by rw [hg.block p h.lt (by simp)]; exact h.blk, h.next.kept hg (Classical.em _), fun i hi => by obtain ⟨v, hv, hr⟩ := h.each i hi; exact ⟨v, hv, hr.kept hg (Classical.em _)⟩, h.out.kept hg (Classical.em _), h.fin.kept hg (Classical.em _), h.lr, h.lf, h.st, h.small, h.inr⟩
theorem other {e n Z : Nat} {v : Value} {xs : List Value} (h : RunAt w p mb vn vo vf vs R O F s) (hr : w.ownsRow Z e 1 v n xs) (he : e ≠ 106) : v.ownBlock = none ∨ v.ownBlock ≠ some p := by
  rcases hv : v.ownBlock with _ | k
  · exact Or.inl rfl
  · right
    intro e2
    have : k = p := Option.some.inj e2
    subst this
    obtain ⟨c, hc⟩ := own_blk' hr hv
    have hb := h.blk
    rw [hc] at hb
    simp only [Option.some.injEq, Obj.cells.injEq] at hb
    exact he hb.2.1
/-- The state is set. -/
theorem goes (h : RunAt w p mb vn vo vf vs R O F s) (t : Nat) (ht : t < O.length) : RunAt (w.setCell ⟨p, 4, none⟩ (.int .i64 (t : Int))) p mb vn vo vf vs R O F t ∧ w.grownBy (w.setCell ⟨p, 4, none⟩ (.int .i64 (t : Int))) (some p) := by
  have hg : w.grownBy (w.setCell ⟨p, 4, none⟩ (.int .i64 (t : Int))) (some p) := ⟨rfl, rfl, rfl, by simp [World.setCell], fun k _ hk => Below.heap_setCell _ _ _ _ (fun e => hk (by rw [e]))⟩
  refine ⟨⟨?_, h.next.kept hg (h.other h.next (by decide)), fun i hi => ?_, h.out.kept hg (h.other h.out (by decide)), h.fin.kept hg (h.other h.fin (by decide)), h.lr, h.lf, ht, h.small, h.inr⟩, hg⟩
  · simp only [World.setCell, Array.getElem?_modify, h.blk]
    simp
  · obtain ⟨v, hv, hr⟩ := h.each i hi
    exact ⟨v, hv, hr.kept hg (h.other hr (by decide))⟩
end RunAt

section
variable {w : World} {p mb : Nat} {vn vo vf : Value} {vs : List Value} {R : List (List Int)} {O : List Int} {F : List Bool} {s : Nat}

theorem state_any (h : RunAt w p mb vn vo vf vs R O F s) : Calls Try.prog 18 #[.pointer (some ⟨p, 0, none⟩)] w fun e w' => e = .returned (.int .i64 (s : Int)) ∧ w = w' := by
  have h4 := h.cell4
  go_enter Try.func18, Try.ntmps18
  go_wp2
  go_ret
  exact ⟨rfl, rfl⟩
theorem reset_any (h : RunAt w p mb vn vo vf vs R O F s) : Calls Try.prog 54 #[.pointer (some ⟨p, 0, none⟩)] w fun e w' => e = .returned (.tuple #[]) ∧ RunAt w' p mb vn vo vf vs R O F 0 ∧ w.grownBy w' (some p) := by
  have h4 := h.cell4
  have hf := h.frozen 4
  have HG := Lib.hid (h.goes 0 (by have := h.st; omega))
  go_enter Try.func54, Try.ntmps54
  go_wp2
  all_goals go_end0
  all_goals exact ⟨rfl, HG.out.1, HG.out.2⟩
theorem final_any (h : RunAt w p mb vn vo vf vs R O F s) : Calls Try.prog 38 #[.pointer (some ⟨p, 0, none⟩)] w fun e w' => e = .returned (.bool (F.getD s false)) ∧ ∃ k, w' = w.drewN k := by
  have h4 := h.cell4
  have h2 := h.cell2
  have hs : s < F.length := by rw [h.lf]; exact h.st
  obtain ⟨g, cap, rfl, hcap, hc⟩ := own_cell h.fin s hs
  rw [bv_at hs] at hc
  go_enter Try.func38, Try.ntmps38
  have hsI : (s : Int) < (F.length : Int) := by omega
  generalize F.getD s false = b at hc ⊢
  go_wp2_with fail
  go_quiet (fail)
  go_wp2
  go_ret
  exact ⟨rfl, _, rfl⟩
theorem verdict_any (h : RunAt w p mb vn vo vf vs R O F s) : Calls Try.prog 32 #[.pointer (some ⟨p, 0, none⟩)] w fun e w' => e = .returned (.int .u8 (O.getD s 0)) ∧ ∃ k, w' = w.drewN k := by
  have h4 := h.cell4
  have h1 := h.cell1
  have hs : s < O.length := h.st
  obtain ⟨g, cap, rfl, hcap, hc⟩ := own_cell h.out s hs
  rw [ov_at hs] at hc
  go_enter Try.func32, Try.ntmps32
  have hsI : (s : Int) < (O.length : Int) := by omega
  generalize O.getD s 0 = b at hc ⊢
  go_wp2_with fail
  go_quiet (fail)
  go_wp2
  go_ret
  exact ⟨rfl, _, rfl⟩
theorem goto_yes (h : RunAt w p mb vn vo vf vs R O F s) (t : Nat) (ht : t < O.length) : Calls Try.prog 31 #[.pointer (some ⟨p, 0, none⟩), .int .i64 (t : Int)] w fun e w' => e = .returned (.int .i64 0) ∧ RunAt w' p mb vn vo vf vs R O F t ∧ w.grownBy w' (some p) := by
  have h4 := h.cell4
  have h1 := h.cell1
  have hf := h.frozen 4
  obtain ⟨a, cap, rfl⟩ := own_val h.out
  have HG := Lib.hid (h.goes t ht)
  have hsm := h.small
  clear h
  go_enter Try.func31, Try.ntmps31
  go_wp2_with fail
  all_goals go_ret
  all_goals exact ⟨rfl, HG.out.1, HG.out.2⟩
theorem goto_no (h : RunAt w p mb vn vo vf vs R O F s) (t : Int) (ht : t < 0 ∨ (O.length : Int) ≤ t) : Calls Try.prog 31 #[.pointer (some ⟨p, 0, none⟩), .int .i64 t] w fun e w' => e = .returned (.int .i64 171) ∧ w = w' := by
  have h1 := h.cell1
  obtain ⟨a, cap, rfl⟩ := own_val h.out
  have hsm := h.small
  clear h
  go_enter Try.func31, Try.ntmps31
  rcases ht with ht | ht
  · go_wp2_with fail
    all_goals go_ret
    all_goals exact ⟨rfl, rfl⟩
  · go_wp2_with fail
    all_goals go_ret
    all_goals exact ⟨rfl, rfl⟩
end
end Go.Proofs.Ytpehmlkikhkmfaa
