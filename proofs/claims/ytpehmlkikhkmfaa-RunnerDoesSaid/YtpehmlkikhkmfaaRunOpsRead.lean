/- Runner: scripts as they came in, read. -/
import Derived.Test.YtpehmlkikhkmfaaRunOps
namespace Go.Proofs.Ytpehmlkikhkmfaa
open Go.ChangeShapes Go.WideShapes Go.ChangeAt Go.RowKit Go.Joins Go.Deep

theorem cells_op : Try.prog.cellsOf 48 = 4 := by kernel_rfl
theorem bytes_op : Try.prog.bytesOf 48 = 48 := by kernel_rfl

set_option maxRecDepth 100000 in
theorem op_of_trod {H : Type} {enc : TypeId × Value → H} {W : World} {fuel : Nat} {cs : List Value} {x : DataW H × List MemPlace} (h : DataW.trod enc Try.prog W 0 (fun _ => true) true fuel 48 cs = some x) (hw : (DataW.weights Try.prog 48 x.1).all (· ≤ reachBytes) = true) :
    ∃ a b c v d, cs = [a, b, c, v] ∧ OpAt W a b c v d := by
  obtain ⟨y0, y1, y2, y3, n, rfl, hl, h0, h1, h2, h3⟩ := trod_struct4 Try.underlying48 h
  rw [cells_op] at hl
  match cs, hl with
  | [c0, c1, c2, c3], _ =>
    simp only [DataW.weights, Try.underlying48, DataW.weightsEach, List.all_append, Bool.and_eq_true, List.map_cons, List.map_nil] at hw
    rw [show Try.prog.cellsOf _ = 1 from by kernel_rfl] at h0 h1 h2 h3
    obtain ⟨a0, e0, rfl, w0⟩ := DataW.trod_int Try.underlying3 h0
    obtain ⟨a1, e1, rfl, w1⟩ := DataW.trod_int Try.underlying3 h1
    obtain ⟨a2, e2, rfl, w2⟩ := DataW.trod_int Try.underlying3 h2
    simp at e0 e1 e2
    subst e0 e1 e2
    obtain ⟨L, hL, hS⟩ := texts_of_trod (by simpa using h3) hw.2.2.2.1
    exact ⟨_, _, _, _, ⟨a0, a1, a2, L⟩, rfl, rfl, rfl, rfl, wf_range w0, wf_range w1, wf_range w2, hL, hS⟩

theorem ops_of_trod {H : Type} {enc : TypeId × Value → H} {W : World} {fuel : Nat} {v : Value} {x : DataW H × List MemPlace} (h : DataW.trod enc Try.prog W 0 (fun _ => true) true fuel 28 [v] = some x) (hw : (DataW.weights Try.prog 28 x.1).all (· ≤ reachBytes) = true) : ∃ S, OpsAt W v S := by
  rcases open_slice Try.underlying28 h with ⟨hcs, hx⟩ | ⟨a, len, cap, m, n, D, Pl, hcs, _, hl, hm, hmm, hx, hcell⟩
  · simp at hcs
    subst hcs
    exact ⟨[], none, 0, rfl, by simp, by simp, Or.inl rfl⟩
  · simp at hcs
    subst hcs
    subst hx
    simp only [if_true] at hmm
    subst hmm
    simp only [DataW.weights, Try.underlying28, bytes_op, List.all_cons, List.all_append, Bool.and_eq_true, decide_eq_true_eq, List.length_map, List.length_range] at hw
    have hr2 := reach_is
    have hlen : len ≤ 17592186043904 := by omega
    have hD : ∀ i, i < len → ∃ d : OpD, ∃ x y z u, W.cell? ((a.add (i * 4)).add 0) = some x ∧ W.cell? ((a.add (i * 4)).add 1) = some y ∧ W.cell? ((a.add (i * 4)).add 2) = some z ∧ W.cell? ((a.add (i * 4)).add 3) = some u ∧ OpAt W x y z u d := fun i hi => by
      obtain ⟨cs', h1, h2⟩ := hcell i (by omega)
      rw [cells_op] at h1
      obtain ⟨c0, c1, c2, c3, d, rfl, ho⟩ := op_of_trod h2 (weights_all hw.2.1 _ (List.mem_map.2 ⟨i, List.mem_range.2 hi, rfl⟩))
      obtain ⟨_, _, h3⟩ := World.cells?_some h1
      exact ⟨d, c0, c1, c2, c3, h3 0 (by omega), h3 1 (by omega), h3 2 (by omega), h3 3 (by omega), ho⟩
    obtain ⟨F, hF⟩ := choose_lt (α := OpD) (p := fun i d => ∃ x y z u, W.cell? ((a.add (i * 4)).add 0) = some x ∧ W.cell? ((a.add (i * 4)).add 1) = some y ∧ W.cell? ((a.add (i * 4)).add 2) = some z ∧ W.cell? ((a.add (i * 4)).add 3) = some u ∧ OpAt W x y z u d) hD
    have hR : ((List.range len).map F).length = len := by simp
    refine ⟨(List.range len).map F, some a, m, by rw [hR], by omega, by omega, ?_⟩
    by_cases h0 : len = 0
    · left; simp [h0]
    · right
      obtain ⟨b, off, spot⟩ := a
      obtain ⟨_, _, _, _, hc0, _⟩ := hF 0 (by omega)
      have hspot : spot = none := by simpa [Addr.add] using World.cell?_spot hc0
      subst hspot
      refine ⟨b, off, rfl, fun k hk => ?_⟩
      rw [hR] at hk
      obtain ⟨x, y, z, u, h1, h2, h3, h4, ho⟩ := hF k hk
      rw [Addr.add_lit, Addr.add_lit] at h1 h2 h3 h4
      have e : ((List.range len).map F).getD k default = F k := by simp [List.getD_eq_getElem?_getD, hk]
      rw [e]
      exact ⟨x, y, z, u, h1, h2, h3, h4, ho⟩
end Go.Proofs.Ytpehmlkikhkmfaa
