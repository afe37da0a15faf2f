/- BitsAlgebra: for every width and three rows of numbers the law returns true, and its argument reads as it did. No condition. -/
import Derived.Test.YtaagbdncfcdfcaaBitsAlgebra
import Derived.Test.YtaagbdncfcdfcaaBitsReads
namespace Go.Proofs.Ytaagbdncfcdfcaa.lawAlgebra
open Go.Proofs.Ytaagbdncfcdfcaa
open Go.ChangeShapes Go.WideShapes Go.ChangeAt Go.RowKit Go.Joins

theorem cells38 : Try.prog.cellsOf 38 = 4 := by kernel_rfl

set_option maxRecDepth 100000 in
theorem lifted (os : Os) (started : os.Started) (H : Type) (enc : TypeId × Value → H) :
    ReturnsInHanded {} Try.checked os 4 .any (Rows.bitsAlgebraSpec.pre6 enc Try.prog Try.f4 Rows.bitsAlgebraRow.domain false) (Rows.bitsAlgebraSpec.post enc Try.prog Try.f4 false true false false) := by
  refine returnsInHanded_of_change_sized (C := Try.checked) own started (by kernel_rfl) Try.func4
    (ChangeSpec.witness6 (enc := enc) (C := Try.checked) false ⟨#[], #[.agg #[.int .i64 0, .slice none 0 0, .slice none 0 0, .slice none 0 0]], []⟩ 8 (by kernel_rfl) (by kernel_rfl) (by kernel_rfl) (by kernel_rfl)) ?_
  intro W base args ds gs before hval0 hW hcnd hsz0 _
  have hval : ∀ (j : Nat) t v, Try.f4.params[j]? = some t → args[j]? = some v → Value.okWide Try.prog W .any base t v := hval0
  have hW' := hW
  obtain ⟨p, q, hA0, hV, rfl, hfz, hnd⟩ := hW
  have hA : DataW.TrodAll enc Try.prog W 0 (fun _ => true) true Try.f4.params.toList args.toList ds p := hA0
  have hsz : (DataW.weightsEach Try.prog (Try.f4.params.toList ++ Rows.bitsAlgebraSpec.plain.varTypes Try.prog) (ds ++ gs)).all (· ≤ reachBytes) = true := hsz0
  rw [Try.params4] at hA hval hsz
  obtain ⟨v0, d0, rfl, rfl, h0⟩ := trodAll_one hA
  obtain ⟨rfl, rfl⟩ := trodVars_none hV
  have k0 := h0
  have lt0 : ∀ x ∈ p, x.block < W.heap.size := by obtain ⟨m, hm⟩ := k0; exact DataW.trod_lt m _ _ _ hm
  have hw0 : (DataW.weights Try.prog 38 d0).all (· ≤ reachBytes) = true := List.all_eq_true.2 fun x hx => List.all_eq_true.1 hsz x (DataW.weights_mem_each (j := 0) rfl rfl x hx)
  clear hA0 hval0 hsz hsz0
  suffices hc : Calls Try.prog 4 #[v0] W fun e w' => e = .returned (.bool true) ∧ Below W.heap.size W w' by
    refine hc.mono fun e W' ⟨he, bel⟩ => ?_
    subst he
    exact ⟨_, rfl, _, _, _, [], _, [], hW', trodAll_mk1 (shut_bool Try.underlying4 _), trodAll_mk1 (Below.trod laidOut (by kernel_rfl) (of_decide_eq_true (by kernel_rfl)) k0 bel lt0), rfl, bel.frame _, fun h => by cases h⟩
  obtain ⟨c0, c1, c2, c3, y0, y1, y2, y3, m, rfl, rfl, rfl, hy0, hy1, hy2, hy3⟩ := open_agg4 Try.underlying38 (by kernel_rfl) cells38 (hval 0 38 v0 rfl rfl) h0
  simp only [DataW.weights, Try.underlying38, DataW.weightsEach, List.all_append, Bool.and_eq_true, List.map_cons, List.map_nil] at hw0
  obtain ⟨a, e0, rfl, wa⟩ := DataW.trod_int Try.underlying3 hy0
  simp at e0
  subst e0
  obtain ⟨A, hA⟩ := ints_of_trod hy1 hw0.2.1
  obtain ⟨B, hB⟩ := ints_of_trod hy2 hw0.2.2.1
  obtain ⟨C, hC⟩ := ints_of_trod hy3 hw0.2.2.2.1
  have hb := wf_range wa
  exact algebra_walk a c1 c2 c3 A B C W hb.1 hb.2 hA hB hC

theorem holds : Rows.BitsAlgebraSaid :=
  OpenClaim.holds_of_wide 4 Try.f4 rfl rfl rfl rfl rfl rfl rfl ⟨rfl, rfl, rfl, rfl, rfl⟩ rfl rfl rfl rfl rfl (by kernel_rfl) Try.func4 (by kernel_rfl)
    (of_decide_eq_true (by kernel_rfl)) (by unfold Func.isWrapper; rw [if_neg (of_decide_eq_false (by kernel_rfl))]; exact ⟨rfl, rfl⟩)
    (fun os started H enc _ => lifted os started H enc)
#print axioms holds
end Go.Proofs.Ytaagbdncfcdfcaa.lawAlgebra
