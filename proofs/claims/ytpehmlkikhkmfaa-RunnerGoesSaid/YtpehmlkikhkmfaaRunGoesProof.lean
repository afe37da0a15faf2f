/- RunnerGoes: for every machine, all letters and every raw number the law returns true, and its arguments read as they did. No condition. -/
import Derived.Test.YtpehmlkikhkmfaaRunGoes
import Derived.Test.YtpehmlkikhkmfaaRunReads
namespace Go.Proofs.Ytpehmlkikhkmfaa
open Go.ChangeShapes Go.WideShapes Go.ChangeAt Go.RowKit Go.Joins Go.Deep
theorem cells_u16 : Try.prog.cellsOf 81 = 1 := by kernel_rfl
theorem bytes_u16 : Try.prog.bytesOf 81 = 2 := by kernel_rfl
theorem wf_u16r {x : Int} (h : (Lit.int .u16 x).wf = true) : 0 ≤ x ∧ x ≤ 65535 := by
  simp [Lit.wf, IntKind.min, IntKind.max, IntKind.signed, IntKind.bits] at h
  omega
theorem letters_of_trod {H : Type} {enc : TypeId × Value → H} {W : World} {fuel : Nat} {v : Value} {x : DataW H × List MemPlace} (h : DataW.trod enc Try.prog W 0 (fun _ => true) true fuel 85 [v] = some x) (hw : (DataW.weights Try.prog 85 x.1).all (· ≤ reachBytes) = true) : ∃ U, LettersAt W v U := by
  rcases open_ints Try.underlying85 Try.underlying81 cells_u16 h with ⟨hcs, hx⟩ | ⟨a, len, cap, zs, hcs, _, hl, hm, hz, hx, hcell, hwz⟩
  · simp at hcs
    subst hcs
    exact ⟨[], none, 0, rfl, by simp, by simp, by simp, Or.inl rfl⟩
  · simp at hcs
    subst hcs
    subst hx
    have hz' : zs.length = cap := by simpa using hz
    have hr : cap * 2 ≤ reachBytes := by
      simp only [DataW.weights, Try.underlying85, bytes_u16, List.all_cons, Bool.and_eq_true, decide_eq_true_eq] at hw
      have := hw.1
      rw [show (lits (H := H) .u16 (zs.take len)).length = len by simp [lits]; omega, show (lits (H := H) .u16 (zs.drop len)).length = zs.length - len by simp [lits]] at this
      omega
    have hr2 := reach_is
    have hget : ∀ k, k < len → ((zs.take len).map Int.toNat).getD k 0 = (zs.getD k 0).toNat ∧ 0 ≤ zs.getD k 0 ∧ zs.getD k 0 ≤ 65535 := fun k hk => by
      have hkz : k < zs.length := by omega
      refine ⟨by simp [List.getD_eq_getElem?_getD, hk, hkz], ?_⟩
      have : zs.getD k 0 ∈ zs := by
        rw [show zs.getD k 0 = zs[k]'hkz by simp [List.getD_eq_getElem?_getD, hkz]]
        exact List.getElem_mem _
      exact wf_u16r (hwz _ this)
    have hlen : ((zs.take len).map Int.toNat).length = len := by simp; omega
    refine ⟨(zs.take len).map Int.toNat, some a, cap, by rw [hlen], by omega, by omega, ?_, ?_⟩
    · intro k hk
      rw [hlen] at hk
      obtain ⟨h1, h2, h3⟩ := hget k hk
      rw [h1]; omega
    · by_cases h0 : len = 0
      · left; exact List.eq_nil_of_length_eq_zero (by omega)
      · right
        obtain ⟨b, off, spot⟩ := a
        have hc := hcell 0 (by omega)
        have hspot : spot = none := by simpa [Addr.add] using World.cell?_spot hc
        subst hspot
        refine ⟨b, off, rfl, fun k hk => ?_⟩
        rw [hlen] at hk
        obtain ⟨h1, h2, h3⟩ := hget k hk
        rw [h1, Int.toNat_of_nonneg h2]
        have := hcell k (by omega)
        rwa [show (⟨b, off, none⟩ : Addr).add k = ⟨b, off + k, none⟩ by unfold Addr.add; split <;> simp_all] at this
end Go.Proofs.Ytpehmlkikhkmfaa
namespace Go.Proofs.Ytpehmlkikhkmfaa.lawGoes
open Go.Proofs.Ytpehmlkikhkmfaa
open Go.ChangeShapes Go.WideShapes Go.ChangeAt Go.RowKit Go.Joins Go.Deep

set_option maxRecDepth 100000 in
theorem lifted (os : Os) (started : os.Started) (H : Type) (enc : TypeId × Value → H) :
    ReturnsInHanded {} Try.checked os 7 .any (Rows.runnerGoesSpec.pre6 enc Try.prog Try.f7 Rows.runnerGoesRow.domain false) (Rows.runnerGoesSpec.post enc Try.prog Try.f7 false true false false) := by
  refine returnsInHanded_of_change_sized (C := Try.checked) own started (by kernel_rfl) Try.func7
    (ChangeSpec.witness6 (enc := enc) (C := Try.checked) false ⟨#[], #[.agg #[.slice none 0 0, .slice none 0 0, .slice none 0 0], .slice none 0 0, .int .i64 0], []⟩ 8 (by kernel_rfl) (by kernel_rfl) (by kernel_rfl) (by kernel_rfl)) ?_
  intro W base args ds gs before hval0 hW hcnd hsz0 _
  have hval : ∀ (j : Nat) t v, Try.f7.params[j]? = some t → args[j]? = some v → Value.okWide Try.prog W .any base t v := hval0
  have hW' := hW
  obtain ⟨p, q, hA0, hV, rfl, hfz, hnd⟩ := hW
  have hA : DataW.TrodAll enc Try.prog W 0 (fun _ => true) true Try.f7.params.toList args.toList ds p := hA0
  have hsz : (DataW.weightsEach Try.prog (Try.f7.params.toList ++ Rows.runnerGoesSpec.plain.varTypes Try.prog) (ds ++ gs)).all (· ≤ reachBytes) = true := hsz0
  rw [Try.params7] at hA hval hsz
  obtain ⟨v0, v1, v2, d0, d1, d2, p0, p1, p2, rfl, rfl, rfl, h0, h1, h2⟩ := trodAll_three hA
  obtain ⟨rfl, rfl⟩ := trodVars_none hV
  have k0 := h0
  have k1 := h1
  have k2 := h2
  have lt0 : ∀ x ∈ p0, x.block < W.heap.size := by obtain ⟨m, hm⟩ := k0; exact DataW.trod_lt m _ _ _ hm
  have lt1 : ∀ x ∈ p1, x.block < W.heap.size := by obtain ⟨m, hm⟩ := k1; exact DataW.trod_lt m _ _ _ hm
  have lt2 : ∀ x ∈ p2, x.block < W.heap.size := by obtain ⟨m, hm⟩ := k2; exact DataW.trod_lt m _ _ _ hm
  have hw0 : (DataW.weights Try.prog 27 d0).all (· ≤ reachBytes) = true := List.all_eq_true.2 fun x hx => List.all_eq_true.1 hsz x (DataW.weights_mem_each (j := 0) rfl rfl x hx)
  have hw1 : (DataW.weights Try.prog 85 d1).all (· ≤ reachBytes) = true := List.all_eq_true.2 fun x hx => List.all_eq_true.1 hsz x (DataW.weights_mem_each (j := 1) rfl rfl x hx)
  clear hA0 hval0 hsz hsz0
  suffices hc : Calls Try.prog 7 #[v0, v1, v2] W fun e w' => e = .returned (.bool true) ∧ Below W.heap.size W w' by
    refine hc.mono fun e W' ⟨he, bel⟩ => ?_
    subst he
    exact ⟨_, rfl, _, _, _, [], _, [], hW', trodAll_mk1 (shut_bool Try.underlying4 _), trodAll_mk3 (Below.trod laidOut (by kernel_rfl) (of_decide_eq_true (by kernel_rfl)) k0 bel lt0) (Below.trod laidOut (by kernel_rfl) (of_decide_eq_true (by kernel_rfl)) k1 bel lt1) (Below.trod laidOut (by kernel_rfl) (of_decide_eq_true (by kernel_rfl)) k2 bel lt2), rfl, bel.frame _, fun h => by cases h⟩
  obtain ⟨vp, vn, vo, P, R, O, rfl, hM⟩ := moore_of_trod (hval 0 27 v0 rfl rfl) h0 hw0
  obtain ⟨a, len, cap, rfl⟩ := okWide_slice Try.underlying85 (hval 1 85 v1 rfl rfl)
  obtain ⟨m, rfl, rfl, rfl, wm⟩ := open_int Try.underlying3 (hval 2 3 v2 rfl rfl) h2
  obtain ⟨fuel, hf⟩ := h1
  obtain ⟨U, hU⟩ := letters_of_trod (by simpa [Value.cells] using hf) hw1
  have hm := bounds_i64 wm
  exact goes_any vp vn vo _ m P R O U W hM hU hm.1 hm.2

theorem holds : Rows.RunnerGoesSaid :=
  OpenClaim.holds_of_wide 7 Try.f7 rfl rfl rfl rfl rfl rfl rfl ⟨rfl, rfl, rfl, rfl, rfl⟩ rfl rfl rfl rfl rfl (by kernel_rfl) Try.func7 (by kernel_rfl)
    (of_decide_eq_true (by kernel_rfl)) (by unfold Func.isWrapper; rw [if_neg (of_decide_eq_false (by kernel_rfl))]; exact ⟨rfl, rfl⟩)
    (fun os started H enc _ => lifted os started H enc)
#print axioms holds
end Go.Proofs.Ytpehmlkikhkmfaa.lawGoes
