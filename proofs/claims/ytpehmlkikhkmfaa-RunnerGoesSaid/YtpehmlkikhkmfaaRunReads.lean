/- Runner: what came in, read. -/
import Derived.Test.YtpehmlkikhkmfaaRunRun
import Derived.Test.YtpehmlkikhkmfaaRunOwn
import Derived.Deep.Slices
import Derived.SliceStrings
namespace Go.Proofs.Ytpehmlkikhkmfaa
open Go.ChangeShapes Go.WideShapes Go.ChangeAt Go.RowKit Go.Joins Go.Deep

theorem cells_int : Try.prog.cellsOf 3 = 1 := by kernel_rfl
theorem bytes_int : Try.prog.bytesOf 3 = 8 := by kernel_rfl
theorem cells_ints : Try.prog.cellsOf 107 = 1 := by kernel_rfl
theorem bytes_ints : Try.prog.bytesOf 107 = 24 := by kernel_rfl
theorem cells_str : Try.prog.cellsOf 9 = 1 := by kernel_rfl
theorem bytes_str : Try.prog.bytesOf 9 = 16 := by kernel_rfl
theorem cells_strs : Try.prog.cellsOf 23 = 1 := by kernel_rfl
theorem bytes_strs : Try.prog.bytesOf 23 = 24 := by kernel_rfl
theorem cells_verd : Try.prog.cellsOf 59 = 1 := by kernel_rfl
theorem bytes_verd : Try.prog.bytesOf 59 = 1 := by kernel_rfl

theorem wf_range {x : Int} (h : (Lit.int .i64 x).wf = true) : -9223372036854775808 ≤ x ∧ x ≤ 9223372036854775807 := bounds_i64 h
theorem wf_byte {x : Int} (h : (Lit.int .u8 x).wf = true) : 0 ≤ x ∧ x ≤ 255 := by
  simp [Lit.wf, IntKind.min, IntKind.max, IntKind.signed, IntKind.bits] at h
  omega
theorem reach_is : reachBytes = 140737488351232 := by decide

section
variable {H : Type} {enc : TypeId × Value → H} {W : World} {fuel : Nat} {v : Value} {x : DataW H × List MemPlace}

theorem take_at {α : Type} {l : List α} {d : α} {k n : Nat} (hk : k < n) : (l.take n).getD k d = l.getD k d := by simp [List.getD_eq_getElem?_getD, hk]

theorem ints_of_trod (h : DataW.trod enc Try.prog W 0 (fun _ => true) true fuel 107 [v] = some x) (hw : (DataW.weights Try.prog 107 x.1).all (· ≤ reachBytes) = true) : ∃ A, IntsAt W v A := by
  rcases open_ints Try.underlying107 Try.underlying3 cells_int h with ⟨hcs, hx⟩ | ⟨a, len, cap, zs, hcs, _, hl, hm, hz, hx, hcell, hwz⟩
  · simp at hcs
    subst hcs
    exact ⟨[], none, 0, rfl, by simp, by simp, by simp, Or.inl rfl⟩
  · simp at hcs
    subst hcs
    subst hx
    have hz' : zs.length = cap := by simpa using hz
    have hr : cap * 8 ≤ reachBytes := by
      simp only [DataW.weights, Try.underlying107, bytes_int, List.all_cons, Bool.and_eq_true, decide_eq_true_eq] at hw
      have := hw.1
      rw [show (lits (H := H) .i64 (zs.take len)).length = len by simp [lits]; omega, show (lits (H := H) .i64 (zs.drop len)).length = zs.length - len by simp [lits]] at this
      omega
    have hr2 := reach_is
    have hlen : (zs.take len).length = len := by simp; omega
    refine ⟨zs.take len, some a, cap, by rw [hlen], by omega, ?_, by omega, ?_⟩
    · intro k hk
      rw [hlen] at hk
      rw [take_at hk]
      have : zs.getD k 0 ∈ zs := by
        rw [show zs.getD k 0 = zs[k]'(by omega) by simp [List.getD_eq_getElem?_getD, show k < zs.length by omega]]
        exact List.getElem_mem _
      exact wf_range (hwz _ this)
    · by_cases h0 : len = 0
      · left; exact List.eq_nil_of_length_eq_zero (by omega)
      · right
        obtain ⟨b, off, spot⟩ := a
        have hc := hcell 0 (by omega)
        have hspot : spot = none := by simpa [Addr.add] using World.cell?_spot hc
        subst hspot
        refine ⟨b, off, rfl, fun k hk => ?_⟩
        rw [hlen] at hk
        rw [take_at hk]
        have := hcell k (by omega)
        rwa [show (⟨b, off, none⟩ : Addr).add k = ⟨b, off + k, none⟩ by unfold Addr.add; split <;> simp_all] at this

theorem verds_of_trod (h : DataW.trod enc Try.prog W 0 (fun _ => true) true fuel 25 [v] = some x) (hw : (DataW.weights Try.prog 25 x.1).all (· ≤ reachBytes) = true) :
    ∃ O, SliceOf v O.length ∧ O.length ≤ 140737488351232 ∧ (O.length ≤ 17592186043904 → BytesAt W v O) := by
  rcases open_ints Try.underlying25 Try.underlying59 cells_verd h with ⟨hcs, hx⟩ | ⟨a, len, cap, zs, hcs, _, hl, hm, hz, hx, hcell, hwz⟩
  · simp at hcs
    subst hcs
    exact ⟨[], ⟨none, 0, rfl, by simp⟩, by simp, fun _ => ⟨none, 0, rfl, by simp, by simp, by simp, Or.inl rfl⟩⟩
  · simp at hcs
    subst hcs
    subst hx
    have hz' : zs.length = cap := by simpa using hz
    have hr : cap * 1 ≤ reachBytes := by
      simp only [DataW.weights, Try.underlying25, bytes_verd, List.all_cons, Bool.and_eq_true, decide_eq_true_eq] at hw
      have := hw.1
      rw [show (lits (H := H) .u8 (zs.take len)).length = len by simp [lits]; omega, show (lits (H := H) .u8 (zs.drop len)).length = zs.length - len by simp [lits]] at this
      omega
    have hr2 := reach_is
    have hlen : (zs.take len).length = len := by simp; omega
    refine ⟨zs.take len, ⟨some a, cap, by rw [hlen], by omega⟩, by omega, fun hsm => ⟨some a, cap, by rw [hlen], by omega, ?_, by omega, ?_⟩⟩
    · intro k hk
      rw [hlen] at hk
      rw [take_at hk]
      have : zs.getD k 0 ∈ zs := by
        rw [show zs.getD k 0 = zs[k]'(by omega) by simp [List.getD_eq_getElem?_getD, show k < zs.length by omega]]
        exact List.getElem_mem _
      exact wf_byte (hwz _ this)
    · by_cases h0 : len = 0
      · left; exact List.eq_nil_of_length_eq_zero (by omega)
      · right
        obtain ⟨b, off, spot⟩ := a
        have hc := hcell 0 (by omega)
        have hspot : spot = none := by simpa [Addr.add] using World.cell?_spot hc
        subst hspot
        refine ⟨b, off, rfl, fun k hk => ?_⟩
        rw [hlen] at hk
        rw [take_at hk]
        have := hcell k (by omega)
        rwa [show (⟨b, off, none⟩ : Addr).add k = ⟨b, off + k, none⟩ by unfold Addr.add; split <;> simp_all] at this

theorem weights_all {P : Program} {e : TypeId} {l : List (DataW H)} (h : (DataW.weightsAll P e l).all (· ≤ reachBytes) = true) : ∀ d ∈ l, (DataW.weights P e d).all (· ≤ reachBytes) = true := by
  induction l with
  | nil => intro d hd; simp at hd
  | cons x l ih =>
    rw [DataW.weightsAll, List.all_append, Bool.and_eq_true] at h
    intro d hd
    rcases List.mem_cons.1 hd with rfl | hd
    · exact h.1
    · exact ih h.2 d hd

theorem texts_of_trod (h : DataW.trod enc Try.prog W 0 (fun _ => true) true fuel 23 [v] = some x) (hw : (DataW.weights Try.prog 23 x.1).all (· ≤ reachBytes) = true) : ∃ L, TextsAt W v L ∧ Short L := by
  rcases open_strings Try.underlying23 Try.underlying9 cells_str h with ⟨hcs, hx⟩ | ⟨a, len, cap, zs, hcs, _, hl, hm, hz, hx, hcell, hwz⟩
  · simp at hcs
    subst hcs
    exact ⟨[], ⟨none, 0, rfl, by simp, by simp, by simp, Or.inl rfl⟩, fun k hk => absurd hk (by simp)⟩
  · simp at hcs
    subst hcs
    subst hx
    have hz' : zs.length = cap := by simpa using hz
    simp only [DataW.weights, Try.underlying23, bytes_str, List.all_cons, List.all_append, Bool.and_eq_true, decide_eq_true_eq] at hw
    have hr : cap * 16 ≤ reachBytes := by
      have := hw.1
      rw [show (strs (H := H) (zs.take len)).length = len by simp [strs]; omega, show (strs (H := H) (zs.drop len)).length = zs.length - len by simp [strs]] at this
      omega
    have hr2 := reach_is
    have hlen : (zs.take len).length = len := by simp; omega
    refine ⟨zs.take len, ⟨some a, cap, by rw [hlen], by omega, by omega, ?_, ?_⟩, ?_⟩
    · intro k hk
      rw [hlen] at hk
      rw [take_at hk]
      have : zs.getD k ⟨#[]⟩ ∈ zs := by
        rw [show zs.getD k ⟨#[]⟩ = zs[k]'(by omega) by simp [List.getD_eq_getElem?_getD, show k < zs.length by omega]]
        exact List.getElem_mem _
      exact hwz _ this
    · by_cases h0 : len = 0
      · left; exact List.eq_nil_of_length_eq_zero (by omega)
      · right
        obtain ⟨b, off, spot⟩ := a
        have hc := hcell 0 (by omega)
        have hspot : spot = none := by simpa [Addr.add] using World.cell?_spot hc
        subst hspot
        refine ⟨b, off, rfl, fun k hk => ?_⟩
        rw [hlen] at hk
        rw [take_at hk]
        have := hcell k (by omega)
        rwa [show (⟨b, off, none⟩ : Addr).add k = ⟨b, off + k, none⟩ by unfold Addr.add; split <;> simp_all] at this
    · intro k hk
      have hk' : k < len := by omega
      have hmem : (zs.take len).getD k ⟨#[]⟩ ∈ zs.take len := by
        rw [show (zs.take len).getD k ⟨#[]⟩ = (zs.take len)[k]'hk by rw [List.getD_eq_getElem?_getD, List.getElem?_eq_getElem hk]; rfl]
        exact List.getElem_mem _
      have := weights_all hw.2.1 (.lit (.string ((zs.take len).getD k ⟨#[]⟩).data.toList)) (List.mem_map.2 ⟨_, hmem, rfl⟩)
      simp only [DataW.weights, List.all_cons, List.all_nil, Bool.and_true, decide_eq_true_eq] at this
      rw [show (ByteArray.data _).toList.length = ByteArray.size _ from rfl] at this
      omega

/-- A slice of slices, each of a kind. -/
theorem slices_of_trod {t e : TypeId} {α : Type} [Inhabited α] (d0 : α) (at' : Value → α → Prop) (ht : Try.prog.underlying t = some (.slice e)) (hc : Try.prog.cellsOf e = 1) (hb : Try.prog.bytesOf e = 24)
    (each : ∀ {fuel : Nat} {v : Value} {x : DataW H × List MemPlace}, DataW.trod enc Try.prog W 0 (fun _ => true) true fuel e [v] = some x → (DataW.weights Try.prog e x.1).all (· ≤ reachBytes) = true → ∃ A, at' v A)
    (h : DataW.trod enc Try.prog W 0 (fun _ => true) true fuel t [v] = some x) (hw : (DataW.weights Try.prog t x.1).all (· ≤ reachBytes) = true) :
    ∃ (R : List α) (a : Option Addr) (cap : Nat), v = .slice a R.length cap ∧ R.length ≤ cap ∧ R.length ≤ 17592186043904 ∧ (R = [] ∨ ∃ b off, a = some ⟨b, off, none⟩ ∧ ∀ k, k < R.length → ∃ u, W.cell? ⟨b, off + k, none⟩ = some u ∧ at' u (R.getD k d0)) := by
  rcases open_slice1 ht hc h with ⟨hcs, hx⟩ | ⟨a, len, cap, m, n, V, D, Pl, hcs, _, hl, hm, hmm, hx, hcell⟩
  · simp at hcs
    subst hcs
    exact ⟨[], none, 0, rfl, by simp, by simp, Or.inl rfl⟩
  · simp at hcs
    subst hcs
    subst hx
    simp only [if_true] at hmm
    subst hmm
    simp only [DataW.weights, ht, hb, List.all_cons, List.all_append, Bool.and_eq_true, decide_eq_true_eq, List.length_map, List.length_range] at hw
    have hr2 := reach_is
    have hlen : len ≤ 17592186043904 := by omega
    have hD : ∀ i, i < len → ∃ A, at' (V i) A := fun i hi =>
      each (hcell i (by omega)).2 (weights_all hw.2.1 _ (List.mem_map.2 ⟨i, List.mem_range.2 hi, rfl⟩))
    obtain ⟨F, hF⟩ := choose_lt (α := α) (p := fun i A => at' (V i) A) hD
    have hR : ((List.range len).map F).length = len := by simp
    refine ⟨(List.range len).map F, some a, m, by rw [hR], by omega, by omega, ?_⟩
    by_cases h0 : len = 0
    · left; simp [h0]
    · right
      obtain ⟨b, off, spot⟩ := a
      have hc := (hcell 0 (by omega)).1
      have hspot : spot = none := by simpa [Addr.add] using World.cell?_spot hc
      subst hspot
      refine ⟨b, off, rfl, fun k hk => ?_⟩
      rw [hR] at hk
      have hc2 := (hcell k (by omega)).1
      rw [show (⟨b, off, none⟩ : Addr).add k = ⟨b, off + k, none⟩ by unfold Addr.add; split <;> simp_all] at hc2
      refine ⟨V k, hc2, ?_⟩
      have e : ((List.range len).map F).getD k d0 = F k := by simp [List.getD_eq_getElem?_getD, hk]
      rw [e]
      exact hF k hk

theorem rows_of_trod (h : DataW.trod enc Try.prog W 0 (fun _ => true) true fuel 24 [v] = some x) (hw : (DataW.weights Try.prog 24 x.1).all (· ≤ reachBytes) = true) : ∃ R, RowsAt W v R :=
  slices_of_trod [] (IntsAt W) Try.underlying24 cells_ints bytes_ints ints_of_trod h hw
theorem events_of_trod (h : DataW.trod enc Try.prog W 0 (fun _ => true) true fuel 53 [v] = some x) (hw : (DataW.weights Try.prog 53 x.1).all (· ≤ reachBytes) = true) : ∃ E, EventsAt W v E ∧ ∀ k, k < E.length → Short (E.getD k []) := by
  obtain ⟨E, a, cap, rfl, h0, h1, h2⟩ := slices_of_trod [] (fun v L => TextsAt W v L ∧ Short L) Try.underlying53 cells_strs bytes_strs texts_of_trod h hw
  refine ⟨E, ⟨a, cap, rfl, h0, h1, ?_⟩, ?_⟩
  · rcases h2 with h2 | ⟨b, off, rfl, h2⟩
    · exact Or.inl h2
    · exact Or.inr ⟨b, off, rfl, fun k hk => by obtain ⟨u, hu, h3⟩ := h2 k hk; exact ⟨u, hu, h3.1⟩⟩
  · intro k hk
    rcases h2 with rfl | ⟨b, off, rfl, h2⟩
    · exact absurd hk (by simp)
    · obtain ⟨u, hu, h3⟩ := h2 k hk
      exact h3.2
end

/-- A machine as it came in. -/
structure MooreIn (w : World) (vp vn vo : Value) (P : List ByteArray) (R : List (List Int)) (O : List Int) : Prop where
  props : TextsAt w vp P
  short : Short P
  next : RowsAt w vn R
  slice : SliceOf vo O.length
  len : O.length ≤ 140737488351232
  out : O.length ≤ 17592186043904 → BytesAt w vo O
theorem MooreIn.mach {w : World} {vp vn vo : Value} {P : List ByteArray} {R : List (List Int)} {O : List Int} (h : MooreIn w vp vn vo P R O) (hl : O.length ≤ 17592186043904) : MachAt w vp vn vo P R O := ⟨h.props, h.next, h.out hl⟩

theorem cells_moore : Try.prog.cellsOf 27 = 3 := by kernel_rfl
set_option maxRecDepth 100000 in
theorem moore_of_trod {H : Type} {enc : TypeId × Value → H} {W : World} {r : Reach} {b0 : Nat} {v : Value} {d : DataW H} {p : List MemPlace} (hv : Value.okWide Try.prog W r b0 27 v)
    (h : DataW.Trod enc Try.prog W 0 (fun _ => true) true 27 v d p) (hw : (DataW.weights Try.prog 27 d).all (· ≤ reachBytes) = true) : ∃ vp vn vo P R O, v = .agg #[vp, vn, vo] ∧ MooreIn W vp vn vo P R O := by
  obtain ⟨c0, c1, c2, y0, y1, y2, m, rfl, rfl, rfl, hy0, hy1, hy2⟩ := open_agg3 Try.underlying27 (by kernel_rfl) cells_moore hv h
  simp only [DataW.weights, Try.underlying27, DataW.weightsEach, List.all_append, Bool.and_eq_true, List.map_cons, List.map_nil] at hw
  obtain ⟨P, hP, hs⟩ := texts_of_trod hy0 hw.1
  obtain ⟨R, hR⟩ := rows_of_trod hy1 hw.2.1
  obtain ⟨O, hO1, hO2, hO3⟩ := verds_of_trod hy2 hw.2.2.1
  exact ⟨c0, c1, c2, P, R, O, rfl, hP, hs, hR, hO1, hO2, hO3⟩
end Go.Proofs.Ytpehmlkikhkmfaa
