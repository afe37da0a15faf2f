/- Bits: what came in, read: slices of whole numbers. -/
import Derived.Test.YtcdepblajobemaaBuilds22
import Derived.Test.YtcdepblajobemaaRows
import Derived.ProofKit
import Derived.OpenShut
import Derived.ShutString
import Derived.ChangeOld
import Derived.Below
import Derived.SizedLaws
import Derived.Lib.SmallJoins
import Derived.Deep.Slices
import Derived.Deep.Grids
import Derived.SliceStrings
set_option maxRecDepth 100000
namespace Go.Proofs.Ytcdepblajobemaa
open Go.ChangeShapes Go.WideShapes Go.ChangeAt Go.RowKit Go.Joins

theorem own : ownKnob Try.prog.godebug = none := by kernel_rfl
theorem laidOut : laidOutB Try.prog = true := by kernel_rfl
theorem cells3 : Try.prog.cellsOf 3 = 1 := by kernel_rfl
theorem bytes3 : Try.prog.bytesOf 3 = 8 := by kernel_rfl

theorem wf_range {x : Int} (h : (Lit.int .i64 x).wf = true) : -9223372036854775808 ≤ x ∧ x ≤ 9223372036854775807 := bounds_i64 h

/-- A slice of whole numbers, read, its bytes within the reach. -/
theorem ints_of_trod {H : Type} {enc : TypeId × Value → H} {W : World} {fuel : Nat} {v : Value} {x : DataW H × List MemPlace}
    (h : DataW.trod enc Try.prog W 0 (fun _ => true) true fuel 43 [v] = some x) (hw : (DataW.weights Try.prog 43 x.1).all (· ≤ reachBytes) = true) : ∃ A, IntsAt W v A := by
  rcases open_ints Try.underlying43 Try.underlying3 cells3 h with ⟨hcs, hx⟩ | ⟨a, len, cap, zs, hcs, _, hl, hm, hz, hx, hcell, hwz⟩
  · simp at hcs
    subst hcs
    exact ⟨[], none, 0, rfl, by simp, by simp, Or.inl rfl⟩
  · simp at hcs
    subst hcs
    subst hx
    have hz' : zs.length = cap := by simpa using hz
    have hr : cap * 8 ≤ reachBytes := by
      simp only [DataW.weights, Try.underlying43, bytes3, List.all_cons, Bool.and_eq_true, decide_eq_true_eq] at hw
      have := hw.1
      rw [show (lits (H := H) .i64 (zs.take len)).length = len by simp [lits]; omega, show (lits (H := H) .i64 (zs.drop len)).length = zs.length - len by simp [lits]] at this
      omega
    have hr2 : reachBytes = 140737488351232 := by decide
    have hlen : (zs.take len).length = len := by simp; omega
    have hget : ∀ k, k < len → (zs.take len).getD k 0 = zs.getD k 0 := fun k hk => by
      simp [List.getD_eq_getElem?_getD, hk]
    refine ⟨zs.take len, some a, cap, by rw [hlen], ?_, by omega, ?_⟩
    · intro k hk
      rw [hlen] at hk
      rw [hget k hk]
      have : zs.getD k 0 ∈ zs := by
        rw [show zs.getD k 0 = zs[k]'(by omega) by simp [List.getD_eq_getElem?_getD, show k < zs.length by omega]]
        exact List.getElem_mem _
      exact wf_range (hwz _ this)
    · by_cases h0 : len = 0
      · left; exact List.eq_nil_of_length_eq_zero (by omega)
      · right
        obtain ⟨b, off, spot⟩ := a
        have hc := hcell 0 (by omega)
        have hspot : spot = none := by simpa [Addr.add] using World.cell?_spot hc
        subst hspot
        refine ⟨b, off, rfl, fun k hk => ?_⟩
        rw [hlen] at hk
        rw [hget k hk]
        have := hcell k (by omega)
        rwa [show (⟨b, off, none⟩ : Addr).add k = ⟨b, off + k, none⟩ by unfold Addr.add; split <;> simp_all] at this
end Go.Proofs.Ytcdepblajobemaa
namespace Go.Proofs.Ytcdepblajobemaa
open Go.ChangeShapes Go.WideShapes Go.ChangeAt Go.RowKit Go.Joins Go.Deep

theorem cells_ints : Try.prog.cellsOf 43 = 1 := by kernel_rfl
theorem bytes_ints : Try.prog.bytesOf 43 = 24 := by kernel_rfl
theorem cells_str : Try.prog.cellsOf 9 = 1 := by kernel_rfl
theorem bytes_str : Try.prog.bytesOf 9 = 16 := by kernel_rfl
theorem cells_bool : Try.prog.cellsOf 4 = 1 := by kernel_rfl
theorem bytes_bool : Try.prog.bytesOf 4 = 1 := by kernel_rfl
theorem cells_u16 : Try.prog.cellsOf 55 = 1 := by kernel_rfl
theorem bytes_u16 : Try.prog.bytesOf 55 = 2 := by kernel_rfl
theorem wf_u16r {x : Int} (h : (Lit.int .u16 x).wf = true) : 0 ≤ x ∧ x ≤ 65535 := by
  simp [Lit.wf, IntKind.min, IntKind.max, IntKind.signed, IntKind.bits] at h
  omega
theorem reach_is : reachBytes = 140737488351232 := by decide

section
variable {H : Type} {enc : TypeId × Value → H} {W : World} {fuel : Nat} {v : Value} {x : DataW H × List MemPlace}

theorem take_at {α : Type} {l : List α} {d : α} {k n : Nat} (hk : k < n) : (l.take n).getD k d = l.getD k d := by simp [List.getD_eq_getElem?_getD, hk]

theorem weights_all {P : Program} {e : TypeId} {l : List (DataW H)} (h : (DataW.weightsAll P e l).all (· ≤ reachBytes) = true) : ∀ d ∈ l, (DataW.weights P e d).all (· ≤ reachBytes) = true := by
  induction l with
  | nil => intro d hd; simp at hd
  | cons x l ih =>
    rw [DataW.weightsAll, List.all_append, Bool.and_eq_true] at h
    intro d hd
    rcases List.mem_cons.1 hd with rfl | hd
    · exact h.1
    · exact ih h.2 d hd

theorem texts_of_trod (h : DataW.trod enc Try.prog W 0 (fun _ => true) true fuel 23 [v] = some x) (hw : (DataW.weights Try.prog 23 x.1).all (· ≤ reachBytes) = true) : ∃ L, TextsAt W v L ∧ Short L := by
  rcases open_strings Try.underlying23 Try.underlying9 cells_str h with ⟨hcs, hx⟩ | ⟨a, len, cap, zs, hcs, _, hl, hm, hz, hx, hcell, hwz⟩
  · simp at hcs
    subst hcs
    exact ⟨[], ⟨none, 0, rfl, by simp, by simp, by simp, Or.inl rfl⟩, fun k hk => absurd hk (by simp)⟩
  · simp at hcs
    subst hcs
    subst hx
    have hz' : zs.length = cap := by simpa using hz
    simp only [DataW.weights, Try.underlying23, bytes_str, List.all_cons, List.all_append, Bool.and_eq_true, decide_eq_true_eq] at hw
    have hr : cap * 16 ≤ reachBytes := by
      have := hw.1
      rw [show (strs (H := H) (zs.take len)).length = len by simp [strs]; omega, show (strs (H := H) (zs.drop len)).length = zs.length - len by simp [strs]] at this
      omega
    have hr2 := reach_is
    have hlen : (zs.take len).length = len := by simp; omega
    refine ⟨zs.take len, ⟨some a, cap, by rw [hlen], by omega, by omega, ?_, ?_⟩, ?_⟩
    · intro k hk
      rw [hlen] at hk
      rw [take_at hk]
      have : zs.getD k ⟨#[]⟩ ∈ zs := by
        rw [show zs.getD k ⟨#[]⟩ = zs[k]'(by omega) by simp [List.getD_eq_getElem?_getD, show k < zs.length by omega]]
        exact List.getElem_mem _
      exact hwz _ this
    · by_cases h0 : len = 0
      · left; exact List.eq_nil_of_length_eq_zero (by omega)
      · right
        obtain ⟨b, off, spot⟩ := a
        have hc := hcell 0 (by omega)
        have hspot : spot = none := by simpa [Addr.add] using World.cell?_spot hc
        subst hspot
        refine ⟨b, off, rfl, fun k hk => ?_⟩
        rw [hlen] at hk
        rw [take_at hk]
        have := hcell k (by omega)
        rwa [show (⟨b, off, none⟩ : Addr).add k = ⟨b, off + k, none⟩ by unfold Addr.add; split <;> simp_all] at this
    · intro k hk
      have hk' : k < len := by omega
      have hmem : (zs.take len).getD k ⟨#[]⟩ ∈ zs.take len := by
        rw [show (zs.take len).getD k ⟨#[]⟩ = (zs.take len)[k]'hk by rw [List.getD_eq_getElem?_getD, List.getElem?_eq_getElem hk]; rfl]
        exact List.getElem_mem _
      have := weights_all hw.2.1 (.lit (.string ((zs.take len).getD k ⟨#[]⟩).data.toList)) (List.mem_map.2 ⟨_, hmem, rfl⟩)
      simp only [DataW.weights, List.all_cons, List.all_nil, Bool.and_true, decide_eq_true_eq] at this
      rw [show (ByteArray.data _).toList.length = ByteArray.size _ from rfl] at this
      omega

/-- A slice of slices, each of a kind. -/
theorem slices_of_trod {t e : TypeId} {α : Type} [Inhabited α] (d0 : α) (at' : Value → α → Prop) (ht : Try.prog.underlying t = some (.slice e)) (hc : Try.prog.cellsOf e = 1) (hb : Try.prog.bytesOf e = 24)
    (each : ∀ {fuel : Nat} {v : Value} {x : DataW H × List MemPlace}, DataW.trod enc Try.prog W 0 (fun _ => true) true fuel e [v] = some x → (DataW.weights Try.prog e x.1).all (· ≤ reachBytes) = true → ∃ A, at' v A)
    (h : DataW.trod enc Try.prog W 0 (fun _ => true) true fuel t [v] = some x) (hw : (DataW.weights Try.prog t x.1).all (· ≤ reachBytes) = true) :
    ∃ (R : List α) (a : Option Addr) (cap : Nat), v = .slice a R.length cap ∧ R.length ≤ cap ∧ R.length ≤ 17592186043904 ∧ (R = [] ∨ ∃ b off, a = some ⟨b, off, none⟩ ∧ ∀ k, k < R.length → ∃ u, W.cell? ⟨b, off + k, none⟩ = some u ∧ at' u (R.getD k d0)) := by
  rcases open_slice1 ht hc h with ⟨hcs, hx⟩ | ⟨a, len, cap, m, n, V, D, Pl, hcs, _, hl, hm, hmm, hx, hcell⟩
  · simp at hcs
    subst hcs
    exact ⟨[], none, 0, rfl, by simp, by simp, Or.inl rfl⟩
  · simp at hcs
    subst hcs
    subst hx
    simp only [if_true] at hmm
    subst hmm
    simp only [DataW.weights, ht, hb, List.all_cons, List.all_append, Bool.and_eq_true, decide_eq_true_eq, List.length_map, List.length_range] at hw
    have hr2 := reach_is
    have hlen : len ≤ 17592186043904 := by omega
    have hD : ∀ i, i < len → ∃ A, at' (V i) A := fun i hi =>
      each (hcell i (by omega)).2 (weights_all hw.2.1 _ (List.mem_map.2 ⟨i, List.mem_range.2 hi, rfl⟩))
    obtain ⟨F, hF⟩ := choose_lt (α := α) (p := fun i A => at' (V i) A) hD
    have hR : ((List.range len).map F).length = len := by simp
    refine ⟨(List.range len).map F, some a, m, by rw [hR], by omega, by omega, ?_⟩
    by_cases h0 : len = 0
    · left; simp [h0]
    · right
      obtain ⟨b, off, spot⟩ := a
      have hc := (hcell 0 (by omega)).1
      have hspot : spot = none := by simpa [Addr.add] using World.cell?_spot hc
      subst hspot
      refine ⟨b, off, rfl, fun k hk => ?_⟩
      rw [hR] at hk
      have hc2 := (hcell k (by omega)).1
      rw [show (⟨b, off, none⟩ : Addr).add k = ⟨b, off + k, none⟩ by unfold Addr.add; split <;> simp_all] at hc2
      refine ⟨V k, hc2, ?_⟩
      have e : ((List.range len).map F).getD k d0 = F k := by simp [List.getD_eq_getElem?_getD, hk]
      rw [e]
      exact hF k hk

theorem rows_of_trod (h : DataW.trod enc Try.prog W 0 (fun _ => true) true fuel 24 [v] = some x) (hw : (DataW.weights Try.prog 24 x.1).all (· ≤ reachBytes) = true) : ∃ R, RowsAt2 W v R :=
  slices_of_trod [] (IntsAt W) Try.underlying24 cells_ints bytes_ints ints_of_trod h hw
theorem bools_of_trod (h : DataW.trod enc Try.prog W 0 (fun _ => true) true fuel 25 [v] = some x) (hw : (DataW.weights Try.prog 25 x.1).all (· ≤ reachBytes) = true) : ∃ B, BoolsAt W v B := by
  rcases open_bools Try.underlying25 Try.underlying4 cells_bool h with ⟨hcs, hx⟩ | ⟨a, len, cap, B, hcs, _, hl, hm, hx, hcell⟩
  · simp at hcs
    subst hcs
    exact ⟨[], none, 0, rfl, by simp, by simp, Or.inl rfl⟩
  · simp at hcs
    subst hcs
    subst hx
    simp only [boolRow, DataW.weights, Try.underlying25, bytes_bool, List.all_cons, Bool.and_eq_true, decide_eq_true_eq, List.length_map, List.length_range] at hw
    have hr2 := reach_is
    have hlen : ((List.range len).map B).length = len := by simp
    refine ⟨(List.range len).map B, some a, cap, by rw [hlen], by omega, by omega, ?_⟩
    by_cases h0 : len = 0
    · left; simp [h0]
    · right
      obtain ⟨b, off, spot⟩ := a
      have hc := hcell 0 (by omega)
      have hspot : spot = none := by simpa [Addr.add] using World.cell?_spot hc
      subst hspot
      refine ⟨b, off, rfl, fun k hk => ?_⟩
      rw [hlen] at hk
      have hc2 := hcell k (by omega)
      rw [show (⟨b, off, none⟩ : Addr).add k = ⟨b, off + k, none⟩ by unfold Addr.add; split <;> simp_all] at hc2
      rw [hc2, List.getD_eq_getElem?_getD, List.getElem?_map, List.getElem?_range hk]
      rfl
theorem letters_of_trod (h : DataW.trod enc Try.prog W 0 (fun _ => true) true fuel 28 [v] = some x) (hw : (DataW.weights Try.prog 28 x.1).all (· ≤ reachBytes) = true) : ∃ U, LettersAt W v U := by
  rcases open_ints Try.underlying28 Try.underlying55 cells_u16 h with ⟨hcs, hx⟩ | ⟨a, len, cap, zs, hcs, _, hl, hm, hz, hx, hcell, hwz⟩
  · simp at hcs
    subst hcs
    exact ⟨[], none, 0, rfl, by simp, by simp, Or.inl rfl⟩
  · simp at hcs
    subst hcs
    subst hx
    have hz' : zs.length = cap := by simpa using hz
    have hr : cap * 2 ≤ reachBytes := by
      simp only [DataW.weights, Try.underlying28, bytes_u16, List.all_cons, Bool.and_eq_true, decide_eq_true_eq] at hw
      have := hw.1
      rw [show (lits (H := H) .u16 (zs.take len)).length = len by simp [lits]; omega, show (lits (H := H) .u16 (zs.drop len)).length = zs.length - len by simp [lits]] at this
      omega
    have hr2 := reach_is
    have hget : ∀ k, k < len → ((zs.take len).map Int.toNat).getD k 0 = (zs.getD k 0).toNat ∧ 0 ≤ zs.getD k 0 ∧ zs.getD k 0 ≤ 65535 := fun k hk => by
      have hkz : k < zs.length := by omega
      refine ⟨by simp [List.getD_eq_getElem?_getD, hk, hkz], ?_⟩
      have : zs.getD k 0 ∈ zs := by
        rw [show zs.getD k 0 = zs[k]'hkz by simp [List.getD_eq_getElem?_getD, hkz]]
        exact List.getElem_mem _
      exact wf_u16r (hwz _ this)
    have hlen : ((zs.take len).map Int.toNat).length = len := by simp; omega
    refine ⟨(zs.take len).map Int.toNat, some a, cap, by rw [hlen], ?_, by omega, ?_⟩
    · intro k hk
      rw [hlen] at hk
      obtain ⟨h1, h2, h3⟩ := hget k hk
      rw [h1]; omega
    · by_cases h0 : len = 0
      · left; exact List.eq_nil_of_length_eq_zero (by omega)
      · right
        obtain ⟨b, off, spot⟩ := a
        have hc := hcell 0 (by omega)
        have hspot : spot = none := by simpa [Addr.add] using World.cell?_spot hc
        subst hspot
        refine ⟨b, off, rfl, fun k hk => ?_⟩
        rw [hlen] at hk
        obtain ⟨h1, h2, h3⟩ := hget k hk
        rw [h1, Int.toNat_of_nonneg h2]
        have := hcell k (by omega)
        rwa [show (⟨b, off, none⟩ : Addr).add k = ⟨b, off + k, none⟩ by unfold Addr.add; split <;> simp_all] at this
end

/-- A DFA as it came in. -/
theorem cells_dfa : Try.prog.cellsOf 27 = 3 := by kernel_rfl
theorem dfa_of_trod {H : Type} {enc : TypeId × Value → H} {W : World} {r : Reach} {b0 : Nat} {v : Value} {d : DataW H} {p : List MemPlace} (hv : Value.okWide Try.prog W r b0 27 v)
    (h : DataW.Trod enc Try.prog W 0 (fun _ => true) true 27 v d p) (hw : (DataW.weights Try.prog 27 d).all (· ≤ reachBytes) = true) : ∃ vp vn vl D, v = .agg #[vp, vn, vl] ∧ DfaAt W vp vn vl D ∧ Short D.P := by
  obtain ⟨c0, c1, c2, y0, y1, y2, m, rfl, rfl, rfl, hy0, hy1, hy2⟩ := open_agg3 Try.underlying27 (by kernel_rfl) cells_dfa hv h
  simp only [DataW.weights, Try.underlying27, DataW.weightsEach, List.all_append, Bool.and_eq_true, List.map_cons, List.map_nil] at hw
  obtain ⟨P, hP, hs⟩ := texts_of_trod hy0 hw.1
  obtain ⟨R, hR⟩ := rows_of_trod hy1 hw.2.1
  obtain ⟨B, hB⟩ := bools_of_trod hy2 hw.2.2.1
  exact ⟨c0, c1, c2, ⟨P, R, B⟩, rfl, ⟨hP, hR, hB⟩, hs⟩
end Go.Proofs.Ytcdepblajobemaa
namespace Go.Proofs.Ytcdepblajobemaa
open Go.ChangeShapes Go.WideShapes Go.ChangeAt Go.RowKit Go.Joins Go.Deep

theorem cells_edge : Try.prog.cellsOf 61 = 4 := by kernel_rfl
theorem bytes_edge : 8 ≤ Try.prog.bytesOf 61 := of_decide_eq_true (by kernel_rfl)
theorem cells_buchi : Try.prog.cellsOf 47 = 5 := by kernel_rfl
section
variable {H : Type} {enc : TypeId × Value → H} {W : World} {fuel : Nat} {v : Value} {x : DataW H × List MemPlace}
theorem edges_of_trod (h : DataW.trod enc Try.prog W 0 (fun _ => true) true fuel 45 [v] = some x) (hw : (DataW.weights Try.prog 45 x.1).all (· ≤ reachBytes) = true) : ∃ E, EdgesAt W v E := by
  rcases open_slice Try.underlying45 h with ⟨hcs, hx⟩ | ⟨a, len, cap, m, n, D, Pl, hcs, _, hl, hm, hmm, hx, hel⟩
  · simp at hcs
    subst hcs
    exact ⟨[], none, 0, rfl, by simp, by simp, by simp, Or.inl rfl⟩
  · simp at hcs
    subst hcs
    subst hx
    simp only [if_true] at hmm
    subst hmm
    simp only [DataW.weights, Try.underlying45, List.all_cons, List.all_append, Bool.and_eq_true, decide_eq_true_eq, List.length_map, List.length_range] at hw
    have hr2 := reach_is
    have hbe := bytes_edge
    have hlen : len ≤ 17592186043904 := by
      have h1 := hw.1
      have h2 : len * 8 ≤ (len + (m - len)) * Try.prog.bytesOf 61 := Nat.mul_le_mul (by omega) hbe
      omega
    have each : ∀ i, i < len → ∃ q : Edg, edgeOk q ∧ W.cell? (a.add (i * 4)) = some (.int .i64 q.fr) ∧ W.cell? ((a.add (i * 4)).add 1) = some (.int .i64 q.tt) ∧ W.cell? ((a.add (i * 4)).add 2) = some (.int .u16 (q.mu : Int)) ∧ W.cell? ((a.add (i * 4)).add 3) = some (.int .u16 (q.no : Int)) := by
      intro i hi
      obtain ⟨cs', h1, h2⟩ := hel i (by omega)
      rw [cells_edge] at h1
      obtain ⟨_, hcl, hcell⟩ := World.cells?_some h1
      obtain ⟨y0, y1, y2, y3, k, -, -, g0, g1, g2, g3⟩ := trod_struct4 Try.underlying61 h2
      match cs', hcl with
      | [c0, c1, c2, c3], _ =>
        obtain ⟨n0, e0, -, w0⟩ := DataW.trod_int Try.underlying3 g0
        obtain ⟨n1, e1, -, w1⟩ := DataW.trod_int Try.underlying3 g1
        obtain ⟨n2, e2, -, w2⟩ := DataW.trod_int Try.underlying55 g2
        obtain ⟨n3, e3, -, w3⟩ := DataW.trod_int Try.underlying55 g3
        have f0 : c0 = .int .i64 n0 := by simpa [cells3] using e0
        have f1 : c1 = .int .i64 n1 := by simpa [cells3] using e1
        have f2 : c2 = .int .u16 n2 := by simpa [cells_u16] using e2
        have f3 : c3 = .int .u16 n3 := by simpa [cells_u16] using e3
        have r2 := wf_u16r w2
        have r3 := wf_u16r w3
        refine ⟨⟨n0, n1, n2.toNat, n3.toNat⟩, ⟨wf_range w0, wf_range w1, by show n2.toNat ≤ 65535; omega, by show n3.toNat ≤ 65535; omega⟩, ?_, ?_, ?_, ?_⟩
        · have := hcell 0 (by omega)
          rw [← f0]
          rw [add_add, Nat.add_zero] at this
          simpa using this
        · have := hcell 1 (by omega)
          rw [← f1]
          simpa using this
        · have := hcell 2 (by omega)
          rw [show ((n2.toNat : Nat) : Int) = n2 by omega, ← f2]
          simpa using this
        · have := hcell 3 (by omega)
          rw [show ((n3.toNat : Nat) : Int) = n3 by omega, ← f3]
          simpa using this
    haveI : Inhabited Edg := ⟨edg0⟩
    obtain ⟨F, hF⟩ := choose_lt (α := Edg) each
    have hR : ((List.range len).map F).length = len := by simp
    have hget : ∀ k, k < len → ((List.range len).map F).getD k edg0 = F k := fun k hk => by simp [List.getD_eq_getElem?_getD, hk]
    refine ⟨(List.range len).map F, some a, m, by rw [hR], by omega, fun k hk => ?_, by omega, ?_⟩
    · rw [hR] at hk
      rw [hget k hk]
      exact (hF k hk).1
    by_cases h0 : len = 0
    · left; simp [h0]
    · right
      obtain ⟨b, off, spot⟩ := a
      have hc := (hF 0 (by omega)).2.1
      have hspot : spot = none := by simpa [Addr.add] using World.cell?_spot hc
      subst hspot
      refine ⟨b, off, rfl, fun k hk => ?_⟩
      rw [hR] at hk
      rw [hget k hk]
      obtain ⟨-, q0, q1, q2, q3⟩ := hF k hk
      have ea : ∀ j, (⟨b, off, none⟩ : Addr).add j = ⟨b, off + j, none⟩ := fun j => by unfold Addr.add; split <;> simp_all
      have eb : ∀ o j, (⟨b, o, none⟩ : Addr).add j = ⟨b, o + j, none⟩ := fun o j => by unfold Addr.add; split <;> simp_all
      rw [ea] at q0 q1 q2 q3
      rw [eb] at q1 q2 q3
      exact ⟨q0, q1, q2, q3⟩
end
theorem array5 {α : Type} {cs : Array α} (h : cs.size = 5) : ∃ c0 c1 c2 c3 c4, cs = #[c0, c1, c2, c3, c4] := by
  obtain ⟨l⟩ := cs
  match l, h with
  | [c0, c1, c2, c3, c4], _ => exact ⟨c0, c1, c2, c3, c4, rfl⟩
theorem trod_struct5 {H : Type} {enc : TypeId × Value → H} {P : Program} {w : World} {base : Nat} {spare : Nat → Bool} {held : Bool} {t : TypeId} {f0 f1 f2 f3 f4 : Field} {fuel : Nat} {cs : List Value} {x : DataW H × List MemPlace} (ht : P.underlying t = some (.struct #[f0, f1, f2, f3, f4])) (h : DataW.trod enc P w base spare held fuel t cs = some x) :
    ∃ y0 y1 y2 y3 y4 n, x.1 = .agg [y0.1, y1.1, y2.1, y3.1, y4.1] ∧ DataW.trod enc P w base spare held n f0.type ((cs.drop f0.offset).take (P.cellsOf f0.type)) = some y0 ∧
      DataW.trod enc P w base spare held n f1.type ((cs.drop f1.offset).take (P.cellsOf f1.type)) = some y1 ∧ DataW.trod enc P w base spare held n f2.type ((cs.drop f2.offset).take (P.cellsOf f2.type)) = some y2 ∧
      DataW.trod enc P w base spare held n f3.type ((cs.drop f3.offset).take (P.cellsOf f3.type)) = some y3 ∧ DataW.trod enc P w base spare held n f4.type ((cs.drop f4.offset).take (P.cellsOf f4.type)) = some y4 := by
  obtain ⟨xs, n, _, rfl, hl, hlen, hf⟩ := DataW.trod_struct ht h
  match xs, hlen with
  | [y0, y1, y2, y3, y4], _ => exact ⟨y0, y1, y2, y3, y4, n, by simp, by simpa using hf 0 f0 rfl, by simpa using hf 1 f1 rfl, by simpa using hf 2 f2 rfl, by simpa using hf 3 f3 rfl, by simpa using hf 4 f4 rfl⟩
theorem aut_of_trod {H : Type} {enc : TypeId × Value → H} {W : World} {r : Reach} {b0 : Nat} {v : Value} {d : DataW H} {p : List MemPlace} (hv : Value.okWide Try.prog W r b0 47 v)
    (h : DataW.Trod enc Try.prog W 0 (fun _ => true) true 47 v d p) (hw : (DataW.weights Try.prog 47 d).all (· ≤ reachBytes) = true) : ∃ vp vi ve vf a, v = autV vp vi ve vf a.n ∧ AutAt W vp vi ve vf a ∧ Short a.P ∧ (-9223372036854775808 ≤ a.n ∧ a.n ≤ 9223372036854775807) := by
  obtain ⟨cs, rfl, hsz⟩ := okWide_struct Try.underlying47 hv
  obtain ⟨c0, c1, c2, c3, c4, rfl⟩ := array5 (hsz.trans cells_buchi)
  obtain ⟨fuel, hf⟩ := h
  obtain ⟨y0, y1, y2, y3, y4, n, hx, h0, h1, h2, h3, h4⟩ := trod_struct5 Try.underlying47 hf
  have hx : d = _ := hx
  subst hx
  simp only [DataW.weights, Try.underlying47, DataW.weightsEach, List.all_append, Bool.and_eq_true, List.map_cons, List.map_nil] at hw
  have ce1 : Try.prog.cellsOf 23 = 1 := by kernel_rfl
  have ce2 : Try.prog.cellsOf 45 = 1 := by kernel_rfl
  have h0' : DataW.trod enc Try.prog W 0 (fun _ => true) true n 23 [c0] = some y0 := by simpa [Value.cells, ce1] using h0
  have h1' : DataW.trod enc Try.prog W 0 (fun _ => true) true n 3 [c1] = some y1 := by simpa [Value.cells, cells3] using h1
  have h2' : DataW.trod enc Try.prog W 0 (fun _ => true) true n 43 [c2] = some y2 := by simpa [Value.cells, cells_ints] using h2
  have h3' : DataW.trod enc Try.prog W 0 (fun _ => true) true n 45 [c3] = some y3 := by simpa [Value.cells, ce2] using h3
  have h4' : DataW.trod enc Try.prog W 0 (fun _ => true) true n 43 [c4] = some y4 := by simpa [Value.cells, cells_ints] using h4
  obtain ⟨P, hP, hs⟩ := texts_of_trod h0' hw.1
  obtain ⟨m, hm, -, hwf⟩ := DataW.trod_int Try.underlying3 h1'
  obtain ⟨I, hI⟩ := ints_of_trod h2' hw.2.2.1
  obtain ⟨E, hE⟩ := edges_of_trod h3' hw.2.2.2.1
  obtain ⟨F, hF⟩ := ints_of_trod h4' hw.2.2.2.2.1
  obtain rfl : c1 = .int .i64 m := by simpa using hm
  exact ⟨c0, c2, c3, c4, ⟨P, m, I, E, F⟩, rfl, ⟨hP, hI, hE, hF⟩, hs, wf_range hwf⟩
end Go.Proofs.Ytcdepblajobemaa
