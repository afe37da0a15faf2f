/- Lex: slices of whole numbers, read. -/
import Derived.Test.YtlmpeddacadfkaaLexOwn
namespace Go.Proofs.Ytlmpeddacadfkaa
open Go.ChangeShapes Go.WideShapes Go.ChangeAt Go.RowKit Go.Joins

/-- A slice of whole numbers that came in. -/
def IntsAt (w : World) (v : Value) (A : List Int) : Prop :=
  ∃ a cap, v = .slice a A.length cap ∧ (∀ k, k < A.length → -9223372036854775808 ≤ A.getD k 0 ∧ A.getD k 0 ≤ 9223372036854775807) ∧ (A.length ≤ 17592186043904) ∧
    (A = [] ∨ ∃ b off, a = some ⟨b, off, none⟩ ∧ b < w.heap.size ∧ ∀ k, k < A.length → w.cell? ⟨b, off + k, none⟩ = some (.int .i64 (A.getD k 0)))
theorem cell_lt {w : World} {b o : Nat} {v : Value} (h : w.cell? ⟨b, o, none⟩ = some v) : b < w.heap.size := by
  unfold World.cell? at h
  by_cases hb : b < w.heap.size
  · exact hb
  · simp [hb] at h
theorem cells3 : Try.prog.cellsOf 3 = 1 := by kernel_rfl
theorem bytes3 : Try.prog.bytesOf 3 = 8 := by kernel_rfl

theorem wf_range {x : Int} (h : (Lit.int .i64 x).wf = true) : -9223372036854775808 ≤ x ∧ x ≤ 9223372036854775807 := bounds_i64 h

/-- A slice of whole numbers, read, its bytes within the reach. -/
theorem ints_of_trod {H : Type} {enc : TypeId × Value → H} {W : World} {fuel : Nat} {v : Value} {x : DataW H × List MemPlace}
    (h : DataW.trod enc Try.prog W 0 (fun _ => true) true fuel 56 [v] = some x) (hw : (DataW.weights Try.prog 56 x.1).all (· ≤ reachBytes) = true) : ∃ A, IntsAt W v A := by
  rcases open_ints Try.underlying56 Try.underlying3 cells3 h with ⟨hcs, hx⟩ | ⟨a, len, cap, zs, hcs, _, hl, hm, hz, hx, hcell, hwz⟩
  · simp at hcs
    subst hcs
    exact ⟨[], none, 0, rfl, by simp, by simp, Or.inl rfl⟩
  · simp at hcs
    subst hcs
    subst hx
    have hz' : zs.length = cap := by simpa using hz
    have hr : cap * 8 ≤ reachBytes := by
      simp only [DataW.weights, Try.underlying56, bytes3, List.all_cons, Bool.and_eq_true, decide_eq_true_eq] at hw
      have := hw.1
      rw [show (lits (H := H) .i64 (zs.take len)).length = len by simp [lits]; omega, show (lits (H := H) .i64 (zs.drop len)).length = zs.length - len by simp [lits]] at this
      omega
    have hr2 : reachBytes = 140737488351232 := by decide
    have hlen : (zs.take len).length = len := by simp; omega
    have hget : ∀ k, k < len → (zs.take len).getD k 0 = zs.getD k 0 := fun k hk => by
      simp [List.getD_eq_getElem?_getD, hk]
    refine ⟨zs.take len, some a, cap, by rw [hlen], ?_, by omega, ?_⟩
    · intro k hk
      rw [hlen] at hk
      rw [hget k hk]
      have : zs.getD k 0 ∈ zs := by
        rw [show zs.getD k 0 = zs[k]'(by omega) by simp [List.getD_eq_getElem?_getD, show k < zs.length by omega]]
        exact List.getElem_mem _
      exact wf_range (hwz _ this)
    · by_cases h0 : len = 0
      · left; exact List.eq_nil_of_length_eq_zero (by omega)
      · right
        obtain ⟨b, off, spot⟩ := a
        have hc := hcell 0 (by omega)
        have hspot : spot = none := by simpa [Addr.add] using World.cell?_spot hc
        subst hspot
        refine ⟨b, off, rfl, cell_lt (by rw [show (⟨b, off, none⟩ : Addr).add 0 = ⟨b, off, none⟩ by unfold Addr.add; split <;> simp_all] at hc; exact hc), fun k hk => ?_⟩
        rw [hlen] at hk
        rw [hget k hk]
        have := hcell k (by omega)
        rwa [show (⟨b, off, none⟩ : Addr).add k = ⟨b, off + k, none⟩ by unfold Addr.add; split <;> simp_all] at this
end Go.Proofs.Ytlmpeddacadfkaa
