/- Dfa: an automaton that came in, read. -/
import Derived.Test.YtcdepblajobemaaDfaReads
set_option maxRecDepth 100000
namespace Go.Proofs.Ytcdepblajobemaa
open Go.ChangeShapes Go.WideShapes Go.ChangeAt Go.RowKit Go.Joins Go.Deep

theorem cells_edge : Try.prog.cellsOf 61 = 4 := by kernel_rfl
theorem bytes_edge : 8 ≤ Try.prog.bytesOf 61 := of_decide_eq_true (by kernel_rfl)
theorem cells_buchi : Try.prog.cellsOf 47 = 5 := by kernel_rfl
section
variable {H : Type} {enc : TypeId × Value → H} {W : World} {fuel : Nat} {v : Value} {x : DataW H × List MemPlace}
theorem edges_of_trod (h : DataW.trod enc Try.prog W 0 (fun _ => true) true fuel 45 [v] = some x) (hw : (DataW.weights Try.prog 45 x.1).all (· ≤ reachBytes) = true) : ∃ E, EdgesAt W v E := by
  rcases open_slice Try.underlying45 h with ⟨hcs, hx⟩ | ⟨a, len, cap, m, n, D, Pl, hcs, _, hl, hm, hmm, hx, hel⟩
  · simp at hcs
    subst hcs
    exact ⟨[], none, 0, rfl, by simp, by simp, by simp, Or.inl rfl⟩
  · simp at hcs
    subst hcs
    subst hx
    simp only [if_true] at hmm
    subst hmm
    simp only [DataW.weights, Try.underlying45, List.all_cons, List.all_append, Bool.and_eq_true, decide_eq_true_eq, List.length_map, List.length_range] at hw
    have hr2 := reach_is
    have hbe := bytes_edge
    have hlen : len ≤ 17592186043904 := by
      have h1 := hw.1
      have h2 : len * 8 ≤ (len + (m - len)) * Try.prog.bytesOf 61 := Nat.mul_le_mul (by omega) hbe
      omega
    have each : ∀ i, i < len → ∃ q : Edg, edgeOk q ∧ W.cell? (a.add (i * 4)) = some (.int .i64 q.fr) ∧ W.cell? ((a.add (i * 4)).add 1) = some (.int .i64 q.tt) ∧ W.cell? ((a.add (i * 4)).add 2) = some (.int .u16 (q.mu : Int)) ∧ W.cell? ((a.add (i * 4)).add 3) = some (.int .u16 (q.no : Int)) := by
      intro i hi
      obtain ⟨cs', h1, h2⟩ := hel i (by omega)
      rw [cells_edge] at h1
      obtain ⟨_, hcl, hcell⟩ := World.cells?_some h1
      obtain ⟨y0, y1, y2, y3, k, -, -, g0, g1, g2, g3⟩ := trod_struct4 Try.underlying61 h2
      match cs', hcl with
      | [c0, c1, c2, c3], _ =>
        obtain ⟨n0, e0, -, w0⟩ := DataW.trod_int Try.underlying3 g0
        obtain ⟨n1, e1, -, w1⟩ := DataW.trod_int Try.underlying3 g1
        obtain ⟨n2, e2, -, w2⟩ := DataW.trod_int Try.underlying55 g2
        obtain ⟨n3, e3, -, w3⟩ := DataW.trod_int Try.underlying55 g3
        have f0 : c0 = .int .i64 n0 := by simpa [cells3] using e0
        have f1 : c1 = .int .i64 n1 := by simpa [cells3] using e1
        have f2 : c2 = .int .u16 n2 := by simpa [cells_u16] using e2
        have f3 : c3 = .int .u16 n3 := by simpa [cells_u16] using e3
        have r2 := wf_u16r w2
        have r3 := wf_u16r w3
        refine ⟨⟨n0, n1, n2.toNat, n3.toNat⟩, ⟨wf_range w0, wf_range w1, by show n2.toNat ≤ 65535; omega, by show n3.toNat ≤ 65535; omega⟩, ?_, ?_, ?_, ?_⟩
        · have := hcell 0 (by omega)
          rw [← f0]
          rw [add_add, Nat.add_zero] at this
          simpa using this
        · have := hcell 1 (by omega)
          rw [← f1]
          simpa using this
        · have := hcell 2 (by omega)
          rw [show ((n2.toNat : Nat) : Int) = n2 by omega, ← f2]
          simpa using this
        · have := hcell 3 (by omega)
          rw [show ((n3.toNat : Nat) : Int) = n3 by omega, ← f3]
          simpa using this
    haveI : Inhabited Edg := ⟨edg0⟩
    obtain ⟨F, hF⟩ := choose_lt (α := Edg) each
    have hR : ((List.range len).map F).length = len := by simp
    have hget : ∀ k, k < len → ((List.range len).map F).getD k edg0 = F k := fun k hk => by simp [List.getD_eq_getElem?_getD, hk]
    refine ⟨(List.range len).map F, some a, m, by rw [hR], by omega, fun k hk => ?_, by omega, ?_⟩
    · rw [hR] at hk
      rw [hget k hk]
      exact (hF k hk).1
    by_cases h0 : len = 0
    · left; simp [h0]
    · right
      obtain ⟨b, off, spot⟩ := a
      have hc := (hF 0 (by omega)).2.1
      have hspot : spot = none := by simpa [Addr.add] using World.cell?_spot hc
      subst hspot
      refine ⟨b, off, rfl, fun k hk => ?_⟩
      rw [hR] at hk
      rw [hget k hk]
      obtain ⟨-, q0, q1, q2, q3⟩ := hF k hk
      have ea : ∀ j, (⟨b, off, none⟩ : Addr).add j = ⟨b, off + j, none⟩ := fun j => by unfold Addr.add; split <;> simp_all
      have eb : ∀ o j, (⟨b, o, none⟩ : Addr).add j = ⟨b, o + j, none⟩ := fun o j => by unfold Addr.add; split <;> simp_all
      rw [ea] at q0 q1 q2 q3
      rw [eb] at q1 q2 q3
      exact ⟨q0, q1, q2, q3⟩
end
theorem array5 {α : Type} {cs : Array α} (h : cs.size = 5) : ∃ c0 c1 c2 c3 c4, cs = #[c0, c1, c2, c3, c4] := by
  obtain ⟨l⟩ := cs
  match l, h with
  | [c0, c1, c2, c3, c4], _ => exact ⟨c0, c1, c2, c3, c4, rfl⟩
theorem trod_struct5 {H : Type} {enc : TypeId × Value → H} {P : Program} {w : World} {base : Nat} {spare : Nat → Bool} {held : Bool} {t : TypeId} {f0 f1 f2 f3 f4 : Field} {fuel : Nat} {cs : List Value} {x : DataW H × List MemPlace} (ht : P.underlying t = some (.struct #[f0, f1, f2, f3, f4])) (h : DataW.trod enc P w base spare held fuel t cs = some x) :
    ∃ y0 y1 y2 y3 y4 n, x.1 = .agg [y0.1, y1.1, y2.1, y3.1, y4.1] ∧ DataW.trod enc P w base spare held n f0.type ((cs.drop f0.offset).take (P.cellsOf f0.type)) = some y0 ∧
      DataW.trod enc P w base spare held n f1.type ((cs.drop f1.offset).take (P.cellsOf f1.type)) = some y1 ∧ DataW.trod enc P w base spare held n f2.type ((cs.drop f2.offset).take (P.cellsOf f2.type)) = some y2 ∧
      DataW.trod enc P w base spare held n f3.type ((cs.drop f3.offset).take (P.cellsOf f3.type)) = some y3 ∧ DataW.trod enc P w base spare held n f4.type ((cs.drop f4.offset).take (P.cellsOf f4.type)) = some y4 := by
  obtain ⟨xs, n, _, rfl, hl, hlen, hf⟩ := DataW.trod_struct ht h
  match xs, hlen with
  | [y0, y1, y2, y3, y4], _ => exact ⟨y0, y1, y2, y3, y4, n, by simp, by simpa using hf 0 f0 rfl, by simpa using hf 1 f1 rfl, by simpa using hf 2 f2 rfl, by simpa using hf 3 f3 rfl, by simpa using hf 4 f4 rfl⟩
theorem aut_of_trod {H : Type} {enc : TypeId × Value → H} {W : World} {r : Reach} {b0 : Nat} {v : Value} {d : DataW H} {p : List MemPlace} (hv : Value.okWide Try.prog W r b0 47 v)
    (h : DataW.Trod enc Try.prog W 0 (fun _ => true) true 47 v d p) (hw : (DataW.weights Try.prog 47 d).all (· ≤ reachBytes) = true) : ∃ vp vi ve vf a, v = autV vp vi ve vf a.n ∧ AutAt W vp vi ve vf a ∧ Short a.P ∧ (-9223372036854775808 ≤ a.n ∧ a.n ≤ 9223372036854775807) := by
  obtain ⟨cs, rfl, hsz⟩ := okWide_struct Try.underlying47 hv
  obtain ⟨c0, c1, c2, c3, c4, rfl⟩ := array5 (hsz.trans cells_buchi)
  obtain ⟨fuel, hf⟩ := h
  obtain ⟨y0, y1, y2, y3, y4, n, hx, h0, h1, h2, h3, h4⟩ := trod_struct5 Try.underlying47 hf
  have hx : d = _ := hx
  subst hx
  simp only [DataW.weights, Try.underlying47, DataW.weightsEach, List.all_append, Bool.and_eq_true, List.map_cons, List.map_nil] at hw
  have ce1 : Try.prog.cellsOf 23 = 1 := by kernel_rfl
  have ce2 : Try.prog.cellsOf 45 = 1 := by kernel_rfl
  have h0' : DataW.trod enc Try.prog W 0 (fun _ => true) true n 23 [c0] = some y0 := by simpa [Value.cells, ce1] using h0
  have h1' : DataW.trod enc Try.prog W 0 (fun _ => true) true n 3 [c1] = some y1 := by simpa [Value.cells, cells3] using h1
  have h2' : DataW.trod enc Try.prog W 0 (fun _ => true) true n 43 [c2] = some y2 := by simpa [Value.cells, cells_ints] using h2
  have h3' : DataW.trod enc Try.prog W 0 (fun _ => true) true n 45 [c3] = some y3 := by simpa [Value.cells, ce2] using h3
  have h4' : DataW.trod enc Try.prog W 0 (fun _ => true) true n 43 [c4] = some y4 := by simpa [Value.cells, cells_ints] using h4
  obtain ⟨P, hP, hs⟩ := texts_of_trod h0' hw.1
  obtain ⟨m, hm, -, hwf⟩ := DataW.trod_int Try.underlying3 h1'
  obtain ⟨I, hI⟩ := ints_of_trod h2' hw.2.2.1
  obtain ⟨E, hE⟩ := edges_of_trod h3' hw.2.2.2.1
  obtain ⟨F, hF⟩ := ints_of_trod h4' hw.2.2.2.2.1
  obtain rfl : c1 = .int .i64 m := by simpa using hm
  exact ⟨c0, c2, c3, c4, ⟨P, m, I, E, F⟩, rfl, ⟨hP, hI, hE, hF⟩, hs, wf_range hwf⟩
end Go.Proofs.Ytcdepblajobemaa
