/- Dfa: the law of Run, Has, Check. -/
import Derived.Test.YtcdepblajobemaaDfaRunsF
import Derived.Test.YtcdepblajobemaaDfaKnown
import Derived.Test.YtcdepblajobemaaDfaReads
import Derived.Outline
set_option maxRecDepth 100000
namespace Go.Proofs.Ytcdepblajobemaa
open Go.RowKit

theorem sumN_mem : ∀ (l : List Nat) (a : Nat), ∀ x ∈ l, a + x ≤ l.foldl (fun n s => n + (1 + s)) a
  | [], _, _, h => by cases h
  | y :: l, a, x, h => by
    rcases List.mem_cons.1 h with rfl | h
    · have := sumN_ge l (a + (1 + x))
      simp only [List.foldl_cons]
      omega
    · have := sumN_mem l (a + (1 + y)) x h
      simp only [List.foldl_cons]
      omega
theorem few_of {d : Dfa} (h1 : capN (sizes d.P) ≤ 10000) (h2 : capN (lens d.R) ≤ 100000) (h3 : d.B.length ≤ 100000) : Few d := by
  have e1 := capN_sum (l := sizes d.P) (by omega)
  have e2 := capN_sum (l := lens d.R) (by omega)
  have l1 := sumN_len (sizes d.P)
  have l2 := sumN_len (lens d.R)
  rw [show (sizes d.P).length = d.P.length by simp [sizes]] at l1
  rw [show (lens d.R).length = d.R.length by simp [lens]] at l2
  refine ⟨by omega, by omega, fun i hi => ?_, by omega⟩
  have h := sumN_mem (lens d.R) 0 (d.R.getD i []).length (by
    unfold lens
    refine List.mem_map.2 ⟨d.R.getD i [], ?_, rfl⟩
    rw [List.getD_eq_getElem?_getD, List.getElem?_eq_getElem hi]
    exact List.getElem_mem _)
  unfold sumN at e2
  omega
set_option maxHeartbeats 4000000 in
theorem runs_big (vp vn vl vu : Value) (d : Dfa) (U : List Nat) (w : World) (h : DfaAt w vp vn vl d) (hs : Short d.P) (hU : LettersAt w vu U) (hb : 10000 < capN (sizes d.P) ∨ 100000 < capN (lens d.R) ∨ 100000 < d.B.length ∨ 10000 < U.length) :
    Calls Try.prog 4 #[.agg #[vp, vn, vl], vu] w fun e w' => e = .returned (.bool true) ∧ w.grownBy w' none := by
  have hg0 := World.grownBy_alloc w (.cells #[vp, vn, vl] 27) none
  have HG0 := Lib.hid hg0
  have HT := Lib.hid (oftexts_any (h.p.kept hg0) hs)
  have HR := Lib.hid (ofrows_any (h.r.kept hg0))
  have k0 := cell3_0 w vp vn vl 27
  have k1 := cell3_1 w vp vn vl 27
  have k2 := cell3_2 w vp vn vl 27
  have h1 := short_le hs
  have h2 := rows_le h.r
  obtain ⟨ap, cp, rfl, -⟩ := h.p
  obtain ⟨an, cn, rfl, -⟩ := h.r
  obtain ⟨al, cl, rfl, -, hbl, -⟩ := h.b
  obtain ⟨au, cu, rfl, -, hul, -⟩ := hU
  clear h hg0 hs
  generalize capN (sizes d.P) = x at HT hb h1
  generalize capN (lens d.R) = y at HR hb h2
  by_cases c1 : 10000 < x
  · clear hb
    go_enter Try.func4, Try.ntmps4
    go_wp2_with (first | (go_at_call 8; refine HT.out.mono ?_; rintro e w1 ⟨rfl, _, rfl⟩) | (go_at_call 9; refine HR.out.mono ?_; rintro e w1 ⟨rfl, _, rfl⟩))
    go_ret
    exact ⟨rfl, HG0.out⟩
  by_cases c2 : 100000 < y
  · clear hb
    go_enter Try.func4, Try.ntmps4
    go_wp2_with (first | (go_at_call 8; refine HT.out.mono ?_; rintro e w1 ⟨rfl, _, rfl⟩) | (go_at_call 9; refine HR.out.mono ?_; rintro e w1 ⟨rfl, _, rfl⟩))
    go_ret
    exact ⟨rfl, HG0.out⟩
  by_cases c3 : 100000 < d.B.length
  · clear hb
    go_enter Try.func4, Try.ntmps4
    go_wp2_with (first | (go_at_call 8; refine HT.out.mono ?_; rintro e w1 ⟨rfl, _, rfl⟩) | (go_at_call 9; refine HR.out.mono ?_; rintro e w1 ⟨rfl, _, rfl⟩))
    go_ret
    exact ⟨rfl, HG0.out⟩
  have c4 : 10000 < U.length := by omega
  clear hb
  go_enter Try.func4, Try.ntmps4
  go_wp2_with (first | (go_at_call 8; refine HT.out.mono ?_; rintro e w1 ⟨rfl, _, rfl⟩) | (go_at_call 9; refine HR.out.mono ?_; rintro e w1 ⟨rfl, _, rfl⟩))
  go_ret
  exact ⟨rfl, HG0.out⟩
end Go.Proofs.Ytcdepblajobemaa
