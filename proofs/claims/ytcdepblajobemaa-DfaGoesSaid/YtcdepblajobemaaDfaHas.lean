/- Dfa: is a row a prefix? -/
import Derived.Test.YtcdepblajobemaaDfaRun
set_option maxRecDepth 100000
namespace Go.Proofs.Ytcdepblajobemaa
open Go.RowKit

theorem fold_lt {d : Dfa} (h : Right d) : ∀ (U : List Nat) (o : Option Nat), (∀ s, o = some s → s < d.R.length) → ∀ t, U.foldl (stepD d) o = some t → t < d.R.length
  | [], o, ho, t, ht => ho t ht
  | l :: U, o, ho, t, ht => by
    refine fold_lt h U (stepD d o l) ?_ t ht
    intro s hs
    cases o with
    | none => cases hs
    | some s0 =>
      unfold stepD at hs
      simp only at hs
      split at hs
      · rename_i hl
        obtain ⟨t2, h2, h3⟩ := h.num s0 (ho s0 rfl) l hl
        rw [h3] at hs
        cases hs
        exact h2
      · cases hs
theorem run_lt {d : Dfa} {U : List Nat} (h : runC d U = 0) : runS d U < d.B.length := by
  unfold runC at h
  split at h
  · rename_i h0
    have hr := right_of h0
    split at h
    · rename_i hs
      obtain ⟨t, ht⟩ := Option.isSome_iff_exists.1 hs
      have := fold_lt hr U (some 0) (fun s e => by cases e; exact Nat.pos_of_ne_zero hr.pos) t ht
      unfold runS
      rw [if_pos h0, ht, hr.len]
      exact this
    · cases h
  · cases h
/-- What Has tells. -/
def hasV (d : Dfa) (U : List Nat) : Bool := if runC d U = 0 then d.B.getD (runS d U) false else false
set_option maxHeartbeats 1000000 in
theorem dhas_any (vp vn vl vu : Value) (d : Dfa) (U : List Nat) (w : World) (h : DfaAt w vp vn vl d) (hU : LettersAt w vu U) :
    Calls Try.prog 13 #[.agg #[vp, vn, vl], vu] w fun e w' => e = .returned (.tuple #[.bool (hasV d U), .int .i64 (runC d U)]) ∧ w.grownBy w' none := by
  have hb0 := World.grownBy_alloc w (.cells #[vp, vn, vl] 27) none
  have HB0 := Lib.hid hb0
  have HC := Lib.hid (drun_any vp vn vl vu d U _ (h.kept hb0) (hU.kept hb0))
  have HD := Lib.hid h.b
  have k2 := cell3_2 w vp vn vl 27
  have HL := Lib.hid (@run_lt d U)
  obtain ⟨ap, cp, rfl, _⟩ := h.p
  obtain ⟨an, cn, rfl, _⟩ := h.r
  obtain ⟨al, cl, rfl, _⟩ := h.b
  obtain ⟨au, cu, rfl, _⟩ := hU
  have HV : Hid (hasV d U = if runC d U = 0 then d.B.getD (runS d U) false else false) := Lib.hid rfl
  clear h hb0
  generalize hasV d U = r at HV ⊢
  generalize runC d U = c at HV HC HL ⊢
  generalize runS d U = s at HV HC HL
  by_cases hc : c = 0
  · subst hc
    have hs := HL.out rfl
    have HV2 : Hid (r = d.B.getD s false) := Lib.hid (by rw [HV.out, if_pos rfl])
    have hsI : (s : Int) < (d.B.length : Int) := by omega
    obtain ⟨_, _, e1, _, _, hb3⟩ := HD.out
    cases e1
    rcases hb3 with hb3 | ⟨bl, offl, rfl, hb3⟩
    · rw [hb3] at hs; exact absurd hs (by simp)
    have cs := hb3 s hs
    have cs1 := (HB0.out).cell cs (by simp)
    rw [← HV2.out] at cs cs1
    clear hb3 HV HV2 HL
    go_enter Try.func13, Try.ntmps13
    go_wp2_with (go_at_call 12; refine HC.out.mono ?_; rintro e w1 ⟨rfl, hg1⟩; have c2 := hg1.cell k2 (by simp); have cs2 := hg1.cell cs1 (by simp))
    go_ret2
    exact ⟨rfl, gb_trans HB0.out hg1 (Or.inl rfl)⟩
  · have HV2 : Hid (r = false) := Lib.hid (by rw [HV.out, if_neg hc])
    have hcb : (c == 0) = false := by rw [beq_eq_false_iff_ne]; exact hc
    clear HV HL hc
    go_enter Try.func13, Try.ntmps13
    go_wp2_with (go_at_call 12; refine HC.out.mono ?_; rintro e w1 ⟨rfl, hg1⟩; have c2 := hg1.cell k2 (by simp))
    go_ret2
    exact ⟨by rw [HV2.out]; rfl, gb_trans HB0.out hg1 (Or.inl rfl)⟩
end Go.Proofs.Ytcdepblajobemaa
