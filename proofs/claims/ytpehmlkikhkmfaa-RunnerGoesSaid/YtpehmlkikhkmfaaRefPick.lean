/- The document's runner: final; which of n. -/
import Derived.Test.YtpehmlkikhkmfaaRefFinal
namespace Go.Proofs.Ytpehmlkikhkmfaa
open Go.RowKit

theorem RefAt.mach {w w0 : World} {Y q : Nat} {vp vn vo a b c : Value} {vs : List Value} {P : List ByteArray} {R : List (List Int)} {O : List Int} {s : Nat} (h : RefAt w Y q vp vn vo vs P R O s) (hM : MachAt w0 a b c P R O) : MachAt w vp vn vo P R O := by
  obtain ⟨p1, p2⟩ := texts_wf hM.props
  obtain ⟨r1, r2⟩ := rows_wf hM.next
  obtain ⟨o1, o2⟩ := bytes_wf hM.out
  refine ⟨?_, ?_, ?_⟩
  · obtain ⟨av, cv, rfl⟩ := own_val h.props
    by_cases h0 : P.length = 0
    · obtain rfl : P = [] := List.eq_nil_of_length_eq_zero h0
      exact ⟨av, cv, rfl, by simp, p1, p2, Or.inl rfl⟩
    · obtain ⟨g, cap, hv, hc, _⟩ := own_cell h.props 0 (by omega)
      cases hv
      refine ⟨_, _, rfl, hc, p1, p2, Or.inr ⟨g, 0, rfl, fun k hk => ?_⟩⟩
      obtain ⟨g2, cap2, hv, _, hcl⟩ := own_cell h.props k hk
      cases hv
      rw [Nat.zero_add, hcl, map_at sv P ⟨#[]⟩ k hk]; rfl
  · obtain ⟨av, cv, rfl⟩ := own_val h.next
    by_cases h0 : R.length = 0
    · obtain rfl : R = [] := List.eq_nil_of_length_eq_zero h0
      exact ⟨av, cv, rfl, by simp, r1, Or.inl rfl⟩
    · obtain ⟨g, cap, hv, hc, _⟩ := own_cell h.next 0 (by omega)
      cases hv
      refine ⟨_, _, rfl, hc, r1, Or.inr ⟨g, 0, rfl, fun k hk => ?_⟩⟩
      obtain ⟨g2, cap2, hv, _, hcl⟩ := own_cell h.next k hk
      cases hv
      obtain ⟨u, hu, hr⟩ := h.each k hk
      refine ⟨u, by rw [Nat.zero_add, hcl, hu], ?_⟩
      obtain ⟨au, cu, rfl⟩ := own_val hr
      obtain ⟨x1, x2⟩ := r2 k hk
      generalize R.getD k [] = A at hr x1 x2
      by_cases hA : A.length = 0
      · obtain rfl : A = [] := List.eq_nil_of_length_eq_zero hA
        exact ⟨au, cu, rfl, by simp, x2, x1, Or.inl rfl⟩
      · obtain ⟨g3, cap3, hv, hc3, _⟩ := own_cell hr 0 (by omega)
        cases hv
        refine ⟨_, _, rfl, hc3, x2, x1, Or.inr ⟨g3, 0, rfl, fun j hj => ?_⟩⟩
        obtain ⟨g4, cap4, hv, _, hcl4⟩ := own_cell hr j hj
        cases hv
        rw [Nat.zero_add, hcl4, map_at iv A 0 j hj]; rfl
  · obtain ⟨av, cv, rfl⟩ := own_val h.out
    by_cases h0 : O.length = 0
    · obtain rfl : O = [] := List.eq_nil_of_length_eq_zero h0
      exact ⟨av, cv, rfl, by simp, o2, o1, Or.inl rfl⟩
    · obtain ⟨g, cap, hv, hc, _⟩ := own_cell h.out 0 (by omega)
      cases hv
      refine ⟨_, _, rfl, hc, o2, o1, Or.inr ⟨g, 0, rfl, fun k hk => ?_⟩⟩
      obtain ⟨g2, cap2, hv, _, hcl⟩ := own_cell h.out k hk
      cases hv
      rw [Nat.zero_add, hcl, map_at ov O 0 k hk]; rfl

theorem mErr_fins {P : List ByteArray} {R : List (List Int)} {O : List Int} {F : List Bool} (hE : mErr P R O = 0) (hF : Fins O (turnF R) 3 F) : ∀ s, s < O.length → (F.getD s false = true ↔ ∀ t, Reach R s t → O.getD t 0 = O.getD s 0) := by
  have hz := mErr_zero hE
  exact fins_reach hz.2.2.2.1 hz.2.2.1 (fun s hs => by
    have := hz.2.2.2.2 s hs
    unfold stateF at this
    simp only [Bool.and_eq_true, decide_eq_true_eq] at this
    exact this.1) hF

theorem ref_final {w w0 : World} {q : Nat} {a b c : Value} {P : List ByteArray} {R : List (List Int)} {O : List Int} {F : List Bool} {s : Nat} (h : Ref w q P R O s) (hM : MachAt w0 a b c P R O) (hE : mErr P R O = 0) (hn : O.length ≤ 200000) (hs : s < O.length) (hF : Fins O (turnF R) 3 F) :
    Calls Try.prog 56 #[.pointer (some ⟨q, 0, none⟩)] w fun e w' => e = .returned (.bool (F.getD s false)) ∧ w.grownBy w' none := by
  obtain ⟨vp, vn, vo, vs, h⟩ := h
  have hz := mErr_zero hE
  refine (reffinal_core vp vn vo vs P R O q s w h (h.mach hM) hz.2.2.2.1 hz.2.2.1 hn hs).mono fun e w' ⟨eb, he, hb, hg⟩ => ⟨?_, hg⟩
  rw [he]
  have : eb = F.getD s false := Bool.eq_iff_iff.2 (hb.out.trans (mErr_fins hE hF s hs).symm)
  rw [this]

theorem tmod_nat (x : Int) (n : Nat) (hx : 0 ≤ x) : Int.tmod x (n : Int) = ((x.toNat % n : Nat) : Int) := by
  obtain ⟨m, rfl⟩ := Int.eq_ofNat_of_zero_le hx
  rw [Int.tmod_eq_emod_of_nonneg hx, Int.toNat_natCast]
  rfl
/-- Which of n. -/
def pickF (c : Int) (n : Nat) : Nat := ((if c < 0 then -(c + 1) else c).toNat) % n
theorem pick_any (w : World) (c : Int) (n : Nat) (hn : 0 < n) (hm : n ≤ 1000000) (h1 : -9223372036854775808 ≤ c) (h2 : c ≤ 9223372036854775807) :
    Calls Try.prog 36 #[.int .i64 c, .int .i64 (n : Int)] w fun e w' => e = .returned (.int .i64 (pickF c n : Int)) ∧ w' = w := by
  have hnb : ¬ n = 0 := by omega
  have hnI : ¬ (n : Int) = 0 := by omega
  by_cases hc : c < 0
  · have e1 : wrap64 (c + 1) = c + 1 := IntWalk.wrap64_in _ ⟨by omega, by omega⟩
    have e2 : wrap64 (-(c + 1)) = -(c + 1) := IntWalk.wrap64_in _ ⟨by omega, by omega⟩
    have hp : pickF c n = (-(c + 1)).toNat % n := by unfold pickF; rw [if_pos hc]
    have htm : Int.tmod (-(c + 1)) (n : Int) = (pickF c n : Int) := by rw [hp, tmod_nat _ _ (by omega)]
    clear hp
    generalize pickF c n = k at htm ⊢
    go_enter Try.func36, Try.ntmps36
    go_wp2_with fail
    go_ret
    exact ⟨rfl, rfl⟩
  · have hp : pickF c n = c.toNat % n := by unfold pickF; rw [if_neg hc]
    have htm : Int.tmod c (n : Int) = (pickF c n : Int) := by rw [hp, tmod_nat _ _ (by omega)]
    clear hp
    generalize pickF c n = k at htm ⊢
    go_enter Try.func36, Try.ntmps36
    go_wp2_with fail
    go_ret
    exact ⟨rfl, rfl⟩
end Go.Proofs.Ytpehmlkikhkmfaa
