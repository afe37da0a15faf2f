/- Runner: a runner as a whole, and its methods. -/
import Derived.Test.YtpehmlkikhkmfaaRunNew
namespace Go.Proofs.Ytpehmlkikhkmfaa
open Go.RowKit

/-- All of a runner lies under Z. -/
def Und (Z p mb : Nat) (vn vo vf : Value) (vs : List Value) : Prop :=
  p < Z ∧ mb < Z ∧ (∀ b, vn.ownBlock = some b → b < Z) ∧ (∀ b, vo.ownBlock = some b → b < Z) ∧ (∀ b, vf.ownBlock = some b → b < Z) ∧ ∀ (i : Nat) (v : Value), vs[i]? = some v → ∀ b, v.ownBlock = some b → b < Z
/-- A runner of the machine P R O at p, in state s; F says what is final; all of it lies under Z. -/
def Live (w : World) (Z p : Nat) (P : List ByteArray) (R : List (List Int)) (O : List Int) (F : List Bool) (s : Nat) : Prop :=
  ∃ mb vn vo vf vs, RunAt w p mb vn vo vf vs R O F s ∧ NamesAt w mb (bitF P) ∧ Und Z p mb vn vo vf vs

theorem NamesAt.kept {w w' : World} {mb : Nat} {bit : ByteArray → Nat} {row : Option Nat} (h : NamesAt w mb bit) (hg : w.grownBy w' row) (hne : some mb ≠ row) : NamesAt w' mb bit := by
  obtain ⟨n, D, hD, hb⟩ := h
  exact ⟨n, D, hD.kept hg hne, hb⟩
theorem NamesAt.off {w : World} {mb q : Nat} {bit : ByteArray → Nat} {c : Array Value} {t : TypeId} {fr : Nat × Nat} (h : NamesAt w mb bit) (hq : w.heap[q]? = some (.cells c t fr)) : some mb ≠ some q := by
  obtain ⟨n, D, ⟨es, cl, hb, _⟩, _⟩ := h
  intro e
  rw [Option.some.inj e, hq] at hb
  cases hb

theorem RunAt.far {w w' : World} {p mb q : Nat} {vn vo vf : Value} {vs : List Value} {R : List (List Int)} {O : List Int} {F : List Bool} {s : Nat} {c : Array Value} {fr : Nat × Nat} (h : RunAt w p mb vn vo vf vs R O F s) (hq : w.heap[q]? = some (.cells c 106 fr)) (hne : p ≠ q) (hg : w.grownBy w' (some q)) : RunAt w' p mb vn vo vf vs R O F s :=
  ⟨by rw [hg.block p h.lt (fun e => hne (Option.some.inj e))]; exact h.blk, h.next.kept hg (own_off h.next hq (by decide)), fun i hi => by obtain ⟨v, hv, hr⟩ := h.each i hi; exact ⟨v, hv, hr.kept hg (own_off hr hq (by decide))⟩, h.out.kept hg (own_off h.out hq (by decide)), h.fin.kept hg (own_off h.fin hq (by decide)), h.lr, h.lf, h.st, h.small, h.inr⟩

theorem RunAt.und {w : World} {p mb : Nat} {vn vo vf : Value} {vs : List Value} {R : List (List Int)} {O : List Int} {F : List Bool} {s : Nat} {bit : ByteArray → Nat} (h : RunAt w p mb vn vo vf vs R O F s) (hN : NamesAt w mb bit) : Und w.heap.size p mb vn vo vf vs := by
  obtain ⟨n, D, hD, _⟩ := hN
  refine ⟨h.lt, hD.lt, fun b hb => (h.next.lt b hb).2, fun b hb => (h.out.lt b hb).2, fun b hb => (h.fin.lt b hb).2, fun i v hv b hb => ?_⟩
  have hi : i < R.length := by have := (List.getElem?_eq_some_iff.1 hv).1; have := h.next.1; omega
  obtain ⟨u, hu, hr⟩ := h.each i hi
  obtain rfl := Option.some.inj (hv.symm.trans hu)
  exact (hr.lt b hb).2

section
variable {w w' : World} {Z Z' p q : Nat} {P : List ByteArray} {R : List (List Int)} {O : List Int} {F : List Bool} {s : Nat}

theorem Live.kept (h : Live w Z p P R O F s) (hg : w.grownBy w' none) : Live w' Z p P R O F s := by
  obtain ⟨mb, vn, vo, vf, vs, h1, h2, h3⟩ := h
  exact ⟨mb, vn, vo, vf, vs, h1.kept hg, h2.kept hg (by simp), h3⟩
theorem Live.blk (h : Live w Z p P R O F s) : ∃ c fr, w.heap[p]? = some (.cells c 106 fr) := by
  obtain ⟨mb, vn, vo, vf, vs, h1, h2, h3⟩ := h
  exact ⟨_, _, h1.blk⟩
theorem Live.lt (h : Live w Z p P R O F s) : p < w.heap.size := by
  obtain ⟨mb, vn, vo, vf, vs, h1, h2, h3⟩ := h
  exact h1.lt
theorem Live.st (h : Live w Z p P R O F s) : s < O.length := by
  obtain ⟨mb, vn, vo, vf, vs, h1, h2, h3⟩ := h
  exact h1.st
theorem Live.lens (h : Live w Z p P R O F s) : R.length = O.length ∧ F.length = O.length := by
  obtain ⟨mb, vn, vo, vf, vs, h1, h2, h3⟩ := h
  exact ⟨h1.lr, h1.lf⟩
theorem Live.small (h : Live w Z p P R O F s) : O.length ≤ 200000 := by
  obtain ⟨mb, vn, vo, vf, vs, h1, h2, h3⟩ := h
  exact h1.small
/-- Another runner has gone on. -/
theorem Live.far {P' : List ByteArray} {R' : List (List Int)} {O' : List Int} {F' : List Bool} {s' : Nat} (h : Live w Z p P R O F s) (hq : Live w Z' q P' R' O' F' s') (hne : p ≠ q) (hg : w.grownBy w' (some q)) : Live w' Z p P R O F s := by
  obtain ⟨mb, vn, vo, vf, vs, h1, h2, h3⟩ := h
  obtain ⟨c, fr, hb⟩ := hq.blk
  exact ⟨mb, vn, vo, vf, vs, h1.far hb hne hg, h2.kept hg (h2.off hb), h3⟩

theorem Live.mono (h : Live w Z p P R O F s) (hz : Z ≤ Z') : Live w Z' p P R O F s := by
  obtain ⟨mb, vn, vo, vf, vs, h1, h2, h3, h4, h5, h6, h7, h8⟩ := h
  exact ⟨mb, vn, vo, vf, vs, h1, h2, Nat.lt_of_lt_of_le h3 hz, Nat.lt_of_lt_of_le h4 hz, fun b hb => Nat.lt_of_lt_of_le (h5 b hb) hz, fun b hb => Nat.lt_of_lt_of_le (h6 b hb) hz, fun b hb => Nat.lt_of_lt_of_le (h7 b hb) hz, fun i v hv b hb => Nat.lt_of_lt_of_le (h8 i v hv b hb) hz⟩
/-- What lies over Z has turned. -/
theorem Live.over {g : Option Nat} (h : Live w Z p P R O F s) (hg : w.grownBy w' g) (hz : ∀ b, g = some b → Z ≤ b) : Live w' Z p P R O F s := by
  obtain ⟨mb, vn, vo, vf, vs, h1, h2, h3, h4, h5, h6, h7, h8⟩ := h
  have key : ∀ v : Value, (∀ b, v.ownBlock = some b → b < Z) → v.ownBlock = none ∨ v.ownBlock ≠ g := fun v hv => by
    rcases e : v.ownBlock with _ | b
    · exact Or.inl rfl
    · right
      intro e2
      have := hv b e
      have := hz b e2.symm
      omega
  refine ⟨mb, vn, vo, vf, vs, ⟨?_, h1.next.kept hg (key _ h5), fun i hi => ?_, h1.out.kept hg (key _ h6), h1.fin.kept hg (key _ h7), h1.lr, h1.lf, h1.st, h1.small, h1.inr⟩, h2.kept hg (fun e => by have := hz _ e.symm; omega), h3, h4, h5, h6, h7, h8⟩
  · rw [hg.block p h1.lt (fun e => by have := hz _ e.symm; omega)]
    exact h1.blk
  · obtain ⟨v, hv, hr⟩ := h1.each i hi
    exact ⟨v, hv, hr.kept hg (key _ (h8 i v hv))⟩

theorem new_live (vp vn vo : Value) (w : World) (hM : MachAt w vp vn vo P R O) (hE : mErr P R O = 0) (hn : O.length ≤ 200000) :
    Calls Try.prog 13 #[.agg #[vp, vn, vo]] w fun e w' => ∃ p F, e = .returned (.tuple #[.pointer (some ⟨p, 0, none⟩), .int .i64 0]) ∧ Live w' w'.heap.size p P R O F 0 ∧ Hid (Fins O (turnF R) 3 F) ∧ w.grownBy w' none ∧ w.heap.size ≤ p :=
  (new_yes vp vn vo P R O w hM hE hn).mono fun _ _ ⟨p, mb, vn', vo', vf', vs, F, he, hR, hN, hF, hg, hp, _⟩ => ⟨p, F, he, ⟨mb, vn', vo', vf', vs, hR, hN, hR.und hN⟩, hF, hg, hp⟩

/-- A world in which the blocks from lo to hi are as they were. -/
def Same (lo hi : Nat) (w w' : World) : Prop := w.heap.size ≤ w'.heap.size ∧ ∀ k, lo ≤ k → k < hi → w'.heap[k]? = w.heap[k]?
theorem Same.row {lo hi Y e n : Nat} {v : Value} {xs : List Value} (h : w.ownsRow Y e 1 v n xs) (hs : Same lo hi w w') (h1 : ∀ b, v.ownBlock = some b → lo ≤ b) (h2 : ∀ b, v.ownBlock = some b → b < hi) : w'.ownsRow Y e 1 v n xs := by
  refine ⟨h.1, ?_⟩
  rcases h.2 with h0 | ⟨g, cap, cur, rfl, hb, hg, rest⟩
  · exact Or.inl h0
  · exact Or.inr ⟨g, cap, cur, rfl, hb, by rw [hs.2 g (h1 g rfl) (h2 g rfl)]; exact hg, rest⟩
/-- A new runner stays, whatever becomes of what lay below it. -/
theorem new_stay (vp vn vo : Value) (w : World) (hM : MachAt w vp vn vo P R O) (hE : mErr P R O = 0) (hn : O.length ≤ 200000) :
    Calls Try.prog 13 #[.agg #[vp, vn, vo]] w fun e w' => ∃ p F, e = .returned (.tuple #[.pointer (some ⟨p, 0, none⟩), .int .i64 0]) ∧ Live w' w'.heap.size p P R O F 0 ∧ Hid (Fins O (turnF R) 3 F) ∧ w.grownBy w' none ∧ w.heap.size ≤ p ∧ Hid (∀ w'', Same w.heap.size w'.heap.size w' w'' → Live w'' w'.heap.size p P R O F 0) :=
  (new_yes vp vn vo P R O w hM hE hn).mono fun _ w' ⟨p, mb, vn', vo', vf', vs, F, he, hR, hN, hF, hg, hp, o1, o2, o3, o4, o5, o6⟩ => by
    have hu := hR.und hN
    refine ⟨p, F, he, ⟨mb, vn', vo', vf', vs, hR, hN, hu⟩, hF, hg, hp, Lib.hid fun w'' hs => ?_⟩
    obtain ⟨u1, u2, u3, u4, u5, u6⟩ := hu
    refine ⟨mb, vn', vo', vf', vs, ⟨by rw [hs.2 p o1 u1]; exact hR.blk, hs.row hR.next o3 u3, fun i hi => ?_, hs.row hR.out o4 u4, hs.row hR.fin o5 u5, hR.lr, hR.lf, hR.st, hR.small, hR.inr⟩, ?_, u1, u2, u3, u4, u5, u6⟩
    · obtain ⟨v, hv, hr⟩ := hR.each i hi
      exact ⟨v, hv, hs.row hr (o6 i v hv) (u6 i v hv)⟩
    · obtain ⟨n, D, ⟨es, cl, hb, h3⟩, h4⟩ := hN
      exact ⟨n, D, ⟨es, cl, by rw [hs.2 mb o2 u2]; exact hb, h3⟩, h4⟩

theorem mErr_pow (hE : mErr P R O = 0) : ∀ k, k < R.length → (R.getD k []).length = 2 ^ P.length := by
  obtain ⟨h1, _, h3, _, h5⟩ := mErr_zero hE
  intro k hk
  have := h5 k (by omega)
  unfold stateF at this
  simp only [Bool.and_eq_true, decide_eq_true_eq] at this
  exact this.2

/-- Where names lead. -/
def nextF (P : List ByteArray) (R : List (List Int)) (s : Nat) (l : List ByteArray) : Nat := stepF R P.length s (letF (bitF P) l)

theorem live_event {v : Value} {l : List ByteArray} (h : Live w Z p P R O F s) (hE : mErr P R O = 0) (hl : TextsAt w v l) :
    Calls Try.prog 28 #[.pointer (some ⟨p, 0, none⟩), v] w fun e w' => e = .returned (.int .u8 (O.getD (nextF P R s l) 0)) ∧ Live w' Z p P R O F (nextF P R s l) ∧ w.grownBy w' (some p) := by
  obtain ⟨mb, vn, vo, vf, vs, h1, h2, h3⟩ := h
  exact (event_any h1 (mErr_pow hE) (listF_len (mErr_zero hE).1) h2 hl).mono fun e w' ⟨he, hr, hg⟩ => ⟨he, ⟨mb, vn, vo, vf, vs, hr, h2.kept hg (h2.off h1.blk), h3⟩, hg⟩
theorem live_step (h : Live w Z p P R O F s) (hE : mErr P R O = 0) (l : Nat) (hl : l ≤ 65535) :
    Calls Try.prog 29 #[.pointer (some ⟨p, 0, none⟩), .int .u16 (l : Int)] w fun e w' => e = .returned (.int .u8 (O.getD (stepF R P.length s l) 0)) ∧ Live w' Z p P R O F (stepF R P.length s l) ∧ w.grownBy w' (some p) := by
  obtain ⟨mb, vn, vo, vf, vs, h1, h2, h3⟩ := h
  exact (step_any h1 (mErr_pow hE) (listF_len (mErr_zero hE).1) l hl).mono fun e w' ⟨he, hr, hg⟩ => ⟨he, ⟨mb, vn, vo, vf, vs, hr, h2.kept hg (h2.off h1.blk), h3⟩, hg⟩
theorem live_letter {v : Value} {l : List ByteArray} (h : Live w Z p P R O F s) (hl : TextsAt w v l) :
    Calls Try.prog 30 #[.pointer (some ⟨p, 0, none⟩), v] w fun e w' => e = .returned (.int .u16 (letF (bitF P) l : Int)) ∧ letF (bitF P) l < 65536 ∧ w = w' := by
  obtain ⟨mb, vn, vo, vf, vs, h1, h2, h3⟩ := h
  exact letter_any h1.cell3 h2 hl
theorem live_state (h : Live w Z p P R O F s) : Calls Try.prog 18 #[.pointer (some ⟨p, 0, none⟩)] w fun e w' => e = .returned (.int .i64 (s : Int)) ∧ w = w' := by
  obtain ⟨mb, vn, vo, vf, vs, h1, h2, h3⟩ := h
  exact state_any h1
theorem live_final (h : Live w Z p P R O F s) : Calls Try.prog 38 #[.pointer (some ⟨p, 0, none⟩)] w fun e w' => e = .returned (.bool (F.getD s false)) ∧ Live w' Z p P R O F s ∧ w.grownBy w' none := by
  obtain ⟨mb, vn, vo, vf, vs, h1, h2, h3⟩ := h
  exact (final_any h1).mono fun e w' ⟨he, k, hk⟩ => by
    subst hk
    exact ⟨he, ⟨mb, vn, vo, vf, vs, h1.kept (gb_drewN w k none), h2.kept (gb_drewN w k none) (by simp), h3⟩, gb_drewN w k none⟩
theorem live_verdict (h : Live w Z p P R O F s) : Calls Try.prog 32 #[.pointer (some ⟨p, 0, none⟩)] w fun e w' => e = .returned (.int .u8 (O.getD s 0)) ∧ Live w' Z p P R O F s ∧ w.grownBy w' none := by
  obtain ⟨mb, vn, vo, vf, vs, h1, h2, h3⟩ := h
  exact (verdict_any h1).mono fun e w' ⟨he, k, hk⟩ => by
    subst hk
    exact ⟨he, ⟨mb, vn, vo, vf, vs, h1.kept (gb_drewN w k none), h2.kept (gb_drewN w k none) (by simp), h3⟩, gb_drewN w k none⟩
theorem live_goto (h : Live w Z p P R O F s) (t : Nat) (ht : t < O.length) : Calls Try.prog 31 #[.pointer (some ⟨p, 0, none⟩), .int .i64 (t : Int)] w fun e w' => e = .returned (.int .i64 0) ∧ Live w' Z p P R O F t ∧ w.grownBy w' (some p) := by
  obtain ⟨mb, vn, vo, vf, vs, h1, h2, h3⟩ := h
  exact (goto_yes h1 t ht).mono fun e w' ⟨he, hr, hg⟩ => ⟨he, ⟨mb, vn, vo, vf, vs, hr, h2.kept hg (h2.off h1.blk), h3⟩, hg⟩
theorem live_goto_no (h : Live w Z p P R O F s) (t : Int) (ht : t < 0 ∨ (O.length : Int) ≤ t) : Calls Try.prog 31 #[.pointer (some ⟨p, 0, none⟩), .int .i64 t] w fun e w' => e = .returned (.int .i64 171) ∧ w = w' := by
  obtain ⟨mb, vn, vo, vf, vs, h1, h2, h3⟩ := h
  exact goto_no h1 t ht
theorem live_reset (h : Live w Z p P R O F s) : Calls Try.prog 54 #[.pointer (some ⟨p, 0, none⟩)] w fun e w' => e = .returned (.tuple #[]) ∧ Live w' Z p P R O F 0 ∧ w.grownBy w' (some p) := by
  obtain ⟨mb, vn, vo, vf, vs, h1, h2, h3⟩ := h
  exact (reset_any h1).mono fun e w' ⟨he, hr, hg⟩ => ⟨he, ⟨mb, vn, vo, vf, vs, hr, h2.kept hg (h2.off h1.blk), h3⟩, hg⟩
end
end Go.Proofs.Ytpehmlkikhkmfaa
