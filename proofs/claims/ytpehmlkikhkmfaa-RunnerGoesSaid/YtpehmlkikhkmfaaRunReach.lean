/- Runner: what 'finals' finds is what can be reached: plain Lean. -/
import Derived.Test.YtpehmlkikhkmfaaRunTurned
import Derived.Test.YtpehmlkikhkmfaaRunFin
namespace Go.Proofs.Ytpehmlkikhkmfaa

/-- What can be reached. -/
inductive Reach (R : List (List Int)) (s : Nat) : Nat → Prop
  | here : Reach R s s
  | go (u j : Nat) (h : Reach R s u) (hj : j < (R.getD u []).length) : Reach R s ((R.getD u []).getD j 0).toNat

theorem Reach.first {R : List (List Int)} {s t j : Nat} (hj : j < (R.getD s []).length) (h : Reach R ((R.getD s []).getD j 0).toNat t) : Reach R s t := by
  induction h with
  | here => exact .go s j .here hj
  | go u i _ hi ih => exact .go u i ih hi
theorem Reach.lt {R : List (List Int)} {s t : Nat} (hR : rowsF R = true) (hs : s < R.length) (h : Reach R s t) : t < R.length := by
  induction h with
  | here => exact hs
  | go u j _ hj ih =>
    obtain ⟨m, hm, e⟩ := inF_nat (rowsF_in hR ih hj)
    rw [e, Int.toNat_natCast]
    exact hm
theorem Reach.trans {R : List (List Int)} {s t u : Nat} (h : Reach R s t) (k : Reach R t u) : Reach R s u := by
  induction k with
  | here => exact h
  | go v j _ hj ih => exact .go v j ih hj

/-- An edge. -/
def Edge (R : List (List Int)) (k n : Nat) : Prop := ∃ j, j < (R.getD k []).length ∧ ((R.getD k []).getD j 0).toNat = n

theorem tStep_len (s : Nat) (B : List (List Int)) (n : Int) : (tStep s B n).length = B.length := by simp [tStep]
theorem tRow_len (s : Nat) (l : List Int) : ∀ B : List (List Int), (tRow s l B).length = B.length := by
  induction l with
  | nil => intro B; rfl
  | cons x l ih => intro B; rw [show tRow s (x :: l) B = tRow s l (tStep s B x) from rfl, ih, tStep_len]
theorem tAll_len (R : List (List Int)) : ∀ k, (tAll R k).length = R.length
  | 0 => by simp [tAll]
  | k + 1 => by rw [tAll, tRow_len, tAll_len R k]
theorem tStep_mem {s : Nat} {B : List (List Int)} {n x : Int} {m : Nat} (hn : n.toNat < B.length) : x ∈ (tStep s B n).getD m [] ↔ x ∈ B.getD m [] ∨ (n.toNat = m ∧ x = (s : Int)) := by
  unfold tStep
  simp only [List.getD_eq_getElem?_getD, List.getElem?_set]
  by_cases e : n.toNat = m
  · subst e
    rw [if_pos rfl, if_pos hn, Option.getD_some, List.mem_append, List.mem_singleton]
    simp
  · rw [if_neg e]
    simp [e]
theorem tRow_mem {s : Nat} {l : List Int} {m : Nat} {x : Int} : ∀ {B : List (List Int)}, (∀ n ∈ l, n.toNat < B.length) → (x ∈ (tRow s l B).getD m [] ↔ x ∈ B.getD m [] ∨ ((∃ n ∈ l, n.toNat = m) ∧ x = (s : Int))) := by
  induction l with
  | nil => intro B _; simp [tRow]
  | cons y l ih =>
    intro B hB
    rw [show tRow s (y :: l) B = tRow s l (tStep s B y) from rfl, ih (fun n hn => by rw [tStep_len]; exact hB n (List.mem_cons_of_mem _ hn)), tStep_mem (hB y List.mem_cons_self)]
    constructor
    · rintro ((h | ⟨h, h2⟩) | ⟨⟨n, hn, h⟩, h2⟩)
      · exact Or.inl h
      · exact Or.inr ⟨⟨y, List.mem_cons_self, h⟩, h2⟩
      · exact Or.inr ⟨⟨n, List.mem_cons_of_mem _ hn, h⟩, h2⟩
    · rintro (h | ⟨⟨n, hn, h⟩, h2⟩)
      · exact Or.inl (Or.inl h)
      · rcases List.mem_cons.1 hn with rfl | hn
        · exact Or.inl (Or.inr ⟨h, h2⟩)
        · exact Or.inr ⟨⟨n, hn, h⟩, h2⟩
theorem edge_mem {R : List (List Int)} {k m : Nat} : (∃ n ∈ R.getD k [], n.toNat = m) ↔ Edge R k m := by
  unfold Edge
  generalize R.getD k [] = l
  constructor
  · rintro ⟨n, hn, h⟩
    obtain ⟨j, hj, e⟩ := List.getElem_of_mem hn
    exact ⟨j, hj, by rw [List.getD_eq_getElem?_getD, List.getElem?_eq_getElem hj]; rw [Option.getD_some, e]; exact h⟩
  · rintro ⟨j, hj, h⟩
    refine ⟨l[j], List.getElem_mem hj, ?_⟩
    rw [List.getD_eq_getElem?_getD, List.getElem?_eq_getElem hj, Option.getD_some] at h
    exact h
theorem tAll_mem {R : List (List Int)} (hR : rowsF R = true) {m : Nat} {x : Int} : ∀ k, k ≤ R.length → (x ∈ (tAll R k).getD m [] ↔ ∃ s, s < k ∧ Edge R s m ∧ x = (s : Int))
  | 0, _ => by
    have : (List.replicate R.length ([] : List Int)).getD m [] = [] := by
      rw [List.getD_eq_getElem?_getD, List.getElem?_replicate]
      split <;> rfl
    rw [tAll, this]
    simp
  | k + 1, hk => by
    rw [tAll, tRow_mem (fun n hn => by
      obtain ⟨j, hj, e⟩ := List.getElem_of_mem hn
      rw [tAll_len]
      obtain ⟨p, hp, e2⟩ := inF_nat (rowsF_in hR (show k < R.length by omega) hj)
      rw [List.getD_eq_getElem?_getD, List.getElem?_eq_getElem hj, Option.getD_some, e] at e2
      rw [e2, Int.toNat_natCast]
      exact hp), tAll_mem hR k (by omega), edge_mem]
    constructor
    · rintro (⟨s, hs, h⟩ | ⟨h, h2⟩)
      · exact ⟨s, by omega, h⟩
      · exact ⟨k, by omega, h, h2⟩
    · rintro ⟨s, hs, h, h2⟩
      by_cases e : s = k
      · subst e; exact Or.inr ⟨h, h2⟩
      · exact Or.inl ⟨s, by omega, h, h2⟩
theorem turn_mem {R : List (List Int)} (hR : rowsF R = true) {m : Nat} {x : Int} : x ∈ (turnF R).getD m [] ↔ ∃ s, s < R.length ∧ Edge R s m ∧ x = (s : Int) := tAll_mem hR R.length (Nat.le_refl _)

/-! The sweep. -/
theorem spread_len (st : List Bool × List Int) (n : Int) : (spread st n).1.length = st.1.length := by
  unfold spread; split <;> simp
theorem spreads_len (l : List Int) : ∀ st, (spreads st l).1.length = st.1.length := by
  induction l with
  | nil => intro st; rfl
  | cons x l ih => intro st; rw [show spreads st (x :: l) = spreads (spread st x) l from rfl, ih, spread_len]
theorem spread_set {st : List Bool × List Int} {n : Int} (hn : n.toNat < st.1.length) (s : Nat) : (spread st n).1.getD s false = (st.1.getD s false || decide (n.toNat = s)) := by
  unfold spread
  split
  · rename_i h
    by_cases e : n.toNat = s
    · subst e; rw [h]; rfl
    · simp [e]
  · rw [getD_setB _ _ _ _ hn]
    by_cases e : n.toNat = s
    · simp [e]
    · simp [e]
theorem spread_work {st : List Bool × List Int} {n : Int} : ∀ x, x ∈ (spread st n).2 → x ∈ st.2 ∨ x = n := by
  intro x
  unfold spread
  split
  · exact Or.inl
  · simp
theorem spread_keep {st : List Bool × List Int} {n : Int} : ∀ x, x ∈ st.2 → x ∈ (spread st n).2 := by
  intro x
  unfold spread
  split
  · exact id
  · intro h; simp [h]
theorem spread_new {st : List Bool × List Int} {n : Int} (h : st.1.getD n.toNat false = false) : n ∈ (spread st n).2 := by
  unfold spread
  rw [if_neg (by rw [h]; simp)]
  simp
theorem spreads_set {s : Nat} (l : List Int) : ∀ st : List Bool × List Int, (∀ n ∈ l, n.toNat < st.1.length) → ((spreads st l).1.getD s false = true ↔ st.1.getD s false = true ∨ ∃ n ∈ l, n.toNat = s) := by
  induction l with
  | nil => intro st _; simp [spreads]
  | cons y l ih =>
    intro st h
    rw [show spreads st (y :: l) = spreads (spread st y) l from rfl, ih _ (fun n hn => by rw [spread_len]; exact h n (List.mem_cons_of_mem _ hn)), spread_set (h y List.mem_cons_self)]
    simp only [Bool.or_eq_true, decide_eq_true_eq, List.mem_cons, exists_eq_or_imp]
    constructor
    · rintro ((h | h) | h)
      · exact Or.inl h
      · exact Or.inr (Or.inl h)
      · exact Or.inr (Or.inr h)
    · rintro (h | h | h)
      · exact Or.inl (Or.inl h)
      · exact Or.inl (Or.inr h)
      · exact Or.inr h
theorem spreads_work (l : List Int) : ∀ (st : List Bool × List Int) (x : Int), x ∈ (spreads st l).2 → x ∈ st.2 ∨ x ∈ l := by
  induction l with
  | nil => intro st x h; exact Or.inl h
  | cons y l ih =>
    intro st x h
    rcases ih _ x h with h | h
    · rcases spread_work x h with h | rfl
      · exact Or.inl h
      · exact Or.inr List.mem_cons_self
    · exact Or.inr (List.mem_cons_of_mem _ h)
theorem spreads_keep (l : List Int) : ∀ (st : List Bool × List Int) (x : Int), x ∈ st.2 → x ∈ (spreads st l).2 := by
  induction l with
  | nil => intro st x h; exact h
  | cons y l ih => intro st x h; exact ih _ x (spread_keep x h)
/-- What is newly told stands in the work. -/
theorem spreads_new (l : List Int) : ∀ (st : List Bool × List Int), (∀ n ∈ l, n.toNat < st.1.length ∧ n = (n.toNat : Int)) → ∀ s, (spreads st l).1.getD s false = true → st.1.getD s false = false → (s : Int) ∈ (spreads st l).2 := by
  induction l with
  | nil =>
    intro st _ s h h2
    rw [show (spreads st []).1 = st.1 from rfl, h2] at h
    cases h
  | cons y l ih =>
    intro st hl s h h2
    have hy := hl y List.mem_cons_self
    have hl' : ∀ n ∈ l, n.toNat < (spread st y).1.length ∧ n = (n.toNat : Int) := fun n hn => by rw [spread_len]; exact hl n (List.mem_cons_of_mem _ hn)
    by_cases h3 : (spread st y).1.getD s false = true
    · rw [spread_set hy.1, h2, Bool.false_or, decide_eq_true_eq] at h3
      subst h3
      have := spreads_keep l _ _ (spread_new h2)
      rw [← hy.2]
      exact this
    · exact ih (spread st y) hl' s h (by simpa using h3)

theorem Sweep.spec {B : List (List Int)} {T T' : List Bool} {W : List Int} (h : Sweep B T W T') : ∀ (n : Nat), T.length = n → (∀ m, ∀ x ∈ B.getD m [], x.toNat < n ∧ x = (x.toNat : Int)) →
    (∀ x, x ∈ W → x = (x.toNat : Int)) → (∀ x : Nat, T.getD x false = true → (x : Int) ∉ W → ∀ y ∈ B.getD x [], T.getD y.toNat false = true) →
    T'.length = n ∧ (∀ s, T.getD s false = true → T'.getD s false = true) ∧ (∀ x : Nat, T'.getD x false = true → ∀ y ∈ B.getD x [], T'.getD y.toNat false = true) ∧
    (∀ Q : Nat → Prop, (∀ s, T.getD s false = true → Q s) → (∀ x ∈ W, Q x.toNat) → (∀ x : Nat, Q x → ∀ y ∈ B.getD x [], Q y.toNat) → ∀ s, T'.getD s false = true → Q s) := by
  induction h with
  | done T =>
    intro n hn hB hW hc
    exact ⟨hn, fun _ h => h, fun x hx => hc x hx (by simp), fun Q h1 _ _ s hs => h1 s hs⟩
  | step T T' x W _ ih =>
    intro n hn hB hW hc
    have hx := hW x List.mem_cons_self
    have hbx : ∀ y ∈ B.getD x.toNat [], y.toNat < T.length ∧ y = (y.toNat : Int) := fun y hy => by rw [hn]; exact hB _ y hy
    have hset := fun s => spreads_set (s := s) (B.getD x.toNat []) (T, W) (fun y hy => (hbx y hy).1)
    obtain ⟨h1, h2, h3, h4⟩ := ih n (by rw [spreads_len]; exact hn) hB (fun y hy => by
      rcases spreads_work _ _ y hy with h | h
      · exact hW y (List.mem_cons_of_mem _ h)
      · exact (hbx y h).2) (fun z hz hzw y hy => by
        rw [hset] at hz ⊢
        rcases hz with hz | ⟨y2, hy2, e⟩
        · by_cases e : (z : Int) = x
          · right
            refine ⟨y, ?_, rfl⟩
            rw [← e, Int.toNat_natCast]; exact hy
          · left
            refine hc z hz (fun hm => ?_) y hy
            rcases List.mem_cons.1 hm with hm | hm
            · exact e hm
            · exact hzw (spreads_keep _ _ _ hm)
        · by_cases hT : T.getD z false = true
          · by_cases e : (z : Int) = x
            · right
              refine ⟨y, ?_, rfl⟩
              rw [← e, Int.toNat_natCast]; exact hy
            · left
              refine hc z hT (fun hm => ?_) y hy
              rcases List.mem_cons.1 hm with hm | hm
              · exact e hm
              · exact hzw (spreads_keep _ _ _ hm)
          · exact absurd (spreads_new _ (T, W) hbx z ((hset z).2 (Or.inr ⟨y2, hy2, e⟩)) (by simpa using hT)) hzw)
    refine ⟨h1, fun s hs => h2 s ((hset s).2 (Or.inl hs)), h3, fun Q q1 q2 q3 s hs => ?_⟩
    refine h4 Q (fun t ht => ?_) (fun y hy => ?_) q3 s hs
    · rcases (hset t).1 ht with ht | ⟨y, hy, rfl⟩
      · exact q1 t ht
      · exact q3 _ (q2 x List.mem_cons_self) y hy
    · rcases spreads_work _ _ y hy with h | h
      · exact q2 y (List.mem_cons_of_mem _ h)
      · exact q3 _ (q2 x List.mem_cons_self) y h

section
variable {R : List (List Int)} {O : List Int}

theorem startW_mem {v : Int} {n : Nat} {x : Int} : x ∈ startW O v n ↔ ∃ s : Nat, s < n ∧ (O.getD s 0 != v) = true ∧ x = (s : Int) := by
  unfold startW
  simp only [List.mem_map, List.mem_filter, List.mem_range]
  constructor
  · rintro ⟨s, ⟨h1, h2⟩, rfl⟩; exact ⟨s, h1, h2, rfl⟩
  · rintro ⟨s, h1, h2, rfl⟩; exact ⟨s, ⟨h1, h2⟩, rfl⟩
theorem edge_lt (hR : rowsF R = true) {k m : Nat} (hk : k < R.length) (h : Edge R k m) : m < R.length := by
  obtain ⟨j, hj, rfl⟩ := h
  obtain ⟨p, hp, e⟩ := inF_nat (rowsF_in hR hk hj)
  rw [e, Int.toNat_natCast]
  exact hp

/-- What the sweep of one verdict finds. -/
theorem sweep_reach (hR : rowsF R = true) (hl : R.length = O.length) {v : Int} {T : List Bool} (h : Sweep (turnF R) (startT O v O.length O.length) (startW O v O.length) T) (s : Nat) (hs : s < O.length) :
    T.getD s false = true ↔ ∃ t, Reach R s t ∧ O.getD t 0 ≠ v := by
  obtain ⟨_, h2, h3, h4⟩ := h.spec O.length (startT_length _ _ _ _) (fun m x hx => by
      obtain ⟨k, hk, _, rfl⟩ := (turn_mem hR).1 hx
      rw [Int.toNat_natCast]
      exact ⟨by omega, rfl⟩) (fun x hx => by
      obtain ⟨k, _, _, rfl⟩ := startW_mem.1 hx
      rw [Int.toNat_natCast]) (fun x hx hw => by
      exfalso
      apply hw
      by_cases hxn : x < O.length
      · rw [startT_get _ _ _ _ _ hxn, Bool.and_eq_true] at hx
        exact startW_mem.2 ⟨x, hxn, hx.2, rfl⟩
      · rw [List.getD_eq_getElem?_getD, List.getElem?_eq_none (by rw [startT_length]; omega)] at hx
        cases hx)
  constructor
  · intro hT
    refine h4 (fun s => s < O.length → ∃ t, Reach R s t ∧ O.getD t 0 ≠ v) (fun s hs hn => ?_) (fun x hx _ => ?_) (fun x hx y hy _ => ?_) s hT hs
    · rw [startT_get _ _ _ _ _ hn, Bool.and_eq_true] at hs
      exact ⟨s, .here, by simpa using hs.2⟩
    · obtain ⟨k, hk, hv, rfl⟩ := startW_mem.1 hx
      rw [Int.toNat_natCast]
      exact ⟨k, .here, by simpa using hv⟩
    · obtain ⟨k, hk, he, rfl⟩ := (turn_mem hR).1 hy
      have hxl := edge_lt hR hk he
      obtain ⟨t, ht, hv⟩ := hx (by omega)
      obtain ⟨j, hj, rfl⟩ := he
      rw [Int.toNat_natCast]
      exact ⟨t, Reach.first hj ht, hv⟩
  · rintro ⟨t, ht, hv⟩
    have htn : t < O.length := by have := ht.lt hR (by omega); omega
    have key : ∀ u, Reach R s u → T.getD u false = true → T.getD s false = true := by
      intro u hu
      induction hu with
      | here => exact id
      | go u j hu hj ih =>
        intro h5
        apply ih
        have hul : u < R.length := hu.lt hR (by omega)
        have := h3 _ h5 (u : Int) ((turn_mem hR).2 ⟨u, hul, ⟨j, hj, rfl⟩, rfl⟩)
        rwa [Int.toNat_natCast] at this
    refine key t ht (h2 t ?_)
    rw [startT_get _ _ _ _ _ htn, Bool.and_eq_true, decide_eq_true_eq]
    exact ⟨htn, bne_iff_ne.2 hv⟩

/-- WHAT IS FINAL: whatever can be reached says the same. -/
theorem fins_reach (hR : rowsF R = true) (hl : R.length = O.length) (hO : ∀ s, s < O.length → 1 ≤ O.getD s 0 ∧ O.getD s 0 ≤ 3) {F : List Bool} (h : Fins O (turnF R) 3 F) (s : Nat) (hs : s < O.length) :
    F.getD s false = true ↔ ∀ t, Reach R s t → O.getD t 0 = O.getD s 0 := by
  cases h with
  | next k F T3 h hs3 =>
    cases h with
    | next k F T2 h hs2 =>
      cases h with
      | next k F T1 h hs1 =>
        cases h with
        | zero =>
          rw [mixF_get _ _ _ _ _ _ _ hs, mixF_get _ _ _ _ _ _ _ hs, mixF_get _ _ _ _ _ _ _ hs]
          have r1 := sweep_reach hR hl hs1 s hs
          have r2 := sweep_reach hR hl hs2 s hs
          have r3 := sweep_reach hR hl hs3 s hs
          have e0 : (List.replicate O.length false).getD s false = false := by rw [List.getD_eq_getElem?_getD, List.getElem?_replicate, if_pos hs]; rfl
          rw [e0]
          have key : ∀ (T : List Bool) (v : Int), (T.getD s false = true ↔ ∃ t, Reach R s t ∧ O.getD t 0 ≠ v) → ((O.getD s 0 == v && !T.getD s false) = true ↔ O.getD s 0 = v ∧ ∀ t, Reach R s t → O.getD t 0 = O.getD s 0) := by
            intro T v hT
            rw [Bool.and_eq_true, beq_iff_eq, Bool.not_eq_true']
            constructor
            · rintro ⟨h1, h2⟩
              refine ⟨h1, fun t ht => ?_⟩
              rw [h1]
              by_cases e : O.getD t 0 = v
              · exact e
              · rw [hT.2 ⟨t, ht, e⟩] at h2
                cases h2
            · rintro ⟨h1, h2⟩
              refine ⟨h1, ?_⟩
              by_cases e : T.getD s false = true
              · obtain ⟨t, ht, hv⟩ := hT.1 e
                exact absurd ((h2 t ht).trans h1) hv
              · simpa using e
          have k1 := key T1 _ r1
          have k2 := key T2 _ r2
          have k3 := key T3 _ r3
          simp only [hs, decide_true, Bool.true_and, Bool.false_or, Bool.or_eq_true]
          rw [k1, k2, k3]
          constructor
          · rintro ((⟨_, h⟩ | ⟨_, h⟩) | ⟨_, h⟩) <;> exact h
          · intro h
            have := hO s hs
            have h3 : O.getD s 0 = 1 ∨ O.getD s 0 = 2 ∨ O.getD s 0 = 3 := by omega
            rcases h3 with e | e | e
            · exact Or.inl (Or.inl ⟨e, h⟩)
            · exact Or.inl (Or.inr ⟨e, h⟩)
            · exact Or.inr ⟨e, h⟩
end
end Go.Proofs.Ytpehmlkikhkmfaa
