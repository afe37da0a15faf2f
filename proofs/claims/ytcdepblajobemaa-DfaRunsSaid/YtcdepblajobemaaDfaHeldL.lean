/- Regions that draw their order: reads may be taken first, though what stands behind all of them writes. -/
import Derived.Test.YtcdepblajobemaaBitsDefs
namespace Go.Proofs.Ytcdepblajobemaa
open Go
section
variable {P : Program} {ops : Array Oper} {Q : Exit → Act → World → Prop} {md : Region.Mode} {R S : World → Prop} {Z : List Nat}

/-- None of the late ones has come up. -/
def Early (Z : List Nat) (ls : Array Bool) : Prop := ∀ z ∈ Z, ls.getD z true = false
/-- Whatever order is picked; behind each operation R holds, and S as long as none of Z has come up. -/
def AnyL (P : Program) (md : Region.Mode) (ops : Array Oper) (Q : Exit → Act → World → Prop) (R S : World → Prop) (Z : List Nat) : Nat → Array Bool → Act → World → Prop
  | 0, ls, a, w => Region.ready md ops ls = [] ∧ Q .normal a w
  | n + 1, ls, a, w => (Region.ready md ops ls = [] → Q .normal a w) ∧ ∀ j ∈ Region.ready md ops ls, wpOp P ops Q j (fun a' w' => (R w' ∧ (Early Z (ls.setIfInBounds j true) → S w')) ∧ AnyL P md ops Q R S Z n (ls.setIfInBounds j true) a' w') a w
theorem AnyL.any : ∀ (n : Nat) (ls : Array Bool) (a : Act) (w : World), AnyL P md ops Q R S Z n ls a w → wpAny P md ops Q n ls a w
  | 0, _, _, _, h => h
  | n + 1, _, _, _, h => ⟨h.1, fun j hj => wpOp_mono (fun a' w' h' => AnyL.any n _ a' w' h'.2) (h.2 j hj)⟩
theorem Early.of {ls : Array Bool} {i : Nat} (h : Early Z (ls.setIfInBounds i true)) : Early Z ls := fun z hz => by
  have h1 := h z hz
  by_cases e : i = z
  · subst e
    rcases Nat.lt_or_ge i ls.size with h' | h'
    · simp [h'] at h1
    · simp at h1
  · rw [getD_set_ne true e] at h1
    exact h1
theorem Early.put {ls : Array Bool} {i : Nat} (h : Early Z ls) (hi : i ∉ Z) : Early Z (ls.setIfInBounds i true) := fun z hz => by
  rw [getD_set_ne true (show i ≠ z from fun e => hi (by rw [e]; exact hz))]
  exact h z hz
/-- Does operation j wait for operation i? -/
def waitsB (md : Region.Mode) (ops : Array Oper) (i j : Nat) : Bool := match ops[j]? with
  | some o => o.after.any fun e => Region.binds md e && e.on == i
  | none => false
theorem waits_not {ls : Array Bool} {i j : Nat} (h : waitsB md ops i j = true) (hi : i ∈ Region.ready md ops ls) : j ∉ Region.ready md ops ls := by
  intro hj
  obtain ⟨_, o, ho, hall⟩ := mem_ready.1 hj
  unfold waitsB at h
  rw [ho] at h
  obtain ⟨e, he, hb⟩ := Array.any_eq_true'.1 h
  rw [Bool.and_eq_true, beq_iff_eq] at hb
  have h1 := hall e he hb.1
  have h0 := (mem_ready.1 hi).1
  rw [hb.2] at h1
  rcases Nat.lt_or_ge i ls.size with h' | h'
  · simp [h'] at h0 h1
    rw [h0] at h1
    cases h1
  · simp [Array.getElem?_eq_none h'] at h1
theorem AnyL.firstW {i : Nat} {oi : Oper} {v : Value} (hi : ops[i]? = some oi) (hsel : ∀ (j : Nat) (o : Oper) cs b, ops[j]? = some o → o.op ≠ .select cs b)
    (hQ : ∀ c a w, Q (.panic c) (a.put oi.dst v) w → Q (.panic c) a w) (hiZ : i ∉ Z) :
    ∀ (n : Nat) (ls : Array Bool) (a : Act) (w : World), 
      (∀ j oj, ops[j]? = some oj → j ≠ i → ls.getD j true = false → (∀ e ∈ oj.after, Region.binds md e = true → e.on ≠ i) → oi.apart ops oj = true) →
      i ∈ Region.ready md ops ls → YieldsIf P ops R oi v a → R w ∧ (Early Z ls → S w) → AnyL P md ops Q R S Z n (ls.setIfInBounds i true) (a.put oi.dst v) w → AnyL P md ops Q R S Z (n + 1) ls a w
  | 0, ls, a, w, hf, hr, hy, hS, H => ⟨fun h => (by rw [h] at hr; cases hr), fun j hj => by
      by_cases e : j = i
      · subst e
        exact hy.wpOp hi hS.1 ⟨⟨hS.1, fun h => hS.2 h.of⟩, H⟩
      · have h1 := ready_mono hj e
        rw [H.1] at h1
        cases h1⟩
  | n + 1, ls, a, w, hf, hr, hy, hS, H => ⟨fun h => (by rw [h] at hr; cases hr), fun j hj => by
      by_cases e : j = i
      · subst e
        exact hy.wpOp hi hS.1 ⟨⟨hS.1, fun h => hS.2 h.of⟩, H⟩
      · have h1 := H.2 j (ready_mono hj e)
        obtain ⟨hun, oj, hoj, hall⟩ := mem_ready.1 hj
        have hno : ∀ x ∈ oj.after, Region.binds md x = true → x.on ≠ i := fun x hx hb he => by
          refine waits_not (md := md) (ops := ops) (i := i) (j := j) ?_ hr hj
          unfold waitsB
          rw [hoj]
          exact Array.any_eq_true'.2 ⟨x, hx, by rw [Bool.and_eq_true, beq_iff_eq]; exact ⟨hb, he⟩⟩
        have h2 := wpOp_putIf hoj (hf j oj hoj e hun hno) (fun cs b => hsel i oi cs b hi) (fun cs b => hsel j oj cs b hoj) hQ hy h1
        refine wpOp_mono (fun a' w' h3 => ?_) h2
        have hS' : Early Z (ls.setIfInBounds j true) → S w' := fun h4 => by
          refine h3.2.1.2 ?_
          rw [Array.setIfInBounds_comm _ _ (Ne.symm e)]
          exact h4.put hiZ
        refine ⟨⟨h3.2.1.1, hS'⟩, AnyL.firstW hi hsel hQ hiZ n (ls.setIfInBounds j true) a' w' (fun k ok hk hki hku hkn => hf k ok hk hki ?_ hkn) (ready_mono hr (Ne.symm e)) h3.1 ⟨h3.2.1.1, hS'⟩ ?_⟩
        · by_cases ejk : j = k
          · subst ejk
            exact hun
          · rw [getD_set_ne true ejk] at hku
            exact hku
        · rw [Array.setIfInBounds_comm _ _ e]
          exact h3.2.2⟩
theorem AnyL.firstL {i : Nat} {oi : Oper} {v : Value} (hi : ops[i]? = some oi) (hsel : ∀ (j : Nat) (o : Oper) cs b, ops[j]? = some o → o.op ≠ .select cs b)
    (hQ : ∀ c a w, Q (.panic c) (a.put oi.dst v) w → Q (.panic c) a w) (hiZ : i ∉ Z) (hZ : ∀ j ∈ Z, waitsB md ops i j = true) :
    ∀ (n : Nat) (ls : Array Bool) (a : Act) (w : World), Early Z ls →
      (∀ j oj, ops[j]? = some oj → j ≠ i → ls.getD j true = false → (∀ e ∈ oj.after, Region.binds md e = true → e.on ≠ i) → oi.apart ops oj = true) →
      i ∈ Region.ready md ops ls → YieldsIf P ops (fun w => R w ∧ S w) oi v a → R w ∧ (Early Z ls → S w) → AnyL P md ops Q R S Z n (ls.setIfInBounds i true) (a.put oi.dst v) w → AnyL P md ops Q R S Z (n + 1) ls a w
  | 0, ls, a, w, hE, hf, hr, hy, hS, H => ⟨fun h => (by rw [h] at hr; cases hr), fun j hj => by
      by_cases e : j = i
      · subst e
        exact hy.wpOp hi ⟨hS.1, hS.2 hE⟩ ⟨⟨hS.1, fun h => hS.2 h.of⟩, H⟩
      · have h1 := ready_mono hj e
        rw [H.1] at h1
        cases h1⟩
  | n + 1, ls, a, w, hE, hf, hr, hy, hS, H => ⟨fun h => (by rw [h] at hr; cases hr), fun j hj => by
      by_cases e : j = i
      · subst e
        exact hy.wpOp hi ⟨hS.1, hS.2 hE⟩ ⟨⟨hS.1, fun h => hS.2 h.of⟩, H⟩
      · have h1 := H.2 j (ready_mono hj e)
        obtain ⟨hun, oj, hoj, hall⟩ := mem_ready.1 hj
        have hno : ∀ x ∈ oj.after, Region.binds md x = true → x.on ≠ i := fun x hx hb he => by
          refine waits_not (md := md) (ops := ops) (i := i) (j := j) ?_ hr hj
          unfold waitsB
          rw [hoj]
          exact Array.any_eq_true'.2 ⟨x, hx, by rw [Bool.and_eq_true, beq_iff_eq]; exact ⟨hb, he⟩⟩
        have h2 := wpOp_putIf hoj (hf j oj hoj e hun hno) (fun cs b => hsel i oi cs b hi) (fun cs b => hsel j oj cs b hoj) hQ hy h1
        refine wpOp_mono (fun a' w' h3 => ?_) h2
        have hS' : Early Z (ls.setIfInBounds j true) → S w' := fun h4 => by
          refine h3.2.1.2 ?_
          rw [Array.setIfInBounds_comm _ _ (Ne.symm e)]
          exact h4.put hiZ
        refine ⟨⟨h3.2.1.1, hS'⟩, AnyL.firstL hi hsel hQ hiZ hZ n (ls.setIfInBounds j true) a' w' (hE.put fun hjz => waits_not (hZ j hjz) hr hj) (fun k ok hk hki hku hkn => hf k ok hk hki ?_ hkn) (ready_mono hr (Ne.symm e)) h3.1 ⟨h3.2.1.1, hS'⟩ ?_⟩
        · by_cases ejk : j = k
          · subst ejk
            exact hun
          · rw [getD_set_ne true ejk] at hku
            exact hku
        · rw [Array.setIfInBounds_comm _ _ e]
          exact h3.2.2⟩
theorem AnyL.takeW {i : Nat} {oi : Oper} {v : Value} {n : Nat} {ls : Array Bool} {a : Act} {w : World} (hi : ops[i]? = some oi) (hs : Region.noSelect ops = true) (hf : Region.free md ops ls i = true) (hr : (Region.ready md ops ls).contains i = true)
    (hZ : Z.contains i = false) (hQ : ∀ c a w, Q (.panic c) (a.put oi.dst v) w → Q (.panic c) a w) (hy : YieldsIf P ops R oi v a) (hR : R w) (hS : Early Z ls → S w)
    (h : AnyL P md ops Q R S Z n (ls.setIfInBounds i true) (a.put oi.dst v) w) : AnyL P md ops Q R S Z (n + 1) ls a w :=
  AnyL.firstW hi (Region.noSelect_spec hs) hQ (by simpa using hZ) n ls a w (Region.free_spec hi hf) (by simpa using hr) hy ⟨hR, hS⟩ h
theorem AnyL.takeL {i : Nat} {oi : Oper} {v : Value} {n : Nat} {ls : Array Bool} {a : Act} {w : World} (hi : ops[i]? = some oi) (hs : Region.noSelect ops = true) (hf : Region.free md ops ls i = true) (hr : (Region.ready md ops ls).contains i = true)
    (hZ : (!Z.contains i && Z.all fun j => waitsB md ops i j && !(ls.getD j true)) = true) (hQ : ∀ c a w, Q (.panic c) (a.put oi.dst v) w → Q (.panic c) a w) (hy : YieldsIf P ops (fun w => R w ∧ S w) oi v a) (hR : R w) (hS : S w)
    (h : AnyL P md ops Q R S Z n (ls.setIfInBounds i true) (a.put oi.dst v) w) : AnyL P md ops Q R S Z (n + 1) ls a w := by
  rw [Bool.and_eq_true, List.all_eq_true] at hZ
  refine AnyL.firstL hi (Region.noSelect_spec hs) hQ (by simpa using hZ.1) (fun j hj => ?_) n ls a w (fun z hz => ?_) (Region.free_spec hi hf) (by simpa using hr) hy ⟨hR, fun _ => hS⟩ h
  · have := hZ.2 j hj
    rw [Bool.and_eq_true] at this
    exact this.1
  · have := hZ.2 z hz
    rw [Bool.and_eq_true] at this
    simpa using this.2
theorem AnyL.done {ls : Array Bool} {a : Act} {w : World} (hr : Region.ready md ops ls = []) (h : Q .normal a w) : ∀ n, AnyL P md ops Q R S Z n ls a w
  | 0 => ⟨hr, h⟩
  | _ + 1 => ⟨fun _ => h, by rw [hr]; simp⟩
/-- One operation alone may come up, a late one: it is carried out. -/
theorem AnyL.one {i n : Nat} {ls : Array Bool} {a : Act} {w : World} {o : Oper} (hr : Region.ready md ops ls = [i]) (ho : ops[i]? = some o) (hiZ : Z.contains i = true)
    (h : ∀ K : Act → World → Prop, Shut (∀ a w, R w → AnyL P md ops Q R S Z n (ls.setIfInBounds i true) a w → K a w) → if Region.wanted o (yielded ops a.tmps) = true then Oper.wp P o a w K Q else K (a.put o.dst undef) w) : AnyL P md ops Q R S Z (n + 1) ls a w :=
  ⟨(fun h0 => by rw [hr] at h0; cases h0), fun j hj => by
    have hj1 : j ∈ Region.ready md ops ls := hj
    rw [hr, List.mem_singleton] at hj
    subst hj
    refine wpOp_step ho (fun K hK => h K (fun a w hR hW => hK a w ⟨⟨hR, fun hE => ?_⟩, hW⟩))
    have h1 := hE j (by simpa using hiZ)
    rcases Nat.lt_or_ge j ls.size with h' | h'
    · simp [h'] at h1
    · simp at h1⟩
theorem region_late {id : Nat} {a : Act} {w : World} (hm : P.follows .mixedOrders = true) (h : AnyL P .any ops Q R S Z ops.size (Array.replicate ops.size false) a w.drew) : (Code.region id ops true).wp P Q a w :=
  wp_region_any hm (AnyL.any _ _ _ _ h)
end
end Go.Proofs.Ytcdepblajobemaa
