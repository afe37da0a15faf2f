/- A law for a range over a function whose iterator does something ahead of each round that the body sees. -/
import Derived.RangeFuncNested
import Derived.RangeFuncBound
import Derived.RangeFuncCalls
import Derived.RangeFuncLeaves
import Derived.Test.YtpehmlkikhkmfaaProg
namespace Go.Proofs.Ytpehmlkikhkmfaa
open Go.RowKit

/-- What stands whatever becomes of the blocks from B on. -/
def OwnAll {β : Type} (B : Nat) (I : β → World → Prop) : Prop := ∀ s W W' row, I s W → W.grownBy W' row → (∀ r, row = some r → B ≤ r) → I s W'
theorem OwnAll.from {β : Type} {B : Nat} {I : β → World → Prop} (h : OwnAll B I) : OwnFrom B I := fun s W W' row hs hg hr => h s W W' row hs hg (fun r e => (hr r e).1)
theorem OwnAll.alloc {β : Type} {B : Nat} {I : β → World → Prop} (h : OwnAll B I) {s : β} {W : World} (o : Obj) (hs : I s W) : I s (W.alloc o) := h s W _ none hs (World.grownBy_alloc W o none) (fun r e => by cases e)
theorem OwnAll.putObj {β : Type} {B : Nat} {I : β → World → Prop} (h : OwnAll B I) {s : β} {W : World} {l : Nat} (o' : Obj) (hs : I s W) (hB : B ≤ l) : I s (W.putObj l o') := h s W _ (some l) hs (grownBy_putObj' W l o') (fun r e => by cases e; exact hB)
theorem OwnAll.and {β : Type} {B : Nat} {I I' : β → World → Prop} (h : OwnAll B I) (h' : OwnAll B I') : OwnAll B (fun s W => I s W ∧ I' s W) := fun s W W' row hs hg hr => ⟨h s W W' row hs.1 hg hr, h' s W W' row hs.2 hg hr⟩
theorem OwnAll.or {β : Type} {B : Nat} {I I' : β → World → Prop} (h : OwnAll B I) (h' : OwnAll B I') : OwnAll B (fun s W => I s W ∨ I' s W) := fun s W W' row hs hg hr => hs.elim (fun a => Or.inl (h s W W' row a hg hr)) (fun a => Or.inr (h' s W W' row a hg hr))
theorem ownAll_pure {β : Type} (B : Nat) (p : β → Prop) : OwnAll B (fun s (_ : World) => p s) := fun _ _ _ _ hs _ _ => hs
theorem ownAll_boxed {β : Type} {B b : Nat} (hb : b < B) (t : TypeId) (f : β → Value) : OwnAll B (fun s W => Boxed W b t (f s)) := fun _ _ _ _ hs hg hr => hs.kept hg (fun e => by have := hr b e.symm; omega)
theorem ownAll_obj {β : Type} {B b : Nat} (hb : b < B) (o : Obj) : OwnAll B (fun (_ : β) (W : World) => W.heap[b]? = some o) := fun _ _ _ _ hs hg hr => (hg.block b (Array.getElem?_eq_some_iff.1 hs).1 (fun e => by have := hr b e.symm; omega)).trans hs
theorem OwnAll.mono {β : Type} {B B' : Nat} {I : β → World → Prop} (h : OwnAll B I) (hB : B ≤ B') : OwnAll B' I := fun s W W' row hs hg hr => h s W W' row hs hg (fun r e => Nat.le_trans hB (hr r e))
theorem OwnAll.comp {β γ : Type} {B : Nat} {I : β → World → Prop} (h : OwnAll B I) (f : γ → β) : OwnAll B (fun s W => I (f s) W) := fun s W W' row hs hg hr => h (f s) W W' row hs hg hr
/-- All but some blocks is kept. -/
structure KpL (Bs : List Nat) (A B : World) : Prop where
  size : A.heap.size ≤ B.heap.size
  same : ∀ (k : Nat) (o : Obj), A.heap[k]? = some o → k ∉ Bs → B.heap[k]? = some o
theorem KpL.refl (Bs : List Nat) (A : World) : KpL Bs A A := ⟨Nat.le_refl _, fun _ _ h _ => h⟩
theorem KpL.trans {Bs : List Nat} {A B C : World} (h : KpL Bs A B) (k : KpL Bs B C) : KpL Bs A C := ⟨Nat.le_trans h.size k.size, fun j o hj hn => k.same j o (h.same j o hj hn) hn⟩
theorem KpL.mono {Bs Cs : List Nat} {A B : World} (h : KpL Bs A B) (hs : ∀ k, k ∈ Bs → k ∈ Cs) : KpL Cs A B := ⟨h.size, fun j o hj hn => h.same j o hj (fun hb => hn (hs j hb))⟩
theorem KpL.of_gb {Bs : List Nat} {A B : World} {row : Option Nat} (h : A.grownBy B row) (hr : ∀ r, row = some r → r ∈ Bs) : KpL Bs A B :=
  ⟨h.size, fun k o hk hn => (h.block k (Array.getElem?_eq_some_iff.1 hk).1 (fun e => hn (hr k e.symm))).trans hk⟩
theorem KpL.put {Bs : List Nat} {l : Nat} (hl : l ∈ Bs) (W : World) (o' : Obj) : KpL Bs W (W.putObj l o') := KpL.of_gb (grownBy_putObj' W l o') (fun r e => by cases e; exact hl)
theorem KpL.of_below {Bs : List Nat} {A B : World} (h : Below A.heap.size A B) : KpL Bs A B := ⟨h.size, fun k o hk _ => (h.block k (Array.getElem?_eq_some_iff.1 hk).1).trans hk⟩
theorem KpL.cell {Bs : List Nat} {A B : World} (h : KpL Bs A B) {p : Addr} {v : Value} (hc : A.cell? p = some v) (hn : p.block ∉ Bs) : B.cell? p = some v := by
  rw [← hc]
  refine World.cell?_of_block ?_
  unfold World.cell? at hc
  rcases h0 : A.heap[p.block]? with _ | o
  · rw [h0] at hc; cases hc
  · exact h.same _ _ h0 hn
theorem KpL.boxed {Bs : List Nat} {A B : World} {b : Nat} {t : TypeId} {v : Value} (h : KpL Bs A B) (hb : Boxed A b t v) (hn : b ∉ Bs) : Boxed B b t v := h.same _ _ hb hn
theorem KpL.keeps {Bs : List Nat} {A B : World} {n : Nat} (h : KpL Bs A B) (hn : ∀ k, k ∈ Bs → k < n) : KeepsFrom n A B := ⟨h.size, fun k o hk h0 _ => h.same k o h0 (fun e => by have := hn k e; omega)⟩

/-- How a body may be left: Kp is paid everywhere. -/
def ownPostT {α : Type} (B : Nat) (Kp : World → World → Prop) (I : List α → World → Prop) (Ix : Code → List α → World → Prop) (xs : List α) (W : World) : Exit → Act → World → Prop
  | .normal, _, W' => KeepsFrom B W W' ∧ Kp W W' ∧ I xs W'
  | .ret, _, W' => KeepsFrom B W W' ∧ Kp W W' ∧ Ix .ret xs W'
  | .exit id, _, W' => KeepsFrom B W W' ∧ Kp W W' ∧ Ix (.exit id) xs W'
  | .goto t, _, W' => KeepsFrom B W W' ∧ Kp W W' ∧ Ix (.goto t) xs W'
  | .panic _, _, _ => False
  | .outgrown, _, _ => False
/-- The contract of such an iterator: J holds between two rounds, J1 where a round begins. -/
def SeqTick {α : Type} (F : Fence) (n : Nat) (P : Program) (g : Nat) (lb : Array Value) (encs : α → Array Value) (Kp Tick : World → World → Prop) (S Sp : List α → Prop) (N : Nat) (w : World) : Prop :=
  ∀ (l : Nat) (J J1 Jx : List α → World → Prop) (W : World), Below w.heap.size w W → w.heap.size + 2 ≤ W.heap.size → OwnAll W.heap.size J → OwnAll W.heap.size J1 → OwnAll W.heap.size Jx →
    (∀ pre A B, J pre A → Tick A B → J1 pre B) →
    (∀ pre x W1, J1 pre W1 → pre.length < N → YieldAt F (n - 1) P l (encs x) W1 fun e W' =>
      (e = .returned (.bool true) ∧ J (pre ++ [x]) W' ∧ Kp W1 W') ∨ (e = .returned (.bool false) ∧ Jx (pre ++ [x]) W' ∧ Kp W1 W')) →
    J [] W →
    CallsIn F n P g (#[.func (.yield l) #[] #[]] ++ lb) W fun e W' => (∃ v, e = .returned v) ∧ ((∃ xs, S xs ∧ J xs W') ∨ (∃ pre, Sp pre ∧ Jx pre W'))

theorem rec_kept {A B : World} {row : Option Nat} {k : Nat} {o : Obj} (hg : A.grownBy B row) (h : A.heap[k]? = some o) (hr : ∀ r, row = some r → k < r) : B.heap[k]? = some o :=
  (hg.block k (Array.getElem?_eq_some_iff.1 h).1 (fun e => Nat.lt_irrefl _ (hr k e.symm))).trans h

set_option maxHeartbeats 1000000 in
theorem range_tick {F : Fence} {n : Nat} {P : Program} {α : Type} {g : Operand} {ps : Array Tmp} {assign body : Code} {Q : Exit → Act → World → Prop} {a : Act} {w : World}
    (hro : F.round = none) (h1 : 1 ≤ n) {gf : Nat} {lb : Array Value} (hg : a.eval g = .func (.func gf) #[] lb) (hFg : F.fn gf) (eg : ∀ args w, (callFunc gf args).run P w = .ok (.enter gf args) w)
    {encs : α → Array Value} {Kp Tick : World → World → Prop} {S Sp : List α → Prop} {N : Nat} {w0 : World} (hseq : SeqTick F (n - 1) P gf lb encs Kp Tick S Sp N w0)
    (hKt : ∀ {A B C : World}, Kp A B → Kp B C → Kp A C) (hKb : ∀ (W : World) (o' : Obj), Kp W (W.putObj (w.heap.size + 1) o')) (hb0 : Below w0.heap.size w0 w) (hps : ∀ x, (encs x).size = ps.size)
    (I I1 : List α → World → Prop) (Ix : Code → List α → World → Prop) (hI : OwnAll w.heap.size I) (hI1 : OwnAll w.heap.size I1) (hIx : ∀ c, OwnAll w.heap.size (Ix c)) (h0 : I [] w)
    (hT : ∀ pre A B, I pre A → Tick A B → I1 pre B ∧ KeepsFrom w.heap.size A B)
    (Ax : Act → α → Act → World → Prop) (hAx : ∀ x a', OwnFrom w.heap.size (fun (_ : Unit) W => Ax a x a' W))
    (hassign : ∀ (l : Nat) (pre : List α) (x : α) (W : World) (K : Act → World → Prop), I1 pre W → (∀ a' W', KeepsFrom w.heap.size W W' → Kp W W' → I1 pre W' → Ax a x a' W' → K a' W') →
      assign.wpIn (F.inRound l) (n - 1 - 1) P (Exit.then K (fun _ _ _ => False)) { tmps := (ps.zip (encs x)).foldl (fun t (p, v) => t.setIfInBounds p v) a.tmps, defers := [] } W)
    (hbody : ∀ (l : Nat) (pre : List α) (x : α) (a' : Act) (W : World), w.heap.size ≤ l → (∃ r, W.heap[l]? = some (.loop r)) → I1 pre W → Ax a x a' W → pre.length < N → body.wpIn (F.inRound l) (n - 1 - 1) P (ownPostT w.heap.size Kp I Ix (pre ++ [x]) W) a' W)
    (hdone : ∀ (D : Nat) (xs : List α) (W : World), w.heap.size ≤ D → S xs → I xs W → W.heap[D]? = some (.deferred (some [])) → Q .normal { a with defers := { target := .collected D, args := #[] } :: a.defers } W)
    (hstop : ∀ (D : Nat) (c : Code) (pre : List α) (W : World), w.heap.size ≤ D → Sp pre → Ix c pre W → W.heap[D]? = some (.deferred (some [])) → c.wpIn F n P Q { a with defers := { target := .collected D, args := #[] } :: a.defers } W) :
    (Code.rangeFunc g ps assign body).wpIn F n P Q a w := by
  refine wpIn_rangeFunc ?_
  intro fn hfn
  rw [hro]
  obtain ⟨rec, hrec⟩ : ∃ rec : LoopState → Option Code → Loop, rec = fun st pe => { state := st, pending := pe, fn, tmps := a.tmps, params := ps, assign, body, defers := w.heap.size } := ⟨_, rfl⟩
  obtain ⟨W1, hW1⟩ : ∃ W1, (w.alloc (.deferred (some []))).alloc (.loop (rec .ready none)) = W1 := ⟨_, rfl⟩
  have hz1 : W1.heap.size = w.heap.size + 1 + 1 := by rw [← hW1, World.size_alloc, World.size_alloc]
  have hL1 : W1.heap[w.heap.size + 1]? = some (.loop (rec .ready none)) := by
    have h := World.alloc_heap_new (w.alloc (.deferred (some []))) (.loop (rec .ready none))
    rwa [World.size_alloc, hW1] at h
  have hK1 : W1.heap[w.heap.size]? = some (.deferred (some [])) := by
    rw [← hW1]
    exact (Below.heap_alloc _ _ _ (by simp)).trans (World.alloc_heap_new w _)
  have hi1 : I [] W1 := by
    rw [← hW1]
    exact hI.alloc _ (hI.alloc _ h0)
  have hb1 : Below w0.heap.size w0 W1 := by
    rw [← hW1]
    exact hb0.trans ((((Below.refl _ w).alloc (Nat.le_refl _) _).alloc (by simp) _).mono hb0.size)
  refine ⟨w.heap.size + 1, [{ target := .collected w.heap.size, args := #[] }], W1, { target := .fn (.func gf) lb, args := #[.func (.yield (w.heap.size + 1)) #[] #[]] }, W1, gf,
    #[.func (.yield (w.heap.size + 1)) #[] #[]] ++ lb, W1, ?_, ?_, ?_, ?_, fun _ => h1, ?_⟩
  · rw [← hW1, hrec]
    exact run_enterLoop_outer _ _ _ _ _
  · simp only [resolve, hg]
    simp [go_sem]
  · intro f' hf'
    simp [Target.leads] at hf'
    subst hf'
    exact hFg
  · simp [invoke, go_sem, eg]
  · have hup : ∀ {row : Option Nat}, (∀ r, row = some r → W1.heap.size ≤ r) → (∀ r, row = some r → w.heap.size ≤ r) := fun hr r e => by have := hr r e; omega
    have hfar : ∀ {row : Option Nat}, (∀ r, row = some r → W1.heap.size ≤ r) → ∀ k, k < w.heap.size + 2 → ∀ r, row = some r → k < r := fun hr k hk r e => by have := hr r e; omega
    have hOwn : ∀ (K : List α → World → Prop), OwnAll w.heap.size K → OwnAll W1.heap.size (fun pre W => K pre W ∧ W.heap[w.heap.size + 1]? = some (.loop (rec .ready none)) ∧ W.heap[w.heap.size]? = some (.deferred (some []))) :=
      fun K hK s A B row hs hgr hr => ⟨hK s A B row hs.1 hgr (hup hr), rec_kept hgr hs.2.1 (hfar hr _ (by omega)), rec_kept hgr hs.2.2 (hfar hr _ (by omega))⟩
    refine (hseq (w.heap.size + 1)
      (fun pre W => I pre W ∧ W.heap[w.heap.size + 1]? = some (.loop (rec .ready none)) ∧ W.heap[w.heap.size]? = some (.deferred (some [])))
      (fun pre W => I1 pre W ∧ W.heap[w.heap.size + 1]? = some (.loop (rec .ready none)) ∧ W.heap[w.heap.size]? = some (.deferred (some [])))
      (fun pre W => ∃ c, Ix c pre W ∧ W.heap[w.heap.size + 1]? = some (.loop (rec .done (some c))) ∧ W.heap[w.heap.size]? = some (.deferred (some [])))
      W1 hb1 (by have := hb0.size; omega) (hOwn I hI) (hOwn I1 hI1)
      (fun s A B row hs hgr hr => by
        obtain ⟨c, hc, hl, hk⟩ := hs
        exact ⟨c, hIx c s A B row hc hgr (hup hr), rec_kept hgr hl (hfar hr _ (by omega)), rec_kept hgr hk (hfar hr _ (by omega))⟩)
      (fun pre A B hA hAB => by
        obtain ⟨h2, h3⟩ := hT pre A B hA.1 hAB
        exact ⟨h2, h3.same _ _ (by omega) hA.2.1 rfl, h3.same _ _ (Nat.le_refl _) hA.2.2 rfl⟩)
      ?_ ⟨hi1, hL1, hK1⟩).mono ?_
    · rintro pre x W ⟨hi, hl, hk⟩ hlen
      have hy := run_yield (P := P) (args := encs x) hl (by rw [hrec]; exact hps x)
      rw [hrec] at hy
      refine ⟨fn, _, assign, body, hy, roundIn_of_wpIn hfn (hassign _ pre x W _ hi ?_)⟩
      clear hy
      intro a' Wa hkfa hkpa hia hax
      have hla := hkfa.same _ _ (by omega) hl rfl
      have hka := hkfa.same _ _ (Nat.le_refl _) hk rfl
      have hlt : w.heap.size + 1 < Wa.heap.size := (Array.getElem?_eq_some_iff.1 hla).1
      refine ⟨_, run_beginRound hla (by rw [hrec]), ?_⟩
      have hl2 : (Wa.putObj (w.heap.size + 1) (.loop { rec .ready none with state := .busy })).heap[w.heap.size + 1]? = some (.loop { rec .ready none with state := .busy }) := World.putObj_heap_same hlt
      have hk2 : (Wa.putObj (w.heap.size + 1) (.loop { rec .ready none with state := .busy })).heap[w.heap.size]? = some (.deferred (some [])) := (World.putObj_heap_other (by omega)).trans hka
      have hw2 : Kp Wa (Wa.putObj (w.heap.size + 1) (.loop { rec .ready none with state := .busy })) := hKb _ _
      refine wpIn_mono (hbody _ pre x a' _ (by omega) ⟨_, hl2⟩ (hI1.putObj _ hia (by omega)) ((hAx x a').putObj (s := ()) _ hax (by omega) hla rfl) hlen) ?_
      have fin : ∀ (jump : Option Code) (W3 : World), KeepsFrom w.heap.size (Wa.putObj (w.heap.size + 1) (.loop { rec .ready none with state := .busy })) W3 →
          (Instr.endRound (w.heap.size + 1) jump).run P W3 = .ok (.bool jump.isNone) (W3.putObj (w.heap.size + 1) (.loop (rec (if jump.isNone then .ready else .done) jump))) ∧
          W3.heap[w.heap.size + 1]? = some (.loop { rec .ready none with state := .busy }) ∧
          (W3.putObj (w.heap.size + 1) (.loop (rec (if jump.isNone then .ready else .done) jump))).heap[w.heap.size + 1]? = some (.loop (rec (if jump.isNone then .ready else .done) jump)) ∧
          (W3.putObj (w.heap.size + 1) (.loop (rec (if jump.isNone then .ready else .done) jump))).heap[w.heap.size]? = some (.deferred (some [])) := fun jump W3 hk3 => by
        have hl3 := hk3.same _ _ (by omega) hl2 rfl
        have he := run_endRound (P := P) jump hl3
        rw [hrec] at he ⊢
        exact ⟨he, by rw [hrec] at hl3; exact hl3, World.putObj_heap_same (Array.getElem?_eq_some_iff.1 hl3).1, (World.putObj_heap_other (by omega)).trans (hk3.same _ _ (Nat.le_refl _) hk2 rfl)⟩
      have left : ∀ (c : Code) (W3 : World), KeepsFrom w.heap.size (Wa.putObj (w.heap.size + 1) (.loop { rec .ready none with state := .busy })) W3 → Ix c (pre ++ [x]) W3 →
          (Instr.endRound (w.heap.size + 1) (some c)).run P W3 = .ok (.bool false) (W3.putObj (w.heap.size + 1) (.loop (rec .done (some c)))) ∧ Ix c (pre ++ [x]) (W3.putObj (w.heap.size + 1) (.loop (rec .done (some c)))) ∧
          (W3.putObj (w.heap.size + 1) (.loop (rec .done (some c)))).heap[w.heap.size + 1]? = some (.loop (rec .done (some c))) ∧ (W3.putObj (w.heap.size + 1) (.loop (rec .done (some c)))).heap[w.heap.size]? = some (.deferred (some [])) := fun c W3 hk3 hi3 => by
        obtain ⟨hr, hl3, hl4, hk4⟩ := fin (some c) W3 hk3
        exact ⟨hr, (hIx _).putObj _ hi3 (by omega), hl4, hk4⟩
      rintro e a3 W3 hp
      cases e with
      | normal =>
        obtain ⟨hk3, hkp3, hi3⟩ := hp
        obtain ⟨hr, hl3, hl4, hk4⟩ := fin none W3 hk3
        exact ⟨_, _, hr, .inl ⟨rfl, ⟨hI.putObj _ hi3 (by omega), hl4, hk4⟩, hKt hkpa (hKt (hKt hw2 hkp3) (hKb _ _))⟩⟩
      | ret =>
        obtain ⟨hr, hi4, hl4, hk4⟩ := left .ret W3 hp.1 hp.2.2
        exact ⟨_, _, hr, .inr ⟨rfl, ⟨.ret, hi4, hl4, hk4⟩, hKt hkpa (hKt (hKt hw2 hp.2.1) (hKb _ _))⟩⟩
      | exit id =>
        obtain ⟨hr, hi4, hl4, hk4⟩ := left (.exit id) W3 hp.1 hp.2.2
        exact ⟨_, _, hr, .inr ⟨rfl, ⟨.exit id, hi4, hl4, hk4⟩, hKt hkpa (hKt (hKt hw2 hp.2.1) (hKb _ _))⟩⟩
      | goto t =>
        obtain ⟨hr, hi4, hl4, hk4⟩ := left (.goto t) W3 hp.1 hp.2.2
        exact ⟨_, _, hr, .inr ⟨rfl, ⟨.goto t, hi4, hl4, hk4⟩, hKt hkpa (hKt (hKt hw2 hp.2.1) (hKb _ _))⟩⟩
      | panic ch => exact hp.elim
      | outgrown => exact hp.elim
    · rintro e W2 ⟨⟨v, rfl⟩, (⟨xs, hS, hi, hl, hk⟩ | ⟨pre, hSp, c, hi, hl, hk⟩)⟩
      · exact ⟨none, _, by have h := run_endLoop (P := P) hl (by rw [hrec]; simp); rw [hrec] at h; exact h, hdone _ xs _ (Nat.le_refl _) hS (hI.putObj _ hi (by omega)) ((World.putObj_heap_other (by omega)).trans hk)⟩
      · exact ⟨some c, _, by have h := run_endLoop (P := P) hl (by rw [hrec]; simp); rw [hrec] at h; exact h, hstop _ c pre _ (Nat.le_refl _) hSp ((hIx c).putObj _ hi (by omega)) ((World.putObj_heap_other (by omega)).trans hk)⟩
end Go.Proofs.Ytpehmlkikhkmfaa
