/- Lex: works: the examples. -/
import Derived.Test.YtlmpeddacadfkaaLexFacts
import Derived.Test.YtlmpeddacadfkaaLexAll
namespace Go.Proofs.Ytlmpeddacadfkaa
open Go.RowKit Go.Shelf
attribute [local go_sem] Oper.semAt_some

set_option maxRecDepth 100000 in
theorem func_not_nil (c : Array Value) (w : World) : (binOp BinOp.eql 46 (.func (.func 42) #[] c) .nilFunc).run Try.prog w = .ok (.bool false) w := by
  first
  | rfl
  | kernel_rfl
  | simp [binOp, go_sem]
theorem callsIn_all {n : Nat} {f : FuncId} {args : Array Value} {w : World} {R : Ending → World → Prop} (h : Calls Try.prog f args w R) : CallsIn Fence.wide n Try.prog f args w R := callsIn_wide.2 h
/-- The law of a range, where what the assignment leaves is said over the activation. -/
theorem rangeH_box {F : Fence} {n : Nat} {P : Program} {w : World} {α : Type} {g : Operand} {ps : Array Tmp} {assign body : Code} {Q : Exit → Act → World → Prop} {a : Act} (AxF : Act → α → Act → World → Prop)
    (hro : F.round = none) (h1 : 1 ≤ n) {gf : Nat} {lb : Array Value} (hg : a.eval g = .func (.func gf) #[] lb) (hFg : F.fn gf) (eg : ∀ args w, (callFunc gf args).run P w = .ok (.enter gf args) w)
    {encs : α → Array Value} {Kp : World → World → Prop} {S Sp : List α → Prop} {N : Nat} (hseq : SeqStopsK F (n - 1) P gf lb encs Kp S Sp N w)
    (hKt : ∀ {A B C : World}, Kp A B → Kp B C → Kp A C) (hKb : ∀ (W : World) (l : Nat) (o o' : Obj), w.heap.size ≤ l → W.heap[l]? = some o → o.isCells = false → o.isWalk = false → Kp W (W.putObj l o')) (hps : ∀ x, (encs x).size = ps.size)
    (I : List α → World → Prop) (Ix : Code → List α → World → Prop) (hI : OwnFrom w.heap.size I) (hIx : ∀ c, OwnFrom w.heap.size (Ix c)) (h0 : I [] w) (hAx : ∀ x a', OwnFrom w.heap.size (fun (_ : Unit) W => AxF a x a' W))
    (hassign : ∀ (l : Nat) (pre : List α) (x : α) (W : World) (K : Act → World → Prop), I pre W → (∀ a' W', KeepsFrom w.heap.size W W' → Kp W W' → I pre W' → AxF a x a' W' → K a' W') →
      assign.wpIn (F.inRound l) (n - 1 - 1) P (Exit.then K (fun _ _ _ => False)) { tmps := (ps.zip (encs x)).foldl (fun t (p, v) => t.setIfInBounds p v) a.tmps, defers := [] } W)
    (hbody : ∀ (l : Nat) (pre : List α) (x : α) (a' : Act) (W : World), w.heap.size ≤ l → (∃ r, W.heap[l]? = some (.loop r)) → I pre W → AxF a x a' W → pre.length < N → body.wpIn (F.inRound l) (n - 1 - 1) P (ownPostG w.heap.size Kp I Ix (pre ++ [x]) W) a' W)
    (hdone : ∀ (D : Nat) (xs : List α) (W : World), w.heap.size ≤ D → S xs → I xs W → W.heap[D]? = some (.deferred (some [])) → Q .normal { a with defers := { target := .collected D, args := #[] } :: a.defers } W)
    (hstop : ∀ (D : Nat) (c : Code) (pre : List α) (W : World), w.heap.size ≤ D → Sp pre → Ix c pre W → W.heap[D]? = some (.deferred (some [])) → c.wpIn F n P Q { a with defers := { target := .collected D, args := #[] } :: a.defers } W) :
    (Code.rangeFunc g ps assign body).wpIn F n P Q a w :=
  wpIn_rangeFunc_ownH hro h1 hg hFg eg hseq hKt hKb (Below.refl _ _) hps I Ix hI hIx h0 (AxF a) hAx hassign hbody hdone hstop
/-- The box of a token, in the slots of the activation. -/
def TokAx (c v : Nat) (B0 : Nat) (a : Act) (x : Tok) (a' : Act) (W : World) : Prop := ∃ Bx, B0 ≤ Bx ∧ W.heap[Bx]? = some (.cells #[.int .u8 (x.kind : Int), .string x.text, .int .i64 (x.at' : Int)] 50 (0, 0)) ∧ a' = { tmps := (a.tmps.setIfInBounds c (tokenV x)).setIfInBounds v (.pointer (some ⟨Bx, 0, none⟩)), defers := [] }
theorem TokAx.own {c v B0 : Nat} {a a' : Act} {x : Tok} {B : Nat} : OwnFrom B (fun (_ : Unit) W => TokAx c v B0 a x a' W) := fun _ X Y row ⟨Bx, h1, h2, h3⟩ hg hr =>
  ⟨Bx, h1, (hg.block Bx (Array.getElem?_eq_some_iff.1 h2).1 (fun e => by obtain ⟨o, ho, hc⟩ := (hr Bx e.symm).2; rw [h2] at ho; cases ho; cases hc)).trans h2, h3⟩
/-- A body that holds no slice in its boxes keeps what it must by any cell it writes there. -/
theorem kpb_set {W : World} {B : Nat} (t : TypeId) {k : IntKind} {i : Int} (u : Int) (h : Boxed W B t (.int k i)) : KpB [B] W (W.setCell ⟨B, 0, none⟩ (.int k u)) := by
  have hn : ∀ j, ¬ Mine [B] (W.setCell ⟨B, 0, none⟩ (.int k u)) j := fun j ⟨Bo, hB, off, m, cap, hc⟩ => by
    rw [List.mem_singleton] at hB
    subst hB
    rw [(h.set _).cell] at hc
    cases hc
  refine ⟨by simp, fun j c e fr hj hne _ => ?_, fun j hm => (hn j hm).elim, fun j _ hm => (hn j hm).elim⟩
  exact ((grownBy_setCell' W B _).block j (Array.getElem?_eq_some_iff.1 hj).1 (fun e => hne (by simpa using e))).trans hj
theorem kpb_grown {W W' : World} {Bs : List Nat} (hb : ∀ Bo, Bo ∈ Bs → Bo < W.heap.size) (hg : W.grownBy W' none) : KpB Bs W W' :=
  ⟨hg.size, fun j _ _ _ hj _ _ => (hg.block j (Array.getElem?_eq_some_iff.1 hj).1 (by simp)).trans hj, fun _ hm => Or.inl ((mine_grown hb hg).1 hm), fun _ _ hm => (mine_grown hb hg).1 hm⟩
theorem not_mine_int {W : World} {B : Nat} {t : TypeId} {k : IntKind} {i : Int} (h : Boxed W B t (.int k i)) (j : Nat) : ¬ Mine [B] W j := fun ⟨Bo, hB, off, m, cap, hc⟩ => by
  rw [List.mem_singleton] at hB
  subst hB
  rw [h.cell] at hc
  cases hc
/-- The sum of the kinds. -/
def kindsOf (pre : List Tok) : Int := pre.foldl (fun a t => wrap64 (a + wrap64 (t.kind : Int))) 0
theorem kindsOf_snoc (pre : List Tok) (t : Tok) : kindsOf (pre ++ [t]) = wrap64 (kindsOf pre + wrap64 (t.kind : Int)) := by simp [kindsOf]
/-- Three cells of a token that somebody owns. -/
theorem own_some {w : World} {Y n cap : Nat} {a : Option Addr} {L : List Tok} (hn : 0 < L.length) (h : OwnT w Y (.slice a n cap) L) : ∃ g, a = some ⟨g, 0, none⟩ ∧ g < w.heap.size ∧ ∀ j u, (L.flatMap tokC)[j]? = some u → w.cell? ⟨g, j, none⟩ = some u := by
  have h0 := h
  rcases h.2 with ⟨hv, h2⟩ | ⟨g, cap2, cur, hv, _, hg, _⟩
  · omega
  · cases hv
    refine ⟨g, rfl, (Array.getElem?_eq_some_iff.1 hg).1, fun j u hj => ?_⟩
    have this := h0.cells (g := g) rfl j u hj
    rw [Addr.add_lit, Nat.zero_add] at this
    exact this
theorem tok_cells {w : World} {Y g cap : Nat} {L : List Tok} (h : OwnT w Y (.slice (some ⟨g, 0, none⟩) L.length cap) L) : ∀ j u, (L.flatMap tokC)[j]? = some u → w.cell? ⟨g, j, none⟩ = some u := fun j u hj => by
  have := h.cells (g := g) rfl j u hj
  rw [Addr.add_lit, Nat.zero_add] at this
  exact this
set_option maxRecDepth 100000 in
set_option maxHeartbeats 4000000 in
theorem works_any (w : World) : Calls Try.prog 10 #[] w fun e w' => e = .returned (.bool true) ∧ Below w.heap.size w w' := by
  have HTk := Lib.hid tokens_any
  have HQ := Lib.hid quote_any
  have HI := Lib.hid isname_any
  have HA := Lib.hid all_any
  have hnn := func_not_nil
  refine (callsIn_wide (n := 5)).1 ?_
  refine callsIn_of_wp_marks Try.func10 rfl trivial ?_ rfl
  simp only [Try.ntmps10, List.size_toArray, List.length_cons, List.length_nil, Nat.reduceAdd, Nat.reduceSub, Array.replicate_succ, Array.replicate_zero, List.push_toArray, List.append_toArray, List.nil_append, List.cons_append]
  gi_wp2_with (first
    | (refine ⟨trivial, ?_⟩; gi_at_call 13; refine (callsIn_all (HTk.out _ _ (by decide))).mono ?_; first
        | (simp only [ex_one]; rintro e w1 ⟨⟨v1, rfl, hv1⟩, hg1⟩; replace hv1 := hv1.resolve_right (fun h => h.1 rfl); obtain ⟨a1, c1, rfl⟩ := own_val3 hv1.2)
        | (rintro e w2 ⟨⟨v2, rfl, hv2⟩, hg2⟩; simp only [ex_two]))
    | (refine ⟨trivial, ?_⟩; gi_at_call 20; refine (callsIn_all (HQ.out _ _ (by decide))).mono ?_; first
        | (simp only [ex_X]; rintro e w3 ⟨rfl, hg3⟩)
        | (simp only [ex_a1]; rintro e w4 ⟨rfl, hg4⟩))
    | (refine ⟨trivial, ?_⟩; gi_at_call 19; refine (callsIn_all (HI.out _ _ (by decide))).mono ?_; simp only [ex_true]; rintro e w5 ⟨rfl, hg5⟩)
    | (refine ⟨trivial, ?_⟩; gi_at_call 17; refine (callsIn_all (HA.out _ _)).mono ?_; rintro e w6 ⟨rfl, rfl⟩))
  obtain ⟨W0, hW0⟩ : ∃ W0, (w5.alloc (.cells #[.string ⟨#[97]⟩] 9)).alloc (.cells #[.int .i64 0] 3) = W0 := ⟨_, rfl⟩
  rw [hW0]
  have hsz : W0.heap.size = w5.heap.size + 1 + 1 := by rw [← hW0, World.size_alloc, World.size_alloc]
  have hg05 : w5.grownBy W0 none := by rw [← hW0]; exact gb_trans (World.grownBy_alloc _ _ none) (World.grownBy_alloc _ _ none) (Or.inl rfl)
  have hBt : W0.heap[w5.heap.size]? = some (.cells #[.string ⟨#[97]⟩] 9 (0, 0)) := by
    rw [← hW0]
    exact ((World.grownBy_alloc _ _ none).block _ (by rw [World.size_alloc]; omega) (by simp)).trans (heap_alloc_new w5 _)
  have hbn : Boxed W0 (w5.heap.size + 1) 3 (.int .i64 0) := by
    have h := Boxed.new (w5.alloc (.cells #[.string ⟨#[97]⟩] 9)) 3 (.int .i64 0)
    rw [World.size_alloc, hW0] at h
    exact h
  have hbe : Below w5.heap.size w5 W0 := (Below.refl _ _).grown hg05 (Nat.le_refl _) (fun _ e => by cases e)
  clear hW0 HTk HQ HI HA
  obtain ⟨g1, rfl, hgl, hgc⟩ := own_some (by simp) hv1.2
  have hg15 : w1.grownBy w5 none := gb_trans (gb_trans (gb_trans hg2 hg3 (Or.inl rfl)) hg4 (Or.inl rfl)) hg5 (Or.inl rfl)
  have hg05' := hg15.size
  refine rangeH_box (TokAx 41 12 W0.heap.size) rfl (by omega) (gf := 42) (lb := #[.pointer (some ⟨w5.heap.size, 0, none⟩)]) rfl trivial (enters_of Try.func42 (by kernel_rfl) rfl)
    (all_stops 4 (by omega) w5.heap.size ⟨#[97]⟩ (by decide) [w5.heap.size + 1] W0 (fun Bo h => by simp at h; omega) (fun k h => (not_mine_int hbn k h).elim) (by simp) (not_mine_int hbn _) hBt)
    KpB.trans (KpB.book (fun Bo h => by simp at h; omega)) (fun _ => rfl)
    (fun pre W => Boxed W (w5.heap.size + 1) 3 (.int .i64 (kindsOf pre)) ∧ Below w5.heap.size w5 W)
    (fun _ _ _ => False)
    (OwnFrom.and (Own.from (boxed_own _ _ _) _) (ownFrom_below (Nat.le_refl _) (by omega)))
    (fun _ _ _ _ _ hs _ _ => hs)
    ⟨hbn, hbe⟩ (fun _ _ => TokAx.own) ?assign ?body ?done ?stop
  case assign =>
    rintro l pre x W K ⟨hb1, hB1⟩ hK
    obtain ⟨tk1, tk2, tk3, tf1, tf2, tf3⟩ := tok_box (gb_refl (W.alloc (.cells #[.int .u8 0, .string ⟨#[]⟩, .int .i64 0] 50)) none)
    simp only [tokenV]
    gi_wp2
    exact hK _ _ ((KeepsOthers.alloc _ _).from _) (kpb_grown (fun Bo h => by simp only [List.mem_singleton] at h; subst h; exact hb1.lt) (World.grownBy_alloc _ _ none)) ⟨hb1.alloc _, hB1.alloc hB1.size _⟩ ⟨W.heap.size, (by have := hsz; have := hb1.lt; have := hB1.size; omega), World.alloc_heap_new W _, rfl⟩
  case body =>
    rintro l pre x a' W hl ⟨r, hr⟩ ⟨hb1, hB1⟩ ⟨Bx, hBx, hbx, rfl⟩ hlt
    have hk0 : W.cell? ⟨Bx, 0, none⟩ = some (.int .u8 (x.kind : Int)) := by simp [World.cell?, hbx]
    have hc1 := hb1.cell
    have hf1 := hb1.frozen
    simp only [tokenV]
    gi_wp2
    exact ⟨(KeepsOthers.setCell _ _ _).from _, kpb_set _ _ hb1, by rw [kindsOf_snoc]; exact hb1.set _, hB1.setCell (p := ⟨w5.heap.size + 1, 0, none⟩) (by simp) _⟩
  case done =>
    rintro D ys W hD hS ⟨hb1, hB1⟩ hK
    rw [show ys = [tk 2 ⟨#[97]⟩ 0 1, tk 1 ⟨#[]⟩ 1 1] from by rw [hS, ex_a], show kindsOf [tk 2 ⟨#[97]⟩ 0 1, tk 1 ⟨#[]⟩ 1 1] = 3 from by kernel_rfl] at hb1
    have hEnd : Below w.heap.size w (W.putObj D (.deferred none)) := by
      have h0 : Below w.heap.size w w5 := (Below.refl _ _).grown (gb_trans hg1 hg15 (Or.inl rfl)) (Nat.le_refl _) (fun _ e => by cases e)
      have h1 : Below w.heap.size w W := h0.trans (hB1.mono h0.size)
      exact h1.trans (belowK_b (w := w) (Nat.le_refl _) W D _ _ (by have := h0.size; omega) hK rfl rfl)
    have hc1 : W.cell? ⟨w5.heap.size + 1, 0, none⟩ = some (.int .i64 3) := hb1.cell
    have hcell : ∀ j u, (([tk 3 ⟨#[71]⟩ 0 1, tk 4 ⟨#[40]⟩ 1 2, tk 2 ⟨#[114, 101, 113]⟩ 2 5, tk 4 ⟨#[45, 62]⟩ 5 7, tk 3 ⟨#[70]⟩ 7 8, tk 2 ⟨#[97, 99, 107, 32, 49]⟩ 9 16, tk 4 ⟨#[41]⟩ 16 17, tk 1 ⟨#[]⟩ 17 17].flatMap tokC))[j]? = some u → W.cell? ⟨g1, j, none⟩ = some u := fun j u hj => by
      rw [← hgc j u hj]
      exact (hB1.cell (p := ⟨g1, j, none⟩) (by show g1 < _; omega)).trans (World.cell?_of_block (hg15.block g1 hgl (by simp)))
    have h0 : W.cell? ⟨g1, 0, none⟩ = some (.int .u8 3) := hcell 0 _ rfl
    have h1 : W.cell? ⟨g1, 1, none⟩ = some (.string ⟨#[71]⟩) := hcell 1 _ rfl
    have h2 : W.cell? ⟨g1, 2, none⟩ = some (.int .i64 0) := hcell 2 _ rfl
    have h3 : W.cell? ⟨g1, 15, none⟩ = some (.int .u8 2) := hcell 15 _ rfl
    have h4 : W.cell? ⟨g1, 16, none⟩ = some (.string ⟨#[97, 99, 107, 32, 49]⟩) := hcell 16 _ rfl
    have h5 : W.cell? ⟨g1, 17, none⟩ = some (.int .i64 9) := hcell 17 _ rfl
    have h6 : W.cell? ⟨g1, 21, none⟩ = some (.int .u8 1) := hcell 21 _ rfl
    have h7 : W.cell? ⟨g1, 22, none⟩ = some (.string ⟨#[]⟩) := hcell 22 _ rfl
    have h8 : W.cell? ⟨g1, 23, none⟩ = some (.int .i64 17) := hcell 23 _ rfl
    clear hcell
    clear hb1 hB1 hgc hv1 hbe hbn hBt
    gi_wp2
    refine ⟨by simp, .inl ⟨_, _, rfl, run_takeDeferred hK, ?_⟩⟩
    exact ⟨_, results_tmp rfl _ _ _, rfl, hEnd⟩
  case stop =>
    rintro D c pre W _ _ h _
    exact h.elim
end Go.Proofs.Ytlmpeddacadfkaa
