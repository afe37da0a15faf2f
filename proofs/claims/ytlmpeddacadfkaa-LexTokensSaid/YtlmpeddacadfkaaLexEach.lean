/- LexTokens: the law's walk. -/
import Derived.Test.YtlmpeddacadfkaaLexBegins
import Derived.Test.YtlmpeddacadfkaaRefLexBegin
import Derived.Test.YtlmpeddacadfkaaBookT
import Derived.Test.YtlmpeddacadfkaaQuietRound
namespace Go.Proofs.Ytlmpeddacadfkaa
open Go.RowKit Go.Shelf
attribute [local go_sem] Oper.semAt_some

theorem rangeN_box {F : Fence} {n : Nat} {P : Program} {w : World} {α : Type} {g : Operand} {ps : Array Tmp} {assign body : Code} {Q : Exit → Act → World → Prop} {a : Act} (AxF : Act → α → Act → World → Prop)
    {l₀ : Nat} {r₀ : Loop} (hro : F.round = some l₀) (hl₀ : w.heap[l₀]? = some (.loop r₀)) (h1 : 1 ≤ n) {gf : Nat} {lb : Array Value} (hg : a.eval g = .func (.func gf) #[] lb) (hFg : F.fn gf) (eg : ∀ args w, (callFunc gf args).run P w = .ok (.enter gf args) w)
    {encs : α → Array Value} {Kp : World → World → Prop} {S Sp : List α → Prop} {N : Nat} (hseq : SeqStopsK F (n - 1) P gf lb encs Kp S Sp N w)
    (hKt : ∀ {A B C : World}, Kp A B → Kp B C → Kp A C) (hKb : ∀ (W : World) (l : Nat) (o o' : Obj), w.heap.size ≤ l → W.heap[l]? = some o → o.isCells = false → o.isWalk = false → Kp W (W.putObj l o')) (hps : ∀ x, (encs x).size = ps.size)
    (I : List α → World → Prop) (Ix : Code → List α → World → Prop) (hI : OwnFrom w.heap.size I) (hIx : ∀ c, OwnFrom w.heap.size (Ix c)) (h0 : I [] w) (hAx : ∀ x a', OwnFrom w.heap.size (fun (_ : Unit) W => AxF a x a' W))
    (hassign : ∀ (l : Nat) (pre : List α) (x : α) (W : World) (K : Act → World → Prop), I pre W → (∀ a' W', KeepsFrom w.heap.size W W' → Kp W W' → I pre W' → AxF a x a' W' → K a' W') →
      assign.wpIn (F.inRound l) (n - 1 - 1) P (Exit.then K (fun _ _ _ => False)) { tmps := (ps.zip (encs x)).foldl (fun t (p, v) => t.setIfInBounds p v) a.tmps, defers := [] } W)
    (hbody : ∀ (l : Nat) (pre : List α) (x : α) (a' : Act) (W : World), w.heap.size ≤ l → (∃ r, W.heap[l]? = some (.loop r)) → I pre W → AxF a x a' W → pre.length < N → body.wpIn (F.inRound l) (n - 1 - 1) P (ownPostG w.heap.size Kp I Ix (pre ++ [x]) W) a' W)
    (hdone : ∀ (xs : List α) (W : World), S xs → I xs W → Q .normal a W)
    (hstop : ∀ (c : Code) (pre : List α) (W : World), Sp pre → Ix c pre W → c.wpIn F n P Q a W) :
    (Code.rangeFunc g ps assign body).wpIn F n P Q a w :=
  wpIn_rangeFunc_ownN hro hl₀ h1 hg hFg eg hseq hKt hKb (Below.refl _ _) hps I Ix hI hIx h0 (AxF a) hAx hassign hbody hdone hstop
theorem mark_own {β : Type} {D B : Nat} {o : Obj} (h : D < B) : OwnFrom B (fun (_ : β) (W : World) => W.heap[D]? = some o) := fun _ _ _ _ hs hg hr =>
  (hg.block D (Array.getElem?_eq_some_iff.1 hs).1 (fun e => Nat.lt_irrefl _ (Nat.lt_of_lt_of_le h (hr D e.symm).1))).trans hs
theorem ownFrom_or {β : Type} {B : Nat} {I I' : β → World → Prop} (h : OwnFrom B I) (h' : OwnFrom B I') : OwnFrom B (fun s W => I s W ∨ I' s W) := fun s W W' row hs hg hr => hs.elim (fun a => Or.inl (h s W W' row a hg hr)) (fun a => Or.inr (h' s W W' row a hg hr))
theorem mark_set {D B : Nat} {o : Obj} {W : World} {v : Value} (h : W.heap[D]? = some o) (hne : D ≠ B) : (W.setCell ⟨B, 0, none⟩ v).heap[D]? = some o := (Below.heap_setCell _ _ _ _ hne).trans h
/-- Tokens are the same where their three places are. -/
theorem pre_nextT {R pre : List Tok} {x : Tok} (hp : pre <+: R) (hl : pre.length < R.length) (hx : R.getD pre.length tok0 = x) : pre ++ [x] <+: R := by
  obtain ⟨t, rfl⟩ := hp
  cases t with
  | nil => simp at hl
  | cons y t =>
    simp [List.getD_eq_getElem?_getD] at hx
    subst hx
    exact ⟨t, by simp⟩
theorem prefix_getT {R pre : List Tok} {x : Tok} (h : pre ++ [x] <+: R) : R.getD pre.length tok0 = x := by
  obtain ⟨t, rfl⟩ := h
  simp [List.getD_eq_getElem?_getD]
/-- What turned nothing that stood has kept what a round must keep. -/
theorem kpb_below {W W' : World} {B : Nat} {t : TypeId} {k : IntKind} {i : Int} (h : Boxed W B t (.int k i)) (hb : Below W.heap.size W W') : KpB [B] W W' := by
  have hn : ∀ j, ¬ Mine [B] W' j := not_mine_int ((hb.block _ h.lt).trans h)
  exact ⟨hb.size, fun j c e fr hj _ _ => (hb.block j (Array.getElem?_eq_some_iff.1 hj).1).trans hj, fun j hm => (hn j hm).elim, fun j _ hm => (hn j hm).elim⟩
theorem keeps_below {W W' : World} {B : Nat} (hb : Below W.heap.size W W') : KeepsFrom B W W' := ⟨hb.size, fun k o _ hk _ => (hb.block k (Array.getElem?_eq_some_iff.1 hk).1).trans hk⟩
theorem results_bool {fn : Func} {a : Tmp} (h : fn.results = #[.cell a 4]) (tmps : Array Value) (w : World) (B : Nat) (b : Bool) (ha : tmps.getD a undef = .pointer (some ⟨B, 0, none⟩)) (hb : Boxed w B 4 (.bool b)) : (results fn tmps).run Try.prog w = .ok (.bool b) w := by
  have ha' : tmps[a]?.getD undef = .pointer (some ⟨B, 0, none⟩) := by simpa using ha
  have hc := hb.cell
  simp [results, h, ha', asAddr, go_sem, hc]
theorem leave2 {fn : Func} {a : Tmp} {tmps : Array Value} {w W : World} {D1 D2 n B : Nat} (hres : fn.results = #[.cell a 4]) (ha : tmps.getD a undef = .pointer (some ⟨B, 0, none⟩)) (hbx : Boxed W B 4 (.bool true)) (hB : Below w.heap.size w W)
    (h2 : W.heap[D2]? = some (.deferred (some []))) (h1 : W.heap[D1]? = some (.deferred (some []))) (l0 : w.heap.size ≤ B) (l1 : B < D1) (l2 : D1 < D2) :
    LeavesInM Fence.wide n Try.prog fn tmps (fun e w' => e = .returned (.bool true) ∧ Below w.heap.size w w') [{ target := .collected D2, args := #[] }, { target := .collected D1, args := #[] }] .returning W := by
  refine ⟨by simp, .inl ⟨D2, _, rfl, run_takeDeferred h2, ?_⟩⟩
  have h1' : (W.putObj D2 (.deferred none)).heap[D1]? = some (.deferred (some [])) := (World.putObj_heap_other (by omega)).trans h1
  have hbx' : Boxed (W.putObj D2 (.deferred none)) B 4 (.bool true) := hbx.kept (grownBy_putObj' _ _ _) (fun e => by cases e; omega)
  have hB' : Below w.heap.size w (W.putObj D2 (.deferred none)) := hB.grown (grownBy_putObj' _ _ _) hB.size (fun k e => by cases e; omega)
  refine ⟨by simp, .inl ⟨D1, _, rfl, run_takeDeferred h1', ?_⟩⟩
  exact ⟨_, results_bool hres _ _ B true ha (hbx'.kept (grownBy_putObj' _ _ _) (fun e => by cases e; omega)), rfl, hB'.grown (grownBy_putObj' _ _ _) hB'.size (fun k e => by cases e; omega)⟩
theorem row_low {w w' : World} {v : Value} {L : List Tok} {Y : Nat} (h : TokRow w v L) (hl : ∀ b, v.ownBlock = some b → b < Y) (hb : Below Y w w') (hY : Y ≤ w.heap.size) : TokRow w' v L := by
  obtain ⟨a, cap, rfl, h2, h3, h4⟩ := h
  refine ⟨a, cap, rfl, h2, h3, fun i hi => ?_⟩
  obtain ⟨g, rfl, k0, k1, k2, k3⟩ := h4 i hi
  have hg : g < Y := hl g rfl
  exact ⟨g, rfl, Nat.lt_of_lt_of_le k0 hb.size, (hb.cell (p := ⟨g, _, none⟩) hg).trans k1, (hb.cell (p := ⟨g, _, none⟩) hg).trans k2, (hb.cell (p := ⟨g, _, none⟩) hg).trans k3⟩
theorem row_set {w : World} {v u : Value} {L : List Tok} {b : Nat} (h : TokRow w v L) (hne : v.ownBlock ≠ some b) : TokRow (w.setCell ⟨b, 0, none⟩ u) v L := by
  obtain ⟨a, cap, rfl, h2, h3, h4⟩ := h
  refine ⟨a, cap, rfl, h2, h3, fun i hi => ?_⟩
  obtain ⟨g, rfl, k0, k1, k2, k3⟩ := h4 i hi
  have hb : ∀ o, (w.setCell ⟨b, 0, none⟩ u).cell? ⟨g, o, none⟩ = w.cell? ⟨g, o, none⟩ := fun o => World.cell?_of_block ((grownBy_setCell' w b u).block g k0 (fun e => hne (by rw [← e]; rfl)))
  exact ⟨g, rfl, by simpa using k0, (hb _).trans k1, (hb _).trans k2, (hb _).trans k3⟩
/-- The last of them is not the one that should stand there. -/
def BadT (L p : List Tok) : Prop := ∃ q x, p = q ++ [x] ∧ ¬ likeT x (L.getD q.length tok0)
theorem bad_not {L p : List Tok} (h : p <+: L) (hb : BadT L p) : False := by
  obtain ⟨q, x, rfl, hn⟩ := hb
  exact hn (by rw [prefix_getT h]; exact ⟨rfl, rfl, rfl⟩)
theorem not_like {x y : Tok} (h : ¬ likeT x y) : ((x.kind : Int) == (y.kind : Int)) = false ∨ (x.text.toList == y.text.toList) = false ∨ ((x.at' : Int) == (y.at' : Int)) = false := by
  by_cases h1 : x.kind = y.kind
  · by_cases h2 : x.text = y.text
    · right; right
      rw [beq_eq_false_iff_ne]
      intro e
      exact h ⟨h1, h2, by omega⟩
    · right; left
      rw [beq_eq_false_iff_ne]
      intro e
      exact h2 (toList_eq (by rw [e]))
  · left
    rw [beq_eq_false_iff_ne]
    omega
/-- The tokens that Tokens hands back. -/
def fullT (s : ByteArray) : List Tok := if (allT s 0).2.1 = 0 then (allT s 0).1 else []
theorem full_own {s : ByteArray} {w : World} {Y : Nat} {v : Value} (h : (allT s 0).2.1 = 0 ∧ OwnT w Y v (allT s 0).1 ∨ (allT s 0).2.1 ≠ 0 ∧ v = .slice none 0 0) : OwnT w Y v (fullT s) := by
  unfold fullT
  rcases h with ⟨h1, h2⟩ | ⟨h1, rfl⟩
  · rw [if_pos h1]; exact h2
  · rw [if_neg h1]; exact World.ownsRow_nil _ _ _ _
theorem toks_len (s : ByteArray) (hs : s.size ≤ 100000000) : (allT s 0).1.length ≤ s.size + 1 := by
  have key : ∀ (f k : Nat), (toks s f k).1.length ≤ f := fun f => by
    induction f with
    | zero => intro k; exact Nat.le_refl _
    | succ f ih =>
      intro k
      unfold toks
      split
      · simp
      · split
        · simp
        · have := ih (nextR s k).behind
          simp only [List.length_cons]
          omega
  exact key _ _
set_option maxRecDepth 100000 in
set_option maxHeartbeats 4000000 in
theorem each_any (s : ByteArray) (most : Int) (w : World) (m1 : -9223372036854775808 ≤ most) (m2 : most ≤ 9223372036854775807) :
    Calls Try.prog 4 #[.string s, .int .i64 most] w fun e w' => e = .returned (.bool true) ∧ Below w.heap.size w w' := by
  refine (callsIn_wide (n := 8)).1 ?_
  refine callsIn_of_wp_marks Try.func4 rfl trivial ?_ rfl
  simp only [Try.ntmps4, List.size_toArray, List.length_cons, List.length_nil, Nat.reduceAdd, Nat.reduceSub, Array.replicate_succ, Array.replicate_zero, List.push_toArray, List.append_toArray, List.nil_append, List.cons_append]
  obtain ⟨w0, hw0⟩ : ∃ w0, w0 = (w.alloc (.cells #[.int .i64 most] 3)).alloc (.cells #[.bool false] 4) := ⟨_, rfl⟩
  have hB0 : Below w.heap.size w w0 := by rw [hw0]; exact ((Below.refl _ _).alloc (Nat.le_refl _) _).alloc (by rw [World.size_alloc]; omega) _
  have hbm0 : Boxed w0 w.heap.size 3 (.int .i64 most) := by rw [hw0]; exact (Boxed.new w 3 (.int .i64 most)).alloc _
  have hbr0 : Boxed w0 (w.heap.size + 1) 4 (.bool false) := by
    have := Boxed.new (w.alloc (.cells #[.int .i64 most] 3)) 4 (.bool false)
    rw [World.size_alloc] at this
    rw [hw0]; exact this
  have HWk := Lib.hid (works_any w0)
  by_cases hs : 16777216 < s.size
  · have hsI : (16777216 : Int) < (s.size : Int) := by omega
    gi_wp2_with fail
    rw [← hw0]
    refine ⟨trivial, ?_⟩
    refine (callsIn_all HWk.out).mono ?_
    rintro e w1 ⟨rfl, hB1⟩
    have hbr1 : Boxed w1 (w.heap.size + 1) 4 (.bool false) := (hB1.block _ hbr0.lt).trans hbr0
    have hcr := hbr1.cell
    have hfr := hbr1.frozen
    gi_wp2
    exact ⟨_, results_bool rfl _ _ (w.heap.size + 1) true rfl (hbr1.set _), rfl, (hB0.trans (hB1.mono hB0.size)).setCell (p := ⟨w.heap.size + 1, 0, none⟩) (by simp) _⟩
  · have hsI : ¬ ((16777216 : Int) < (s.size : Int)) := by omega
    have hs' : s.size ≤ 100000000 := by omega
    have hln := toks_len s hs'
    have HFl : Hid (fullT s = fullT s) := Lib.hid rfl
    have HRT := Lib.hid (reftokens_any s · hs')
    have HRB := Lib.hid (refbegin_any s · hs')
    have HTk := Lib.hid (tokens_any s · hs')
    have HBg := Lib.hid (begins_any s hs')
    have HAl := Lib.hid (fun wx => all_any s wx)
    have hnn := func_not_nil
    have HSq := Lib.hid (fun n hn Bt Bs wx h1 h2 h3 h4 h5 => all_stops n hn Bt s hs' Bs wx h1 h2 h3 h4 h5)
    have HFO := Lib.hid (fun wx Y v h => full_own (s := s) (w := wx) (Y := Y) (v := v) h)
    have hfl : (fullT s).length ≤ s.size + 1 := by
      unfold fullT
      split
      · exact hln
      · simp
    generalize fullT s = F at HFO hfl HFl
    generalize allT s 0 = A at HRT HRB HTk HBg HSq HFO hln
    obtain ⟨L, er, at'⟩ := A
    (try simp only at HRT); (try simp only at HRB); (try simp only at HTk); (try simp only at HBg); (try simp only at HSq); (try simp only at HFO); (try simp only at hln)
    gi_wp2_with fail
    rw [← hw0]
    clear hw0
    refine ⟨trivial, ?_⟩
    refine (callsIn_all HWk.out).mono ?_
    rintro e w1 ⟨rfl, hB1⟩
    have hbm1 : Boxed w1 w.heap.size 3 (.int .i64 most) := (hB1.block _ hbm0.lt).trans hbm0
    have hbr1 : Boxed w1 (w.heap.size + 1) 4 (.bool false) := (hB1.block _ hbr0.lt).trans hbr0
    have hBw1 : Below w.heap.size w w1 := hB0.trans (hB1.mono hB0.size)
    have hz1 : w.heap.size + 1 < w1.heap.size := hbr1.lt
    clear hB1 hbm0 hbr0 hB0 HWk
    gi_wp2_with (first
      | (refine ⟨trivial, ?_⟩; gi_at_call 11; refine (callsIn_all (HRT.out _)).mono ?_; rintro e w2 ⟨⟨v2, rfl, hv2⟩, hg2⟩; replace hv2 := HFO.out _ _ _ hv2)
      | (refine ⟨trivial, ?_⟩; gi_at_call 12; refine (callsIn_all (HRB.out _)).mono ?_; rintro e w3 ⟨⟨v3, rfl, hv3⟩, hg3⟩; obtain ⟨a3, c3, rfl⟩ := own_val3 hv3))
    obtain ⟨w4, hw4⟩ : ∃ w4, w4 = w3.alloc (.cells #[.slice a3 L.length c3] 23) := ⟨_, rfl⟩
    have hg34 : w3.grownBy w4 none := by rw [hw4]; exact World.grownBy_alloc _ _ none
    have hbf4 : Boxed w4 w3.heap.size 23 (.slice a3 L.length c3) := by rw [hw4]; exact Boxed.new _ _ _
    have hz4 : w4.heap.size = w3.heap.size + 1 := by rw [hw4]; exact World.size_alloc _ _
    rw [← hw4]
    clear hw4
    have hbk5 := book_new w4
    have hg45 := World.grownBy_alloc w4 (.cells #[nilS, nilS, nilS, nilS, nilS, nilS, nilS, nilS, nilS, nilS, nilS, nilS, nilS] 42) none
    unfold nilS at hbk5 hg45
    generalize hw5 : w4.alloc _ = w5 at hbk5 hg45 ⊢
    have hz5 : w5.heap.size = w4.heap.size + 1 := by rw [← hw5]; exact World.size_alloc _ _
    clear hw5
    have hg15 := gb_trans (gb_trans (gb_trans hg2 hg3 (Or.inl rfl)) hg34 (Or.inl rfl)) hg45 (Or.inl rfl)
    have HV2 := Lib.hid (own_row (hv2.kept (gb_trans (gb_trans hg3 hg34 (Or.inl rfl)) hg45 (Or.inl rfl)) (Classical.em _)))
    have HV3 := Lib.hid (own_row (hv3.kept (gb_trans hg34 hg45 (Or.inl rfl)) (Classical.em _)))
    obtain ⟨Y, hY⟩ : ∃ Y, Y = w3.heap.size + 1 := ⟨_, rfl⟩
    have hv2l : ∀ b, v2.ownBlock = some b → b < Y := fun b hb => by have := (hv2.lt b hb).2; have := hg3.size; omega
    have hv3l : ∀ b, (Value.slice a3 L.length c3).ownBlock = some b → b < Y := fun b hb => by have := (hv3.lt b hb).2; omega
    have hv3g : (Value.slice a3 L.length c3).ownBlock ≠ some w.heap.size := fun e => by have := (hv3.lt _ e).1; have := hg2.size; omega
    have hbm5 := hbm1.kept hg15 (by simp)
    have hbr5 := hbr1.kept hg15 (by simp)
    have hbf5 := hbf4.kept hg45 (by simp)
    have hBw5 : Below w.heap.size w w5 := hBw1.grown hg15 (by omega) (fun _ e => by cases e)
    have hzY : w1.heap.size < Y := by have := hg2.size; have := hg3.size; omega
    have hb9Y : w3.heap.size < Y := by omega
    rw [hz4, ← hY] at hbk5 hz5
    rw [← hY]
    generalize hb9 : w3.heap.size = B9 at hbf5 hb9Y ⊢
    have hnS : nilS = .slice none 0 0 := rfl
    clear hg15 hg45 hg34 hg2 hg3 hbm1 hbr1 hbf4 hBw1 hv2 hv3 hz4 hY hb9
    have HO0 := Lib.hid (own1_nil w5 Y 50 F.length mkT)
    have HBk0 : Hid (BookAt w5 Y Y nilS []) := Lib.hid hbk5
    have HBl0 := Lib.hid (Below.refl Y w5)
    have HF5 : Hid (∀ wx, Below Y w5 wx → TokRow wx v2 F ∧ TokRow wx (.slice a3 L.length c3) L ∧ Boxed wx w.heap.size 3 (.int .i64 most) ∧ Boxed wx (w.heap.size + 1) 4 (.bool false) ∧ Boxed wx B9 23 (.slice a3 L.length c3) ∧ Below w.heap.size w wx) := Lib.hid fun wx hb => by
      refine ⟨?_, ?_, ?_, ?_, ?_, ?_⟩
      · exact row_low HV2.out hv2l hb (by omega)
      · exact row_low HV3.out hv3l hb (by omega)
      · exact (hb.block _ (by omega)).trans hbm5
      · exact (hb.block _ (by omega)).trans hbr5
      · exact (hb.block _ hb9Y).trans hbf5
      · exact hBw5.trans (hb.mono (by omega))
    clear hbk5 hbm5 hbr5 hbf5 hBw5
    gi_loopw [13] (fun i wr => ∃ (k : Nat) (vs : List Value) (v : Value), k ≤ 2 ∧ i = .int .i64 (k : Int) ∧ vs.length = k ∧ Hid (BookAt wr Y Y v vs) ∧ Hid (OwnP1 wr Y 50 vs (fun _ => F.length) mkT 0 0) ∧ Hid (Below Y w5 wr)) (fun i _ => 2 - (intOf i).toNat)
    case atStart => exact ⟨0, [], nilS, by omega, rfl, rfl, HBk0, HO0, HBl0⟩
    case round =>
      obtain ⟨k, vs, v, hk, rfl, hvl, HBk, HO, HBl⟩ := hrel
      by_cases hlt : k < 2
      · have hkI : (k : Int) < 2 := by omega
        obtain ⟨f2, f3, fm, fr, f9, fE⟩ := HF5.out _ HBl.out
        gi_wp2_with (refine ⟨trivial, ?_⟩; gi_at_call 13; refine (callsIn_all (HTk.out _)).mono ?_; rintro e w6 ⟨⟨v6, rfl, hv6⟩, hg6⟩; replace hv6 := HFO.out _ _ _ hv6; obtain ⟨a6, c6, rfl⟩ := own_val3 hv6)
        have hsm := sametokens_yes (own_row hv6) (f2.grown hg6) rfl (fun i _ => ⟨rfl, rfl, rfl⟩)
        have hpu := own1_push HO.out hg6 hv6 (by have := HBl.out.size; omega)
        have hbk6 : BookAt w6 Y Y v vs := ⟨(hg6.block Y (Array.getElem?_eq_some_iff.1 HBk.out.blk).1 (by simp)).trans HBk.out.blk, HBk.out.row.kept hg6 (Classical.em _)⟩
        have HSm := Lib.hid hsm
        have HP6 := Lib.hid (And.intro hpu hbk6)
        have hbl6 := HBl.out.grown hg6 (by have := HBl.out.size; omega) (fun _ e => by cases e)
        have HB6 := Lib.hid hbl6
        have hz6 : Y ≤ w6.heap.size := by have := hbl6.size; omega
        clear hsm hpu hbk6 hv6 hg6 hbl6 f2 f3 fm f9 fE
        refine ⟨trivial, ?_⟩
        refine (callsIn_all HSm.out).mono ?_
        rintro e w7 ⟨rfl, hg7⟩
        gi_wp2
        have hbk7 : BookAt w7 Y Y v vs := ⟨(hg7.block Y (Array.getElem?_eq_some_iff.1 HP6.out.2.blk).1 (by simp)).trans HP6.out.2.blk, HP6.out.2.row.kept hg7 (Classical.em _)⟩
        have hz7 : Y ≤ w7.heap.size := by have := hg7.size; omega
        have HBt := Lib.hid (book_tokens (n := F.length) (cap := c6) (a := a6) hbk7 hz7 (Nat.le_refl _) (by omega))
        have HP7 := Lib.hid (HP6.out.1.kept hg7)
        have HB7 := Lib.hid (HB6.out.grown hg7 hz6 (fun _ e => by cases e))
        clear hbk7 hg7 HP6 HSm
        refine ⟨trivial, ?_⟩
        refine (callsIn_all HBt.out).mono ?_
        rintro e w8 ⟨rfl, ⟨v8, hbk8⟩, hb8, hf8⟩
        have HP8 := Lib.hid (own1_over HP7.out hf8)
        have HK8 := Lib.hid hbk8
        have HB8 := Lib.hid (HB7.out.trans hb8)
        clear hbk8 hb8 hf8
        gi_wp2
        exact ⟨⟨k + 1, vs ++ [.slice a6 F.length c6], v8, by omega, by go_num, by simp [hvl], HK8, HP8, HB8⟩, by simp [intOf]; omega⟩
      · obtain rfl : k = 2 := by omega
        have hkI : ¬ ((2 : Int) < 2) := by omega
        have HOw := Lib.hid (book_own HBk.out HO.out (fun _ _ => by omega) (by omega) (by have := HBl.out.size; omega))
        obtain ⟨M, E, hE, hM1, hM2, hX1, hX2, hX3, hX4⟩ : ∃ (M : Int) (E : Nat), E ≤ L.length ∧ (if (L.length : Int) < most then (L.length : Int) else most) = M ∧ (if most < (L.length : Int) then most else (L.length : Int)) = M ∧ (if (0 : Int) < M then M else 0) = (E : Int) ∧ (if M < 0 then 0 else M) = (E : Int) ∧ (if M ≤ 0 then 0 else M) = (E : Int) ∧ (if 0 ≤ M then M else 0) = (E : Int) := ⟨min most L.length, (max 0 (min most L.length)).toNat, by omega, by split <;> omega, by split <;> omega, by split <;> omega, by split <;> omega, by split <;> omega, by split <;> omega⟩
        gi_wp2_with (refine ⟨trivial, ?_⟩; gi_at_call 16; refine (callsIn_all HOw.out).mono ?_; rintro e w6 ⟨rfl, hO6⟩; have HBl6 := Lib.hid (HBl.out.trans hO6.bel); obtain ⟨f2, f3, fm, fr, f9, fE⟩ := HF5.out _ HBl6.out; have hcm := fm.cell; have hfm := fm.frozen; have hc9 := f9.cell)
        have hz6 : Y ≤ w6.heap.size := by have := HBl6.out.size; omega
        have f37 : TokRow (w6.setCell ⟨w.heap.size, 0, none⟩ (.int .i64 (E : Int))) (.slice a3 L.length c3) L := row_set f3 hv3g
        have fm7 := fm.set (.int .i64 (E : Int))
        have fr7 := fr.other (B' := w.heap.size) (by omega) (.int .i64 (E : Int))
        have f97 : Boxed (w6.setCell ⟨w.heap.size, 0, none⟩ (.int .i64 (E : Int))) B9 23 (.slice a3 L.length c3) := f9.kept (grownBy_setCell' _ _ _) (fun e => by
          obtain rfl : B9 = w.heap.size := Option.some.inj e
          have := f9
          rw [Boxed, fm] at this
          simp only [Option.some.injEq, Obj.cells.injEq] at this
          exact absurd this.2.1 (by decide))
        have fE7 := fE.setCell (p := ⟨w.heap.size, 0, none⟩) (Nat.le_refl _) (.int .i64 (E : Int))
        have hz7 : Y ≤ (w6.setCell ⟨w.heap.size, 0, none⟩ (.int .i64 (E : Int))).heap.size := by simpa using hz6
        generalize w6.setCell ⟨w.heap.size, 0, none⟩ (.int .i64 (E : Int)) = w7 at f37 fm7 fr7 f97 fE7 hz7 ⊢
        clear f2 f3 fm fr f9 fE hcm hfm hc9 hO6
        refine ⟨trivial, ?_⟩
        refine (callsIn_all (HAl.out _)).mono ?_
        rintro e w8 ⟨rfl, hw8⟩
        have hbt8 : w8.heap[w7.heap.size]? = some (.cells #[.string s] 9 (0, 0)) := by rw [hw8]; exact heap_alloc_new w7 _
        have hg78 : w7.grownBy w8 none := by rw [hw8]; exact World.grownBy_alloc _ _ none
        have hz8 : w8.heap.size = w7.heap.size + 1 := by rw [hw8]; exact World.size_alloc _ _
        clear hw8
        obtain ⟨Bt, hBt⟩ : ∃ Bt, Bt = w7.heap.size := ⟨_, rfl⟩
        rw [← hBt] at hbt8 hz8 ⊢
        have hBtY : Y ≤ Bt := by omega
        clear hBt
        have hbi9 := Boxed.new w8 46 (.func (.func 42) #[] #[.pointer (some ⟨Bt, 0, none⟩)])
        have hci9 := hbi9.cell
        have hg89 := World.grownBy_alloc w8 (.cells #[.func (.func 42) #[] #[.pointer (some ⟨Bt, 0, none⟩)]] 46) none
        have hnn9 := hnn #[.pointer (some ⟨Bt, 0, none⟩)] (w8.alloc (.cells #[.func (.func 42) #[] #[.pointer (some ⟨Bt, 0, none⟩)]] 46))
        have hz9 : (w8.alloc (.cells #[.func (.func 42) #[] #[.pointer (some ⟨Bt, 0, none⟩)]] 46)).heap.size = Bt + 2 := by rw [World.size_alloc]; omega
        gi_wp2_with fail
        generalize w8.alloc (.cells #[.func (.func 42) #[] #[.pointer (some ⟨Bt, 0, none⟩)]] 46) = w9 at hbi9 hci9 hg89 hnn9 hz9 ⊢
        rw [hz8] at hbi9
        obtain ⟨n0, hn0⟩ : ∃ n0, n0 = w9.heap.size := ⟨_, rfl⟩
        have HF : Hid (∀ wx, Below n0 w9 wx → TokRow wx (.slice a3 L.length c3) L ∧ wx.heap[Bt]? = some (.cells #[.string s] 9 (0, 0)) ∧ Boxed wx (Bt + 1) 46 (.func (.func 42) #[] #[.pointer (some ⟨Bt, 0, none⟩)]) ∧ Boxed wx B9 23 (.slice a3 L.length c3) ∧ Boxed wx w.heap.size 3 (.int .i64 (E : Int)) ∧ Boxed wx (w.heap.size + 1) 4 (.bool false) ∧ Below w.heap.size w wx) := Lib.hid fun wx hb => by
          have hg79 := gb_trans hg78 hg89 (Or.inl rfl)
          have r9 := f37.grown hg79
          have m9 := fm7.kept hg79 (by simp)
          have q9 := fr7.kept hg79 (by simp)
          have x9 := f97.kept hg79 (by simp)
          have b9 := (hg89.block Bt (Array.getElem?_eq_some_iff.1 hbt8).1 (by simp)).trans hbt8
          have e9 := fE7.grown hg79 fE7.size (fun _ e => by cases e)
          rw [hn0] at hb
          exact ⟨r9.below hb, (hb.block _ (Array.getElem?_eq_some_iff.1 b9).1).trans b9, (hb.block _ hbi9.lt).trans hbi9, (hb.block _ x9.lt).trans x9, (hb.block _ m9.lt).trans m9, (hb.block _ q9.lt).trans q9, e9.trans (hb.mono e9.size)⟩
        have hBt0 : Bt + 1 < n0 := by omega
        have hn00 : n0 ≤ w9.heap.size := Nat.le_of_eq hn0
        have hB9n : B9 < n0 := by omega
        have hwn2 : w.heap.size + 1 < n0 := by omega
        have hBw9 : Below n0 w9 w9 := Below.refl _ _
        clear hn0 hz9 hz8 hBtY
        clear hbi9 hci9 hg89 hnn9 hg78 hbt8 f37 fm7 fr7 f97 fE7 HV2 HV3 HF5 HBk HO HBl HBl6 HOw HBl0 HBk0 HO0 hM1 hM2 hX1 hX2 hX3 hX4 hv3g hv2l hv3l HRT HRB HTk HFO
        refine wpIn_loop_rounds 3 ?_
        rw [roundsIn_succ]
        have hz10 : n0 ≤ w9.heap.size := by have := hBw9.size; omega
        have hga1 := hBw9.alloc hz10 (.cells #[.int .i64 0] 3)
        obtain ⟨f3, ft, fi, f9, fm, fr, fE⟩ := HF.out _ hga1
        have hnb1 := Boxed.new w9 3 (.int .i64 0)
        have hci := fi.cell
        have hzn1 : w9.heap.size < (w9.alloc (.cells #[.int .i64 0] 3)).heap.size := by rw [World.size_alloc]; omega
        gi_wp2
        generalize w9.alloc (.cells #[.int .i64 0] 3) = wa1 at hga1 f3 ft fi f9 fm fr fE hnb1 hci hzn1 ⊢
        generalize hBn1 : w9.heap.size = Bn1 at hnb1 hz10 hzn1 ⊢
        clear hBn1
        have hBtn1 : Bt ∉ [Bn1] := by simp only [List.mem_singleton]; omega
        refine rangeH_box (TokAx 90 22 0) rfl (by omega) (gf := 42) (lb := #[.pointer (some ⟨Bt, 0, none⟩)]) rfl trivial (enters_of Try.func42 (by kernel_rfl) rfl)
          (HSq.out 7 (by omega) Bt [Bn1] wa1 (fun Bo h => by simp only [List.mem_singleton] at h; omega) (fun k h => (not_mine_int hnb1 k h).elim) hBtn1 (not_mine_int hnb1 _) ft)
          KpB.trans (KpB.book (fun Bo h => by simp only [List.mem_singleton] at h; omega)) (fun _ => rfl)
          (fun pre W => Boxed W Bn1 3 (.int .i64 (pre.length : Int)) ∧ Below n0 w9 W)
          (fun _ pre _ => BadT L pre)
          (OwnFrom.and (Own.from (boxed_own _ _ _) _) (ownFrom_below (by omega) (by omega)))
          (fun _ _ _ _ _ hs _ _ => hs)
          ⟨hnb1, hga1⟩ (fun _ _ => TokAx.own) ?assign1 ?body1 ?done1 ?stop1
        case assign1 =>
          rintro l pre x W K ⟨hbn, hbw⟩ hK
          obtain ⟨tk1, tk2, tk3, tf1, tf2, tf3⟩ := tok_box (gb_refl (W.alloc (.cells #[.int .u8 0, .string ⟨#[]⟩, .int .i64 0] 50)) none)
          have hwz : n0 ≤ W.heap.size := by have := hbw.size; omega
          have hbl := hbn.lt
          simp only [tokenV]
          gi_wp2
          exact hK _ _ ((KeepsOthers.alloc _ _).from _) (kpb_grown (fun Bo h => by simp only [List.mem_singleton] at h; subst h; exact hbl) (World.grownBy_alloc _ _ none)) ⟨hbn.alloc _, hbw.alloc hwz _⟩ ⟨W.heap.size, Nat.zero_le _, World.alloc_heap_new W _, rfl⟩
        case body1 =>
          rintro l pre x a' W hl ⟨r, hr⟩ ⟨hbn, hbw⟩ ⟨Bx, hBx, hbx, rfl⟩ hlt
          obtain ⟨f3, ft, fi, f9, fm, fr, fE⟩ := HF.out _ hbw
          have hk0 : W.cell? ⟨Bx, 0, none⟩ = some (.int .u8 (x.kind : Int)) := by simp [World.cell?, hbx]
          have hk1 : W.cell? ⟨Bx, 1, none⟩ = some (.string x.text) := by simp [World.cell?, hbx]
          have hk2 : W.cell? ⟨Bx, 2, none⟩ = some (.int .i64 (x.at' : Int)) := by simp [World.cell?, hbx]
          have hcn := hbn.cell
          have hfn := hbn.frozen
          have hc9 := f9.cell
          have hcm := fm.cell
          have hcr := fr.cell
          have hfr := fr.frozen
          have hci := fi.cell
          obtain ⟨_, _, he3, hc3, hm3, hr3⟩ := f3
          cases he3
          obtain ⟨g3, rfl, hg3, c0, c1, c2⟩ := hr3 pre.length hlt
          clear hr3
          have hzW : n0 ≤ W.heap.size := by have := hbw.size; omega
          by_cases hlk : likeT x (L.getD pre.length tok0)
          · obtain ⟨e0, e1, e2⟩ := hlk
            rw [← e0] at c0
            rw [← e1] at c1
            rw [← e2] at c2
            clear e0 e1 e2
            simp only [tokenV, List.setIfInBounds_toArray, List.set_cons_zero, List.set_cons_succ, Nat.reduceSub]
            gi_wp2
            have hdI : decide ((L.length : Int) ≤ (pre.length : Int)) = false := decide_eq_false (by omega)
            have hdN : decide (L.length ≤ pre.length) = false := decide_eq_false (by omega)
            refine wpIn_region_quiet_round (F := Fence.wide) rfl (by kernel_rfl) (by kernel_rfl) (by kernel_rfl) ?_
            repeat (gi_big_quiet_step (fail))
            refine wpQuietIn_nil ?_
            intro _ hw1
            obtain ⟨nq, hw2⟩ := hw1
            subst hw2
            have hBq : Below W.heap.size W (W.drewN nq) := (Below.refl _ _).grown (gb_drewN W nq none) (Nat.le_refl _) (fun _ e => by cases e)
            generalize W.drewN nq = Wq at hBq ⊢
            have hbnq : Boxed Wq Bn1 3 (.int .i64 (pre.length : Int)) := (hBq.block _ hbn.lt).trans hbn
            have hbwq : Below n0 w9 Wq := hbw.trans (hBq.mono hzW)
            clear c0 c1 c2 hk0 hk1 hk2 hcn hfn hc9 hcm hcr hfr hci ft fi f9 fm fr fE
            obtain ⟨-, -, fi, -, fm, -, -⟩ := HF.out _ hbwq
            have hcnq := hbnq.cell
            have hcm := fm.cell
            by_cases hE2 : pre.length = E
            · subst hE2
              have hEb : ((pre.length : Int) == (pre.length : Int)) = true := by simp
              have hzq : n0 ≤ Wq.heap.size := by have := hBq.size; omega
              have hgk := hbwq.alloc hzq (.cells #[.int .i64 0] 3)
              obtain ⟨-, ft, fik, -, -, -, -⟩ := HF.out _ hgk
              have hcik := fik.cell
              have hk0 := Boxed.new Wq 3 (.int .i64 0)
              have hBk : Below W.heap.size W (Wq.alloc (.cells #[.int .i64 0] 3)) := hBq.alloc hBq.size _
              have hrk := (hBk.block l (Array.getElem?_eq_some_iff.1 hr).1).trans hr
              have hszk : (Wq.alloc (.cells #[.int .i64 0] 3)).heap.size = Wq.heap.size + 1 := World.size_alloc _ _
              have hszq := hBq.size
              gi_wp2
              generalize Wq.alloc (.cells #[.int .i64 0] 3) = wk at hgk ft fik hcik hk0 hBk hrk hszk ⊢
              generalize hBkk : Wq.heap.size = Bk at hk0 hszk hszq hzq ⊢
              clear hBkk hgk hbnq hbwq hBq fi fm hcnq hcm
              have hBtk : Bt ∉ [Bk] := by simp only [List.mem_singleton]; omega
              refine rangeN_box (TokAx 107 24 0) (l₀ := l) (r₀ := r) rfl hrk (by omega) (gf := 42) (lb := #[.pointer (some ⟨Bt, 0, none⟩)]) rfl trivial (enters_of Try.func42 (by kernel_rfl) rfl)
                ((HSq.out 5 (by omega) Bt [Bk] wk (fun Bo h => by simp only [List.mem_singleton] at h; omega) (fun k h => (not_mine_int hk0 k h).elim) hBtk (not_mine_int hk0 _) ft).inRound l)
                KpB.trans (KpB.book (fun Bo h => by simp only [List.mem_singleton] at h; omega)) (fun _ => rfl)
                (fun p2 W' => (p2.length ≤ 3 ∧ Boxed W' Bk 3 (.int .i64 (p2.length : Int))) ∧ Below W.heap.size W W')
                (fun c p2 W' => BadT L p2 ∨ (c = .exit 6 ∧ Below W.heap.size W W'))
                (OwnFrom.and (OwnFrom.and (ownFrom_pure _ _) (Own.from (boxed_own _ _ _) _)) (ownFrom_below (by omega) (by omega)))
                (fun c => ownFrom_or (ownFrom_pure _ _) (OwnFrom.and (ownFrom_pure _ _) (ownFrom_below (by omega) (by omega))))
                ⟨⟨by simp, hk0⟩, hBk⟩ (fun _ _ => TokAx.own) ?assigni1 ?bodyi1 ?donei1 ?stopi1
              case assigni1 =>
                rintro l2 p2 y W' K ⟨⟨hp3, hbk⟩, hBW⟩ hK
                obtain ⟨tk1, tk2, tk3, tf1, tf2, tf3⟩ := tok_box (gb_refl (W'.alloc (.cells #[.int .u8 0, .string ⟨#[]⟩, .int .i64 0] 50)) none)
                simp only [tokenV]
                gi_wp2
                exact hK _ _ ((KeepsOthers.alloc _ _).from _) (kpb_grown (fun Bo h => by simp only [List.mem_singleton] at h; subst h; exact hbk.lt) (World.grownBy_alloc _ _ none)) ⟨⟨hp3, hbk.alloc _⟩, hBW.alloc hBW.size _⟩ ⟨W'.heap.size, Nat.zero_le _, World.alloc_heap_new W' _, by simp [tokenV]⟩
              case bodyi1 =>
                rintro l2 p2 y a2 W' hl2 ⟨r2, hr2⟩ ⟨⟨hp3, hbk⟩, hBW⟩ ⟨By, hBy, hby, rfl⟩ hlt2
                obtain ⟨g3r, -, fi, f9, fm, fr, -⟩ := HF.out _ (hbw.trans (hBW.mono hzW))
                have hk0y : W'.cell? ⟨By, 0, none⟩ = some (.int .u8 (y.kind : Int)) := by simp [World.cell?, hby]
                have hk1y : W'.cell? ⟨By, 1, none⟩ = some (.string y.text) := by simp [World.cell?, hby]
                have hk2y : W'.cell? ⟨By, 2, none⟩ = some (.int .i64 (y.at' : Int)) := by simp [World.cell?, hby]
                have hck := hbk.cell
                have hfk := hbk.frozen
                have hc9 := f9.cell
                have hcr := fr.cell
                have hfr := fr.frozen
                obtain ⟨_, _, he4, hc4, hm4, hr4⟩ := g3r
                cases he4
                obtain ⟨g4, hge, hg4, c0, c1, c2⟩ := hr4 p2.length hlt2
                cases hge
                clear hr4
                by_cases hlk : likeT y (L.getD p2.length tok0)
                · obtain ⟨e0, e1, e2⟩ := hlk
                  rw [← e0] at c0
                  rw [← e1] at c1
                  rw [← e2] at c2
                  clear e0 e1 e2
                  simp only [tokenV, List.setIfInBounds_toArray, List.set_cons_zero, List.set_cons_succ, Nat.reduceSub]
                  gi_wp2
                  have hdI : decide ((L.length : Int) ≤ (p2.length : Int)) = false := decide_eq_false (by omega)
                  have hdN : decide (L.length ≤ p2.length) = false := decide_eq_false (by omega)
                  refine wpIn_region_quiet_round (F := Fence.wide) rfl (by kernel_rfl) (by kernel_rfl) (by kernel_rfl) ?_
                  repeat (gi_big_quiet_step (fail))
                  refine wpQuietIn_nil ?_
                  intro _ hw1
                  obtain ⟨nq, hw2⟩ := hw1
                  subst hw2
                  have hBq2 : Below W'.heap.size W' (W'.drewN nq) := (Below.refl _ _).grown (gb_drewN W' nq none) (Nat.le_refl _) (fun _ e => by cases e)
                  generalize W'.drewN nq = Wr at hBq2 ⊢
                  have hbk2 : Boxed Wr Bk 3 (.int .i64 (p2.length : Int)) := (hBq2.block _ hbk.lt).trans hbk
                  have hBW2 : Below W.heap.size W Wr := hBW.trans (hBq2.mono hBW.size)
                  clear c0 c1 c2 hk0y hk1y hk2y hck hfk hc9 hcr hfr fi f9 fm fr
                  have hck := hbk2.cell
                  have hfk := hbk2.frozen
                  have hv : Value.int .i64 ((p2.length : Int) + 1) = .int .i64 ((p2 ++ [y]).length : Int) := by rw [List.length_append]; rfl
                  by_cases h3 : p2.length = 3
                  · have h3I : (3 : Int) < (p2.length : Int) + 1 := by omega
                    gi_wp2
                    exact ⟨(keeps_below hBq2).trans ((KeepsOthers.setCell _ _ _).from _), .inr ⟨rfl, hBW2.setCell (p := ⟨Bk, 0, none⟩) (by simp; omega) _⟩⟩
                  · have h3I : ¬ (3 : Int) < (p2.length : Int) + 1 := by omega
                    gi_wp2
                    exact ⟨(keeps_below hBq2).trans ((KeepsOthers.setCell _ _ _).from _), KpB.trans (kpb_below hbk hBq2) (kpb_set _ _ hbk2), ⟨by simp; omega, by rw [← hv]; exact hbk2.set _⟩, hBW2.setCell (p := ⟨Bk, 0, none⟩) (by simp; omega) _⟩
                · have HBd : Hid (BadT L (p2 ++ [y])) := Lib.hid ⟨p2, y, rfl, hlk⟩
                  have hnl := not_like hlk
                  generalize L.getD p2.length tok0 = z at c0 c1 c2 hnl
                  clear hlk
                  rcases hnl with h | h | h
                  all_goals
                    simp only [tokenV, List.setIfInBounds_toArray, List.set_cons_zero, List.set_cons_succ, Nat.reduceSub]
                    gi_wp2
                    have hdI : decide ((L.length : Int) ≤ (p2.length : Int)) = false := decide_eq_false (by omega)
                    have hdN : decide (L.length ≤ p2.length) = false := decide_eq_false (by omega)
                    refine wpIn_region_quiet_round (F := Fence.wide) rfl (by kernel_rfl) (by kernel_rfl) (by kernel_rfl) ?_
                    repeat (gi_big_quiet_step (fail))
                    refine wpQuietIn_nil ?_
                    intro _ hw1
                    obtain ⟨nq, hw2⟩ := hw1
                    subst hw2
                    gi_wp2
                    exact ⟨(keeps_below ((Below.refl _ _).grown (gb_drewN W' nq none) (Nat.le_refl _) (fun _ e => by cases e))).trans ((KeepsOthers.setCell _ _ _).from _), .inl HBd.out⟩
              case donei1 =>
                rintro xs W' hS ⟨-, hBq⟩
                have hbnq : Boxed W' Bn1 3 (.int .i64 (pre.length : Int)) := (hBq.block _ hbn.lt).trans hbn
                have hbwq : Below n0 w9 W' := hbw.trans (hBq.mono hzW)
                have hcnq := hbnq.cell
                have hfnq := hbnq.frozen
                have hv : Value.int .i64 ((pre.length : Int) + 1) = .int .i64 ((pre ++ [x]).length : Int) := by rw [List.length_append]; rfl
                gi_wp2
                exact ⟨(keeps_below hBq).trans ((KeepsOthers.setCell _ _ _).from _), KpB.trans (kpb_below hbn hBq) (kpb_set _ _ hbnq), by rw [← hv]; exact hbnq.set _, hbwq.setCell (p := ⟨Bn1, 0, none⟩) (by simp; omega) _⟩
              case stopi1 =>
                rintro c p2 W' hS hX
                rcases hX with hX | ⟨rfl, hBq⟩
                · exact (bad_not hS hX).elim
                have hbnq : Boxed W' Bn1 3 (.int .i64 (pre.length : Int)) := (hBq.block _ hbn.lt).trans hbn
                have hbwq : Below n0 w9 W' := hbw.trans (hBq.mono hzW)
                have hcnq := hbnq.cell
                have hfnq := hbnq.frozen
                have hv : Value.int .i64 ((pre.length : Int) + 1) = .int .i64 ((pre ++ [x]).length : Int) := by rw [List.length_append]; rfl
                gi_wp2
                exact ⟨(keeps_below hBq).trans ((KeepsOthers.setCell _ _ _).from _), KpB.trans (kpb_below hbn hBq) (kpb_set _ _ hbnq), by rw [← hv]; exact hbnq.set _, hbwq.setCell (p := ⟨Bn1, 0, none⟩) (by simp; omega) _⟩
            · have hEb : ((pre.length : Int) == (E : Int)) = false := by rw [beq_eq_false_iff_ne]; omega
              have hcnq := hbnq.cell
              have hfnq := hbnq.frozen
              have hv : Value.int .i64 ((pre.length : Int) + 1) = .int .i64 ((pre ++ [x]).length : Int) := by rw [List.length_append]; rfl
              gi_wp2
              exact ⟨(keeps_below hBq).trans ((KeepsOthers.setCell _ _ _).from _), KpB.trans (kpb_below hbn hBq) (kpb_set _ _ hbnq), by rw [← hv]; exact hbnq.set _, hbwq.setCell (p := ⟨Bn1, 0, none⟩) (by simp; omega) _⟩
          · have HBd : Hid (BadT L (pre ++ [x])) := Lib.hid ⟨pre, x, rfl, hlk⟩
            have hnl := not_like hlk
            generalize L.getD pre.length tok0 = y at c0 c1 c2 hnl
            clear hlk
            rcases hnl with h | h | h
            all_goals
              simp only [tokenV, List.setIfInBounds_toArray, List.set_cons_zero, List.set_cons_succ, Nat.reduceSub]
              gi_wp2
              have hdI : decide ((L.length : Int) ≤ (pre.length : Int)) = false := decide_eq_false (by omega)
              have hdN : decide (L.length ≤ pre.length) = false := decide_eq_false (by omega)
              refine wpIn_region_quiet_round (F := Fence.wide) rfl (by kernel_rfl) (by kernel_rfl) (by kernel_rfl) ?_
              repeat (gi_big_quiet_step (fail))
              refine wpQuietIn_nil ?_
              intro _ hw1
              obtain ⟨nq, hw2⟩ := hw1
              subst hw2
              gi_wp2
              exact ⟨(keeps_below ((Below.refl _ _).grown (gb_drewN W nq none) (Nat.le_refl _) (fun _ e => by cases e))).trans ((KeepsOthers.setCell _ _ _).from _), HBd.out⟩
        case stop1 =>
          rintro D c pre W _ hS h _
          exact (bad_not hS h).elim
        case done1 =>
          rintro D1 xs W1 hD1 hS1 ⟨hbn1, hbw1⟩ hK1
          rw [show xs = L from hS1] at hbn1
          clear hS1
          obtain ⟨f3, ft, fi, f9, fm, fr, fE⟩ := HF.out _ hbw1
          have hcn := hbn1.cell
          have hc9 := f9.cell
          clear f3 ft fi f9 fm fr fE
          gi_wp2
          rw [roundsIn_succ]
          have hLD1 : n0 ≤ D1 := by omega
          have hz20 : n0 ≤ W1.heap.size := by have := hbw1.size; omega
          have hga2 := hbw1.alloc hz20 (.cells #[.int .i64 0] 3)
          obtain ⟨f3, ft, fi, f9, fm, fr, fE⟩ := HF.out _ hga2
          have hnb2 := Boxed.new W1 3 (.int .i64 0)
          have hci := fi.cell
          have hzn2 : W1.heap.size < (W1.alloc (.cells #[.int .i64 0] 3)).heap.size := by rw [World.size_alloc]; omega
          have hml2 : D1 < W1.heap.size := (Array.getElem?_eq_some_iff.1 hK1).1
          have hma2 := (Below.heap_alloc W1 (.cells #[.int .i64 0] 3) D1 hml2).trans hK1
          gi_wp2
          generalize W1.alloc (.cells #[.int .i64 0] 3) = wa2 at hga2 f3 ft fi f9 fm fr fE hnb2 hci hzn2 hma2 ⊢
          generalize hBn2 : W1.heap.size = Bn2 at hnb2 hz20 hzn2 hml2 ⊢
          clear hBn2
          have hBtn2 : Bt ∉ [Bn2] := by simp only [List.mem_singleton]; omega
          refine rangeH_box (TokAx 90 22 0) rfl (by omega) (gf := 42) (lb := #[.pointer (some ⟨Bt, 0, none⟩)]) rfl trivial (enters_of Try.func42 (by kernel_rfl) rfl)
            (HSq.out 7 (by omega) Bt [Bn2] wa2 (fun Bo h => by simp only [List.mem_singleton] at h; omega) (fun k h => (not_mine_int hnb2 k h).elim) hBtn2 (not_mine_int hnb2 _) ft)
            KpB.trans (KpB.book (fun Bo h => by simp only [List.mem_singleton] at h; omega)) (fun _ => rfl)
            (fun pre W => Boxed W Bn2 3 (.int .i64 (pre.length : Int)) ∧ Below n0 w9 W ∧ W.heap[D1]? = some (.deferred (some [])))
            (fun _ pre _ => BadT L pre)
            (OwnFrom.and (Own.from (boxed_own _ _ _) _) (OwnFrom.and (ownFrom_below (by omega) (by omega)) (mark_own (by omega))))
            (fun _ _ _ _ _ hs _ _ => hs)
            ⟨hnb2, hga2, hma2⟩ (fun _ _ => TokAx.own) ?assign2 ?body2 ?done2 ?stop2
          case assign2 =>
            rintro l pre x W K ⟨hbn, hbw, hq⟩ hK
            obtain ⟨tk1, tk2, tk3, tf1, tf2, tf3⟩ := tok_box (gb_refl (W.alloc (.cells #[.int .u8 0, .string ⟨#[]⟩, .int .i64 0] 50)) none)
            have hwz : n0 ≤ W.heap.size := by have := hbw.size; omega
            have hbl := hbn.lt
            have hqa := (Below.heap_alloc W (.cells #[.int .u8 (x.kind : Int), .string x.text, .int .i64 (x.at' : Int)] 50) _ (Array.getElem?_eq_some_iff.1 hq).1).trans hq
            simp only [tokenV]
            gi_wp2
            exact hK _ _ ((KeepsOthers.alloc _ _).from _) (kpb_grown (fun Bo h => by simp only [List.mem_singleton] at h; subst h; exact hbl) (World.grownBy_alloc _ _ none)) ⟨hbn.alloc _, hbw.alloc hwz _, hqa⟩ ⟨W.heap.size, Nat.zero_le _, World.alloc_heap_new W _, rfl⟩
          case body2 =>
            rintro l pre x a' W hl ⟨r, hr⟩ ⟨hbn, hbw, hq⟩ ⟨Bx, hBx, hbx, rfl⟩ hlt
            obtain ⟨f3, ft, fi, f9, fm, fr, fE⟩ := HF.out _ hbw
            have hk0 : W.cell? ⟨Bx, 0, none⟩ = some (.int .u8 (x.kind : Int)) := by simp [World.cell?, hbx]
            have hk1 : W.cell? ⟨Bx, 1, none⟩ = some (.string x.text) := by simp [World.cell?, hbx]
            have hk2 : W.cell? ⟨Bx, 2, none⟩ = some (.int .i64 (x.at' : Int)) := by simp [World.cell?, hbx]
            have hcn := hbn.cell
            have hfn := hbn.frozen
            have hc9 := f9.cell
            have hcm := fm.cell
            have hcr := fr.cell
            have hfr := fr.frozen
            have hci := fi.cell
            obtain ⟨_, _, he3, hc3, hm3, hr3⟩ := f3
            cases he3
            obtain ⟨g3, rfl, hg3, c0, c1, c2⟩ := hr3 pre.length hlt
            clear hr3
            have hzW : n0 ≤ W.heap.size := by have := hbw.size; omega
            by_cases hlk : likeT x (L.getD pre.length tok0)
            · obtain ⟨e0, e1, e2⟩ := hlk
              rw [← e0] at c0
              rw [← e1] at c1
              rw [← e2] at c2
              clear e0 e1 e2
              simp only [tokenV, List.setIfInBounds_toArray, List.set_cons_zero, List.set_cons_succ, Nat.reduceSub]
              gi_wp2
              have hdI : decide ((L.length : Int) ≤ (pre.length : Int)) = false := decide_eq_false (by omega)
              have hdN : decide (L.length ≤ pre.length) = false := decide_eq_false (by omega)
              refine wpIn_region_quiet_round (F := Fence.wide) rfl (by kernel_rfl) (by kernel_rfl) (by kernel_rfl) ?_
              repeat (gi_big_quiet_step (fail))
              refine wpQuietIn_nil ?_
              intro _ hw1
              obtain ⟨nq, hw2⟩ := hw1
              subst hw2
              have hBq : Below W.heap.size W (W.drewN nq) := (Below.refl _ _).grown (gb_drewN W nq none) (Nat.le_refl _) (fun _ e => by cases e)
              generalize W.drewN nq = Wq at hBq ⊢
              have hbnq : Boxed Wq Bn2 3 (.int .i64 (pre.length : Int)) := (hBq.block _ hbn.lt).trans hbn
              have hbwq : Below n0 w9 Wq := hbw.trans (hBq.mono hzW)
              have hqq := (hBq.block _ (Array.getElem?_eq_some_iff.1 hq).1).trans hq
              clear c0 c1 c2 hk0 hk1 hk2 hcn hfn hc9 hcm hcr hfr hci ft fi f9 fm fr fE
              obtain ⟨-, -, fi, -, fm, -, -⟩ := HF.out _ hbwq
              have hcnq := hbnq.cell
              have hcm := fm.cell
              by_cases hE2 : pre.length = E
              · subst hE2
                have hEb : ((pre.length : Int) == (pre.length : Int)) = true := by simp
                have hzq : n0 ≤ Wq.heap.size := by have := hBq.size; omega
                have hgk := hbwq.alloc hzq (.cells #[.int .i64 0] 3)
                obtain ⟨-, ft, fik, -, -, -, -⟩ := HF.out _ hgk
                have hcik := fik.cell
                have hk0 := Boxed.new Wq 3 (.int .i64 0)
                have hBk : Below W.heap.size W (Wq.alloc (.cells #[.int .i64 0] 3)) := hBq.alloc hBq.size _
                have hrk := (hBk.block l (Array.getElem?_eq_some_iff.1 hr).1).trans hr
                have hszk : (Wq.alloc (.cells #[.int .i64 0] 3)).heap.size = Wq.heap.size + 1 := World.size_alloc _ _
                have hszq := hBq.size
                gi_wp2
                generalize Wq.alloc (.cells #[.int .i64 0] 3) = wk at hgk ft fik hcik hk0 hBk hrk hszk ⊢
                generalize hBkk : Wq.heap.size = Bk at hk0 hszk hszq hzq ⊢
                clear hBkk hgk hbnq hbwq hBq fi fm hcnq hcm hqq
                have hBtk : Bt ∉ [Bk] := by simp only [List.mem_singleton]; omega
                refine rangeN_box (TokAx 107 24 0) (l₀ := l) (r₀ := r) rfl hrk (by omega) (gf := 42) (lb := #[.pointer (some ⟨Bt, 0, none⟩)]) rfl trivial (enters_of Try.func42 (by kernel_rfl) rfl)
                  ((HSq.out 5 (by omega) Bt [Bk] wk (fun Bo h => by simp only [List.mem_singleton] at h; omega) (fun k h => (not_mine_int hk0 k h).elim) hBtk (not_mine_int hk0 _) ft).inRound l)
                  KpB.trans (KpB.book (fun Bo h => by simp only [List.mem_singleton] at h; omega)) (fun _ => rfl)
                  (fun p2 W' => (p2.length ≤ 3 ∧ Boxed W' Bk 3 (.int .i64 (p2.length : Int))) ∧ Below W.heap.size W W')
                  (fun c p2 W' => BadT L p2 ∨ (c = .exit 6 ∧ Below W.heap.size W W'))
                  (OwnFrom.and (OwnFrom.and (ownFrom_pure _ _) (Own.from (boxed_own _ _ _) _)) (ownFrom_below (by omega) (by omega)))
                  (fun c => ownFrom_or (ownFrom_pure _ _) (OwnFrom.and (ownFrom_pure _ _) (ownFrom_below (by omega) (by omega))))
                  ⟨⟨by simp, hk0⟩, hBk⟩ (fun _ _ => TokAx.own) ?assigni2 ?bodyi2 ?donei2 ?stopi2
                case assigni2 =>
                  rintro l2 p2 y W' K ⟨⟨hp3, hbk⟩, hBW⟩ hK
                  obtain ⟨tk1, tk2, tk3, tf1, tf2, tf3⟩ := tok_box (gb_refl (W'.alloc (.cells #[.int .u8 0, .string ⟨#[]⟩, .int .i64 0] 50)) none)
                  simp only [tokenV]
                  gi_wp2
                  exact hK _ _ ((KeepsOthers.alloc _ _).from _) (kpb_grown (fun Bo h => by simp only [List.mem_singleton] at h; subst h; exact hbk.lt) (World.grownBy_alloc _ _ none)) ⟨⟨hp3, hbk.alloc _⟩, hBW.alloc hBW.size _⟩ ⟨W'.heap.size, Nat.zero_le _, World.alloc_heap_new W' _, by simp [tokenV]⟩
                case bodyi2 =>
                  rintro l2 p2 y a2 W' hl2 ⟨r2, hr2⟩ ⟨⟨hp3, hbk⟩, hBW⟩ ⟨By, hBy, hby, rfl⟩ hlt2
                  obtain ⟨g3r, -, fi, f9, fm, fr, -⟩ := HF.out _ (hbw.trans (hBW.mono hzW))
                  have hk0y : W'.cell? ⟨By, 0, none⟩ = some (.int .u8 (y.kind : Int)) := by simp [World.cell?, hby]
                  have hk1y : W'.cell? ⟨By, 1, none⟩ = some (.string y.text) := by simp [World.cell?, hby]
                  have hk2y : W'.cell? ⟨By, 2, none⟩ = some (.int .i64 (y.at' : Int)) := by simp [World.cell?, hby]
                  have hck := hbk.cell
                  have hfk := hbk.frozen
                  have hc9 := f9.cell
                  have hcr := fr.cell
                  have hfr := fr.frozen
                  obtain ⟨_, _, he4, hc4, hm4, hr4⟩ := g3r
                  cases he4
                  obtain ⟨g4, hge, hg4, c0, c1, c2⟩ := hr4 p2.length hlt2
                  cases hge
                  clear hr4
                  by_cases hlk : likeT y (L.getD p2.length tok0)
                  · obtain ⟨e0, e1, e2⟩ := hlk
                    rw [← e0] at c0
                    rw [← e1] at c1
                    rw [← e2] at c2
                    clear e0 e1 e2
                    simp only [tokenV, List.setIfInBounds_toArray, List.set_cons_zero, List.set_cons_succ, Nat.reduceSub]
                    gi_wp2
                    have hdI : decide ((L.length : Int) ≤ (p2.length : Int)) = false := decide_eq_false (by omega)
                    have hdN : decide (L.length ≤ p2.length) = false := decide_eq_false (by omega)
                    refine wpIn_region_quiet_round (F := Fence.wide) rfl (by kernel_rfl) (by kernel_rfl) (by kernel_rfl) ?_
                    repeat (gi_big_quiet_step (fail))
                    refine wpQuietIn_nil ?_
                    intro _ hw1
                    obtain ⟨nq, hw2⟩ := hw1
                    subst hw2
                    have hBq2 : Below W'.heap.size W' (W'.drewN nq) := (Below.refl _ _).grown (gb_drewN W' nq none) (Nat.le_refl _) (fun _ e => by cases e)
                    generalize W'.drewN nq = Wr at hBq2 ⊢
                    have hbk2 : Boxed Wr Bk 3 (.int .i64 (p2.length : Int)) := (hBq2.block _ hbk.lt).trans hbk
                    have hBW2 : Below W.heap.size W Wr := hBW.trans (hBq2.mono hBW.size)
                    clear c0 c1 c2 hk0y hk1y hk2y hck hfk hc9 hcr hfr fi f9 fm fr
                    have hck := hbk2.cell
                    have hfk := hbk2.frozen
                    have hv : Value.int .i64 ((p2.length : Int) + 1) = .int .i64 ((p2 ++ [y]).length : Int) := by rw [List.length_append]; rfl
                    by_cases h3 : p2.length = 3
                    · have h3I : (3 : Int) < (p2.length : Int) + 1 := by omega
                      gi_wp2
                      exact ⟨(keeps_below hBq2).trans ((KeepsOthers.setCell _ _ _).from _), .inr ⟨rfl, hBW2.setCell (p := ⟨Bk, 0, none⟩) (by simp; omega) _⟩⟩
                    · have h3I : ¬ (3 : Int) < (p2.length : Int) + 1 := by omega
                      gi_wp2
                      exact ⟨(keeps_below hBq2).trans ((KeepsOthers.setCell _ _ _).from _), KpB.trans (kpb_below hbk hBq2) (kpb_set _ _ hbk2), ⟨by simp; omega, by rw [← hv]; exact hbk2.set _⟩, hBW2.setCell (p := ⟨Bk, 0, none⟩) (by simp; omega) _⟩
                  · have HBd : Hid (BadT L (p2 ++ [y])) := Lib.hid ⟨p2, y, rfl, hlk⟩
                    have hnl := not_like hlk
                    generalize L.getD p2.length tok0 = z at c0 c1 c2 hnl
                    clear hlk
                    rcases hnl with h | h | h
                    all_goals
                      simp only [tokenV, List.setIfInBounds_toArray, List.set_cons_zero, List.set_cons_succ, Nat.reduceSub]
                      gi_wp2
                      have hdI : decide ((L.length : Int) ≤ (p2.length : Int)) = false := decide_eq_false (by omega)
                      have hdN : decide (L.length ≤ p2.length) = false := decide_eq_false (by omega)
                      refine wpIn_region_quiet_round (F := Fence.wide) rfl (by kernel_rfl) (by kernel_rfl) (by kernel_rfl) ?_
                      repeat (gi_big_quiet_step (fail))
                      refine wpQuietIn_nil ?_
                      intro _ hw1
                      obtain ⟨nq, hw2⟩ := hw1
                      subst hw2
                      gi_wp2
                      exact ⟨(keeps_below ((Below.refl _ _).grown (gb_drewN W' nq none) (Nat.le_refl _) (fun _ e => by cases e))).trans ((KeepsOthers.setCell _ _ _).from _), .inl HBd.out⟩
                case donei2 =>
                  rintro xs W' hS ⟨-, hBq⟩
                  have hbnq : Boxed W' Bn2 3 (.int .i64 (pre.length : Int)) := (hBq.block _ hbn.lt).trans hbn
                  have hbwq : Below n0 w9 W' := hbw.trans (hBq.mono hzW)
                  have hqq := (hBq.block _ (Array.getElem?_eq_some_iff.1 hq).1).trans hq
                  have hcnq := hbnq.cell
                  have hfnq := hbnq.frozen
                  have hv : Value.int .i64 ((pre.length : Int) + 1) = .int .i64 ((pre ++ [x]).length : Int) := by rw [List.length_append]; rfl
                  gi_wp2
                  exact ⟨(keeps_below hBq).trans ((KeepsOthers.setCell _ _ _).from _), KpB.trans (kpb_below hbn hBq) (kpb_set _ _ hbnq), by rw [← hv]; exact hbnq.set _, hbwq.setCell (p := ⟨Bn2, 0, none⟩) (by simp; omega) _, mark_set hqq (by omega)⟩
                case stopi2 =>
                  rintro c p2 W' hS hX
                  rcases hX with hX | ⟨rfl, hBq⟩
                  · exact (bad_not hS hX).elim
                  have hbnq : Boxed W' Bn2 3 (.int .i64 (pre.length : Int)) := (hBq.block _ hbn.lt).trans hbn
                  have hbwq : Below n0 w9 W' := hbw.trans (hBq.mono hzW)
                  have hqq := (hBq.block _ (Array.getElem?_eq_some_iff.1 hq).1).trans hq
                  have hcnq := hbnq.cell
                  have hfnq := hbnq.frozen
                  have hv : Value.int .i64 ((pre.length : Int) + 1) = .int .i64 ((pre ++ [x]).length : Int) := by rw [List.length_append]; rfl
                  gi_wp2
                  exact ⟨(keeps_below hBq).trans ((KeepsOthers.setCell _ _ _).from _), KpB.trans (kpb_below hbn hBq) (kpb_set _ _ hbnq), by rw [← hv]; exact hbnq.set _, hbwq.setCell (p := ⟨Bn2, 0, none⟩) (by simp; omega) _, mark_set hqq (by omega)⟩
              · have hEb : ((pre.length : Int) == (E : Int)) = false := by rw [beq_eq_false_iff_ne]; omega
                have hcnq := hbnq.cell
                have hfnq := hbnq.frozen
                have hv : Value.int .i64 ((pre.length : Int) + 1) = .int .i64 ((pre ++ [x]).length : Int) := by rw [List.length_append]; rfl
                gi_wp2
                exact ⟨(keeps_below hBq).trans ((KeepsOthers.setCell _ _ _).from _), KpB.trans (kpb_below hbn hBq) (kpb_set _ _ hbnq), by rw [← hv]; exact hbnq.set _, hbwq.setCell (p := ⟨Bn2, 0, none⟩) (by simp; omega) _, mark_set hqq (by omega)⟩
            · have HBd : Hid (BadT L (pre ++ [x])) := Lib.hid ⟨pre, x, rfl, hlk⟩
              have hnl := not_like hlk
              generalize L.getD pre.length tok0 = y at c0 c1 c2 hnl
              clear hlk
              rcases hnl with h | h | h
              all_goals
                simp only [tokenV, List.setIfInBounds_toArray, List.set_cons_zero, List.set_cons_succ, Nat.reduceSub]
                gi_wp2
                have hdI : decide ((L.length : Int) ≤ (pre.length : Int)) = false := decide_eq_false (by omega)
                have hdN : decide (L.length ≤ pre.length) = false := decide_eq_false (by omega)
                refine wpIn_region_quiet_round (F := Fence.wide) rfl (by kernel_rfl) (by kernel_rfl) (by kernel_rfl) ?_
                repeat (gi_big_quiet_step (fail))
                refine wpQuietIn_nil ?_
                intro _ hw1
                obtain ⟨nq, hw2⟩ := hw1
                subst hw2
                gi_wp2
                exact ⟨(keeps_below ((Below.refl _ _).grown (gb_drewN W nq none) (Nat.le_refl _) (fun _ e => by cases e))).trans ((KeepsOthers.setCell _ _ _).from _), HBd.out⟩
          case stop2 =>
            rintro D c pre W _ hS h _
            exact (bad_not hS h).elim
          case done2 =>
            rintro D2 xs W2 hD2 hS2 ⟨hbn2, hbw2, hm2⟩ hK2
            rw [show xs = L from hS2] at hbn2
            clear hS2
            obtain ⟨f3, ft, fi, f9, fm, fr, fE⟩ := HF.out _ hbw2
            have hcn := hbn2.cell
            have hc9 := f9.cell
            clear f3 ft fi f9 fm fr fE
            gi_wp2
            rw [roundsIn_succ]
            have hzW2 : n0 ≤ W2.heap.size := by have := hbw2.size; omega
            obtain ⟨f3, -, -, f9, fm, fr, fE⟩ := HF.out _ hbw2
            have hcm := fm.cell
            have hEc : E ≤ c3 := by
              obtain ⟨_, _, e, h, _, _⟩ := f3
              cases e
              omega
            have hD2l := (Array.getElem?_eq_some_iff.1 hK2).1
            have hD1l := (Array.getElem?_eq_some_iff.1 hm2).1
            gi_wp2_with (refine ⟨trivial, ?_⟩; gi_at_call 18; refine (callsIn_all (HBg.out E (by omega) W2)).mono ?_; rintro e w10 ⟨v10, rfl, hv10, hb10⟩; obtain ⟨g3, -, -, g9, gm, gr, gE⟩ := HF.out _ (hbw2.trans (hb10.mono hzW2)); have hc9 := g9.cell; have hcm := gm.cell)
            have hsm := sametokens_yes (own_row hv10) (g3.take E hE) rfl (fun i _ => ⟨rfl, rfl, rfl⟩)
            refine ⟨trivial, ?_⟩
            refine (callsIn_all hsm).mono ?_
            rintro e w11 ⟨rfl, hg11⟩
            have hbw11 : Below n0 w9 w11 := (hbw2.trans (hb10.mono hzW2)).grown hg11 (by have := hb10.size; omega) (fun _ e => by cases e)
            obtain ⟨-, -, -, -, -, gr, gE⟩ := HF.out _ hbw11
            have hcr := gr.cell
            have hfr := gr.frozen
            have hq2 : w11.heap[D2]? = some (.deferred (some [])) := (hg11.block D2 (by have := hb10.size; omega) (by simp)).trans ((hb10.block D2 hD2l).trans hK2)
            have hq1 : w11.heap[D1]? = some (.deferred (some [])) := (hg11.block D1 (by have := hb10.size; omega) (by simp)).trans ((hb10.block D1 hD1l).trans hm2)
            gi_wp2
            exact leave2 rfl rfl (gr.set _) (gE.setCell (p := ⟨w.heap.size + 1, 0, none⟩) (by simp) _) (mark_set hq2 (by omega)) (mark_set hq1 (by omega)) (by omega) (by omega) (by omega)
end Go.Proofs.Ytlmpeddacadfkaa
