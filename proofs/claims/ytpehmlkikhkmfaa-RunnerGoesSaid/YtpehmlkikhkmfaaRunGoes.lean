/- Runner: All of letters, gone through: the law's walk. -/
import Derived.Test.YtpehmlkikhkmfaaRunIter
import Derived.Test.YtpehmlkikhkmfaaLentMachine
import Derived.Test.YtpehmlkikhkmfaaRefPick
import Derived.Test.YtpehmlkikhkmfaaRefNew
import Derived.Test.YtpehmlkikhkmfaaRunKnown
import Derived.Test.YtpehmlkikhkmfaaRunReads
import Derived.Test.YtpehmlkikhkmfaaRefRunE
import Derived.Maps.AppendAt
import Derived.Deep.AppendLies
import Derived.Deep.RegionLaw
import Derived.ControlIn
namespace Go.Proofs.Ytpehmlkikhkmfaa
open Go.RowKit Go.Shelf
attribute [local go_sem] Oper.semAt_some

theorem sumN_mem {l : List Nat} {i : Nat} (hi : i < l.length) : l.getD i 0 ≤ sumN l := by
  have h : ∀ (m : List Nat) (a : Nat), a ≤ m.foldl (fun n s => n + (1 + s)) a := fun m a => Nat.le_trans (Nat.le_add_right _ _) (sumN_ge m a)
  have h1 := sumN_take l i hi
  have h2 : l = l.take (i + 1) ++ l.drop (i + 1) := (List.take_append_drop _ l).symm
  have h3 : sumN (l.take (i + 1)) ≤ sumN l := by
    conv => rhs; rw [h2]
    unfold sumN
    rw [List.foldl_append]
    exact h _ _
  omega
theorem row_small {R : List (List Int)} (h : capN (lens R) ≤ 100000) {i : Nat} (hi : i < R.length) : (R.getD i []).length ≤ 100000 := by
  have h1 := capN_sum (l := lens R) (by omega)
  have h2 : (lens R).getD i 0 ≤ sumN (lens R) := sumN_mem (by unfold lens; rw [List.length_map]; exact hi)
  have h3 : (lens R).getD i 0 = (R.getD i []).length := by
    unfold lens
    rw [List.getD_eq_getElem?_getD, List.getElem?_map, List.getD_eq_getElem?_getD, List.getElem?_eq_getElem hi]
    rfl
  omega
theorem Spared.below {Y Z B : Nat} {a w w' : World} (h : Spared Y Z w w') (hb : Below B a w) (hB : B ≤ Y) (hs : B ≤ w.heap.size) : Below B a w' :=
  hb.trans ⟨h.os, h.tape, h.output, h.size, fun k hk => h.block k (by omega) (Or.inl (by omega))⟩

theorem moore_box (w : World) : (w.alloc (Obj.cells #[Value.slice none 0 0, Value.slice none 0 0, Value.slice none 0 0] 27)).cell? ⟨w.heap.size, 0, none⟩ = some (Value.slice none 0 0) ∧ (w.alloc (Obj.cells #[Value.slice none 0 0, Value.slice none 0 0, Value.slice none 0 0] 27)).cell? ⟨w.heap.size, 1, none⟩ = some (Value.slice none 0 0) ∧ (w.alloc (Obj.cells #[Value.slice none 0 0, Value.slice none 0 0, Value.slice none 0 0] 27)).cell? ⟨w.heap.size, 2, none⟩ = some (Value.slice none 0 0)
    ∧ (w.alloc (Obj.cells #[Value.slice none 0 0, Value.slice none 0 0, Value.slice none 0 0] 27)).frozen? ⟨w.heap.size, 0, none⟩ = false ∧ (w.alloc (Obj.cells #[Value.slice none 0 0, Value.slice none 0 0, Value.slice none 0 0] 27)).frozen? ⟨w.heap.size, 1, none⟩ = false ∧ (w.alloc (Obj.cells #[Value.slice none 0 0, Value.slice none 0 0, Value.slice none 0 0] 27)).frozen? ⟨w.heap.size, 2, none⟩ = false := by
  have hf : ∀ k, (w.alloc (Obj.cells #[Value.slice none 0 0, Value.slice none 0 0, Value.slice none 0 0] 27)).frozen? ⟨w.heap.size, k, none⟩ = false := fun k => by
    unfold World.frozen?
    rw [show (w.alloc (Obj.cells #[Value.slice none 0 0, Value.slice none 0 0, Value.slice none 0 0] 27)).heap[w.heap.size]? = _ from heap_alloc_new _ _]
    simp
  exact ⟨cell3_0 _ _ _ _ _, cell3_1 _ _ _ _ _, cell3_2 _ _ _ _ _, hf 0, hf 1, hf 2⟩

theorem callsIn_all {n : Nat} {f : FuncId} {args : Array Value} {w : World} {R : Ending → World → Prop} (h : Calls Try.prog f args w R) : CallsIn Fence.wide n Try.prog f args w R := callsIn_wide.2 h
theorem results_bool {fn : Func} {a : Tmp} (h : fn.results = #[.cell a 4]) (tmps : Array Value) (w : World) (B : Nat) (b : Bool) (ha : tmps.getD a undef = .pointer (some ⟨B, 0, none⟩)) (hb : Boxed w B 4 (.bool b)) : (results fn tmps).run Try.prog w = .ok (.bool b) w := by
  have ha' : tmps[a]?.getD undef = .pointer (some ⟨B, 0, none⟩) := by simpa using ha
  have hc := hb.cell
  simp [results, h, ha', asAddr, go_sem, hc]
/-- All, whether the machine is one or not. -/
theorem all_two (vp vn vo : Value) (Bu Ba B6 : Nat) (vu : Value) (U : List Nat) (P : List ByteArray) (R : List (List Int)) (O : List Int) (w : World) (hM : MachAt w vp vn vo P R O) (hn : O.length ≤ 200000)
    (hU : LetsAt w [Ba, B6] vu U) (hBu : Boxed w Bu 85 vu) (ha : Ba < w.heap.size) (hb : B6 < w.heap.size) (h1 : Bu ≠ Ba) (h2 : Bu ≠ B6) (h3 : Ba ≠ B6) :
    Calls Try.prog 34 #[.agg #[vp, vn, vo], .func (.func 33) #[] #[.pointer (some ⟨Bu, 0, none⟩), .pointer (some ⟨Ba, 0, none⟩)]] w fun e w' => ∃ Be Bl Br, e = .returned (allV Be Bl Br) ∧ w.grownBy w' none ∧
      Hid (∀ w'', (w'.heap.size ≤ w''.heap.size ∧ ∀ k o, w'.heap[k]? = some o → (w.heap.size ≤ k ∨ k = Bu ∨ (U ≠ [] ∧ ∃ b off n c, vu = .slice (some ⟨b, off, none⟩) n c ∧ k = b)) → w''.heap[k]? = some o) → IterOK w'' Ba B6 Be Bl Br (if mErr P R O = 0 then verdsOf P.length R O U else [])) := by
  rcases mErr_two P R O with hE | hE
  · refine (all_yes vp vn vo _ P R O w hM hE hn).mono ?_
    rintro e w' ⟨Be, Bl, Br, p, mb, vn', vo', vf', vs, F, rfl, hBe, hBl, hBr, hR, hrows, hp, he, hl, hr, hg⟩
    refine ⟨Be, Bl, Br, rfl, hg, Lib.hid fun w'' hw => ?_⟩
    rw [if_pos hE]
    have keep : ∀ {b : Nat} {t : TypeId} {v : Value}, Boxed w' b t v → w.heap.size ≤ b → Boxed w'' b t v := fun hb h => hw.2 _ _ hb (Or.inl h)
    have hU' : LetsAt w'' [Ba, B6] vu U := by
      obtain ⟨a, c, rfl, u1, u2, u3⟩ := hU
      refine ⟨a, c, rfl, u1, u2, ?_⟩
      rcases u3 with u3 | ⟨b, off, rfl, hn2, u3⟩
      · exact Or.inl u3
      · by_cases hU0 : U = []
        · exact Or.inl hU0
        refine Or.inr ⟨b, off, rfl, hn2, fun k hk => ?_⟩
        have hc := hg.cell (u3 k hk) (by simp)
        rw [← hc]
        refine World.cell?_of_block ?_
        unfold World.cell? at hc
        rcases h0 : w'.heap[b]? with _ | o
        · simp [h0] at hc
        · exact hw.2 _ _ h0 (Or.inr (Or.inr ⟨hU0, b, off, _, _, rfl, rfl⟩))
    exact iter_yes (listF_len (mErr_zero hE).1) (mErr_pow hE) hU' (hw.2 _ _ (hBu.kept hg (by simp)) (Or.inr (Or.inl rfl))) (keep hBe he) (keep hBl hl) (keep hBr hr) (hR.move hrows (fun o ho => hw.2 _ _ ho (Or.inl hp)) (fun k o hk _ ho => hw.2 _ _ ho (Or.inl hk))) hrows hw.1 ha hb h1 h2 h3 hp he hl hr
  · refine (all_no vp vn vo _ P R O w hM hE).mono ?_
    rintro e w' ⟨Be, Bl, Br, rfl, hBe, he, hg⟩
    refine ⟨Be, Bl, Br, rfl, hg, Lib.hid fun w'' hw => ?_⟩
    rw [if_neg (by rw [hE]; decide)]
    exact iter_no (hw.2 _ _ hBe (Or.inl he)) (by omega) (by omega)
/-- The document's New, whether the machine is one or not. -/
theorem refnew_two (vp vn vo : Value) (P : List ByteArray) (R : List (List Int)) (O : List Int) (w : World) (hM : MachAt w vp vn vo P R O) (hn : O.length ≤ 200000) :
    Calls Try.prog 16 #[.agg #[vp, vn, vo]] w fun e w' => ∃ qv ev, e = .returned (.tuple #[qv, .int .i64 ev]) ∧ w.grownBy w' none ∧ ((mErr P R O = 0 ∧ ev = 0 ∧ ∃ q, qv = .pointer (some ⟨q, 0, none⟩) ∧ RefV w' w'.heap.size q P R O 0 ∧ w.heap.size ≤ q) ∨ (mErr P R O ≠ 0 ∧ ev = 170)) := by
  rcases mErr_two P R O with hE | hE
  · refine (refnew_yes vp vn vo P R O w hM hE hn).mono ?_
    rintro e w' ⟨q, vp', vn', vo', vs, rfl, hr, hg⟩
    exact ⟨_, _, rfl, hg, Or.inl ⟨hE, rfl, q, rfl, ⟨_, _, _, _, hr.base (Nat.zero_le _), fun b hb => (hr.out.lt b hb).2⟩, hr.old⟩⟩
  · refine (refnew_no vp vn vo P R O w hM hE).mono ?_
    rintro e w' ⟨rfl, hg⟩
    exact ⟨_, _, rfl, hg, Or.inr ⟨by rw [hE]; decide, rfl⟩⟩
theorem RefV.box {w w' : World} {Z q s b : Nat} {P : List ByteArray} {R : List (List Int)} {O : List Int} {v : Value} (h : RefV w Z q P R O s) (hb : Boxed w b 25 v) (hg : w.grownBy w' (some b)) : RefV w' Z q P R O s := by
  obtain ⟨vp, vn, vo, vs, h, hz⟩ := h
  refine ⟨vp, vn, vo, vs, ⟨?_, h.props.kept hg (own_off h.props hb (by decide)), h.next.kept hg (own_off h.next hb (by decide)), fun i hi => by obtain ⟨v, hv, hr⟩ := h.each i hi; exact ⟨v, hv, hr.kept hg (own_off hr hb (by decide))⟩, h.out.kept hg (own_off h.out hb (by decide)), h.old⟩, hz⟩
  rw [hg.block q h.lt (fun e => ?_)]
  · exact h.blk
  · have h1 := h.blk
    rw [Option.some.inj e, show w.heap[b]? = _ from hb] at h1
    simp at h1
/-- A walk that never panics. -/
def noP (Q : Exit → Act → World → Prop) : Exit → Act → World → Prop
  | .panic _, _, _ => False
  | .normal, a, w => Q .normal a w
  | .ret, a, w => Q .ret a w
  | .exit i, a, w => Q (.exit i) a w
  | .goto i, a, w => Q (.goto i) a w
  | .outgrown, a, w => Q .outgrown a w
theorem noP_imp {Q : Exit → Act → World → Prop} : ∀ (e : Exit) (a : Act) (w : World), noP Q e a w → Q e a w
  | .normal, _, _, h => h
  | .ret, _, _, h => h
  | .exit _, _, _, h => h
  | .goto _, _, _, h => h
  | .outgrown, _, _, h => h
  | .panic _, _, _, h => h.elim
theorem ownAll_kpl {β : Type} {B : Nat} {Bs : List Nat} {w0 : World} (h : w0.heap.size ≤ B) : OwnAll B (fun (_ : β) W => KpL Bs w0 W) := fun _ _ _ _ hs hg hr =>
  ⟨Nat.le_trans hs.size hg.size, fun k o hk hn => (hg.block k (Array.getElem?_eq_some_iff.1 (hs.same k o hk hn)).1 (fun e => by have h1 := hr k e.symm; have h2 := (Array.getElem?_eq_some_iff.1 hk).1; omega)).trans (hs.same k o hk hn)⟩
theorem ownAll_below {β : Type} {B n : Nat} {w0 : World} (hn : n ≤ w0.heap.size) (h : n ≤ B) : OwnAll B (fun (_ : β) W => Below n w0 W) := fun _ _ _ _ hs hg hr => hs.grown hg (Nat.le_trans hn hs.size) (fun k e => Nat.le_trans h (hr k e))
theorem KpL.set {Bs : List Nat} {A B : World} (h : KpL Bs A B) {b : Nat} (hb : A.heap.size ≤ b) (v : Value) : KpL Bs A (B.setCell ⟨b, 0, none⟩ v) :=
  ⟨by have := h.size; simp; omega, fun k o hk hn => (Below.heap_setCell _ _ _ _ (by have := (Array.getElem?_eq_some_iff.1 hk).1; show k ≠ b; omega)).trans (h.same k o hk hn)⟩
theorem KpL.set_in {Bs : List Nat} {A B : World} (h : KpL Bs A B) {b : Nat} (hb : b ∈ Bs) (v : Value) : KpL Bs A (B.setCell ⟨b, 0, none⟩ v) := h.trans (KpL.of_gb gb_set (fun r e => by cases e; exact hb))
theorem mark_set {D B : Nat} {o : Obj} {W : World} {v : Value} (h : W.heap[D]? = some o) (hne : D ≠ B) : (W.setCell ⟨B, 0, none⟩ v).heap[D]? = some o := (Below.heap_setCell _ _ _ _ hne).trans h
theorem prefix_get {pre : List Int} {x : Int} {T : List Int} (h : pre ++ [x] <+: T) : pre.length < T.length ∧ T.getD pre.length 0 = x := by
  obtain ⟨t, rfl⟩ := h
  constructor
  · simp
  · simp [List.getD_eq_getElem?_getD]
theorem pre_next {R pre : List Int} {x : Int} (hp : pre <+: R) (hl : pre.length < R.length) (hx : R.getD pre.length 0 = x) : pre ++ [x] <+: R := by
  obtain ⟨t, rfl⟩ := hp
  cases t with
  | nil => simp at hl
  | cons y t =>
    simp [List.getD_eq_getElem?_getD] at hx
    subst hx
    exact ⟨t, by simp⟩
def SlotZ (c v : Nat) (a : Act) (x : Int) (a' : Act) (_ : World) : Prop := a' = { tmps := (a.tmps.setIfInBounds c (.int .u8 x)).setIfInBounds v (.int .u8 x), defers := [] }
theorem SlotZ.own {c v : Nat} {a a' : Act} {x : Int} {B : Nat} : OwnFrom B (fun (_ : Unit) W => SlotZ c v a x a' W) := fun _ _ _ _ h _ _ => h
theorem leave3 {fn : Func} {a : Tmp} {tmps : Array Value} {w W : World} {B D1 D2 D3 n : Nat} (hres : fn.results = #[.cell a 4]) (ha : tmps.getD a undef = .pointer (some ⟨B, 0, none⟩)) (hbx : Boxed W B 4 (.bool true)) (hB : Below w.heap.size w W)
    (h3 : W.heap[D3]? = some (.deferred (some []))) (h2 : W.heap[D2]? = some (.deferred (some []))) (h1 : W.heap[D1]? = some (.deferred (some []))) (l0 : w.heap.size ≤ B) (l1 : B < D1) (l2 : D1 < D2) (l3 : D2 < D3) :
    LeavesInM Fence.wide n Try.prog fn tmps (fun e w' => e = .returned (.bool true) ∧ Below w.heap.size w w') [{ target := .collected D3, args := #[] }, { target := .collected D2, args := #[] }, { target := .collected D1, args := #[] }] .returning W := by
  refine ⟨by simp, .inl ⟨D3, _, rfl, run_takeDeferred h3, ?_⟩⟩
  have h2' : (W.putObj D3 (.deferred none)).heap[D2]? = some (.deferred (some [])) := (World.putObj_heap_other (by omega)).trans h2
  have h1' : (W.putObj D3 (.deferred none)).heap[D1]? = some (.deferred (some [])) := (World.putObj_heap_other (by omega)).trans h1
  have hbx' : Boxed (W.putObj D3 (.deferred none)) B 4 (.bool true) := hbx.kept (grownBy_putObj' _ _ _) (fun e => by cases e; omega)
  have hB' : Below w.heap.size w (W.putObj D3 (.deferred none)) := hB.grown (grownBy_putObj' _ _ _) hB.size (fun k e => by cases e; omega)
  refine ⟨by simp, .inl ⟨D2, _, rfl, run_takeDeferred h2', ?_⟩⟩
  have h1'' : ((W.putObj D3 (.deferred none)).putObj D2 (.deferred none)).heap[D1]? = some (.deferred (some [])) := (World.putObj_heap_other (by omega)).trans h1'
  have hbx'' : Boxed ((W.putObj D3 (.deferred none)).putObj D2 (.deferred none)) B 4 (.bool true) := hbx'.kept (grownBy_putObj' _ _ _) (fun e => by cases e; omega)
  have hB'' : Below w.heap.size w ((W.putObj D3 (.deferred none)).putObj D2 (.deferred none)) := hB'.grown (grownBy_putObj' _ _ _) hB'.size (fun k e => by cases e; omega)
  refine ⟨by simp, .inl ⟨D1, _, rfl, run_takeDeferred h1'', ?_⟩⟩
  exact ⟨_, results_bool hres _ _ B true ha (hbx''.kept (grownBy_putObj' _ _ _) (fun e => by cases e; omega)), rfl, hB''.grown (grownBy_putObj' _ _ _) hB''.size (fun k e => by cases e; omega)⟩
theorem goV_lt {P : List ByteArray} {R : List (List Int)} {O : List Int} (hE : mErr P R O = 0) (L : List Nat) : goV P.length R L < O.length := by
  have h : ∀ (L : List Nat) (s : Nat), s < O.length → L.foldl (fun s x => stepF R P.length s (x % 65536)) s < O.length := by
    intro L
    induction L with
    | nil => intro s hs; exact hs
    | cons x m ih => intro s hs; exact ih _ (stepF_lt hE hs _)
  exact h L 0 (by have := (mErr_zero hE).2.1; omega)
set_option maxRecDepth 100000 in
theorem all_not_nil (c : Array Value) (w : World) : (binOp BinOp.eql 89 (.func (.func 71) #[] c) .nilFunc).run Try.prog w = .ok (.bool false) w := by
  first
  | rfl
  | kernel_rfl
  | simp [binOp, go_sem]
set_option maxRecDepth 100000 in
set_option maxHeartbeats 4000000 in
theorem goes_any (vp vn vo vu : Value) (most : Int) (P : List ByteArray) (R : List (List Int)) (O : List Int) (U : List Nat) (w : World) (hM : MooreIn w vp vn vo P R O) (hU : LettersAt w vu U) (m1 : -9223372036854775808 ≤ most) (m2 : most ≤ 9223372036854775807) :
    Calls Try.prog 7 #[.agg #[vp, vn, vo], vu, .int .i64 most] w fun e w' => e = .returned (.bool true) ∧ Below w.heap.size w w' := by
  have hg1 := World.grownBy_alloc w (.cells #[vp, vn, vo] 27) none
  have hg2 := World.grownBy_alloc (w.alloc (.cells #[vp, vn, vo] 27)) (.cells #[vu] 85) none
  have hg3 := World.grownBy_alloc ((w.alloc (.cells #[vp, vn, vo] 27)).alloc (.cells #[vu] 85)) (.cells #[.bool false] 4) none
  have hg := gb_trans (gb_trans hg1 hg2 (Or.inl rfl)) hg3 (Or.inl rfl)
  have hg23 := gb_trans hg2 hg3 (Or.inl rfl)
  have c0 := hg23.cell (cell3_0 w vp vn vo 27) (by simp)
  have c1 := hg23.cell (cell3_1 w vp vn vo 27) (by simp)
  have c2 := hg23.cell (cell3_2 w vp vn vo 27) (by simp)
  have bu := (Boxed.new (w.alloc (.cells #[vp, vn, vo] 27)) 85 vu).kept hg3 (by simp)
  have b6 := Boxed.new ((w.alloc (.cells #[vp, vn, vo] 27)).alloc (.cells #[vu] 85)) 4 (.bool false)
  rw [World.size_alloc] at bu
  rw [World.size_alloc, World.size_alloc] at b6
  have hm0 : capN (sizes P) + capN (lens R) + O.length ≤ 500000000000000 := by
    have h1 := short_le hM.short
    have h2 := rows_le hM.next
    have h3 := hM.len
    omega
  have hOM := ofmoore_any (hM.props.kept hg) hM.short (hM.next.kept hg) hM.slice (by have := hM.len; omega)
  have HX : Hid (∀ m, m = capN (sizes P) + capN (lens R) + O.length → m ≤ 100000 → P.length ≤ 100000 ∧ (∀ i, i < R.length → (R.getD i []).length ≤ 100000) ∧ R.length ≤ 100000 ∧ O.length ≤ 100000) := Lib.hid fun m e h => by
    have h1 := capN_sum (l := sizes P) (by omega)
    have h2 := sumN_len (sizes P)
    rw [show (sizes P).length = P.length by unfold sizes; rw [List.length_map]] at h2
    have h3 := capN_sum (l := lens R) (by omega)
    have h4 := sumN_len (lens R)
    rw [show (lens R).length = R.length by unfold lens; rw [List.length_map]] at h4
    exact ⟨by omega, fun i hi => row_small (by omega) hi, by omega, by omega⟩
  obtain ⟨m0, hm⟩ : ∃ m, Hid (m = capN (sizes P) + capN (lens R) + O.length) := ⟨_, rfl⟩
  rw [← hm.out] at hOM hm0
  have HX0 := Lib.hid (HX.out m0 hm.out)
  clear HX hm
  have HOM := Lib.hid hOM
  have HM := Lib.hid hM
  have HU := Lib.hid hU
  have HG := Lib.hid hg
  have HB6 := Lib.hid b6
  have HBu := Lib.hid bu
  obtain ⟨an, cn, rfl, hcn, hnl, _⟩ := hM.next
  obtain ⟨ap, cp, rfl, -⟩ := hM.props
  obtain ⟨ao, co, hvo⟩ : ∃ ao co, vo = .slice ao O.length co := by obtain ⟨a, c, h, _⟩ := hM.slice; exact ⟨a, c, h⟩
  subst hvo
  obtain ⟨au, cu, rfl, hcu, hul, -, -⟩ := hU
  have cu0 := bu.cell
  clear hM hOM hg1 hg2 hg3 hg23 hg bu b6
  refine (callsIn_wide (n := 8)).1 ?_
  refine callsIn_of_wp_marks Try.func7 rfl trivial ?_ rfl
  simp only [Try.ntmps7, List.size_toArray, List.length_cons, List.length_nil, Nat.reduceAdd, Nat.reduceSub, Array.replicate_succ, Array.replicate_zero, List.push_toArray, List.append_toArray, List.nil_append, List.cons_append]
  gi_wp2_with fail
  have hs1 : (((w.alloc (.cells #[.slice ap P.length cp, .slice an R.length cn, .slice ao O.length co] 27)).alloc (.cells #[.slice au U.length cu] 85)).alloc (.cells #[.bool false] 4)).heap.size = w.heap.size + 1 + 1 + 1 := by rw [World.size_alloc, World.size_alloc, World.size_alloc]
  generalize ((w.alloc (.cells #[.slice ap P.length cp, .slice an R.length cn, .slice ao O.length co] 27)).alloc (.cells #[.slice au U.length cu] 85)).alloc (.cells #[.bool false] 4) = w1 at c0 c1 c2 cu0 HOM HG HB6 HBu hs1 ⊢
  have hEnd : ∀ wx, w1.grownBy wx none → Below w.heap.size w (wx.setCell ⟨w.heap.size + 1 + 1, 0, none⟩ (.bool true)) := fun wx h => (gb_below (gb_trans HG.out h (Or.inl rfl))).setCell (by simp; omega) _
  by_cases hb0 : 100000 < m0
  · have hbI : (100000 : Int) < (m0 : Int) := by omega
    refine ⟨trivial, ?_⟩
    refine (callsIn_all HOM.out).mono ?_
    rintro e w2 ⟨rfl, hg2⟩
    have d6 := HB6.out.kept hg2 (by simp)
    have d6c := d6.cell
    have d6f := d6.frozen
    gi_wp2
    exact ⟨_, results_bool rfl _ _ (w.heap.size + 1 + 1) true rfl (d6.set _), rfl, hEnd _ hg2⟩
  have hb0I : ¬ (100000 : Int) < (m0 : Int) := by omega
  by_cases hb1 : 10000 < U.length
  · have hbI : (10000 : Int) < (U.length : Int) := by omega
    refine ⟨trivial, ?_⟩
    refine (callsIn_all HOM.out).mono ?_
    rintro e w2 ⟨rfl, hg2⟩
    have d6 := HB6.out.kept hg2 (by simp)
    have d6c := d6.cell
    have d6f := d6.frozen
    have dcu := hg2.cell cu0 (by simp)
    gi_wp2
    exact ⟨_, results_bool rfl _ _ (w.heap.size + 1 + 1) true rfl (d6.set _), rfl, hEnd _ hg2⟩
  have hb1I : ¬ (10000 : Int) < (U.length : Int) := by omega
  obtain ⟨hPl, hRr, hRl, hOl⟩ := HX0.out (by omega)
  refine ⟨trivial, ?_⟩
  refine (callsIn_all HOM.out).mono ?_
  rintro e w2 ⟨rfl, hg2⟩
  have dcu := hg2.cell cu0 (by simp)
  gi_wp2_with fail
  refine ⟨trivial, ?_⟩
  refine (callsIn_all (known_any w2)).mono ?_
  rintro e w3 ⟨rfl, hg3⟩
  have hG3 := gb_trans hg2 hg3 (Or.inl rfl)
  have HG3 := Lib.hid hG3
  clear hg2 hg3 dcu hEnd
  have hga := World.grownBy_alloc w3 (.cells #[.int .i64 0] 3) none
  have hG4 := gb_trans HG3.out hga (Or.inl rfl)
  have HG4 := Lib.hid hG4
  have hba := Boxed.new w3 3 (.int .i64 0)
  have e0 := hG4.cell c0 (by simp)
  have e1 := hG4.cell c1 (by simp)
  have e2 := hG4.cell c2 (by simp)
  have hz3 := HG3.out.size
  have hsz4 : (w3.alloc (.cells #[.int .i64 0] 3)).heap.size = w3.heap.size + 1 := World.size_alloc _ _
  have HMm := Lib.hid (((HM.out.mach (by omega)).kept HG.out).kept hG4)
  gi_wp2_with fail
  clear hga hG4
  generalize w3.alloc (.cells #[.int .i64 0] 3) = w4 at HG4 hba e0 e1 e2 hsz4 HMm ⊢
  generalize hBa : w3.heap.size = Ba at hba hsz4 hz3 ⊢
  refine ⟨trivial, ?_⟩
  refine (callsIn_all (lent_moore HMm.out (by omega) (by omega) (fun i hi => by have := hRr i hi; omega) (by omega))).mono ?_
  rintro e w5 ⟨up, un, uo, rfl, hL5, hg5⟩
  obtain ⟨g0, g1, g2, g3, g4, g5⟩ := moore_box w5
  have HL5 := Lib.hid hL5
  obtain ⟨⟨ga, ca, rfl, -⟩, ⟨gb, cb, -, -, rfl, -⟩, ⟨gc, cc, rfl, -⟩⟩ := hL5
  have hg6 := World.grownBy_alloc w5 (Obj.cells #[.slice (some ⟨ga, 0, none⟩) P.length ca, .slice (some ⟨gb, 0, none⟩) R.length cb, .slice (some ⟨gc, 0, none⟩) O.length cc] 27) none
  have hb6 := heap_alloc_new w5 (Obj.cells #[.slice (some ⟨ga, 0, none⟩) P.length ca, .slice (some ⟨gb, 0, none⟩) R.length cb, .slice (some ⟨gc, 0, none⟩) O.length cc] 27)
  have k0 := cell3_0 w5 (.slice (some ⟨ga, 0, none⟩) P.length ca) (.slice (some ⟨gb, 0, none⟩) R.length cb) (.slice (some ⟨gc, 0, none⟩) O.length cc) 27
  have k1 := cell3_1 w5 (.slice (some ⟨ga, 0, none⟩) P.length ca) (.slice (some ⟨gb, 0, none⟩) R.length cb) (.slice (some ⟨gc, 0, none⟩) O.length cc) 27
  have k2 := cell3_2 w5 (.slice (some ⟨ga, 0, none⟩) P.length ca) (.slice (some ⟨gb, 0, none⟩) R.length cb) (.slice (some ⟨gc, 0, none⟩) O.length cc) 27
  have hsz6 : (w5.alloc (Obj.cells #[.slice (some ⟨ga, 0, none⟩) P.length ca, .slice (some ⟨gb, 0, none⟩) R.length cb, .slice (some ⟨gc, 0, none⟩) O.length cc] 27)).heap.size = w5.heap.size + 1 := World.size_alloc _ _
  gi_wp2_with fail
  generalize w5.alloc (Obj.cells #[.slice (some ⟨ga, 0, none⟩) P.length ca, .slice (some ⟨gb, 0, none⟩) R.length cb, .slice (some ⟨gc, 0, none⟩) O.length cc] 27) = w6 at hg6 hb6 k0 k1 k2 hsz6 ⊢
  have hz4 := HG4.out.size
  have hz5 := hg5.size
  obtain ⟨B6, hB6⟩ : ∃ B6, w.heap.size + 1 + 1 = B6 := ⟨_, rfl⟩
  obtain ⟨Bu, hBu⟩ : ∃ Bu, w.heap.size + 1 = Bu := ⟨_, rfl⟩
  rw [hB6] at HB6
  rw [hBu] at HBu
  rw [hB6]
  rw [hBu]
  have hord : w.heap.size < Bu ∧ Bu < B6 ∧ B6 < Ba ∧ Ba < w4.heap.size := by omega
  clear hB6 hBu hs1
  obtain ⟨o1, o2, o3, o4⟩ := hord
  have hG16 := gb_trans HG4.out (gb_trans hg5 hg6 (Or.inl rfl)) (Or.inl rfl)
  have hUs : LetsAt w6 [Ba, B6] (.slice au U.length cu) U := by
    obtain ⟨a, c, e, _, _, u16, u3⟩ := HU.out
    cases e
    refine ⟨au, cu, rfl, by omega, u16, ?_⟩
    rcases u3 with u3 | ⟨b, off, rfl, u3⟩
    · exact Or.inl u3
    · by_cases h0 : U = []
      · exact Or.inl h0
      · have hb := World.block_lt_of_cell? w _ (u3 0 (List.length_pos_iff.2 h0))
        simp only at hb
        exact Or.inr ⟨b, off, rfl, by simp; omega, fun k hk => hG16.cell (HG.out.cell (u3 k hk) (by simp)) (by simp)⟩
  have hM6 := (HL5.out.kept hg6).at (HMm.out.kept (gb_trans hg5 hg6 (Or.inl rfl)))
  refine ⟨trivial, ?_⟩
  refine (callsIn_all (all_two _ _ _ Bu Ba B6 _ U P R O w6 hM6 (by omega) hUs (HBu.out.kept hG16 (by simp)) (by omega) (by omega) (by omega) (by omega) (by omega))).mono ?_
  rintro e w7 ⟨Be, Bl, Br, rfl, hg7, HIt⟩
  have hg67 := gb_trans hg6 hg7 (Or.inl rfl)
  have hg47 := gb_trans hg5 hg67 (Or.inl rfl)
  have k70 := hg7.cell k0 (by simp)
  have k71 := hg7.cell k1 (by simp)
  have k72 := hg7.cell k2 (by simp)
  have e70 := hg47.cell e0 (by simp)
  have e71 := hg47.cell e1 (by simp)
  have e72 := hg47.cell e2 (by simp)
  have HWh := Lib.hid (whole_moore (HL5.out.kept hg67) (HMm.out.kept hg47))
  unfold allV
  have HC : Hid (∀ wx, Below w4.heap.size w4 wx → wx.cell? ⟨w.heap.size, 0, none⟩ = some (.slice ap P.length cp) ∧ wx.cell? ⟨w.heap.size, 1, none⟩ = some (.slice an R.length cn) ∧ wx.cell? ⟨w.heap.size, 2, none⟩ = some (.slice ao O.length co) ∧ Boxed wx Bu 85 (.slice au U.length cu) ∧ Boxed wx B6 4 (.bool false) ∧ Boxed wx Ba 3 (.int .i64 0)) := Lib.hid fun wx h => by
    have b4 := HBu.out.kept HG4.out (by simp)
    have b64 := HB6.out.kept HG4.out (by simp)
    exact ⟨(h.cell (World.block_lt_of_cell? w4 _ e0)).trans e0, (h.cell (World.block_lt_of_cell? w4 _ e1)).trans e1, (h.cell (World.block_lt_of_cell? w4 _ e2)).trans e2, (h.block _ b4.lt).trans b4, (h.block _ b64.lt).trans b64, (h.block _ hba.lt).trans hba⟩
  clear hUs hM6 hb6 k0 k1 k2 e0 e1 e2 c0 c1 c2 g0 g1 g2 g3 g4 g5
  gi_wp2_with fail
  refine ⟨trivial, ?_⟩
  refine (callsIn_all HWh.out).mono ?_
  rintro e w8 ⟨rfl, hg8⟩
  have hg58 := gb_trans hg67 hg8 (Or.inl rfl)
  have hg48 := gb_trans hg5 hg58 (Or.inl rfl)
  have k80 := hg8.cell k70 (by simp)
  have k81 := hg8.cell k71 (by simp)
  have k82 := hg8.cell k72 (by simp)
  gi_wp2_with fail
  refine ⟨trivial, ?_⟩
  refine (callsIn_all (spoil_moore HL5.out hg58)).mono ?_
  rintro e w9 ⟨rfl, hsp⟩
  have hb9 : Below w4.heap.size w4 w9 := hsp.below (gb_below hg48) (Nat.le_refl _) hg48.size
  have HB9 := Lib.hid hb9
  have HIt9 : Hid (IterOK w9 Ba B6 Be Bl Br (if mErr P R O = 0 then verdsOf P.length R O U else [])) := Lib.hid (HIt.out w9 ⟨Nat.le_trans hg8.size hsp.size, fun k o hk hc => by
    have hk8 := (hg8.block k (Array.getElem?_eq_some_iff.1 hk).1 (by simp)).trans hk
    refine (hsp.block k (Array.getElem?_eq_some_iff.1 hk8).1 ?_).trans hk8
    have hz6 := hg6.size
    rcases hc with hc | hc | ⟨hU0, b, off, n, c, e, hc⟩
    · exact Or.inr (by omega)
    · exact Or.inl (by omega)
    · left
      obtain ⟨a2, c2, e2, _, _, _, u3⟩ := HU.out
      rw [e2] at e
      cases e
      rcases u3 with u3 | ⟨b2, off2, e3, u3⟩
      · exact absurd u3 hU0
      · cases e3
        have hb := World.block_lt_of_cell? w _ (u3 0 (List.length_pos_iff.2 hU0))
        simp only at hb
        omega⟩)
  have hz9 := hb9.size
  have hfn := all_not_nil
  have hb10 : Below w4.heap.size w4 (w9.alloc (.cells #[.slice none 0 0] 25)) := hb9.alloc hz9 _
  obtain ⟨q0, q1, q2, qu, q6, -⟩ := HC.out _ hb10
  have HB10 := Lib.hid hb10
  have hw0 := Boxed.new w9 25 (.slice none 0 0)
  have hsz10 : (w9.alloc (.cells #[.slice none 0 0] 25)).heap.size = w9.heap.size + 1 := World.size_alloc _ _
  have hb99 : Below w9.heap.size w9 (w9.alloc (.cells #[.slice none 0 0] 25)) := (Below.refl _ _).alloc (Nat.le_refl _) _
  clear hb9 hb10 hsp k70 k71 k72 k80 k81 k82 e70 e71 e72 hg7 hg8 hg67 hg47 hg58 hg48 HIt HWh HB6 hba hg5 hg6 cu0
  gi_wp2_with fail
  clear hfn
  generalize w9.alloc (.cells #[.slice none 0 0] 25) = w10 at q0 q1 q2 qu q6 HB10 hw0 hsz10 hb99 ⊢
  generalize hBw : w9.heap.size = Bw at hw0 hsz10 hz9 hb99 ⊢
  refine ⟨trivial, ?_⟩
  refine (callsIn_all (refnew_two _ _ _ P R O w10 (HMm.out.below HB10.out) (by omega))).mono ?_
  rintro e w11 ⟨qv, ev, rfl, hg11, hrf⟩
  have hz11 := hg11.size
  have hb11 : Below Bw w9 w11 := hb99.grown hg11 (by omega) (fun _ e => by cases e)
  have hw11 := hw0.kept hg11 (by simp)
  have hB411 : Below w4.heap.size w4 w11 := HB9.out.trans (hb11.mono (by omega))
  obtain ⟨-, -, -, u11, -, -⟩ := HC.out _ hB411
  gi_wp2_with fail
  obtain ⟨i0, hi0, hz0, hz1, hz2⟩ := info_parts Try.info59
  have hW0 : Hid (w11.ownsRow w11.heap.size 59 1 (.slice none 0 0) (verdsOf P.length R O (U.take 0)).length ((verdsOf P.length R O (U.take 0)).map ov)) := Lib.hid (World.ownsRow_nil _ _ _ _)
  have HRF := Lib.hid hrf
  have HB11 := Lib.hid hb11
  have HW11 := Lib.hid hw11
  have hbw : Bw < w11.heap.size := by omega
  have hbw10 : Bw < w10.heap.size := by omega
  have hb4w : w4.heap.size ≤ Bw := by omega
  clear hrf hb11 hw11 hw0 hb99 q0 q1 q2 qu q6 u11 hB411 HB10 hsz10 hg11 hz11
  obtain ⟨L, hL⟩ : ∃ L, Hid (L = if mErr P R O = 0 then verdsOf P.length R O U else []) := ⟨_, rfl⟩
  rw [← hL.out] at HIt9
  have hL10 : L.length ≤ 10000 := by
    rw [hL.out]
    split
    · rw [verds_len]; omega
    · simp
  gi_loopw [16] (fun i wr => ∃ (k : Nat) (v : Value), k ≤ U.length ∧ i = .int .i64 (k : Int) ∧ Hid (Boxed wr Bw 25 v) ∧ Hid (wr.ownsRow w11.heap.size 59 1 v (verdsOf P.length R O (U.take k)).length ((verdsOf P.length R O (U.take k)).map ov)) ∧ Hid (Below Bw w9 wr) ∧ w11.heap.size ≤ wr.heap.size ∧ Hid ((mErr P R O = 0 ∧ ev = 0 ∧ ∃ q, qv = .pointer (some ⟨q, 0, none⟩) ∧ RefV wr w11.heap.size q P R O (goV P.length R (U.take k)) ∧ Bw < q) ∨ (mErr P R O ≠ 0 ∧ ev = 170 ∧ k = 0))) (fun i _ => U.length - (intOf i).toNat)
  case atStart =>
    refine ⟨0, _, by omega, rfl, HW11, hW0, HB11, Nat.le_refl _, Lib.hid ?_⟩
    rcases HRF.out with ⟨h1, h2, q, h3, h4, h5⟩ | ⟨h1, h2⟩
    · exact Or.inl ⟨h1, h2, q, h3, h4, by omega⟩
    · exact Or.inr ⟨h1, h2, rfl⟩
  case round =>
    obtain ⟨k, v, hk, rfl, HBx, HRow, HBr, hzr, HS⟩ := hrel
    have hB4r : Below w4.heap.size w4 wr := HB9.out.trans (HBr.out.mono (by omega))
    obtain ⟨-, -, -, ur, -, -⟩ := HC.out _ hB4r
    have hur := ur.cell
    obtain ⟨av, cv, rfl⟩ := own_val HRow.out
    by_cases hlt : k < U.length
    · have hkI : (k : Int) < (U.length : Int) := by omega
      rcases HS.out with ⟨hE, rfl, q, rfl, hrv, hq⟩ | ⟨hE, rfl, rfl⟩
      · have hu16 : U.getD k 0 ≤ 65535 ∧ ∃ b off, au = some ⟨b, off, none⟩ ∧ wr.cell? ⟨b, off + k, none⟩ = some (.int .u16 (U.getD k 0 : Int)) := by
          obtain ⟨a2, c2, e2, _, _, u16, u3⟩ := HU.out
          cases e2
          refine ⟨u16 k hlt, ?_⟩
          rcases u3 with rfl | ⟨b, off, rfl, u3⟩
          · exact absurd hlt (by simp)
          · have h0 := (HG4.out.cell (HG.out.cell (u3 k hlt) (by simp)) (by simp))
            exact ⟨b, off, rfl, (hB4r.cell (World.block_lt_of_cell? w4 _ h0)).trans h0⟩
        obtain ⟨hx16, b, off, rfl, hcx⟩ := hu16
        have htk := take_next hlt
        have hxm : U.getD k 0 % 65536 = U.getD k 0 := Nat.mod_eq_of_lt (by omega)
        have hvs := verds_snoc P.length R O (U.take k) (U.getD k 0)
        have hgs := goV_snoc P.length R (U.take k) (U.getD k 0)
        rw [← htk, hxm] at hvs hgs
        have hlen := verds_len P.length R O (U.take k)
        rw [List.length_take, Nat.min_eq_left hk] at hlen
        have HS0 : Hid (∀ wx, RefV wx w11.heap.size q P R O (goV P.length R (U.take k)) → Calls Try.prog 35 #[.pointer (some ⟨q, 0, none⟩), .int .u16 (U.getD k 0 : Int)] wx fun e w' => e = .returned (.int .u8 (O.getD (stepF R P.length (goV P.length R (U.take k)) (U.getD k 0)) 0)) ∧ RefV w' w11.heap.size q P R O (stepF R P.length (goV P.length R (U.take k)) (U.getD k 0)) ∧ wx.grownBy w' (some q)) := Lib.hid fun wx h =>
          (refstep_set h.ref hE (goV_lt hE _) _ hx16).mono fun e w' ⟨he, hg⟩ => ⟨he, (h.goes _).kept hg, gb_trans gb_set hg (Or.inl rfl)⟩
        have HVS := Lib.hid hvs
        have HGS := Lib.hid hgs
        have HRV := Lib.hid hrv
        have hrd : RefV wr.drew w11.heap.size q P R O (goV P.length R (U.take k)) := hrv.kept (gb_drew wr none)
        have HRD := Lib.hid hrd
        generalize stepF R P.length (goV P.length R (U.take k)) (U.getD k 0) = s' at HS0 HVS HGS
        generalize O.getD s' 0 = y at HS0 HVS
        generalize U.getD k 0 = x at hcx hx16 HS0
        generalize verdsOf P.length R O (U.take k) = L at HRow HBx HVS hlen
        have hLk : L.length = k := hlen
        have HLk := Lib.hid hLk
        rw [hLk] at HRow HBx
        have hcb := HBx.out.cell
        clear hvs hgs htk hxm hrv hrd hLk hlen HRV
        gi_wp2
        refine wpIn_mono (wpIn_wide.2 ?_) noP_imp
        go_region_law (first
          | (go_simp; go_at_call 35; refine (HS0.out _ HRD.out).mono ?_; rintro e w3 ⟨rfl, hL3, hg3⟩; have hg3' := gb_dr hg3; have HL3 := Lib.hid hL3; have HB3 := Lib.hid (HBx.out.kept hg3' (by simp; omega)); have hcb3 := HB3.out.cell; have hcb3a := (HB3.out.alloc (.cells #[.int .u8 y] 59)).cell; have HO3 := Lib.hid (HRow.out.kept hg3' (by obtain ⟨cb, fb, hbb⟩ := HRD.out.ref.blk; exact own_off HRow.out hbb (by decide))); clear hL3)
          | (refine step_append_lies _ (by rfl) (.tmp 68) (.tmp 75) 25 (by rfl) w11.heap.size 59 i0 (.int .u8 0) 1 1 Try.underlying25 hi0 hz0 hz1 hz2 rfl (by decide) (.slice av k cv) k (L.map ov) (by rfl) (HO3.out.alloc _) ⟨w3.heap.size, 0, none⟩ 1 1 [.int .u8 y] (by rfl) (by rfl) (cell_one_new _ _ _) (by simp [Value.oneCell']) (by decide) (by unfold maxLen; omega) (by omega) (by rw [World.size_alloc]; have := hg3'.size; omega) _ rfl ?_; intro g5 cap5 w5 hown5 hgr5 hat5 hlt5; have HB5 := Lib.hid ((HB3.out.alloc (.cells #[.int .u8 y] 59)).kept hgr5 (HB3.out.not_row (by decide) HO3.out)); have hc5 := HB5.out.cell; have hf5 := HB5.out.frozen))
        all_goals
          have ha3 := World.grownBy_alloc w3 (.cells #[.int .u8 y] 59) none
          have hv3 := HO3.out.kept ha3 (Classical.em _)
          have hb3 : ∀ b, (Value.slice av k cv).ownBlock = some b → w11.heap.size ≤ b := fun b hb => (hv3.lt b hb).1
          have hR5 := ((HL3.out.kept ha3).over hv3 hb3 hgr5).box HB5.out (w' := w5.setCell ⟨Bw, 0, none⟩ (.slice (some ⟨g5, 0, none⟩) (k + 1) cap5)) gb_set
          have hb35 := hg3'.size
          have hb36 := ha3.size
          have hb37 := hgr5.size
          have hBe : Below Bw w9 (w5.setCell ⟨Bw, 0, none⟩ (.slice (some ⟨g5, 0, none⟩) (k + 1) cap5)) := ((((HBr.out.grown hg3' (by omega) (fun j e => by cases e; omega)).alloc (by omega) (.cells #[.int .u8 y] 59)).grown hgr5 (by omega) (fun j e => by have := hb3 j e; omega))).setCell (p := ⟨Bw, 0, none⟩) (Nat.le_refl _) _
          have hO5 := hown5.kept (gb_set (a := ⟨Bw, 0, none⟩) (v := .slice (some ⟨g5, 0, none⟩) (k + 1) cap5)) (own_off hown5 HB5.out (by decide))
          have hrow : (w5.setCell ⟨Bw, 0, none⟩ (.slice (some ⟨g5, 0, none⟩) (k + 1) cap5)).ownsRow w11.heap.size 59 1 (.slice (some ⟨g5, 0, none⟩) (k + 1) cap5) (verdsOf P.length R O (U.take (k + 1))).length ((verdsOf P.length R O (U.take (k + 1))).map ov) := by
            rw [HVS.out, List.length_append, List.map_append, HLk.out]
            exact hO5
          simp only [noP]
          gi_wp2
          exact ⟨⟨k + 1, _, by omega, by go_num, Lib.hid (HB5.out.set _), Lib.hid hrow, Lib.hid hBe, by simp; omega, Lib.hid (Or.inl ⟨hE, trivial, q, rfl, by rw [HGS.out]; exact hR5, hq⟩)⟩, by simp [intOf]; omega⟩
      · have hL0 : verdsOf P.length R O (U.take 0) = L := by rw [hL.out, if_neg hE]; rfl
        rw [hL0] at HBx HRow
        gi_wp2
        have HCw := HC.out _ hB4r
        obtain ⟨-, -, -, -, hx6, hxA⟩ := HCw
        have hKw : KpL [Ba, B6] w9 wr := by have h := HBr.out; rw [← hBw] at h; exact KpL.of_below h
        have hBz : Below w.heap.size w wr := (gb_below (gb_trans HG.out HG4.out (Or.inl rfl))).trans (hB4r.mono (by have := HG.out.size; omega))
        have HF : Hid (∀ wx, KpL [Ba] wr wx → Boxed wx Bw 25 (.slice av L.length cv) ∧ (∀ j, j < L.length → ∃ g, av = some ⟨g, 0, none⟩ ∧ wx.cell? ⟨g, j, none⟩ = some (.int .u8 (L.getD j 0))) ∧ Boxed wx B6 4 (.bool false)) := Lib.hid fun wx h => by
          refine ⟨h.boxed HBx.out (by simp; omega), fun j hj => ?_, h.boxed hx6 (by simp; omega)⟩
          obtain ⟨g, cap, hv, _, hc⟩ := own_cell HRow.out j hj
          cases hv
          have hgl := (HRow.out.lt g rfl).1
          refine ⟨g, rfl, h.cell (p := ⟨g, j, none⟩) ?_ (by simp; omega)⟩
          rw [hc, ov_at hj]
        have hbwr := HBx.out.lt
        have hWz := HG.out.size
        have hKr := KpL.refl [Ba] wr
        clear HC HBr HBx HRow hB4r ur hur HS hx6 hL0
        have hord2 : Ba < wr.heap.size ∧ B6 < wr.heap.size := by omega
        obtain ⟨o5, o6⟩ := hord2
        have hw9r := hKw.size
        refine wpIn_loop_rounds 3 ?_
        rw [roundsIn_succ]
        have hz10 : wr.heap.size ≤ wr.heap.size := hKr.size
        have hnb1 := Boxed.new wr 3 (.int .i64 0)
        have hA11 := hxA.alloc (.cells #[.int .i64 0] 3)
        have hcA1 := hA11.cell
        have hfA1 := hA11.frozen
        have hBaW1 := hxA.lt
        have hss1 : (wr.setCell ⟨Ba, 0, none⟩ (.int .i64 0)).heap.size = wr.heap.size := by simp
        have hAa1 := (hxA.set (.int .i64 0)).alloc (.cells #[.int .i64 0] 3)
        have hna1 := Boxed.new (wr.setCell ⟨Ba, 0, none⟩ (.int .i64 0)) 3 (.int .i64 0)
        rw [hss1] at hna1
        have hKa1 : KpL [Ba] wr ((wr.setCell ⟨Ba, 0, none⟩ (.int .i64 0)).alloc (.cells #[.int .i64 0] 3)) := (hKr.set_in (by simp) _).trans (KpL.of_gb (World.grownBy_alloc (wr.setCell ⟨Ba, 0, none⟩ (.int .i64 0)) (.cells #[.int .i64 0] 3) none) (fun r e => by cases e))
        have hBa1 : Below w.heap.size w ((wr.setCell ⟨Ba, 0, none⟩ (.int .i64 0)).alloc (.cells #[.int .i64 0] 3)) := (hBz.setCell (p := ⟨Ba, 0, none⟩) (by simp; omega) _).alloc (by rw [hss1]; exact hBz.size) (.cells #[.int .i64 0] 3)
        have hza1 : ((wr.setCell ⟨Ba, 0, none⟩ (.int .i64 0)).alloc (.cells #[.int .i64 0] 3)).heap.size = wr.heap.size + 1 := by simp
        clear hnb1
        gi_wp2
        clear hA11 hcA1 hfA1
        clear hss1
        generalize (wr.setCell ⟨Ba, 0, none⟩ (.int .i64 0)).alloc (.cells #[.int .i64 0] 3) = wa1 at hAa1 hna1 hKa1 hBa1 hza1 ⊢
        generalize hBn1 : wr.heap.size = Bn1 at hna1 hza1 hBaW1 ⊢
        have hzb1 : Bn1 < wa1.heap.size := by omega
        have hzc1 : wr.heap.size ≤ Bn1 := by omega
        clear hza1
        clear hBn1
        refine range_tick (Ax := SlotZ 82 19) rfl (by omega) (gf := 71) (lb := #[.pointer (some ⟨Be, 0, none⟩), .pointer (some ⟨Bl, 0, none⟩), .pointer (some ⟨Br, 0, none⟩)]) rfl trivial (enters_of Try.func71 (by kernel_rfl) rfl)
          (HIt9.out [Bn1, wa1.heap.size + 1, B6] wa1 (hKw.trans (hKa1.mono (fun j hj => by simp at hj ⊢; exact Or.inl hj))) ⟨0, hAa1⟩ (fun j hj => by simp at hj; rcases hj with h | h | h <;> omega)) KpL.trans (fun W o' => KpL.put (by simp) W o') (Below.refl _ _) (fun _ => rfl)
          (fun pre W => (pre <+: L ∧ Boxed W Bn1 3 (.int .i64 (pre.length : Int)) ∧ Boxed W Ba 3 (.int .i64 (pre.length : Int))) ∧ KpL [Ba] wr W ∧ Below w.heap.size w W)
          (fun pre W => (pre <+: L ∧ Boxed W Bn1 3 (.int .i64 (pre.length : Int)) ∧ Boxed W Ba 3 (.int .i64 ((pre.length : Int) + 1))) ∧ KpL [Ba] wr W ∧ Below w.heap.size w W)
          (fun _ pre _ => ¬ pre <+: L)
          (OwnAll.and (OwnAll.and (ownAll_pure _ _) (OwnAll.and (ownAll_boxed (by omega) _ _) (ownAll_boxed (by omega) _ _))) (OwnAll.and (ownAll_kpl (by omega)) (ownAll_below (by omega) (by omega))))
          (OwnAll.and (OwnAll.and (ownAll_pure _ _) (OwnAll.and (ownAll_boxed (by omega) _ _) (ownAll_boxed (by omega) _ _))) (OwnAll.and (ownAll_kpl (by omega)) (ownAll_below (by omega) (by omega))))
          (fun _ => ownAll_pure _ _)
          ⟨⟨List.nil_prefix, hna1, hAa1⟩, hKa1, hBa1⟩ ?tick1 (fun _ _ => SlotZ.own) ?assign1 ?body1 ?done1 ?stop1
        case tick1 =>
          rintro pre A B ⟨⟨hpre, hbn, hba⟩, hkw, hbw⟩ ⟨a, ha, rfl⟩
          have ea : a = (pre.length : Int) := by
            have h1 : A.heap[Ba]? = _ := ha
            rw [show A.heap[Ba]? = _ from hba] at h1
            simp at h1
            exact h1.symm
          subst ea
          have hl := hpre.length_le
          have hwr : wrap64 ((pre.length : Int) + 1) = (pre.length : Int) + 1 := by unfold wrap64; omega
          rw [hwr]
          exact ⟨⟨⟨hpre, hbn.other (by omega) _, hba.set _⟩, hkw.set_in (by simp) _, hbw.setCell (p := ⟨Ba, 0, none⟩) (by simp; omega) _⟩, (KeepsOthers.setCell _ _ _).from _⟩
        case assign1 =>
          rintro l pre x W K hi hK
          gi_wp2
          exact hK _ _ (KeepsFrom.refl _ _) (KpL.refl _ _) hi rfl
        case body1 =>
          rintro l pre x a' W _ _ ⟨⟨hpre, hbn, hba⟩, hkw, hbw⟩ rfl hlt
          obtain ⟨g9, gR, gX⟩ := HF.out _ hkw
          have hcn := hbn.cell
          have hfn := hbn.frozen
          have hca := hba.cell
          have hc9 := g9.cell
          have hcX := gX.cell
          have hfX := gX.frozen
          obtain ⟨gg, rfl, hcR⟩ := gR pre.length hlt
          have hltI : (pre.length : Int) < (L.length : Int) := by omega
          have hn1 := pre_next (x := x) hpre hlt
          have hab : ((pre.length : Int) + 1 != (pre.length : Int) + 1) = false := by simp
          have hv : Value.int .i64 ((pre.length : Int) + 1) = .int .i64 ((pre ++ [x]).length : Int) := by rw [List.length_append]; rfl
          by_cases hx : L.getD pre.length 0 = x
          · have hpn := hn1 hx
            have hxb : (x != x) = false := by simp
            rw [hx] at hcR
            have HPn := Lib.hid hpn
            clear hn1 hpn hx hpre
            gi_wp2
            exact ⟨(KeepsOthers.setCell _ _ _).from _, KpL.of_gb gb_set (fun r e => by cases e; simp), ⟨⟨HPn.out, by rw [← hv]; exact hbn.set _, by rw [← hv]; exact hba.other (by omega) _⟩, hkw.set (by omega) _, hbw.setCell (p := ⟨Bn1, 0, none⟩) (by simp; omega) _⟩⟩
          · have hxb : (x != L.getD pre.length 0) = true := by rw [bne_iff_ne]; exact fun e => hx e.symm
            have HPn : Hid (¬ pre ++ [x] <+: L) := Lib.hid fun h => hx (prefix_get h).2
            generalize L.getD pre.length 0 = y at hcR hxb
            clear hn1 hx hpre
            gi_wp2
            exact ⟨(KeepsOthers.setCell _ _ _).from _, KpL.of_gb gb_set (fun r e => by cases e; simp), HPn.out⟩
        case stop1 =>
          rintro D c pre W _ hS h _
          exact absurd hS h
        case done1 =>
          rintro D1 xs W1 hD1 hS1 ⟨⟨-, hbn1, hba1⟩, hkw1, hbw1⟩ hK1
          rw [show xs = L from hS1] at hbn1 hba1
          clear hS1
          obtain ⟨g9, -, -⟩ := HF.out _ hkw1
          have hcn := hbn1.cell
          have hc9 := g9.cell
          gi_wp2
          rw [roundsIn_succ]
          have hz20 : wr.heap.size ≤ W1.heap.size := hkw1.size
          have hnb2 := Boxed.new W1 3 (.int .i64 0)
          have hA21 := hba1.alloc (.cells #[.int .i64 0] 3)
          have hcA2 := hA21.cell
          have hfA2 := hA21.frozen
          have hBaW2 := hba1.lt
          have hss2 : (W1.setCell ⟨Ba, 0, none⟩ (.int .i64 0)).heap.size = W1.heap.size := by simp
          have hAa2 := (hba1.set (.int .i64 0)).alloc (.cells #[.int .i64 0] 3)
          have hna2 := Boxed.new (W1.setCell ⟨Ba, 0, none⟩ (.int .i64 0)) 3 (.int .i64 0)
          rw [hss2] at hna2
          have hKa2 : KpL [Ba] wr ((W1.setCell ⟨Ba, 0, none⟩ (.int .i64 0)).alloc (.cells #[.int .i64 0] 3)) := (hkw1.set_in (by simp) _).trans (KpL.of_gb (World.grownBy_alloc (W1.setCell ⟨Ba, 0, none⟩ (.int .i64 0)) (.cells #[.int .i64 0] 3) none) (fun r e => by cases e))
          have hBa2 : Below w.heap.size w ((W1.setCell ⟨Ba, 0, none⟩ (.int .i64 0)).alloc (.cells #[.int .i64 0] 3)) := (hbw1.setCell (p := ⟨Ba, 0, none⟩) (by simp; omega) _).alloc (by rw [hss2]; exact hbw1.size) (.cells #[.int .i64 0] 3)
          have hza2 : ((W1.setCell ⟨Ba, 0, none⟩ (.int .i64 0)).alloc (.cells #[.int .i64 0] 3)).heap.size = W1.heap.size + 1 := by simp
          have hml2_0 : D1 < W1.heap.size := (Array.getElem?_eq_some_iff.1 hK1).1
          have hma2_0 := (Below.heap_alloc (W1.setCell ⟨Ba, 0, none⟩ (.int .i64 0)) (.cells #[.int .i64 0] 3) D1 (by rw [hss2]; exact hml2_0)).trans (mark_set (v := .int .i64 0) (B := Ba) hK1 (by omega))
          clear hnb2
          gi_wp2
          clear hA21 hcA2 hfA2
          clear hss2
          generalize (W1.setCell ⟨Ba, 0, none⟩ (.int .i64 0)).alloc (.cells #[.int .i64 0] 3) = wa2 at hAa2 hna2 hKa2 hBa2 hza2 hma2_0 ⊢
          generalize hBn2 : W1.heap.size = Bn2 at hna2 hza2 hBaW2 hml2_0 ⊢
          have hzb2 : Bn2 < wa2.heap.size := by omega
          have hzc2 : wr.heap.size ≤ Bn2 := by omega
          clear hza2
          clear hBn2
          refine range_tick (Ax := SlotZ 82 19) rfl (by omega) (gf := 71) (lb := #[.pointer (some ⟨Be, 0, none⟩), .pointer (some ⟨Bl, 0, none⟩), .pointer (some ⟨Br, 0, none⟩)]) rfl trivial (enters_of Try.func71 (by kernel_rfl) rfl)
            (HIt9.out [Bn2, wa2.heap.size + 1, B6] wa2 (hKw.trans (hKa2.mono (fun j hj => by simp at hj ⊢; exact Or.inl hj))) ⟨0, hAa2⟩ (fun j hj => by simp at hj; rcases hj with h | h | h <;> omega)) KpL.trans (fun W o' => KpL.put (by simp) W o') (Below.refl _ _) (fun _ => rfl)
            (fun pre W => (pre <+: L ∧ Boxed W Bn2 3 (.int .i64 (pre.length : Int)) ∧ Boxed W Ba 3 (.int .i64 (pre.length : Int))) ∧ KpL [Ba] wr W ∧ Below w.heap.size w W ∧ W.heap[D1]? = some (.deferred (some [])))
            (fun pre W => (pre <+: L ∧ Boxed W Bn2 3 (.int .i64 (pre.length : Int)) ∧ Boxed W Ba 3 (.int .i64 ((pre.length : Int) + 1))) ∧ KpL [Ba] wr W ∧ Below w.heap.size w W ∧ W.heap[D1]? = some (.deferred (some [])))
            (fun _ pre _ => ¬ pre <+: L)
            (OwnAll.and (OwnAll.and (ownAll_pure _ _) (OwnAll.and (ownAll_boxed (by omega) _ _) (ownAll_boxed (by omega) _ _))) (OwnAll.and (ownAll_kpl (by omega)) (OwnAll.and (ownAll_below (by omega) (by omega)) (ownAll_obj (by omega) _))))
            (OwnAll.and (OwnAll.and (ownAll_pure _ _) (OwnAll.and (ownAll_boxed (by omega) _ _) (ownAll_boxed (by omega) _ _))) (OwnAll.and (ownAll_kpl (by omega)) (OwnAll.and (ownAll_below (by omega) (by omega)) (ownAll_obj (by omega) _))))
            (fun _ => ownAll_pure _ _)
            ⟨⟨List.nil_prefix, hna2, hAa2⟩, hKa2, hBa2, hma2_0⟩ ?tick2 (fun _ _ => SlotZ.own) ?assign2 ?body2 ?done2 ?stop2
          case tick2 =>
            rintro pre A B ⟨⟨hpre, hbn, hba⟩, hkw, hbw, hm0⟩ ⟨a, ha, rfl⟩
            have ea : a = (pre.length : Int) := by
              have h1 : A.heap[Ba]? = _ := ha
              rw [show A.heap[Ba]? = _ from hba] at h1
              simp at h1
              exact h1.symm
            subst ea
            have hl := hpre.length_le
            have hwr : wrap64 ((pre.length : Int) + 1) = (pre.length : Int) + 1 := by unfold wrap64; omega
            rw [hwr]
            exact ⟨⟨⟨hpre, hbn.other (by omega) _, hba.set _⟩, hkw.set_in (by simp) _, hbw.setCell (p := ⟨Ba, 0, none⟩) (by simp; omega) _, mark_set hm0 (by omega)⟩, (KeepsOthers.setCell _ _ _).from _⟩
          case assign2 =>
            rintro l pre x W K hi hK
            gi_wp2
            exact hK _ _ (KeepsFrom.refl _ _) (KpL.refl _ _) hi rfl
          case body2 =>
            rintro l pre x a' W _ _ ⟨⟨hpre, hbn, hba⟩, hkw, hbw, hm0⟩ rfl hlt
            obtain ⟨g9, gR, gX⟩ := HF.out _ hkw
            have hcn := hbn.cell
            have hfn := hbn.frozen
            have hca := hba.cell
            have hc9 := g9.cell
            have hcX := gX.cell
            have hfX := gX.frozen
            obtain ⟨gg, rfl, hcR⟩ := gR pre.length hlt
            have hltI : (pre.length : Int) < (L.length : Int) := by omega
            have hn1 := pre_next (x := x) hpre hlt
            have hab : ((pre.length : Int) + 1 != (pre.length : Int) + 1) = false := by simp
            have hv : Value.int .i64 ((pre.length : Int) + 1) = .int .i64 ((pre ++ [x]).length : Int) := by rw [List.length_append]; rfl
            by_cases hx : L.getD pre.length 0 = x
            · have hpn := hn1 hx
              have hxb : (x != x) = false := by simp
              rw [hx] at hcR
              have HPn := Lib.hid hpn
              clear hn1 hpn hx hpre
              gi_wp2
              exact ⟨(KeepsOthers.setCell _ _ _).from _, KpL.of_gb gb_set (fun r e => by cases e; simp), ⟨⟨HPn.out, by rw [← hv]; exact hbn.set _, by rw [← hv]; exact hba.other (by omega) _⟩, hkw.set (by omega) _, hbw.setCell (p := ⟨Bn2, 0, none⟩) (by simp; omega) _, mark_set hm0 (by omega)⟩⟩
            · have hxb : (x != L.getD pre.length 0) = true := by rw [bne_iff_ne]; exact fun e => hx e.symm
              have HPn : Hid (¬ pre ++ [x] <+: L) := Lib.hid fun h => hx (prefix_get h).2
              generalize L.getD pre.length 0 = y at hcR hxb
              clear hn1 hx hpre
              gi_wp2
              exact ⟨(KeepsOthers.setCell _ _ _).from _, KpL.of_gb gb_set (fun r e => by cases e; simp), HPn.out⟩
          case stop2 =>
            rintro D c pre W _ hS h _
            exact absurd hS h
          case done2 =>
            rintro D2 xs W2 hD2 hS2 ⟨⟨-, hbn2, hba2⟩, hkw2, hbw2, hm2_0⟩ hK2
            rw [show xs = L from hS2] at hbn2 hba2
            clear hS2
            obtain ⟨g9, -, -⟩ := HF.out _ hkw2
            have hcn := hbn2.cell
            have hc9 := g9.cell
            gi_wp2
            rw [roundsIn_succ]
            have hpk : pickF most (L.length + 1) ≤ L.length := by
              unfold pickF
              have := Nat.mod_lt (if most < 0 then -(most + 1) else most).toNat (show 0 < L.length + 1 by omega)
              omega
            have HPk := Lib.hid (pick_any W2 most (L.length + 1) (by omega) (by omega) m1 m2)
            generalize pickF most (L.length + 1) = E at HPk hpk
            have hz30 : wr.heap.size ≤ W2.heap.size := hkw2.size
            have hA31 := (hba2.alloc (.cells #[.int .i64 (1 + (E : Int))] 3)).alloc (.cells #[.int .i64 0] 3)
            have hcA3 := hA31.cell
            have hfA3 := hA31.frozen
            have hAa3 := hA31.set (.int .i64 0)
            have hbe3 := ((Boxed.new W2 3 (.int .i64 (1 + (E : Int)))).alloc (.cells #[.int .i64 0] 3)).other (B' := Ba) (by omega) (.int .i64 0)
            have hna3 := (Boxed.new (W2.alloc (.cells #[.int .i64 (1 + (E : Int))] 3)) 3 (.int .i64 0)).other (B' := Ba) (by rw [World.size_alloc]; omega) (.int .i64 0)
            rw [World.size_alloc] at hna3
            have hKa3 : KpL [Ba] wr (((W2.alloc (.cells #[.int .i64 (1 + (E : Int))] 3)).alloc (.cells #[.int .i64 0] 3)).setCell ⟨Ba, 0, none⟩ (.int .i64 0)) := (hkw2.trans (KpL.of_gb (gb_trans (World.grownBy_alloc W2 (.cells #[.int .i64 (1 + (E : Int))] 3) none) (World.grownBy_alloc _ (.cells #[.int .i64 0] 3) none) (Or.inl rfl)) (fun r e => by cases e))).set_in (by simp) _
            have hBa3 : Below w.heap.size w (((W2.alloc (.cells #[.int .i64 (1 + (E : Int))] 3)).alloc (.cells #[.int .i64 0] 3)).setCell ⟨Ba, 0, none⟩ (.int .i64 0)) := ((hbw2.alloc hbw2.size _).alloc (by rw [World.size_alloc]; have := hbw2.size; omega) _).setCell (p := ⟨Ba, 0, none⟩) (by simp; omega) _
            have hza3 : (((W2.alloc (.cells #[.int .i64 (1 + (E : Int))] 3)).alloc (.cells #[.int .i64 0] 3)).setCell ⟨Ba, 0, none⟩ (.int .i64 0)).heap.size = W2.heap.size + 1 + 1 := by simp
            have hD2l := (Array.getElem?_eq_some_iff.1 hK2).1
            have hD1l := (Array.getElem?_eq_some_iff.1 hm2_0).1
            have hq2a : (((W2.alloc (.cells #[.int .i64 (1 + (E : Int))] 3)).alloc (.cells #[.int .i64 0] 3)).setCell ⟨Ba, 0, none⟩ (.int .i64 0)).heap[D2]? = some (.deferred (some [])) := mark_set ((Below.heap_alloc _ _ _ (by rw [World.size_alloc]; omega)).trans ((Below.heap_alloc _ _ _ hD2l).trans hK2)) (by omega)
            have hq1a : (((W2.alloc (.cells #[.int .i64 (1 + (E : Int))] 3)).alloc (.cells #[.int .i64 0] 3)).setCell ⟨Ba, 0, none⟩ (.int .i64 0)).heap[D1]? = some (.deferred (some [])) := mark_set ((Below.heap_alloc _ _ _ (by rw [World.size_alloc]; omega)).trans ((Below.heap_alloc _ _ _ hD1l).trans hm2_0)) (by omega)
            gi_wp2_with (refine ⟨trivial, ?_⟩; gi_at_call 36; refine (callsIn_all HPk.out).mono ?_; rintro e wq ⟨rfl, rfl⟩)
            clear hA31 hcA3 hfA3
            generalize ((wq.alloc (.cells #[.int .i64 (1 + (E : Int))] 3)).alloc (.cells #[.int .i64 0] 3)).setCell ⟨Ba, 0, none⟩ (.int .i64 0) = wa3 at hAa3 hbe3 hna3 hKa3 hBa3 hza3 hq2a hq1a ⊢
            generalize hBe3 : wq.heap.size = Be3 at hbe3 hna3 hza3 hD2l hD1l hz30 ⊢
            obtain ⟨Bn3, hBn3⟩ : ∃ Bn3, Bn3 = Be3 + 1 := ⟨_, rfl⟩
            rw [← hBn3] at hna3 ⊢
            have hbl3 : Be3 < Bn3 ∧ Bn3 < wa3.heap.size := by omega
            clear hBn3 hza3 hBe3 hK2 hm2_0 hcn hc9 g9
            obtain ⟨hbl3, hbl4⟩ := hbl3
            refine range_tick (Ax := SlotZ 114 22) rfl (by omega) (gf := 71) (lb := #[.pointer (some ⟨Be, 0, none⟩), .pointer (some ⟨Bl, 0, none⟩), .pointer (some ⟨Br, 0, none⟩)]) rfl trivial (enters_of Try.func71 (by kernel_rfl) rfl)
              (HIt9.out [Bn3, wa3.heap.size + 1, B6] wa3 (hKw.trans (hKa3.mono (fun j hj => by simp at hj ⊢; exact Or.inl hj))) ⟨0, hAa3⟩ (fun j hj => by simp at hj; rcases hj with h | h | h <;> omega)) KpL.trans (fun W o' => KpL.put (by simp) W o') (Below.refl _ _) (fun _ => rfl)
              (fun pre W => (pre <+: L ∧ pre.length < E + 1 ∧ Boxed W Bn3 3 (.int .i64 (pre.length : Int)) ∧ Boxed W Ba 3 (.int .i64 (pre.length : Int)) ∧ Boxed W Be3 3 (.int .i64 (1 + (E : Int)))) ∧ KpL [Ba] wr W ∧ Below w.heap.size w W ∧ W.heap[D2]? = some (.deferred (some [])) ∧ W.heap[D1]? = some (.deferred (some [])))
              (fun pre W => (pre <+: L ∧ pre.length < E + 1 ∧ Boxed W Bn3 3 (.int .i64 (pre.length : Int)) ∧ Boxed W Ba 3 (.int .i64 ((pre.length : Int) + 1)) ∧ Boxed W Be3 3 (.int .i64 (1 + (E : Int)))) ∧ KpL [Ba] wr W ∧ Below w.heap.size w W ∧ W.heap[D2]? = some (.deferred (some [])) ∧ W.heap[D1]? = some (.deferred (some [])))
              (fun c pre W => ¬ pre <+: L ∨ (c = .exit 6 ∧ (pre <+: L ∧ pre.length = E + 1 ∧ Boxed W Bn3 3 (.int .i64 (pre.length : Int)) ∧ Boxed W Ba 3 (.int .i64 (pre.length : Int)) ∧ Boxed W Be3 3 (.int .i64 (1 + (E : Int)))) ∧ KpL [Ba] wr W ∧ Below w.heap.size w W ∧ W.heap[D2]? = some (.deferred (some [])) ∧ W.heap[D1]? = some (.deferred (some []))))
              (OwnAll.and (OwnAll.and (ownAll_pure _ _) (OwnAll.and (ownAll_pure _ _) (OwnAll.and (ownAll_boxed (by omega) _ _) (OwnAll.and (ownAll_boxed (by omega) _ _) (ownAll_boxed (by omega) _ _))))) (OwnAll.and (ownAll_kpl (by omega)) (OwnAll.and (ownAll_below (by omega) (by omega)) (OwnAll.and (ownAll_obj (by omega) _) (ownAll_obj (by omega) _)))))
              (OwnAll.and (OwnAll.and (ownAll_pure _ _) (OwnAll.and (ownAll_pure _ _) (OwnAll.and (ownAll_boxed (by omega) _ _) (OwnAll.and (ownAll_boxed (by omega) _ _) (ownAll_boxed (by omega) _ _))))) (OwnAll.and (ownAll_kpl (by omega)) (OwnAll.and (ownAll_below (by omega) (by omega)) (OwnAll.and (ownAll_obj (by omega) _) (ownAll_obj (by omega) _)))))
              (fun c => OwnAll.or (ownAll_pure _ _) (OwnAll.and (ownAll_pure _ _) (OwnAll.and (OwnAll.and (ownAll_pure _ _) (OwnAll.and (ownAll_pure _ _) (OwnAll.and (ownAll_boxed (by omega) _ _) (OwnAll.and (ownAll_boxed (by omega) _ _) (ownAll_boxed (by omega) _ _))))) (OwnAll.and (ownAll_kpl (by omega)) (OwnAll.and (ownAll_below (by omega) (by omega)) (OwnAll.and (ownAll_obj (by omega) _) (ownAll_obj (by omega) _)))))))
              ⟨⟨List.nil_prefix, by simp, hna3, hAa3, hbe3⟩, hKa3, hBa3, hq2a, hq1a⟩ ?tick3 (fun _ _ => SlotZ.own) ?assign3 ?body3 ?done3 ?stop3
            case tick3 =>
              rintro pre A B ⟨⟨hpre, hpl, hbn, hba, hbe⟩, hkw, hbw, hm0, hm1⟩ ⟨a, ha, rfl⟩
              have ea : a = (pre.length : Int) := by
                have h1 : A.heap[Ba]? = _ := ha
                rw [show A.heap[Ba]? = _ from hba] at h1
                simp at h1
                exact h1.symm
              subst ea
              have hl := hpre.length_le
              have hwr : wrap64 ((pre.length : Int) + 1) = (pre.length : Int) + 1 := by unfold wrap64; omega
              rw [hwr]
              exact ⟨⟨⟨hpre, hpl, hbn.other (by omega) _, hba.set _, hbe.other (by omega) _⟩, hkw.set_in (by simp) _, hbw.setCell (p := ⟨Ba, 0, none⟩) (by simp; omega) _, mark_set hm0 (by omega), mark_set hm1 (by omega)⟩, (KeepsOthers.setCell _ _ _).from _⟩
            case assign3 =>
              rintro l pre x W K hi hK
              gi_wp2
              exact hK _ _ (KeepsFrom.refl _ _) (KpL.refl _ _) hi rfl
            case body3 =>
              rintro l pre x a' W _ _ ⟨⟨hpre, hpl, hbn, hba, hbe⟩, hkw, hbw, hm0, hm1⟩ rfl hlt
              obtain ⟨g9, gR, gX⟩ := HF.out _ hkw
              have hcn := hbn.cell
              have hfn := hbn.frozen
              have hca := hba.cell
              have hc9 := g9.cell
              have hcX := gX.cell
              have hfX := gX.frozen
              obtain ⟨gg, rfl, hcR⟩ := gR pre.length hlt
              have hltI : (pre.length : Int) < (L.length : Int) := by omega
              have hn1 := pre_next (x := x) hpre hlt
              have hab : ((pre.length : Int) + 1 != (pre.length : Int) + 1) = false := by simp
              have hv : Value.int .i64 ((pre.length : Int) + 1) = .int .i64 ((pre ++ [x]).length : Int) := by rw [List.length_append]; rfl
              have hce := hbe.cell
              by_cases hx : L.getD pre.length 0 = x
              · have hpn := hn1 hx
                have hxb : (x != x) = false := by simp
                rw [hx] at hcR
                have HPn := Lib.hid hpn
                clear hn1 hpn hx hpre
                by_cases hE2 : pre.length = E
                · subst hE2
                  have hEb : ((pre.length : Int) + 1 == 1 + (pre.length : Int)) = true := by rw [beq_iff_eq]; omega
                  gi_wp2
                  exact ⟨(KeepsOthers.setCell _ _ _).from _, KpL.of_gb gb_set (fun r e => by cases e; simp), .inr ⟨rfl, ⟨HPn.out, by simp, by rw [← hv]; exact hbn.set _, by rw [← hv]; exact hba.other (by omega) _, hbe.other (by omega) _⟩, hkw.set (by omega) _, hbw.setCell (p := ⟨Bn3, 0, none⟩) (by simp; omega) _, mark_set hm0 (by omega), mark_set hm1 (by omega)⟩⟩
                · have hEb : ((pre.length : Int) + 1 == 1 + (E : Int)) = false := by rw [beq_eq_false_iff_ne]; omega
                  gi_wp2
                  exact ⟨(KeepsOthers.setCell _ _ _).from _, KpL.of_gb gb_set (fun r e => by cases e; simp), ⟨⟨HPn.out, by simp; omega, by rw [← hv]; exact hbn.set _, by rw [← hv]; exact hba.other (by omega) _, hbe.other (by omega) _⟩, hkw.set (by omega) _, hbw.setCell (p := ⟨Bn3, 0, none⟩) (by simp; omega) _, mark_set hm0 (by omega), mark_set hm1 (by omega)⟩⟩
              · have hxb : (x != L.getD pre.length 0) = true := by rw [bne_iff_ne]; exact fun e => hx e.symm
                have HPn : Hid (¬ pre ++ [x] <+: L) := Lib.hid fun h => hx (prefix_get h).2
                generalize L.getD pre.length 0 = y at hcR hxb
                clear hn1 hx hpre
                gi_wp2
                exact ⟨(KeepsOthers.setCell _ _ _).from _, KpL.of_gb gb_set (fun r e => by cases e; simp), .inl HPn.out⟩
            case done3 =>
              rintro D3 xs W3 hD3 hS3 ⟨⟨-, hpl, hbn, hba, hbe⟩, hkw3, hbw3, hq2, hq1⟩ hK3
              rw [show xs = L from hS3] at hbn hba hpl
              clear hS3
              obtain ⟨g9, -, gX⟩ := HF.out _ hkw3
              have hcn := hbn.cell
              have hca := hba.cell
              have hce := hbe.cell
              have hc9 := g9.cell
              have hcX := gX.cell
              have hfX := gX.frozen
              gi_wp2
              exact leave3 rfl rfl (gX.set _) (hbw3.setCell (p := ⟨B6, 0, none⟩) (by simp; omega) _) (mark_set hK3 (by omega)) (mark_set hq2 (by omega)) (mark_set hq1 (by omega)) (by omega) (by omega) (by omega) (by omega)
            case stop3 =>
              rintro D3 c pre W3 hD3 hS3 hX hK3
              rcases hX with hX | ⟨rfl, ⟨-, hpl, hbn, hba, hbe⟩, hkw3, hbw3, hq2, hq1⟩
              · exact absurd hS3 hX
              have hR3 : E + 1 ≤ L.length := by have := (show pre <+: L from hS3).length_le; omega
              obtain ⟨g9, -, gX⟩ := HF.out _ hkw3
              rw [hpl] at hbn hba
              have hcn := hbn.cell
              have hca := hba.cell
              have hce := hbe.cell
              have hc9 := g9.cell
              have hcX := gX.cell
              have hfX := gX.frozen
              clear hpl
              gi_wp2
              exact leave3 rfl rfl (gX.set _) (hbw3.setCell (p := ⟨B6, 0, none⟩) (by simp; omega) _) (mark_set hK3 (by omega)) (mark_set hq2 (by omega)) (mark_set hq1 (by omega)) (by omega) (by omega) (by omega) (by omega)
    · have hL0 : verdsOf P.length R O (U.take k) = L := by
        rcases HS.out with ⟨hE, -, -⟩ | ⟨hE, -, rfl⟩
        · rw [hL.out, if_pos hE, show k = U.length by omega, List.take_length]
        · rw [hL.out, if_neg hE]; rfl
      rw [hL0] at HBx HRow
      gi_wp2
      have HCw := HC.out _ hB4r
      obtain ⟨-, -, -, -, hx6, hxA⟩ := HCw
      have hKw : KpL [Ba, B6] w9 wr := by have h := HBr.out; rw [← hBw] at h; exact KpL.of_below h
      have hBz : Below w.heap.size w wr := (gb_below (gb_trans HG.out HG4.out (Or.inl rfl))).trans (hB4r.mono (by have := HG.out.size; omega))
      have HF : Hid (∀ wx, KpL [Ba] wr wx → Boxed wx Bw 25 (.slice av L.length cv) ∧ (∀ j, j < L.length → ∃ g, av = some ⟨g, 0, none⟩ ∧ wx.cell? ⟨g, j, none⟩ = some (.int .u8 (L.getD j 0))) ∧ Boxed wx B6 4 (.bool false)) := Lib.hid fun wx h => by
        refine ⟨h.boxed HBx.out (by simp; omega), fun j hj => ?_, h.boxed hx6 (by simp; omega)⟩
        obtain ⟨g, cap, hv, _, hc⟩ := own_cell HRow.out j hj
        cases hv
        have hgl := (HRow.out.lt g rfl).1
        refine ⟨g, rfl, h.cell (p := ⟨g, j, none⟩) ?_ (by simp; omega)⟩
        rw [hc, ov_at hj]
      have hbwr := HBx.out.lt
      have hWz := HG.out.size
      have hKr := KpL.refl [Ba] wr
      clear HC HBr HBx HRow hB4r ur hur HS hx6 hL0
      have hord2 : Ba < wr.heap.size ∧ B6 < wr.heap.size := by omega
      obtain ⟨o5, o6⟩ := hord2
      have hw9r := hKw.size
      refine wpIn_loop_rounds 3 ?_
      rw [roundsIn_succ]
      have hz10 : wr.heap.size ≤ wr.heap.size := hKr.size
      have hnb1 := Boxed.new wr 3 (.int .i64 0)
      have hA11 := hxA.alloc (.cells #[.int .i64 0] 3)
      have hcA1 := hA11.cell
      have hfA1 := hA11.frozen
      have hBaW1 := hxA.lt
      have hss1 : (wr.setCell ⟨Ba, 0, none⟩ (.int .i64 0)).heap.size = wr.heap.size := by simp
      have hAa1 := (hxA.set (.int .i64 0)).alloc (.cells #[.int .i64 0] 3)
      have hna1 := Boxed.new (wr.setCell ⟨Ba, 0, none⟩ (.int .i64 0)) 3 (.int .i64 0)
      rw [hss1] at hna1
      have hKa1 : KpL [Ba] wr ((wr.setCell ⟨Ba, 0, none⟩ (.int .i64 0)).alloc (.cells #[.int .i64 0] 3)) := (hKr.set_in (by simp) _).trans (KpL.of_gb (World.grownBy_alloc (wr.setCell ⟨Ba, 0, none⟩ (.int .i64 0)) (.cells #[.int .i64 0] 3) none) (fun r e => by cases e))
      have hBa1 : Below w.heap.size w ((wr.setCell ⟨Ba, 0, none⟩ (.int .i64 0)).alloc (.cells #[.int .i64 0] 3)) := (hBz.setCell (p := ⟨Ba, 0, none⟩) (by simp; omega) _).alloc (by rw [hss1]; exact hBz.size) (.cells #[.int .i64 0] 3)
      have hza1 : ((wr.setCell ⟨Ba, 0, none⟩ (.int .i64 0)).alloc (.cells #[.int .i64 0] 3)).heap.size = wr.heap.size + 1 := by simp
      clear hnb1
      gi_wp2
      clear hA11 hcA1 hfA1
      clear hss1
      generalize (wr.setCell ⟨Ba, 0, none⟩ (.int .i64 0)).alloc (.cells #[.int .i64 0] 3) = wa1 at hAa1 hna1 hKa1 hBa1 hza1 ⊢
      generalize hBn1 : wr.heap.size = Bn1 at hna1 hza1 hBaW1 ⊢
      have hzb1 : Bn1 < wa1.heap.size := by omega
      have hzc1 : wr.heap.size ≤ Bn1 := by omega
      clear hza1
      clear hBn1
      refine range_tick (Ax := SlotZ 82 19) rfl (by omega) (gf := 71) (lb := #[.pointer (some ⟨Be, 0, none⟩), .pointer (some ⟨Bl, 0, none⟩), .pointer (some ⟨Br, 0, none⟩)]) rfl trivial (enters_of Try.func71 (by kernel_rfl) rfl)
        (HIt9.out [Bn1, wa1.heap.size + 1, B6] wa1 (hKw.trans (hKa1.mono (fun j hj => by simp at hj ⊢; exact Or.inl hj))) ⟨0, hAa1⟩ (fun j hj => by simp at hj; rcases hj with h | h | h <;> omega)) KpL.trans (fun W o' => KpL.put (by simp) W o') (Below.refl _ _) (fun _ => rfl)
        (fun pre W => (pre <+: L ∧ Boxed W Bn1 3 (.int .i64 (pre.length : Int)) ∧ Boxed W Ba 3 (.int .i64 (pre.length : Int))) ∧ KpL [Ba] wr W ∧ Below w.heap.size w W)
        (fun pre W => (pre <+: L ∧ Boxed W Bn1 3 (.int .i64 (pre.length : Int)) ∧ Boxed W Ba 3 (.int .i64 ((pre.length : Int) + 1))) ∧ KpL [Ba] wr W ∧ Below w.heap.size w W)
        (fun _ pre _ => ¬ pre <+: L)
        (OwnAll.and (OwnAll.and (ownAll_pure _ _) (OwnAll.and (ownAll_boxed (by omega) _ _) (ownAll_boxed (by omega) _ _))) (OwnAll.and (ownAll_kpl (by omega)) (ownAll_below (by omega) (by omega))))
        (OwnAll.and (OwnAll.and (ownAll_pure _ _) (OwnAll.and (ownAll_boxed (by omega) _ _) (ownAll_boxed (by omega) _ _))) (OwnAll.and (ownAll_kpl (by omega)) (ownAll_below (by omega) (by omega))))
        (fun _ => ownAll_pure _ _)
        ⟨⟨List.nil_prefix, hna1, hAa1⟩, hKa1, hBa1⟩ ?tick1 (fun _ _ => SlotZ.own) ?assign1 ?body1 ?done1 ?stop1
      case tick1 =>
        rintro pre A B ⟨⟨hpre, hbn, hba⟩, hkw, hbw⟩ ⟨a, ha, rfl⟩
        have ea : a = (pre.length : Int) := by
          have h1 : A.heap[Ba]? = _ := ha
          rw [show A.heap[Ba]? = _ from hba] at h1
          simp at h1
          exact h1.symm
        subst ea
        have hl := hpre.length_le
        have hwr : wrap64 ((pre.length : Int) + 1) = (pre.length : Int) + 1 := by unfold wrap64; omega
        rw [hwr]
        exact ⟨⟨⟨hpre, hbn.other (by omega) _, hba.set _⟩, hkw.set_in (by simp) _, hbw.setCell (p := ⟨Ba, 0, none⟩) (by simp; omega) _⟩, (KeepsOthers.setCell _ _ _).from _⟩
      case assign1 =>
        rintro l pre x W K hi hK
        gi_wp2
        exact hK _ _ (KeepsFrom.refl _ _) (KpL.refl _ _) hi rfl
      case body1 =>
        rintro l pre x a' W _ _ ⟨⟨hpre, hbn, hba⟩, hkw, hbw⟩ rfl hlt
        obtain ⟨g9, gR, gX⟩ := HF.out _ hkw
        have hcn := hbn.cell
        have hfn := hbn.frozen
        have hca := hba.cell
        have hc9 := g9.cell
        have hcX := gX.cell
        have hfX := gX.frozen
        obtain ⟨gg, rfl, hcR⟩ := gR pre.length hlt
        have hltI : (pre.length : Int) < (L.length : Int) := by omega
        have hn1 := pre_next (x := x) hpre hlt
        have hab : ((pre.length : Int) + 1 != (pre.length : Int) + 1) = false := by simp
        have hv : Value.int .i64 ((pre.length : Int) + 1) = .int .i64 ((pre ++ [x]).length : Int) := by rw [List.length_append]; rfl
        by_cases hx : L.getD pre.length 0 = x
        · have hpn := hn1 hx
          have hxb : (x != x) = false := by simp
          rw [hx] at hcR
          have HPn := Lib.hid hpn
          clear hn1 hpn hx hpre
          gi_wp2
          exact ⟨(KeepsOthers.setCell _ _ _).from _, KpL.of_gb gb_set (fun r e => by cases e; simp), ⟨⟨HPn.out, by rw [← hv]; exact hbn.set _, by rw [← hv]; exact hba.other (by omega) _⟩, hkw.set (by omega) _, hbw.setCell (p := ⟨Bn1, 0, none⟩) (by simp; omega) _⟩⟩
        · have hxb : (x != L.getD pre.length 0) = true := by rw [bne_iff_ne]; exact fun e => hx e.symm
          have HPn : Hid (¬ pre ++ [x] <+: L) := Lib.hid fun h => hx (prefix_get h).2
          generalize L.getD pre.length 0 = y at hcR hxb
          clear hn1 hx hpre
          gi_wp2
          exact ⟨(KeepsOthers.setCell _ _ _).from _, KpL.of_gb gb_set (fun r e => by cases e; simp), HPn.out⟩
      case stop1 =>
        rintro D c pre W _ hS h _
        exact absurd hS h
      case done1 =>
        rintro D1 xs W1 hD1 hS1 ⟨⟨-, hbn1, hba1⟩, hkw1, hbw1⟩ hK1
        rw [show xs = L from hS1] at hbn1 hba1
        clear hS1
        obtain ⟨g9, -, -⟩ := HF.out _ hkw1
        have hcn := hbn1.cell
        have hc9 := g9.cell
        gi_wp2
        rw [roundsIn_succ]
        have hz20 : wr.heap.size ≤ W1.heap.size := hkw1.size
        have hnb2 := Boxed.new W1 3 (.int .i64 0)
        have hA21 := hba1.alloc (.cells #[.int .i64 0] 3)
        have hcA2 := hA21.cell
        have hfA2 := hA21.frozen
        have hBaW2 := hba1.lt
        have hss2 : (W1.setCell ⟨Ba, 0, none⟩ (.int .i64 0)).heap.size = W1.heap.size := by simp
        have hAa2 := (hba1.set (.int .i64 0)).alloc (.cells #[.int .i64 0] 3)
        have hna2 := Boxed.new (W1.setCell ⟨Ba, 0, none⟩ (.int .i64 0)) 3 (.int .i64 0)
        rw [hss2] at hna2
        have hKa2 : KpL [Ba] wr ((W1.setCell ⟨Ba, 0, none⟩ (.int .i64 0)).alloc (.cells #[.int .i64 0] 3)) := (hkw1.set_in (by simp) _).trans (KpL.of_gb (World.grownBy_alloc (W1.setCell ⟨Ba, 0, none⟩ (.int .i64 0)) (.cells #[.int .i64 0] 3) none) (fun r e => by cases e))
        have hBa2 : Below w.heap.size w ((W1.setCell ⟨Ba, 0, none⟩ (.int .i64 0)).alloc (.cells #[.int .i64 0] 3)) := (hbw1.setCell (p := ⟨Ba, 0, none⟩) (by simp; omega) _).alloc (by rw [hss2]; exact hbw1.size) (.cells #[.int .i64 0] 3)
        have hza2 : ((W1.setCell ⟨Ba, 0, none⟩ (.int .i64 0)).alloc (.cells #[.int .i64 0] 3)).heap.size = W1.heap.size + 1 := by simp
        have hml2_0 : D1 < W1.heap.size := (Array.getElem?_eq_some_iff.1 hK1).1
        have hma2_0 := (Below.heap_alloc (W1.setCell ⟨Ba, 0, none⟩ (.int .i64 0)) (.cells #[.int .i64 0] 3) D1 (by rw [hss2]; exact hml2_0)).trans (mark_set (v := .int .i64 0) (B := Ba) hK1 (by omega))
        clear hnb2
        gi_wp2
        clear hA21 hcA2 hfA2
        clear hss2
        generalize (W1.setCell ⟨Ba, 0, none⟩ (.int .i64 0)).alloc (.cells #[.int .i64 0] 3) = wa2 at hAa2 hna2 hKa2 hBa2 hza2 hma2_0 ⊢
        generalize hBn2 : W1.heap.size = Bn2 at hna2 hza2 hBaW2 hml2_0 ⊢
        have hzb2 : Bn2 < wa2.heap.size := by omega
        have hzc2 : wr.heap.size ≤ Bn2 := by omega
        clear hza2
        clear hBn2
        refine range_tick (Ax := SlotZ 82 19) rfl (by omega) (gf := 71) (lb := #[.pointer (some ⟨Be, 0, none⟩), .pointer (some ⟨Bl, 0, none⟩), .pointer (some ⟨Br, 0, none⟩)]) rfl trivial (enters_of Try.func71 (by kernel_rfl) rfl)
          (HIt9.out [Bn2, wa2.heap.size + 1, B6] wa2 (hKw.trans (hKa2.mono (fun j hj => by simp at hj ⊢; exact Or.inl hj))) ⟨0, hAa2⟩ (fun j hj => by simp at hj; rcases hj with h | h | h <;> omega)) KpL.trans (fun W o' => KpL.put (by simp) W o') (Below.refl _ _) (fun _ => rfl)
          (fun pre W => (pre <+: L ∧ Boxed W Bn2 3 (.int .i64 (pre.length : Int)) ∧ Boxed W Ba 3 (.int .i64 (pre.length : Int))) ∧ KpL [Ba] wr W ∧ Below w.heap.size w W ∧ W.heap[D1]? = some (.deferred (some [])))
          (fun pre W => (pre <+: L ∧ Boxed W Bn2 3 (.int .i64 (pre.length : Int)) ∧ Boxed W Ba 3 (.int .i64 ((pre.length : Int) + 1))) ∧ KpL [Ba] wr W ∧ Below w.heap.size w W ∧ W.heap[D1]? = some (.deferred (some [])))
          (fun _ pre _ => ¬ pre <+: L)
          (OwnAll.and (OwnAll.and (ownAll_pure _ _) (OwnAll.and (ownAll_boxed (by omega) _ _) (ownAll_boxed (by omega) _ _))) (OwnAll.and (ownAll_kpl (by omega)) (OwnAll.and (ownAll_below (by omega) (by omega)) (ownAll_obj (by omega) _))))
          (OwnAll.and (OwnAll.and (ownAll_pure _ _) (OwnAll.and (ownAll_boxed (by omega) _ _) (ownAll_boxed (by omega) _ _))) (OwnAll.and (ownAll_kpl (by omega)) (OwnAll.and (ownAll_below (by omega) (by omega)) (ownAll_obj (by omega) _))))
          (fun _ => ownAll_pure _ _)
          ⟨⟨List.nil_prefix, hna2, hAa2⟩, hKa2, hBa2, hma2_0⟩ ?tick2 (fun _ _ => SlotZ.own) ?assign2 ?body2 ?done2 ?stop2
        case tick2 =>
          rintro pre A B ⟨⟨hpre, hbn, hba⟩, hkw, hbw, hm0⟩ ⟨a, ha, rfl⟩
          have ea : a = (pre.length : Int) := by
            have h1 : A.heap[Ba]? = _ := ha
            rw [show A.heap[Ba]? = _ from hba] at h1
            simp at h1
            exact h1.symm
          subst ea
          have hl := hpre.length_le
          have hwr : wrap64 ((pre.length : Int) + 1) = (pre.length : Int) + 1 := by unfold wrap64; omega
          rw [hwr]
          exact ⟨⟨⟨hpre, hbn.other (by omega) _, hba.set _⟩, hkw.set_in (by simp) _, hbw.setCell (p := ⟨Ba, 0, none⟩) (by simp; omega) _, mark_set hm0 (by omega)⟩, (KeepsOthers.setCell _ _ _).from _⟩
        case assign2 =>
          rintro l pre x W K hi hK
          gi_wp2
          exact hK _ _ (KeepsFrom.refl _ _) (KpL.refl _ _) hi rfl
        case body2 =>
          rintro l pre x a' W _ _ ⟨⟨hpre, hbn, hba⟩, hkw, hbw, hm0⟩ rfl hlt
          obtain ⟨g9, gR, gX⟩ := HF.out _ hkw
          have hcn := hbn.cell
          have hfn := hbn.frozen
          have hca := hba.cell
          have hc9 := g9.cell
          have hcX := gX.cell
          have hfX := gX.frozen
          obtain ⟨gg, rfl, hcR⟩ := gR pre.length hlt
          have hltI : (pre.length : Int) < (L.length : Int) := by omega
          have hn1 := pre_next (x := x) hpre hlt
          have hab : ((pre.length : Int) + 1 != (pre.length : Int) + 1) = false := by simp
          have hv : Value.int .i64 ((pre.length : Int) + 1) = .int .i64 ((pre ++ [x]).length : Int) := by rw [List.length_append]; rfl
          by_cases hx : L.getD pre.length 0 = x
          · have hpn := hn1 hx
            have hxb : (x != x) = false := by simp
            rw [hx] at hcR
            have HPn := Lib.hid hpn
            clear hn1 hpn hx hpre
            gi_wp2
            exact ⟨(KeepsOthers.setCell _ _ _).from _, KpL.of_gb gb_set (fun r e => by cases e; simp), ⟨⟨HPn.out, by rw [← hv]; exact hbn.set _, by rw [← hv]; exact hba.other (by omega) _⟩, hkw.set (by omega) _, hbw.setCell (p := ⟨Bn2, 0, none⟩) (by simp; omega) _, mark_set hm0 (by omega)⟩⟩
          · have hxb : (x != L.getD pre.length 0) = true := by rw [bne_iff_ne]; exact fun e => hx e.symm
            have HPn : Hid (¬ pre ++ [x] <+: L) := Lib.hid fun h => hx (prefix_get h).2
            generalize L.getD pre.length 0 = y at hcR hxb
            clear hn1 hx hpre
            gi_wp2
            exact ⟨(KeepsOthers.setCell _ _ _).from _, KpL.of_gb gb_set (fun r e => by cases e; simp), HPn.out⟩
        case stop2 =>
          rintro D c pre W _ hS h _
          exact absurd hS h
        case done2 =>
          rintro D2 xs W2 hD2 hS2 ⟨⟨-, hbn2, hba2⟩, hkw2, hbw2, hm2_0⟩ hK2
          rw [show xs = L from hS2] at hbn2 hba2
          clear hS2
          obtain ⟨g9, -, -⟩ := HF.out _ hkw2
          have hcn := hbn2.cell
          have hc9 := g9.cell
          gi_wp2
          rw [roundsIn_succ]
          have hpk : pickF most (L.length + 1) ≤ L.length := by
            unfold pickF
            have := Nat.mod_lt (if most < 0 then -(most + 1) else most).toNat (show 0 < L.length + 1 by omega)
            omega
          have HPk := Lib.hid (pick_any W2 most (L.length + 1) (by omega) (by omega) m1 m2)
          generalize pickF most (L.length + 1) = E at HPk hpk
          have hz30 : wr.heap.size ≤ W2.heap.size := hkw2.size
          have hA31 := (hba2.alloc (.cells #[.int .i64 (1 + (E : Int))] 3)).alloc (.cells #[.int .i64 0] 3)
          have hcA3 := hA31.cell
          have hfA3 := hA31.frozen
          have hAa3 := hA31.set (.int .i64 0)
          have hbe3 := ((Boxed.new W2 3 (.int .i64 (1 + (E : Int)))).alloc (.cells #[.int .i64 0] 3)).other (B' := Ba) (by omega) (.int .i64 0)
          have hna3 := (Boxed.new (W2.alloc (.cells #[.int .i64 (1 + (E : Int))] 3)) 3 (.int .i64 0)).other (B' := Ba) (by rw [World.size_alloc]; omega) (.int .i64 0)
          rw [World.size_alloc] at hna3
          have hKa3 : KpL [Ba] wr (((W2.alloc (.cells #[.int .i64 (1 + (E : Int))] 3)).alloc (.cells #[.int .i64 0] 3)).setCell ⟨Ba, 0, none⟩ (.int .i64 0)) := (hkw2.trans (KpL.of_gb (gb_trans (World.grownBy_alloc W2 (.cells #[.int .i64 (1 + (E : Int))] 3) none) (World.grownBy_alloc _ (.cells #[.int .i64 0] 3) none) (Or.inl rfl)) (fun r e => by cases e))).set_in (by simp) _
          have hBa3 : Below w.heap.size w (((W2.alloc (.cells #[.int .i64 (1 + (E : Int))] 3)).alloc (.cells #[.int .i64 0] 3)).setCell ⟨Ba, 0, none⟩ (.int .i64 0)) := ((hbw2.alloc hbw2.size _).alloc (by rw [World.size_alloc]; have := hbw2.size; omega) _).setCell (p := ⟨Ba, 0, none⟩) (by simp; omega) _
          have hza3 : (((W2.alloc (.cells #[.int .i64 (1 + (E : Int))] 3)).alloc (.cells #[.int .i64 0] 3)).setCell ⟨Ba, 0, none⟩ (.int .i64 0)).heap.size = W2.heap.size + 1 + 1 := by simp
          have hD2l := (Array.getElem?_eq_some_iff.1 hK2).1
          have hD1l := (Array.getElem?_eq_some_iff.1 hm2_0).1
          have hq2a : (((W2.alloc (.cells #[.int .i64 (1 + (E : Int))] 3)).alloc (.cells #[.int .i64 0] 3)).setCell ⟨Ba, 0, none⟩ (.int .i64 0)).heap[D2]? = some (.deferred (some [])) := mark_set ((Below.heap_alloc _ _ _ (by rw [World.size_alloc]; omega)).trans ((Below.heap_alloc _ _ _ hD2l).trans hK2)) (by omega)
          have hq1a : (((W2.alloc (.cells #[.int .i64 (1 + (E : Int))] 3)).alloc (.cells #[.int .i64 0] 3)).setCell ⟨Ba, 0, none⟩ (.int .i64 0)).heap[D1]? = some (.deferred (some [])) := mark_set ((Below.heap_alloc _ _ _ (by rw [World.size_alloc]; omega)).trans ((Below.heap_alloc _ _ _ hD1l).trans hm2_0)) (by omega)
          gi_wp2_with (refine ⟨trivial, ?_⟩; gi_at_call 36; refine (callsIn_all HPk.out).mono ?_; rintro e wq ⟨rfl, rfl⟩)
          clear hA31 hcA3 hfA3
          generalize ((wq.alloc (.cells #[.int .i64 (1 + (E : Int))] 3)).alloc (.cells #[.int .i64 0] 3)).setCell ⟨Ba, 0, none⟩ (.int .i64 0) = wa3 at hAa3 hbe3 hna3 hKa3 hBa3 hza3 hq2a hq1a ⊢
          generalize hBe3 : wq.heap.size = Be3 at hbe3 hna3 hza3 hD2l hD1l hz30 ⊢
          obtain ⟨Bn3, hBn3⟩ : ∃ Bn3, Bn3 = Be3 + 1 := ⟨_, rfl⟩
          rw [← hBn3] at hna3 ⊢
          have hbl3 : Be3 < Bn3 ∧ Bn3 < wa3.heap.size := by omega
          clear hBn3 hza3 hBe3 hK2 hm2_0 hcn hc9 g9
          obtain ⟨hbl3, hbl4⟩ := hbl3
          refine range_tick (Ax := SlotZ 114 22) rfl (by omega) (gf := 71) (lb := #[.pointer (some ⟨Be, 0, none⟩), .pointer (some ⟨Bl, 0, none⟩), .pointer (some ⟨Br, 0, none⟩)]) rfl trivial (enters_of Try.func71 (by kernel_rfl) rfl)
            (HIt9.out [Bn3, wa3.heap.size + 1, B6] wa3 (hKw.trans (hKa3.mono (fun j hj => by simp at hj ⊢; exact Or.inl hj))) ⟨0, hAa3⟩ (fun j hj => by simp at hj; rcases hj with h | h | h <;> omega)) KpL.trans (fun W o' => KpL.put (by simp) W o') (Below.refl _ _) (fun _ => rfl)
            (fun pre W => (pre <+: L ∧ pre.length < E + 1 ∧ Boxed W Bn3 3 (.int .i64 (pre.length : Int)) ∧ Boxed W Ba 3 (.int .i64 (pre.length : Int)) ∧ Boxed W Be3 3 (.int .i64 (1 + (E : Int)))) ∧ KpL [Ba] wr W ∧ Below w.heap.size w W ∧ W.heap[D2]? = some (.deferred (some [])) ∧ W.heap[D1]? = some (.deferred (some [])))
            (fun pre W => (pre <+: L ∧ pre.length < E + 1 ∧ Boxed W Bn3 3 (.int .i64 (pre.length : Int)) ∧ Boxed W Ba 3 (.int .i64 ((pre.length : Int) + 1)) ∧ Boxed W Be3 3 (.int .i64 (1 + (E : Int)))) ∧ KpL [Ba] wr W ∧ Below w.heap.size w W ∧ W.heap[D2]? = some (.deferred (some [])) ∧ W.heap[D1]? = some (.deferred (some [])))
            (fun c pre W => ¬ pre <+: L ∨ (c = .exit 6 ∧ (pre <+: L ∧ pre.length = E + 1 ∧ Boxed W Bn3 3 (.int .i64 (pre.length : Int)) ∧ Boxed W Ba 3 (.int .i64 (pre.length : Int)) ∧ Boxed W Be3 3 (.int .i64 (1 + (E : Int)))) ∧ KpL [Ba] wr W ∧ Below w.heap.size w W ∧ W.heap[D2]? = some (.deferred (some [])) ∧ W.heap[D1]? = some (.deferred (some []))))
            (OwnAll.and (OwnAll.and (ownAll_pure _ _) (OwnAll.and (ownAll_pure _ _) (OwnAll.and (ownAll_boxed (by omega) _ _) (OwnAll.and (ownAll_boxed (by omega) _ _) (ownAll_boxed (by omega) _ _))))) (OwnAll.and (ownAll_kpl (by omega)) (OwnAll.and (ownAll_below (by omega) (by omega)) (OwnAll.and (ownAll_obj (by omega) _) (ownAll_obj (by omega) _)))))
            (OwnAll.and (OwnAll.and (ownAll_pure _ _) (OwnAll.and (ownAll_pure _ _) (OwnAll.and (ownAll_boxed (by omega) _ _) (OwnAll.and (ownAll_boxed (by omega) _ _) (ownAll_boxed (by omega) _ _))))) (OwnAll.and (ownAll_kpl (by omega)) (OwnAll.and (ownAll_below (by omega) (by omega)) (OwnAll.and (ownAll_obj (by omega) _) (ownAll_obj (by omega) _)))))
            (fun c => OwnAll.or (ownAll_pure _ _) (OwnAll.and (ownAll_pure _ _) (OwnAll.and (OwnAll.and (ownAll_pure _ _) (OwnAll.and (ownAll_pure _ _) (OwnAll.and (ownAll_boxed (by omega) _ _) (OwnAll.and (ownAll_boxed (by omega) _ _) (ownAll_boxed (by omega) _ _))))) (OwnAll.and (ownAll_kpl (by omega)) (OwnAll.and (ownAll_below (by omega) (by omega)) (OwnAll.and (ownAll_obj (by omega) _) (ownAll_obj (by omega) _)))))))
            ⟨⟨List.nil_prefix, by simp, hna3, hAa3, hbe3⟩, hKa3, hBa3, hq2a, hq1a⟩ ?tick3 (fun _ _ => SlotZ.own) ?assign3 ?body3 ?done3 ?stop3
          case tick3 =>
            rintro pre A B ⟨⟨hpre, hpl, hbn, hba, hbe⟩, hkw, hbw, hm0, hm1⟩ ⟨a, ha, rfl⟩
            have ea : a = (pre.length : Int) := by
              have h1 : A.heap[Ba]? = _ := ha
              rw [show A.heap[Ba]? = _ from hba] at h1
              simp at h1
              exact h1.symm
            subst ea
            have hl := hpre.length_le
            have hwr : wrap64 ((pre.length : Int) + 1) = (pre.length : Int) + 1 := by unfold wrap64; omega
            rw [hwr]
            exact ⟨⟨⟨hpre, hpl, hbn.other (by omega) _, hba.set _, hbe.other (by omega) _⟩, hkw.set_in (by simp) _, hbw.setCell (p := ⟨Ba, 0, none⟩) (by simp; omega) _, mark_set hm0 (by omega), mark_set hm1 (by omega)⟩, (KeepsOthers.setCell _ _ _).from _⟩
          case assign3 =>
            rintro l pre x W K hi hK
            gi_wp2
            exact hK _ _ (KeepsFrom.refl _ _) (KpL.refl _ _) hi rfl
          case body3 =>
            rintro l pre x a' W _ _ ⟨⟨hpre, hpl, hbn, hba, hbe⟩, hkw, hbw, hm0, hm1⟩ rfl hlt
            obtain ⟨g9, gR, gX⟩ := HF.out _ hkw
            have hcn := hbn.cell
            have hfn := hbn.frozen
            have hca := hba.cell
            have hc9 := g9.cell
            have hcX := gX.cell
            have hfX := gX.frozen
            obtain ⟨gg, rfl, hcR⟩ := gR pre.length hlt
            have hltI : (pre.length : Int) < (L.length : Int) := by omega
            have hn1 := pre_next (x := x) hpre hlt
            have hab : ((pre.length : Int) + 1 != (pre.length : Int) + 1) = false := by simp
            have hv : Value.int .i64 ((pre.length : Int) + 1) = .int .i64 ((pre ++ [x]).length : Int) := by rw [List.length_append]; rfl
            have hce := hbe.cell
            by_cases hx : L.getD pre.length 0 = x
            · have hpn := hn1 hx
              have hxb : (x != x) = false := by simp
              rw [hx] at hcR
              have HPn := Lib.hid hpn
              clear hn1 hpn hx hpre
              by_cases hE2 : pre.length = E
              · subst hE2
                have hEb : ((pre.length : Int) + 1 == 1 + (pre.length : Int)) = true := by rw [beq_iff_eq]; omega
                gi_wp2
                exact ⟨(KeepsOthers.setCell _ _ _).from _, KpL.of_gb gb_set (fun r e => by cases e; simp), .inr ⟨rfl, ⟨HPn.out, by simp, by rw [← hv]; exact hbn.set _, by rw [← hv]; exact hba.other (by omega) _, hbe.other (by omega) _⟩, hkw.set (by omega) _, hbw.setCell (p := ⟨Bn3, 0, none⟩) (by simp; omega) _, mark_set hm0 (by omega), mark_set hm1 (by omega)⟩⟩
              · have hEb : ((pre.length : Int) + 1 == 1 + (E : Int)) = false := by rw [beq_eq_false_iff_ne]; omega
                gi_wp2
                exact ⟨(KeepsOthers.setCell _ _ _).from _, KpL.of_gb gb_set (fun r e => by cases e; simp), ⟨⟨HPn.out, by simp; omega, by rw [← hv]; exact hbn.set _, by rw [← hv]; exact hba.other (by omega) _, hbe.other (by omega) _⟩, hkw.set (by omega) _, hbw.setCell (p := ⟨Bn3, 0, none⟩) (by simp; omega) _, mark_set hm0 (by omega), mark_set hm1 (by omega)⟩⟩
            · have hxb : (x != L.getD pre.length 0) = true := by rw [bne_iff_ne]; exact fun e => hx e.symm
              have HPn : Hid (¬ pre ++ [x] <+: L) := Lib.hid fun h => hx (prefix_get h).2
              generalize L.getD pre.length 0 = y at hcR hxb
              clear hn1 hx hpre
              gi_wp2
              exact ⟨(KeepsOthers.setCell _ _ _).from _, KpL.of_gb gb_set (fun r e => by cases e; simp), .inl HPn.out⟩
          case done3 =>
            rintro D3 xs W3 hD3 hS3 ⟨⟨-, hpl, hbn, hba, hbe⟩, hkw3, hbw3, hq2, hq1⟩ hK3
            rw [show xs = L from hS3] at hbn hba hpl
            clear hS3
            obtain ⟨g9, -, gX⟩ := HF.out _ hkw3
            have hcn := hbn.cell
            have hca := hba.cell
            have hce := hbe.cell
            have hc9 := g9.cell
            have hcX := gX.cell
            have hfX := gX.frozen
            gi_wp2
            exact leave3 rfl rfl (gX.set _) (hbw3.setCell (p := ⟨B6, 0, none⟩) (by simp; omega) _) (mark_set hK3 (by omega)) (mark_set hq2 (by omega)) (mark_set hq1 (by omega)) (by omega) (by omega) (by omega) (by omega)
          case stop3 =>
            rintro D3 c pre W3 hD3 hS3 hX hK3
            rcases hX with hX | ⟨rfl, ⟨-, hpl, hbn, hba, hbe⟩, hkw3, hbw3, hq2, hq1⟩
            · exact absurd hS3 hX
            have hR3 : E + 1 ≤ L.length := by have := (show pre <+: L from hS3).length_le; omega
            obtain ⟨g9, -, gX⟩ := HF.out _ hkw3
            rw [hpl] at hbn hba
            have hcn := hbn.cell
            have hca := hba.cell
            have hce := hbe.cell
            have hc9 := g9.cell
            have hcX := gX.cell
            have hfX := gX.frozen
            clear hpl
            gi_wp2
            exact leave3 rfl rfl (gX.set _) (hbw3.setCell (p := ⟨B6, 0, none⟩) (by simp; omega) _) (mark_set hK3 (by omega)) (mark_set hq2 (by omega)) (mark_set hq1 (by omega)) (by omega) (by omega) (by omega) (by omega)
end Go.Proofs.Ytpehmlkikhkmfaa
