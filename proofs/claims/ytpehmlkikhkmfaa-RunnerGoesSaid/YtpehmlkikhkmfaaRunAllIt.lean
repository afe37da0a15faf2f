/- Runner: All's closure, as an iterator. -/
import Derived.Test.YtpehmlkikhkmfaaRunLets
import Derived.Laws.EntriesVeiled
namespace Go.Proofs.Ytpehmlkikhkmfaa
open Go.RowKit Go.Shelf
attribute [local go_sem] Oper.semAt_some

theorem own_at {w w' : World} {Y e n : Nat} {v : Value} {xs : List Value} (h : w.ownsRow Y e 1 v n xs) (hb : ∀ b o, v.ownBlock = some b → w.heap[b]? = some o → w'.heap[b]? = some o) : w'.ownsRow Y e 1 v n xs := by
  refine ⟨h.1, ?_⟩
  rcases h.2 with h0 | ⟨g, cap, cur, rfl, hz, hg, rest⟩
  · exact Or.inl h0
  · exact Or.inr ⟨g, cap, cur, rfl, hz, hb g _ rfl hg, rest⟩
/-- A runner's rows lie from lo to hi. -/
def RowsIn (lo hi : Nat) (vn vo vf : Value) (vs : List Value) : Prop :=
  (∀ b, vn.ownBlock = some b → lo ≤ b ∧ b < hi) ∧ (∀ b, vo.ownBlock = some b → lo ≤ b ∧ b < hi) ∧ (∀ b, vf.ownBlock = some b → lo ≤ b ∧ b < hi) ∧ ∀ (i : Nat) (v : Value), vs[i]? = some v → ∀ b, v.ownBlock = some b → lo ≤ b ∧ b < hi
section
variable {w w' : World} {lo hi q mb : Nat} {vn vo vf : Value} {vs : List Value} {R : List (List Int)} {O : List Int} {F : List Bool} {s : Nat}
theorem RunAt.move (h : RunAt w q mb vn vo vf vs R O F s) (hr : RowsIn lo hi vn vo vf vs) (hq : ∀ o, w.heap[q]? = some o → w'.heap[q]? = some o) (hs : ∀ k o, lo ≤ k → k < hi → w.heap[k]? = some o → w'.heap[k]? = some o) : RunAt w' q mb vn vo vf vs R O F s := by
  obtain ⟨r1, r2, r3, r4⟩ := hr
  refine ⟨hq _ h.blk, own_at h.next (fun b o hb ho => hs b o (r1 b hb).1 (r1 b hb).2 ho), fun i hi => ?_, own_at h.out (fun b o hb ho => hs b o (r2 b hb).1 (r2 b hb).2 ho), own_at h.fin (fun b o hb ho => hs b o (r3 b hb).1 (r3 b hb).2 ho), h.lr, h.lf, h.st, h.small, h.inr⟩
  obtain ⟨v, hv, hw⟩ := h.each i hi
  exact ⟨v, hv, own_at hw (fun b o hb ho => hs b o (r4 i v hv b hb).1 (r4 i v hv b hb).2 ho)⟩
theorem RunAt.copied (h : RunAt w q mb vn vo vf vs R O F s) : RunAt (w.alloc (.cells #[vn, vo, vf, .map (some mb), .int .i64 (s : Int)] 106)) w.heap.size mb vn vo vf vs R O F s := by
  have h2 := h.kept (World.grownBy_alloc w (.cells #[vn, vo, vf, .map (some mb), .int .i64 (s : Int)] 106) none)
  exact ⟨heap_alloc_new _ _, h2.next, h2.each, h2.out, h2.fin, h2.lr, h2.lf, h2.st, h2.small, h2.inr⟩
theorem ownAll_run {β : Type} {B : Nat} (st : β → Nat) (hr : RowsIn lo hi vn vo vf vs) (hq : q < B) (hh : hi ≤ B) : OwnAll B (fun x W => RunAt W q mb vn vo vf vs R O F (st x)) := fun _ X Y row hs hg hrow =>
  hs.move hr (fun o ho => (hg.block q (Array.getElem?_eq_some_iff.1 ho).1 (fun e => by have := hrow q e.symm; omega)).trans ho) (fun k o _ hk ho => (hg.block k (Array.getElem?_eq_some_iff.1 ho).1 (fun e => by have := hrow k e.symm; omega)).trans ho)
end
/-- Where letters lead. -/
def goV (n : Nat) (R : List (List Int)) (L : List Nat) : Nat := L.foldl (fun s x => stepF R n s (x % 65536)) 0
/-- The verdicts behind letters. -/
def verdsOf (n : Nat) (R : List (List Int)) (O : List Int) (L : List Nat) : List Int := (List.range L.length).map fun k => O.getD (goV n R (L.take (k + 1))) 0
theorem goV_snoc (n : Nat) (R : List (List Int)) (L : List Nat) (x : Nat) : goV n R (L ++ [x]) = stepF R n (goV n R L) (x % 65536) := by simp [goV]
theorem verds_len (n : Nat) (R : List (List Int)) (O : List Int) (L : List Nat) : (verdsOf n R O L).length = L.length := by simp [verdsOf]
theorem verds_snoc (n : Nat) (R : List (List Int)) (O : List Int) (L : List Nat) (x : Nat) : verdsOf n R O (L ++ [x]) = verdsOf n R O L ++ [O.getD (stepF R n (goV n R L) (x % 65536)) 0] := by
  unfold verdsOf
  rw [List.length_append, List.length_singleton, List.range_succ, List.map_append]
  congr 1
  · refine List.map_congr_left fun k hk => ?_
    rw [List.take_append_of_le_length (by have := List.mem_range.1 hk; omega)]
  · show [O.getD (goV n R ((L ++ [x]).take (L.length + 1))) 0] = _
    rw [List.take_of_length_le (by simp), goV_snoc]
theorem verds_prefix {n : Nat} {R : List (List Int)} {O : List Int} {L M : List Nat} (h : L <+: M) : verdsOf n R O L <+: verdsOf n R O M := by
  obtain ⟨t, rfl⟩ := h
  induction t generalizing L with
  | nil => rw [List.append_nil]; exact List.prefix_rfl
  | cons x t ih =>
    have h1 : verdsOf n R O L <+: verdsOf n R O (L ++ [x]) := by rw [verds_snoc]; exact List.prefix_append _ _
    have h2 := ih (L := L ++ [x])
    rw [List.append_assoc] at h2
    exact h1.trans h2
def SlotV (c v : Nat) (a : Act) (x : Nat) (a' : Act) (_ : World) : Prop := a' = { tmps := (a.tmps.setIfInBounds c (letV x)).setIfInBounds v (letV x), defers := [] }
theorem SlotV.own {c v : Nat} {a a' : Act} {x B : Nat} : OwnFrom B (fun (_ : Unit) W => SlotV c v a x a' W) := fun _ _ _ _ h _ _ => h
theorem LetsAt.more {w : World} {Bs Cs : List Nat} {v : Value} {U : List Nat} (h : LetsAt w Bs v U) (hc : ∀ b, b < w.heap.size → b ∉ Bs → b ∉ Cs) : LetsAt w Cs v U := by
  obtain ⟨a, cap, rfl, h1, h2, h3⟩ := h
  refine ⟨a, cap, rfl, h1, h2, ?_⟩
  rcases h3 with h3 | ⟨b, off, rfl, hn, h3⟩
  · exact Or.inl h3
  · by_cases h0 : U = []
    · exact Or.inl h0
    · exact Or.inr ⟨b, off, rfl, hc b (World.block_lt_of_cell? w _ (h3 0 (List.length_pos_iff.2 h0))) hn, h3⟩
theorem wide_depth {d : Nat} : Fence.wide.depth ≠ some d := fun e => by cases e
theorem round_any {m m' : Nat} {P : Program} {l : Nat} {f : FuncId} {tmps : Array Value} {assign body : Code} {w : World} {Q : Ending → World → Prop} (h : RoundIn Fence.wide m P l f tmps assign body w Q) : RoundIn Fence.wide m' P l f tmps assign body w Q := ⟨h.1, fun c cs _ => h.2 c cs (fun _ e => absurd e wide_depth)⟩
theorem two_ways {e : Ending} {A B : Prop} (h : (e = .returned (.bool true) ∧ A) ∨ (e = .returned (.bool false) ∧ B)) : ∃ b : Bool, e = .returned (.bool b) ∧ ((b = true ∧ A) ∨ (b = false ∧ B)) := by
  rcases h with ⟨h1, h2⟩ | ⟨h1, h2⟩
  · exact ⟨true, h1, Or.inl ⟨rfl, h2⟩⟩
  · exact ⟨false, h1, Or.inr ⟨rfl, h2⟩⟩
theorem follows_all : Try.prog.follows Departure.mixedOrders = true := by kernel_rfl
theorem gb_dr {a b : World} {r : Option Nat} (h : a.drew.grownBy b r) : a.grownBy b r := ⟨h.os, h.tape, h.output, h.size, h.block⟩
theorem lets_tick (m : Nat) (hm : 1 ≤ m) (Bu Ba : Nat) (Bs : List Nat) (vu : Value) (U : List Nat) (w : World) (hU : LetsAt w (Ba :: Bs) vu U) (hu : Bu ∉ Bs) (hua : Bu ≠ Ba) (ha : Ba ∉ Bs) (hBu : Boxed w Bu 85 vu) (hBa : ∃ a : Int, Boxed w Ba 3 (.int .i64 a)) :
    SeqTick Fence.wide m Try.prog 33 #[.pointer (some ⟨Bu, 0, none⟩), .pointer (some ⟨Ba, 0, none⟩)] (fun x : Nat => #[letV x]) (KpL Bs) (Tick Ba) (fun xs => xs = U) (fun pre => pre <+: U) U.length w := by
  intro l J J1 Jx W hW _ _ _ _ hT hY h0
  have hk : KpL (Ba :: Bs) w W := KpL.of_below hW
  obtain ⟨a, hA⟩ := hBa
  exact lets_in m hm l Bu Ba Bs vu U J J1 Jx hT hY W (hU.keep hk) hu hua ha ((hW.block Bu hBu.lt).trans hBu) ⟨a, (hW.block Ba hA.lt).trans hA⟩ h0
set_option maxRecDepth 100000 in
theorem func_not_nil (c : Array Value) (w : World) : (binOp BinOp.eql 125 (.func (.func 33) #[] c) .nilFunc).run Try.prog w = .ok (.bool false) w := by
  first
  | rfl
  | kernel_rfl
  | simp [binOp, go_sem]
set_option maxRecDepth 100000 in
set_option maxHeartbeats 4000000 in
theorem runall_in (m : Nat) (hm : 6 ≤ m) (l Be Bl Br Bu Ba p mb lo hi : Nat) (Bs : List Nat) (vu vn vo vf : Value) (vs : List Value) (U : List Nat) (n : Nat) (R : List (List Int)) (O : List Int) (F : List Bool) (hn8 : n ≤ 8) (hpow : ∀ k, k < R.length → (R.getD k []).length = 2 ^ n) (J J1 Jx : List Int → World → Prop)
    (W : World) (hJ : OwnAll W.heap.size J) (hJ1 : OwnAll W.heap.size J1) (hJx : OwnAll W.heap.size Jx)
    (hT : ∀ pre A B, J pre A → Tick Ba A B → J1 pre B)
    (hY : ∀ pre (x : Int) W, J1 pre W → pre.length < U.length → YieldAt Fence.wide (m - 1) Try.prog l #[.int .u8 x] W fun e W' =>
      (e = .returned (.bool true) ∧ J (pre ++ [x]) W' ∧ KpL Bs W W') ∨ (e = .returned (.bool false) ∧ Jx (pre ++ [x]) W' ∧ KpL Bs W W'))
    (hBs : ∀ k, k ∈ Bs → k < W.heap.size) (hU : LetsAt W (Ba :: Bs) vu U) (hu : Bu ∉ Bs) (hua : Bu ≠ Ba) (ha : Ba ∉ Bs) (hBu : Boxed W Bu 85 vu) (hBa : ∃ a : Int, Boxed W Ba 3 (.int .i64 a))
    (hBe : Boxed W Be 33 (.int .i64 0)) (hBl : Boxed W Bl 125 (.func (.func 33) #[] #[.pointer (some ⟨Bu, 0, none⟩), .pointer (some ⟨Ba, 0, none⟩)])) (hBr : Boxed W Br 32 (.pointer (some ⟨p, 0, none⟩)))
    (hR : RunAt W p mb vn vo vf vs R O F 0) (hrows : RowsIn lo hi vn vo vf vs) (hhi : hi ≤ W.heap.size) (hlo : Ba < lo) (hBsr : ∀ k, k ∈ Bs → k < lo ∨ hi ≤ k) (h0 : J [] W) :
    CallsIn Fence.wide m Try.prog 71 #[.func (.yield l) #[] #[], .pointer (some ⟨Be, 0, none⟩), .pointer (some ⟨Bl, 0, none⟩), .pointer (some ⟨Br, 0, none⟩)] W fun e W' => (∃ v, e = .returned v) ∧
      ((∃ ys, ys = verdsOf n R O U ∧ J ys W') ∨ (∃ pre, pre <+: verdsOf n R O U ∧ Jx pre W')) := by
  have hfn := func_not_nil
  obtain ⟨an, cn, rfl⟩ := own_val hR.next
  obtain ⟨ao, co, rfl⟩ := own_val hR.out
  obtain ⟨af, cf, rfl⟩ := own_val hR.fin
  have ga := World.grownBy_alloc W (.cells #[.func (.yield l) #[] #[]] 126) none
  have hby := Boxed.new W 126 (.func (.yield l) #[] #[])
  have hj1 := hJ.alloc (.cells #[.func (.yield l) #[] #[]] 126) h0
  have e1 := hBe.alloc (.cells #[.func (.yield l) #[] #[]] 126)
  have l1 := hBl.alloc (.cells #[.func (.yield l) #[] #[]] 126)
  have r1 := hBr.alloc (.cells #[.func (.yield l) #[] #[]] 126)
  have u1 := hBu.alloc (.cells #[.func (.yield l) #[] #[]] 126)
  have R1 := hR.kept ga
  obtain ⟨av, hav⟩ := hBa
  have a1 := hav.alloc (.cells #[.func (.yield l) #[] #[]] 126)
  have hz1 : (W.alloc (.cells #[.func (.yield l) #[] #[]] 126)).heap.size = W.heap.size + 1 := World.size_alloc _ _
  have U1m : LetsAt (W.alloc (.cells #[.func (.yield l) #[] #[]] 126)) (Ba :: (W.heap.size + 1 + 1 + 1) :: (W.heap.size + 1) :: Bs) vu U := (hU.more (Cs := Ba :: (W.heap.size + 1 + 1 + 1) :: (W.heap.size + 1) :: Bs) (fun b h1 hn => by
    simp at hn ⊢
    exact ⟨hn.1, by omega, by omega, hn.2⟩)).keep (KpL.of_gb ga (fun r e => by cases e))
  have hey := e1.cell
  have hly := l1.cell
  have hry := r1.cell
  have p0 := R1.cell0
  have p1 := R1.cell1
  have p2 := R1.cell2
  have p3 := R1.cell3
  have p4 := R1.cell4
  have hAl := hav.lt
  have hBul := hBu.lt
  have hBl0 := hBl.lt
  refine callsIn_of_wp_marks Try.func71 rfl trivial ?_ rfl
  simp only [Try.ntmps71, List.size_toArray, List.length_cons, List.length_nil, Nat.reduceAdd, Nat.reduceSub, Array.replicate_succ, Array.replicate_zero, List.push_toArray, List.append_toArray, List.nil_append, List.cons_append]
  clear hBe hBl hBr hBu hR hU e1 r1 hav h0 ga
  gi_wp2
  have hq2 := R1.copied
  have hj2 := hJ.alloc (.cells #[.slice an R.length cn, .slice ao O.length co, .slice af F.length cf, .map (some mb), .int .i64 0] 106) hj1
  have hby2 := hby.alloc (.cells #[.slice an R.length cn, .slice ao O.length co, .slice af F.length cf, .map (some mb), .int .i64 0] 106)
  have u2 := u1.alloc (.cells #[.slice an R.length cn, .slice ao O.length co, .slice af F.length cf, .map (some mb), .int .i64 0] 106)
  have a2 := a1.alloc (.cells #[.slice an R.length cn, .slice ao O.length co, .slice af F.length cf, .map (some mb), .int .i64 0] 106)
  have U2 := U1m.keep (KpL.of_gb (World.grownBy_alloc (W.alloc (.cells #[.func (.yield l) #[] #[]] 126)) (.cells #[.slice an R.length cn, .slice ao O.length co, .slice af F.length cf, .map (some mb), .int .i64 0] 106) none) (fun r e => by cases e))
  have hz2 : ((W.alloc (.cells #[.func (.yield l) #[] #[]] 126)).alloc (.cells #[.slice an R.length cn, .slice ao O.length co, .slice af F.length cf, .map (some mb), .int .i64 0] 106)).heap.size = W.heap.size + 1 + 1 := by rw [World.size_alloc, World.size_alloc]
  rw [hz1] at hq2
  have hq2' : RunAt ((W.alloc (.cells #[.func (.yield l) #[] #[]] 126)).alloc (.cells #[.slice an R.length cn, .slice ao O.length co, .slice af F.length cf, .map (some mb), .int .i64 0] 106)) (W.heap.size + 1) mb (.slice an R.length cn) (.slice ao O.length co) (.slice af F.length cf) vs R O F 0 := hq2
  generalize (W.alloc (.cells #[.func (.yield l) #[] #[]] 126)).alloc (.cells #[.slice an R.length cn, .slice ao O.length co, .slice af F.length cf, .map (some mb), .int .i64 0] 106) = W2 at hq2' hj2 hby2 u2 a2 U2 hz2 ⊢
  clear hq2 hj1 hby u1 a1 U1m R1 l1 hey hly hry p0 p1 p2 p3 p4 hz1
  rw [show W.heap.size + 1 + 1 + 1 = W2.heap.size + 1 by omega] at U2
  generalize hq : W.heap.size + 1 = q at hq2' hz2 U2 ⊢
  generalize hBy : W.heap.size = By at hby2 hq hJ hJ1 hJx hBs hhi hAl hBul hBl0 ⊢
  have hqb : By < q ∧ q < W2.heap.size := by omega
  clear hq hz2 hBy
  obtain ⟨hqb, hqw⟩ := hqb
  have hUm : LetsAt W2 (Ba :: (W2.heap.size + 1) :: q :: Bs) vu U := U2
  have hum : Bu ∉ (W2.heap.size + 1) :: q :: Bs := by simp; exact ⟨by omega, by omega, hu⟩
  have ham : Ba ∉ (W2.heap.size + 1) :: q :: Bs := by simp; exact ⟨by omega, by omega, ha⟩
  refine range_tick (Ax := SlotV 17 6) rfl (by omega) (gf := 33) (lb := #[.pointer (some ⟨Bu, 0, none⟩), .pointer (some ⟨Ba, 0, none⟩)]) rfl trivial (enters_of Try.func33 (by kernel_rfl) rfl)
    (lets_tick (m - 1) (by omega) Bu Ba ((W2.heap.size + 1) :: q :: Bs) vu U W2 hUm hum hua ham u2 ⟨av, a2⟩) KpL.trans (fun W o' => KpL.put (by simp) W o') (Below.refl _ _) (fun _ => rfl)
    (fun pre W => J (verdsOf n R O pre) W ∧ (RunAt W q mb (.slice an R.length cn) (.slice ao O.length co) (.slice af F.length cf) vs R O F (goV n R pre) ∧ Boxed W By 126 (.func (.yield l) #[] #[])))
    (fun pre W => J1 (verdsOf n R O pre) W ∧ (RunAt W q mb (.slice an R.length cn) (.slice ao O.length co) (.slice af F.length cf) vs R O F (goV n R pre) ∧ Boxed W By 126 (.func (.yield l) #[] #[])))
    (fun c pre W => c = .ret ∧ Jx (verdsOf n R O pre) W)
    (OwnAll.and ((hJ.mono (by omega)).comp (verdsOf n R O)) (OwnAll.and (ownAll_run (goV n R) hrows (by omega) (by omega)) (ownAll_boxed (by omega) _ _)))
    (OwnAll.and ((hJ1.mono (by omega)).comp (verdsOf n R O)) (OwnAll.and (ownAll_run (goV n R) hrows (by omega) (by omega)) (ownAll_boxed (by omega) _ _)))
    (fun c => OwnAll.and (ownAll_pure _ _) ((hJx.mono (by omega)).comp (verdsOf n R O)))
    ⟨hj2, hq2', hby2⟩ ?tick (fun _ _ => SlotV.own) ?assign ?body ?done ?stop
  case tick =>
    rintro pre A B ⟨hj, hr, hb⟩ ht
    have h1 := hT _ _ _ hj ht
    obtain ⟨a, ha2, rfl⟩ := ht
    have hg : A.grownBy (A.setCell ⟨Ba, 0, none⟩ (.int .i64 (wrap64 (a + 1)))) (some Ba) := gb_set
    exact ⟨⟨h1, hr.move hrows (fun o ho => (hg.block q (Array.getElem?_eq_some_iff.1 ho).1 (by simp; omega)).trans ho) (fun k o hk _ ho => (hg.block k (Array.getElem?_eq_some_iff.1 ho).1 (by simp; omega)).trans ho), hb.kept hg (by simp; omega)⟩, (KeepsOthers.setCell _ _ _).from _⟩
  case assign =>
    intro l2 pre x W3 K hi hK
    gi_wp2
    exact hK _ _ (KeepsFrom.refl _ _) (KpL.refl _ _) hi rfl
  case body =>
    rintro l2 pre x a' W3 hl ⟨r, hr⟩ ⟨hj, hrun, hb⟩ rfl hlt
    have HSt := Lib.hid (step_any (hrun.kept (gb_drew W3 none)) hpow hn8 (x % 65536) (by omega))
    have hcy := hb.cell
    have hvs := verds_snoc n R O pre x
    have hgs := goV_snoc n R pre x
    simp only [letV]
    generalize x % 65536 = y at HSt hvs hgs ⊢
    have HGS := Lib.hid hgs
    clear hgs
    have HJ1 := Lib.hid hJ1
    have HY := Lib.hid hY
    have HJw := Lib.hid hj
    have HB := Lib.hid hb
    generalize hs' : stepF R n (goV n R pre) y = s' at HSt hvs HGS
    generalize O.getD s' 0 = v at HSt hvs
    have HVS := Lib.hid hvs
    clear hs'
    clear hJ1 hY hj hJ hJx hT hvs
    have hfol := follows_all
    have hfo : ∀ k, k ∈ Bs → k < q := fun k hk => by have := hBs k hk; omega
    gi_wp2
    gi_region_with_o (first
      | (refine ⟨trivial, fun h => (by cases h), ?_⟩; gi_at_call 29; refine (CallsIn.inRound l2 (callsIn_wide.2 HSt.out)).mono ?_; rintro e W4 ⟨rfl, hr4, hg4⟩; have hg34 := gb_dr hg4; have hcy4 := hg34.cell hcy (by simp; omega); have hj4 := HJ1.out _ _ _ _ HJw.out hg34 (fun r e => by cases e; omega); obtain ⟨fn, tmps, assign, body, hy, hR⟩ := HY.out _ v _ hj4 (by rw [verds_len]; exact hlt))
      | (refine ⟨fun h => (by cases h), ?_⟩; refine (show RoundIn (Fence.wide.inRound l2) (m - 1 - 1 - 1) _ l fn tmps assign body W4 _ from round_any hR).mono ?_; intro e W5 hcase; obtain ⟨bb, rfl, hcs⟩ := two_ways hcase))
    all_goals
      have hqB : q ∉ Bs := fun h => by have := hBs q h; omega
      have hyB : By ∉ Bs := fun h => by have := hBs By h; omega
      have hk35 : KpL Bs W4 W5 := by rcases hcs with ⟨-, -, h⟩ | ⟨-, -, h⟩ <;> exact h
      have hkf : KeepsFrom W2.heap.size W3 W5 := ⟨Nat.le_trans hg34.size hk35.size, fun k o hk h0 _ => hk35.same k o ((hg34.block k (Array.getElem?_eq_some_iff.1 h0).1 (by simp; omega)).trans h0) (fun h => by have := hBs k h; omega)⟩
      have hkl : KpL ((W2.heap.size + 1) :: q :: Bs) W3 W5 := (KpL.of_gb hg34 (fun r e => by cases e; simp)).trans (hk35.mono (fun k hk => by simp [hk]))
      rcases hcs with ⟨rfl, hj5, -⟩ | ⟨rfl, hjx5, -⟩
    all_goals first
      | (have hr5 := hr4.move (w' := W5) hrows (fun o ho => hk35.same q o ho hqB) (fun k o hk0 hk ho => hk35.same k o ho (fun h => by have := hBsr k h; omega)); have hb5 := hk35.boxed (HB.out.kept hg34 (by simp; omega)) hyB; gi_wp2; exact ⟨hkf, hkl, by rw [HVS.out]; exact hj5, by rw [HGS.out]; exact hr5, hb5⟩)
      | (gi_wp2; exact ⟨hkf, hkl, rfl, by rw [HVS.out]; exact hjx5⟩)
  case done =>
    rintro D xs W3 hD rfl ⟨hj, -, -⟩ hK
    gi_wp2
    refine ⟨by simp, .inl ⟨_, _, rfl, run_takeDeferred hK, ?_⟩⟩
    exact ⟨_, results_none rfl _ _ _, ⟨_, rfl⟩, .inl ⟨_, rfl, hJ.putObj _ hj (by omega)⟩⟩
  case stop =>
    rintro D c pre W3 hD hS ⟨rfl, hjx⟩ hK
    gi_wp2
    refine ⟨by simp, .inl ⟨_, _, rfl, run_takeDeferred hK, ?_⟩⟩
    exact ⟨_, results_none rfl _ _ _, ⟨_, rfl⟩, .inr ⟨_, verds_prefix hS, hJx.putObj _ hjx (by omega)⟩⟩
/-- .. of a machine that is none: nothing comes. -/
theorem runall_no (m : Nat) (l Be Bl Br : Nat) (x : Int) (hx : ((x : Int) != 0) = true) (J Jx : List Int → World → Prop) (W : World) (hJ : OwnAll W.heap.size J) (hBe : Boxed W Be 33 (.int .i64 x)) (h0 : J [] W) :
    CallsIn Fence.wide m Try.prog 71 #[.func (.yield l) #[] #[], .pointer (some ⟨Be, 0, none⟩), .pointer (some ⟨Bl, 0, none⟩), .pointer (some ⟨Br, 0, none⟩)] W fun e W' => (∃ v, e = .returned v) ∧
      ((∃ ys, ys = [] ∧ J ys W') ∨ (∃ pre, pre <+: [] ∧ Jx pre W')) := by
  have hj1 := hJ.alloc (.cells #[.func (.yield l) #[] #[]] 126) h0
  have hce := (hBe.alloc (.cells #[.func (.yield l) #[] #[]] 126)).cell
  refine callsIn_of_wp_marks Try.func71 rfl trivial ?_ rfl
  simp only [Try.ntmps71, List.size_toArray, List.length_cons, List.length_nil, Nat.reduceAdd, Nat.reduceSub, Array.replicate_succ, Array.replicate_zero, List.push_toArray, List.append_toArray, List.nil_append, List.cons_append]
  gi_wp2
  exact ⟨_, results_none rfl _ _ _, ⟨_, rfl⟩, .inl ⟨_, rfl, hj1⟩⟩
end Go.Proofs.Ytpehmlkikhkmfaa
