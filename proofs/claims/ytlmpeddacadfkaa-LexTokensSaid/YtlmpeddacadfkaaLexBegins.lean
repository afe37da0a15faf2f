/- Lex: begins: the first tokens that All goes through. -/
import Derived.Test.YtlmpeddacadfkaaLexRows
import Derived.Test.YtlmpeddacadfkaaLexWorks
import Derived.Maps.OwnIn
import Derived.Maps.AppendAt
namespace Go.Proofs.Ytlmpeddacadfkaa
open Go.RowKit Go.Shelf
attribute [local go_sem] Oper.semAt_some

/-- 'out = append(out, ..)' in a body: what the round must keep is kept. -/
theorem kpb_appended {W w1 : World} {n₀ B : Nat} {t e : TypeId} {size : Nat} {v : Value} {a' : Option Addr} {k m cap' : Nat} {xs ys : List Value} {tmp : Obj}
    (hv : Boxed W B t v) (hte : t ≠ e) (hrow : W.ownsRow n₀ e size v k xs)
    (hown' : w1.ownsRow n₀ e size (.slice a' m cap') m ys) (hgrow : (W.alloc tmp).grownBy w1 v.ownBlock)
    (hat : (Value.slice a' m cap').ownBlock = v.ownBlock ∨ (Value.slice a' m cap').ownBlock = some (W.heap.size + 1)) : KpB [B] W (w1.setCell ⟨B, 0, none⟩ (.slice a' m cap')) := by
  have hv1 : Boxed w1 B t v := (hv.alloc tmp).kept hgrow (hv.not_row hte hrow)
  have hbox := hv1.set (.slice a' m cap')
  have hzs := hgrow.size
  rw [World.size_alloc] at hzs
  have hgs := (grownBy_setCell' w1 B (.slice a' m cap')).size
  have hmine : ∀ g, v.ownBlock = some g → Mine [B] W g := fun g hg => by
    rcases hrow.2 with ⟨rfl, _⟩ | ⟨g', cap, cur, rfl, _⟩
    · cases hg
    · refine ⟨B, by simp, 0, k, cap, ?_⟩
      obtain rfl : g' = g := Option.some.inj hg
      exact hv.cell
  have hfin : ∀ j, Mine [B] (w1.setCell ⟨B, 0, none⟩ (.slice a' m cap')) j → (Value.slice a' m cap').ownBlock = some j := fun j ⟨Bo, hB, off, m', c', hc⟩ => by
    rw [List.mem_singleton] at hB
    subst hB
    rw [hbox.cell] at hc
    cases hc
    rfl
  refine ⟨by omega, fun j c e' fr hj hne hm => ?_, fun j hj => Or.inr ?_, fun j hj hm => ?_⟩
  · have h1 : w1.heap[j]? = some (.cells c e' fr) := by
      rw [hgrow.block j (by rw [World.size_alloc]; have := (Array.getElem?_eq_some_iff.1 hj).1; omega) (fun e2 => hm (hmine j e2.symm))]
      rw [Below.heap_alloc W tmp j (Array.getElem?_eq_some_iff.1 hj).1]
      exact hj
    exact ((grownBy_setCell' w1 B _).block j (Array.getElem?_eq_some_iff.1 h1).1 (fun e2 => hne (by rw [List.mem_singleton]; exact (Option.some.inj e2)))).trans h1
  · have := (hown'.lt j (hfin j hj)).2
    omega
  · rcases hat with h | h
    · exact hmine j (h ▸ hfin j hm)
    · rw [hfin j hm] at h
      have := Option.some.inj h
      omega
theorem not_mine_nil {W : World} {B : Nat} {t : TypeId} (h : Boxed W B t (.slice none 0 0)) (j : Nat) : ¬ Mine [B] W j := fun ⟨Bo, hB, off, m, cap, hc⟩ => by
  rw [List.mem_singleton] at hB
  subst hB
  rw [h.cell] at hc
  cases hc
theorem ownT_holds {n₀ B : Nat} : Own (fun (pre : List Tok) W => ∃ v, Boxed W B 23 v ∧ OwnT W n₀ v pre) := fun s X Y row ⟨v, hv, hr⟩ hg hrow => by
  obtain ⟨v', h1, h2, _⟩ := holdsRow_own (β := List Tok) n₀ B 23 50 3 (fun pre => pre.length) (fun pre => pre.flatMap tokC) (fun _ _ => True) s X Y row ⟨v, hv, hr, trivial⟩ hg hrow
  exact ⟨v', h1, h2⟩
set_option maxRecDepth 100000 in
set_option maxHeartbeats 4000000 in
theorem begins_any (s : ByteArray) (hs : s.size ≤ 100000000) (most : Nat) (hm : most ≤ 100000000) (w : World) :
    Calls Try.prog 18 #[.string s, .int .i64 (most : Int)] w fun e w' => ∃ v, e = .returned v ∧ OwnT w' w.heap.size v ((allT s 0).1.take most) ∧ Below w.heap.size w w' := by
  have HA := Lib.hid all_any
  have hnn := func_not_nil
  refine (callsIn_wide (n := 5)).1 ?_
  refine callsIn_of_wp_marks Try.func18 rfl trivial ?_ rfl
  simp only [Try.ntmps18, List.size_toArray, List.length_cons, List.length_nil, Nat.reduceAdd, Nat.reduceSub, Array.replicate_succ, Array.replicate_zero, List.push_toArray, List.append_toArray, List.nil_append, List.cons_append]
  gi_wp2_with (refine ⟨trivial, ?_⟩; gi_at_call 17; refine (callsIn_all (HA.out _ _)).mono ?_; rintro e w6 ⟨rfl, rfl⟩)
  obtain ⟨i0, hi, hz0, hz1, hz2⟩ := info_parts Try.info50
  obtain ⟨W0, hW0⟩ : ∃ W0, (((w.alloc (.cells #[.int .i64 (most : Int)] 3)).alloc (.cells #[.slice none 0 0] 23)).alloc (.cells #[.string s] 9)) = W0 := ⟨_, rfl⟩
  rw [hW0]
  have hsz : W0.heap.size = w.heap.size + 1 + 1 + 1 := by rw [← hW0, World.size_alloc, World.size_alloc, World.size_alloc]
  have hbm : Boxed W0 w.heap.size 3 (.int .i64 (most : Int)) := by
    have h := ((Boxed.new w 3 (.int .i64 (most : Int))).alloc (.cells #[.slice none 0 0] 23)).alloc (.cells #[.string s] 9)
    rw [hW0] at h
    exact h
  have hbo : Boxed W0 (w.heap.size + 1) 23 (.slice none 0 0) := by
    have h := (Boxed.new (w.alloc (.cells #[.int .i64 (most : Int)] 3)) 23 (.slice none 0 0)).alloc (.cells #[.string s] 9)
    rw [hW0, World.size_alloc] at h
    exact h
  have hbt : W0.heap[w.heap.size + 2]? = some (.cells #[.string s] 9 (0, 0)) := by
    have h := Boxed.new ((w.alloc (.cells #[.int .i64 (most : Int)] 3)).alloc (.cells #[.slice none 0 0] 23)) 9 (.string s)
    rw [hW0, World.size_alloc, World.size_alloc] at h
    exact h
  have hbe : Below w.heap.size w W0 := by rw [← hW0]; exact (((Below.refl _ w).alloc (Nat.le_refl _) _).alloc (by simp) _).alloc (by simp; omega) _
  clear hW0 HA
  refine rangeH_box (TokAx 13 7 W0.heap.size) rfl (by omega) (gf := 42) (lb := #[.pointer (some ⟨w.heap.size + 2, 0, none⟩)]) rfl trivial (enters_of Try.func42 (by kernel_rfl) rfl)
    (all_stops 4 (by omega) (w.heap.size + 2) s hs [w.heap.size + 1] W0 (fun Bo h => by simp at h; omega) (fun k h => (not_mine_nil hbo k h).elim) (by simp) (not_mine_nil hbo _) hbt)
    KpB.trans (KpB.book (fun Bo h => by simp at h; omega)) (fun _ => rfl)
    (fun pre W => (∃ v, Boxed W (w.heap.size + 1) 23 v ∧ OwnT W w.heap.size v pre) ∧ Boxed W w.heap.size 3 (.int .i64 (most : Int)) ∧ pre.length ≤ most ∧ Below w.heap.size W0 W)
    (fun c pre W => c = .exit 0 ∧ pre.length = most + 1 ∧ (∃ v, Boxed W (w.heap.size + 1) 23 v ∧ OwnT W w.heap.size v (pre.take most)) ∧ Below w.heap.size W0 W)
    (OwnFrom.and (ownT_holds.from _) (OwnFrom.and (Own.from (boxed_own _ _ _) _) (OwnFrom.and (ownFrom_pure _ _) (ownFrom_below (by omega) (by omega)))))
    (fun c => OwnFrom.and (ownFrom_pure _ _) (OwnFrom.and (ownFrom_pure _ _) (OwnFrom.and (fun pre X Y row hs hg hr => ownT_holds.from _ (pre.take most) X Y row hs hg hr) (ownFrom_below (by omega) (by omega)))))
    ⟨⟨_, hbo, World.ownsRow_nil _ _ _ _⟩, hbm, by simp, Below.refl _ _⟩ (fun _ _ => TokAx.own) ?assign ?body ?done ?stop
  case assign =>
    rintro l pre x W K ⟨⟨v, hv1, hv2⟩, hb2, hpm, hB1⟩ hK
    obtain ⟨tk1, tk2, tk3, tf1, tf2, tf3⟩ := tok_box (gb_refl (W.alloc (.cells #[.int .u8 0, .string ⟨#[]⟩, .int .i64 0] 50)) none)
    have hg := World.grownBy_alloc W (.cells #[.int .u8 (x.kind : Int), .string x.text, .int .i64 (x.at' : Int)] 50) none
    simp only [tokenV]
    gi_wp2
    exact hK _ _ ((KeepsOthers.alloc _ _).from _) (kpb_grown (fun Bo h => by simp only [List.mem_singleton] at h; subst h; exact hv1.lt) (World.grownBy_alloc _ _ none)) ⟨⟨v, hv1.alloc _, hv2.alloc _⟩, hb2.alloc _, hpm, hB1.alloc (by have := hB1.size; omega) _⟩ ⟨W.heap.size, hB1.size, World.alloc_heap_new W _, rfl⟩
  case body =>
    rintro l pre x a' W hl ⟨r, hr⟩ ⟨⟨v, hv1, hv2⟩, hb2, hpm, hB1⟩ ⟨Bx, hBx, hbx, rfl⟩ hlt
    obtain ⟨av, cv, rfl⟩ := own_val3 hv2
    have hcm := hb2.cell
    have hco := hv1.cell
    have hk0 : W.cell? ⟨Bx, 0, none⟩ = some (.int .u8 (x.kind : Int)) := by simp [World.cell?, hbx]
    have hk1 : W.cell? ⟨Bx, 1, none⟩ = some (.string x.text) := by simp [World.cell?, hbx]
    have hk2 : W.cell? ⟨Bx, 2, none⟩ = some (.int .i64 (x.at' : Int)) := by simp [World.cell?, hbx]
    by_cases hpe : pre.length = most
    · have heq : ((pre.length : Int) == (most : Int)) = true := by rw [hpe]; simp
      simp only [tokenV]
      gi_wp2
      exact ⟨KeepsFrom.refl _ _, rfl, by simp [hpe], ⟨_, hv1, by rw [List.take_append_of_le_length (by omega), List.take_of_length_le (by omega)]; exact hv2⟩, hB1⟩
    · have heq : ((pre.length : Int) == (most : Int)) = false := by simp; omega
      have HV2 := Lib.hid hv2
      have HNB := Lib.hid (World.news_of_block (heap_alloc_new W (.cells #[.int .u8 (x.kind : Int), .string x.text, .int .i64 (x.at' : Int)] 50)))
      have hzW : w.heap.size ≤ W.heap.size := by have := hB1.size; omega
      simp only [tokenV]
      gi_wp2_with (gi_at_builtin; refine wpListIn_append_own_at _ rfl _ _ 23 rfl w.heap.size 50 i0 (.agg #[.int .u8 0, .string ⟨#[]⟩, .int .i64 0]) 3 32 Try.underlying23 hi hz0 hz1 hz2 rfl (by decide) (.slice av pre.length cv) pre.length (pre.flatMap tokC) rfl (World.ownsRow.alloc HV2.out _) ⟨W.heap.size, 0, none⟩ 1 1 [.int .u8 (x.kind : Int), .string x.text, .int .i64 (x.at' : Int)] rfl rfl HNB.out (by simp [Value.oneCell']) (by unfold maxLen; omega) (by omega) (by rw [World.size_alloc]; omega) ?_; intro v' w1 hown' hgrow _ hat; obtain ⟨g', cap', rfl⟩ := ownsRow_succ hown'; obtain ⟨hv1', hv2', hr2', hk2', hb2'⟩ := hv1.appended (by decide) HV2.out hzW (Nat.le_succ _) hown' hgrow; have hc1 := hv1'.cell; have hf1 := hv1'.frozen)
      exact ⟨hk2'.from _, kpb_appended hv1 (by decide) HV2.out hown' hgrow (by rw [World.size_alloc] at hat; exact hat), ⟨_, hv2', by
          unfold OwnT
          rw [List.length_append, List.flatMap_append]
          exact hr2'⟩, ((hb2.alloc _).kept hgrow (hb2.not_row (by decide) HV2.out)).kept (grownBy_setCell' _ _ _) (by simp), by rw [List.length_append, List.length_singleton]; omega, hB1.trans hb2'⟩
  case done =>
    rintro D ys W hD rfl ⟨⟨v, hv1, hv2⟩, hb2, hpm, hB1⟩ hK
    have hEnd : Below w.heap.size w (W.putObj D (.deferred none)) := hbe.trans (hB1.trans (belowK_b (w := w) (Nat.le_refl _) W D _ _ (by omega) hK rfl rfl))
    have hrow := ownsRow_putObj hv2 (.deferred none) hK rfl
    have hco := hv1.cell
    have hrw : OwnT (W.putObj D (.deferred none)) w.heap.size v ((allT s 0).1.take most) := by rw [List.take_of_length_le hpm]; exact hrow
    clear hrow
    gi_wp2
    refine ⟨by simp, .inl ⟨_, _, rfl, run_takeDeferred hK, ?_⟩⟩
    exact ⟨_, results_tmp rfl _ _ _, v, rfl, hrw, hEnd⟩
  case stop =>
    rintro D c pre W hD hSp ⟨rfl, hlen, ⟨v, hv1, hv2⟩, hB1⟩ hK
    have hEnd : Below w.heap.size w (W.putObj D (.deferred none)) := hbe.trans (hB1.trans (belowK_b (w := w) (Nat.le_refl _) W D _ _ (by omega) hK rfl rfl))
    have hrow := ownsRow_putObj hv2 (.deferred none) hK rfl
    have hco := hv1.cell
    have htk : pre.take most = (allT s 0).1.take most := by
      obtain ⟨t, ht⟩ := hSp
      rw [← ht, List.take_append_of_le_length (by omega)]
    rw [htk] at hrow
    gi_wp2
    refine ⟨by simp, .inl ⟨_, _, rfl, run_takeDeferred hK, ?_⟩⟩
    exact ⟨_, results_tmp rfl _ _ _, v, rfl, hrow, hEnd⟩
end Go.Proofs.Ytlmpeddacadfkaa
