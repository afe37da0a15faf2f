/- Lex: Tokens. -/
import Derived.Test.YtlmpeddacadfkaaLexToks
import Derived.Deep.AppendLies
namespace Go.Proofs.Ytlmpeddacadfkaa
open Go.RowKit

theorem TabAt.kept {w w' : World} {b : Nat} (h : TabAt w b) (hg : w.grownBy w' none) : TabAt w' b := by
  obtain ⟨tab, h1, h2, h3⟩ := h
  exact ⟨tab, by rw [hg.block b (Array.getElem?_eq_some_iff.1 h1).1 (by simp)]; exact h1, h2, h3⟩
theorem TabAt.far {w w' : World} {b r : Nat} {c : Array Value} {e : TypeId} {fr : Nat × Nat} (h : TabAt w b) (hr : w.heap[r]? = some (.cells c e fr)) (he : e ≠ 84) (hg : w.grownBy w' (some r)) : TabAt w' b := by
  obtain ⟨tab, h1, h2, h3⟩ := h
  refine ⟨tab, ?_, h2, h3⟩
  rw [hg.block b (Array.getElem?_eq_some_iff.1 h1).1 (fun e2 => ?_)]
  · exact h1
  · obtain rfl : b = r := Option.some.inj e2
    rw [h1] at hr
    simp only [Option.some.injEq, Obj.cells.injEq] at hr
    exact he hr.2.1.symm
def tokC (t : Tok) : List Value := [.int .u8 (t.kind : Int), .string t.text, .int .i64 (t.at' : Int)]
/-- Tokens that somebody owns. -/
def OwnT (w : World) (Y : Nat) (v : Value) (L : List Tok) : Prop := w.ownsRow Y 50 3 v L.length (L.flatMap tokC)

theorem Try.info50 : (Try.prog.info? 50).map (fun i => (i.zero, i.size, i.bytes)) = some (some (.agg #[.int .u8 0, .string ⟨#[]⟩, .int .i64 0]), 3, 32) := by kernel_rfl
theorem flat_len (L : List Tok) : (L.flatMap tokC).length = L.length * 3 := by
  induction L with
  | nil => rfl
  | cons t m ih => rw [List.flatMap_cons, List.length_append, ih, List.length_cons]; show 3 + _ = _; omega
theorem own_val3 {w : World} {Y e n : Nat} {v : Value} {xs : List Value} (h : w.ownsRow Y e 3 v n xs) : ∃ a cap, v = .slice a n cap := by
  rcases h.2 with ⟨rfl, h0⟩ | ⟨g, cap, cur, rfl, _⟩
  · exact ⟨none, 0, by rw [h0]⟩
  · exact ⟨_, _, rfl⟩
theorem TabAt.apart {w w' : World} {b Y n : Nat} {u : Value} {xs : List Value} (h : TabAt w b) (hu : w.ownsRow Y 50 3 u n xs) (hg : w.grownBy w' u.ownBlock) : TabAt w' b := by
  rcases hu.2 with ⟨rfl, _⟩ | ⟨g, cap, cur, rfl, _, hb, _⟩
  · exact h.kept hg
  · exact h.far hb (by decide) hg
set_option maxRecDepth 100000 in
set_option maxHeartbeats 4000000 in
theorem tokens_any (s : ByteArray) (w : World) (hs : s.size ≤ 100000000) :
    Calls Try.prog 13 #[.string s] w fun e w' => (∃ v, e = .returned (.tuple #[v, .int .i64 ((allT s 0).2.1 : Int), .int .i64 ((allT s 0).2.2 : Int)]) ∧ ((allT s 0).2.1 = 0 ∧ OwnT w' w.heap.size v (allT s 0).1 ∨ (allT s 0).2.1 ≠ 0 ∧ v = .slice none 0 0)) ∧ w.grownBy w' none := by
  have HMd := Lib.hid made_any
  go_enter Try.func13, Try.ntmps13
  go_wp2_with (go_at_call 27; refine (HMd.out _).mono ?_; rintro e w1 ⟨rfl, hT1, hg1⟩)
  obtain ⟨i0, hi, hz0, hz1, hz2⟩ := info_parts Try.info50
  go_loopw [7, 5] (fun a l wr => ∃ (k : Nat) (pre : List Tok), k ≤ s.size ∧ a = .int .i64 (k : Int) ∧ Hid (OwnT wr w.heap.size l pre) ∧ Hid (TabAt wr w.heap.size) ∧ Hid (w.grownBy wr none) ∧ Hid (allT s 0 = (pre ++ (allT s k).1, (allT s k).2)) ∧ pre.length ≤ k) (fun a _ _ => s.size + 1 - (intOf a).toNat)
  case atStart => exact ⟨0, [], by omega, rfl, Lib.hid (World.ownsRow_nil _ _ _ _), Lib.hid hT1, Lib.hid hg1, Lib.hid (by rw [List.nil_append]), by simp⟩
  case round =>
    obtain ⟨k, pre, hk, rfl, HO, HT, HG, HE, hpl⟩ := hrel
    obtain ⟨al, cl, rfl⟩ := own_val3 HO.out
    have HN := Lib.hid (next_any HT.out s (by unfold maxLen; omega) k hk)
    have hst := allT_step hk
    have hok := nextR_ok hk
    generalize nextR s k = t at HN hst hok
    unfold nextV tokenV at HN
    by_cases he : t.err = 0
    · have heI : (t.err : Int) = 0 := by omega
      rw [if_neg (by omega)] at hst
      have hok2 := hok he
      clear hok
      go_upto_region 7 with (go_at_call 28; refine HN.out.mono ?_; rintro e w2 ⟨rfl, hg2⟩; obtain ⟨k0, k1, k2, f0, f1, f2⟩ := tok_box (gb_refl (w2.alloc (.cells #[.int .u8 0, .string ⟨#[]⟩, .int .i64 0] 50)) none))
      have hb3 := heap_alloc_new w2 (.cells #[.int .u8 (t.kind : Int), .string t.text, .int .i64 (t.at' : Int)] 50)
      have hg3 := World.grownBy_alloc w2 (.cells #[.int .u8 (t.kind : Int), .string t.text, .int .i64 (t.at' : Int)] 50) none
      generalize w2.alloc (.cells #[.int .u8 (t.kind : Int), .string t.text, .int .i64 (t.at' : Int)] 50) = w3 at hb3 hg3 ⊢
      have j0 : w3.cell? ⟨w2.heap.size, 0, none⟩ = some (.int .u8 (t.kind : Int)) := by simp [World.cell?, hb3]
      have j1 : w3.cell? ⟨w2.heap.size, 1, none⟩ = some (.string t.text) := by simp [World.cell?, hb3]
      have j2 : w3.cell? ⟨w2.heap.size, 2, none⟩ = some (.int .i64 (t.at' : Int)) := by simp [World.cell?, hb3]
      have hg23 := gb_trans hg2 hg3 (Or.inl rfl)
      have HO3 : Hid (w3.ownsRow w.heap.size 50 3 (.slice al pre.length cl) pre.length (pre.flatMap tokC)) := Lib.hid (HO.out.kept hg23 (Classical.em _))
      have hne : ∀ b, (Value.slice al pre.length cl).ownBlock = some b → b < w2.heap.size := fun b hb => Nat.lt_of_lt_of_le (HO.out.lt b hb).2 hg2.size
      have HNe : Hid (some w2.heap.size ≠ (Value.slice al pre.length cl).ownBlock) := Lib.hid fun e => by have := hne _ e.symm; omega
      have HG3 := Lib.hid (gb_trans HG.out hg23 (Or.inl rfl))
      have HT3 := Lib.hid (HT.out.kept hg23)
      have hz3 : w.heap.size ≤ w3.heap.size := HG3.out.size
      generalize w2.heap.size = b2 at hb3 j0 j1 j2 HNe ⊢
      clear k0 k1 k2 f0 f1 f2 hg2 hg3 hg23 hne hb3 HN
      have hnb := World.news_of_block (heap_alloc_new w3 (.cells #[.int .u8 (t.kind : Int), .string t.text, .int .i64 (t.at' : Int)] 50))
      have HNB := Lib.hid hnb
      clear hnb
      go_upto_region 8 with (at_builtin; refine wpList_append_lies _ rfl (.tmp 24) (.tmp 26) 23 rfl w.heap.size 50 i0 (.agg #[.int .u8 0, .string ⟨#[]⟩, .int .i64 0]) 3 32 Try.underlying23 hi hz0 hz1 hz2 rfl (by decide) (.slice al pre.length cl) pre.length (pre.flatMap tokC) rfl (HO3.out.alloc _) ⟨w3.heap.size, 0, none⟩ 1 1 [.int .u8 (t.kind : Int), .string t.text, .int .i64 (t.at' : Int)] rfl rfl HNB.out (by simp [Value.oneCell']) (by decide) (by unfold maxLen; omega) (by omega) (by rw [World.size_alloc]; omega) _ rfl ?_; intro g5 cap5 w5 hown5 hgr5 hat5 hlt5)
      have hga := World.grownBy_alloc w3 (.cells #[.int .u8 (t.kind : Int), .string t.text, .int .i64 (t.at' : Int)] 50) none
      have c0 := hgr5.cell (hga.cell j0 (by simp)) HNe.out
      have HO5 : Hid (OwnT w5 w.heap.size (.slice (some ⟨g5, 0, none⟩) (pre.length + 1) cap5) (pre ++ [t])) := Lib.hid (by
        unfold OwnT
        rw [List.length_append, List.flatMap_append]
        exact hown5)
      have HT5 := Lib.hid ((HT3.out.kept hga).apart (HO3.out.kept hga (Classical.em _)) hgr5)
      have HG5 : Hid (w.grownBy w5 none) := Lib.hid (gb_trans (gb_trans HG3.out hga (Or.inl rfl)) hgr5 (by
        rcases e : (Value.slice al pre.length cl).ownBlock with _ | b
        · exact Or.inl rfl
        · exact Or.inr (Or.inr ⟨b, rfl, (HO3.out.lt b e).1⟩)))
      clear j0 j1 j2 hga hown5 hgr5 hat5 hlt5
      by_cases h1 : t.kind = 1
      · rw [if_pos h1] at hst
        have HE2 : Hid (allT s 0 = (pre ++ [t], 0, 0)) := Lib.hid (by rw [HE.out, hst])
        have h1I : (t.kind : Int) = 1 := by omega
        clear hst
        go_wp2_with fail
        refine bodyPost_ret (results_tmp3 rfl _ _ _) rfl ?_
        rw [HE2.out]
        exact ⟨⟨_, rfl, Or.inl ⟨rfl, HO5.out⟩⟩, HG5.out⟩
      · rw [if_neg h1] at hst
        have HE2 : Hid (allT s 0 = ((pre ++ [t]) ++ (allT s t.behind).1, (allT s t.behind).2)) := Lib.hid (by rw [HE.out, hst, List.append_assoc]; rfl)
        have h1I : ¬ (t.kind : Int) = 1 := by omega
        have hb : k < t.behind := by rcases hok2.2 with h | h; · exact absurd h h1
                                     · exact h
        clear hst
        go_wp2_with fail
        exact ⟨⟨t.behind, pre ++ [t], hok2.1, rfl, HO5, HT5, HG5, HE2, by rw [List.length_append, List.length_singleton]; omega⟩, by simp [intOf]; omega⟩
    · have heI : ¬ (t.err : Int) = 0 := by omega
      rw [if_pos he] at hst
      have HE2 : Hid (allT s 0 = (pre, t.err, t.behind)) := Lib.hid (by rw [HE.out, hst, List.append_nil])
      clear hst hok
      go_wp2_with (go_at_call 28; refine HN.out.mono ?_; rintro e w2 ⟨rfl, hg2⟩; obtain ⟨k0, k1, k2, f0, f1, f2⟩ := tok_box (gb_refl (w2.alloc (.cells #[.int .u8 0, .string ⟨#[]⟩, .int .i64 0] 50)) none))
      have hga := World.grownBy_alloc w2 (.cells #[.int .u8 (t.kind : Int), .string t.text, .int .i64 (t.at' : Int)] 50) none
      refine bodyPost_ret (results_tmp3 rfl _ _ _) rfl ?_
      rw [HE2.out]
      exact ⟨⟨_, rfl, Or.inr ⟨he, rfl⟩⟩, gb_trans (gb_trans HG.out hg2 (Or.inl rfl)) hga (Or.inl rfl)⟩
end Go.Proofs.Ytlmpeddacadfkaa
