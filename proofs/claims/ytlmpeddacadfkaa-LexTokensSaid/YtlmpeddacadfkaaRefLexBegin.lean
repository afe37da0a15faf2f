/- Lex: the document's tokens of a text. -/
import Derived.Test.YtlmpeddacadfkaaRefLexOne
import Derived.Test.YtlmpeddacadfkaaLexTokens
namespace Go.Proofs.Ytlmpeddacadfkaa
open Go.RowKit

theorem blank_or {c : Int} (h0 : 0 ≤ c) (h1 : c ≤ 255) (w : World) {b : Bool} (h : blankB c = b) : Calls Try.prog 25 #[.int .u8 c] w fun e w' => e = .returned (.bool b) ∧ w = w' := by
  rw [← h]
  exact refblank_any c h0 h1 w
theorem allT_end {s : ByteArray} {k : Nat} (hk : k ≤ s.size) (h : skipF s k = s.size) : allT s k = ([⟨1, ⟨#[]⟩, s.size, s.size, 0⟩], 0, 0) := by
  have e : nextR s k = ⟨1, ⟨#[]⟩, s.size, s.size, 0⟩ := by
    unfold nextR tokR
    rw [h, if_pos (Nat.le_refl _)]
  rw [allT_step hk, e]
  rfl
theorem allT_tok {s : ByteArray} {k m : Nat} (hk : k ≤ s.size) (h : skipF s k = m) (hm : m < s.size) {r : Res} (hr : partR (s.extract m s.size) = r) (he : r.err = 0) : allT s k = (⟨r.kind, r.text, m, m + r.n, 0⟩ :: (allT s (m + r.n)).1, (allT s (m + r.n)).2) ∧ k < m + r.n ∧ m + r.n ≤ s.size := by
  have e : nextR s k = ⟨r.kind, r.text, m, m + r.n, 0⟩ := by
    unfold nextR tokR
    rw [h, hr, if_neg (by omega), if_pos he]
  have hsz : (s.extract m s.size).size = s.size - m := by rw [ByteArray.size_extract]; omega
  have h2 := partR_ok (s := s.extract m s.size) (by omega) (by rw [hr]; exact he)
  rw [hr] at h2
  have h3 := nextR_ok hk (by rw [e])
  rw [e] at h3
  refine ⟨?_, ?_, h3.1⟩
  · rw [allT_step hk, e, if_neg (by simp), if_neg h2.2]
  · rcases h3.2 with h4 | h4
    · exact absurd h4 h2.2
    · exact h4
theorem allT_not {s : ByteArray} {k m : Nat} (hk : k ≤ s.size) (h : skipF s k = m) (hm : m < s.size) {r : Res} (hr : partR (s.extract m s.size) = r) (he : r.err ≠ 0) : allT s k = ([], r.err, m) := by
  have e : nextR s k = ⟨0, ⟨#[]⟩, 0, m, r.err⟩ := by
    unfold nextR tokR
    rw [h, hr, if_neg (by omega), if_neg he]
  rw [allT_step hk, e, if_pos he]
/-- Where nothing is wrong, the place is 0. -/
theorem toks_place (s : ByteArray) : ∀ (f k : Nat), (toks s f k).2.1 = 0 → (toks s f k).2.2 = 0
  | 0, _, _ => rfl
  | f + 1, k, h => by
    unfold toks at h ⊢
    by_cases he : (nextR s k).err ≠ 0
    · rw [if_pos he] at h
      exact absurd h he
    · rw [if_neg he] at h ⊢
      by_cases h1 : (nextR s k).kind = 1
      · rw [if_pos h1]
      · rw [if_neg h1] at h ⊢
        exact toks_place s f _ h
theorem allT_place (s : ByteArray) : (allT s 0).2.1 = 0 → (allT s 0).2.2 = 0 := toks_place s _ _
set_option maxRecDepth 100000 in
set_option maxHeartbeats 4000000 in
theorem refbegin_any (s : ByteArray) (w : World) (hs : s.size ≤ 100000000) :
    Calls Try.prog 12 #[.string s] w fun e w' => (∃ v, e = .returned (.tuple #[v, .int .i64 ((allT s 0).2.1 : Int), .int .i64 ((allT s 0).2.2 : Int)]) ∧ OwnT w' w.heap.size v (allT s 0).1) ∧ w.grownBy w' none := by
  go_enter Try.func12, Try.ntmps12
  go_wp2_with fail
  obtain ⟨i0, hi, hz0, hz1, hz2⟩ := info_parts Try.info50
  go_loopw [6, 5] (fun a l wr => ∃ (k : Nat) (pre : List Tok), k ≤ s.size ∧ a = .int .i64 (k : Int) ∧ Hid (OwnT wr w.heap.size l pre) ∧ Hid (w.grownBy wr none) ∧ Hid (allT s 0 = (pre ++ (allT s k).1, (allT s k).2)) ∧ pre.length ≤ k) (fun a _ _ => s.size + 1 - (intOf a).toNat)
  case atStart => exact ⟨0, [], by omega, rfl, Lib.hid (World.ownsRow_nil _ _ _ _), Lib.hid (gb_refl _ _), Lib.hid (by rw [List.nil_append]), by simp⟩
  case round =>
    obtain ⟨k, pre, hk, rfl, HO, HG, HE, hpl⟩ := hrel
    obtain ⟨al, cl, rfl⟩ := own_val3 HO.out
    have HT1 := Lib.hid (fun m h1 h2 r h3 h4 => allT_tok (s := s) (k := k) (m := m) hk h1 h2 (r := r) h3 h4)
    have HT2 := Lib.hid (fun m h1 h2 r h3 h4 => allT_not (s := s) (k := k) (m := m) hk h1 h2 (r := r) h3 h4)
    go_wp2_with fail
    go_loop [6] (fun i => ∃ m : Nat, k ≤ m ∧ m ≤ s.size ∧ i = .int .i64 (m : Int) ∧ Hid (∀ j, k ≤ j → j < m → blankB (bAt s j) = true)) (fun i => s.size - (intOf i).toNat)
    case atStart => exact ⟨k, by omega, by omega, rfl, Lib.hid fun j h1 h2 => absurd h2 (by omega)⟩
    case round =>
      obtain ⟨m, hkm, hm, rfl, HB⟩ := hrel
      by_cases hlt : m < s.size
      · have hltI : (m : Int) < (s.size : Int) := by omega
        have hb := bAt_byte s m
        cases hbl : blankB (bAt s m)
        · have HBl := Lib.hid (fun wx => blank_or hb.1 hb.2 wx hbl)
          have hsk := skip_eq hkm HB.out hm (Or.inr hbl)
          have HR := Lib.hid (refone_any s m · hs hlt)
          rw [← bAt_get hlt] at HBl
          have HT3 := Lib.hid (fun he => HT1.out m hsk hlt _ rfl he)
          have HT4 := Lib.hid (fun he => HT2.out m hsk hlt _ rfl he)
          generalize partR (s.extract m s.size) = r at HR HT3 HT4
          clear hsk HB hb hbl HT1 HT2
          unfold refV at HR
          have hne : ¬ (m : Int) = (s.size : Int) := by omega
          by_cases he : r.err = 0
          · rw [if_pos he] at HR
            have heI : (r.err : Int) = 0 := by omega
            obtain ⟨hst, hk1, hk2⟩ := HT3.out he
            clear HT3 HT4
            have HE2 : Hid (allT s 0 = ((pre ++ [⟨r.kind, r.text, m, m + r.n, 0⟩]) ++ (allT s (m + r.n)).1, (allT s (m + r.n)).2)) := Lib.hid (by rw [HE.out, hst, List.append_assoc]; rfl)
            clear hst HE
            go_upto_region 11 with (first
              | (go_at_call 25; refine (HBl.out _).mono ?_; rintro e w2 ⟨rfl, rfl⟩)
              | (go_at_call 26; refine (HR.out _).mono ?_; rintro e w2 ⟨rfl, hg2⟩; obtain ⟨k0, k1, k2, f0, f1, f2⟩ := tok_box (gb_refl (w2.alloc (.cells #[.int .u8 0, .string ⟨#[]⟩, .int .i64 0] 50)) none)))
            have hb3 := heap_alloc_new w2 (.cells #[.int .u8 (r.kind : Int), .string r.text, .int .i64 (m : Int)] 50)
            have hg3 := World.grownBy_alloc w2 (.cells #[.int .u8 (r.kind : Int), .string r.text, .int .i64 (m : Int)] 50) none
            generalize w2.alloc (.cells #[.int .u8 (r.kind : Int), .string r.text, .int .i64 (m : Int)] 50) = w3 at hb3 hg3 ⊢
            have j0 : w3.cell? ⟨w2.heap.size, 0, none⟩ = some (.int .u8 (r.kind : Int)) := by simp [World.cell?, hb3]
            have j1 : w3.cell? ⟨w2.heap.size, 1, none⟩ = some (.string r.text) := by simp [World.cell?, hb3]
            have j2 : w3.cell? ⟨w2.heap.size, 2, none⟩ = some (.int .i64 (m : Int)) := by simp [World.cell?, hb3]
            have hg23 := gb_trans hg2 hg3 (Or.inl rfl)
            have HO3 : Hid (w3.ownsRow w.heap.size 50 3 (.slice al pre.length cl) pre.length (pre.flatMap tokC)) := Lib.hid (HO.out.kept hg23 (Classical.em _))
            have HG3 := Lib.hid (gb_trans HG.out hg23 (Or.inl rfl))
            have hz3 : w.heap.size ≤ w3.heap.size := HG3.out.size
            generalize w2.heap.size = b2 at hb3 j0 j1 j2 ⊢
            clear k0 k1 k2 f0 f1 f2 hg2 hg3 hg23 hb3
            have HNB := Lib.hid (World.news_of_block (heap_alloc_new w3 (.cells #[.int .u8 (r.kind : Int), .string r.text, .int .i64 (m : Int)] 50)))
            have HOA : Hid ((w3.alloc (.cells #[.int .u8 (r.kind : Int), .string r.text, .int .i64 (m : Int)] 50)).ownsRow w.heap.size 50 3 (.slice al pre.length cl) pre.length (pre.flatMap tokC)) := Lib.hid (HO3.out.alloc _)
            have HGA := Lib.hid (gb_trans HG3.out (World.grownBy_alloc w3 (.cells #[.int .u8 (r.kind : Int), .string r.text, .int .i64 (m : Int)] 50) none) (Or.inl rfl))
            go_upto_region 12 with (at_builtin; refine wpList_append_lies _ rfl (.tmp 44) (.tmp 46) 23 rfl w.heap.size 50 i0 (.agg #[.int .u8 0, .string ⟨#[]⟩, .int .i64 0]) 3 32 Try.underlying23 hi hz0 hz1 hz2 rfl (by decide) (.slice al pre.length cl) pre.length (pre.flatMap tokC) rfl HOA.out ⟨w3.heap.size, 0, none⟩ 1 1 [.int .u8 (r.kind : Int), .string r.text, .int .i64 (m : Int)] rfl rfl HNB.out (by simp [Value.oneCell']) (by decide) (by unfold maxLen; omega) (by omega) (by rw [World.size_alloc]; omega) _ rfl ?_; intro g5 cap5 w5 hown5 hgr5 hat5 hlt5)
            have HO5 : Hid (OwnT w5 w.heap.size (.slice (some ⟨g5, 0, none⟩) (pre.length + 1) cap5) (pre ++ [⟨r.kind, r.text, m, m + r.n, 0⟩])) := Lib.hid (by
              unfold OwnT
              rw [List.length_append, List.flatMap_append]
              exact hown5)
            have HG5 : Hid (w.grownBy w5 none) := Lib.hid (gb_trans HGA.out hgr5 (by
              rcases e : (Value.slice al pre.length cl).ownBlock with _ | b
              · exact Or.inl rfl
              · exact Or.inr (Or.inr ⟨b, rfl, (HOA.out.lt b e).1⟩)))
            clear j0 j1 j2 hown5 hgr5 hat5 hlt5
            go_wp2_with fail
            exact ⟨⟨m + r.n, pre ++ [⟨r.kind, r.text, m, m + r.n, 0⟩], by omega, by go_num, HO5, HG5, HE2, by rw [List.length_append, List.length_singleton]; omega⟩, by simp [intOf]; omega⟩
          · rw [if_neg he] at HR
            have heI : ¬ (r.err : Int) = 0 := by omega
            have HE2 : Hid (allT s 0 = (pre, r.err, m)) := Lib.hid (by rw [HE.out, HT4.out he, List.append_nil])
            clear HT3 HT4 HE
            go_wp2_with (first
              | (go_at_call 25; refine (HBl.out _).mono ?_; rintro e w2 ⟨rfl, rfl⟩)
              | (go_at_call 26; refine (HR.out _).mono ?_; rintro e w2 ⟨rfl, hg2⟩; obtain ⟨k0, k1, k2, f0, f1, f2⟩ := tok_box (gb_refl (w2.alloc (.cells #[.int .u8 0, .string ⟨#[]⟩, .int .i64 0] 50)) none)))
            have hga := World.grownBy_alloc w2 (.cells #[.int .u8 (r.kind : Int), .string r.text, .int .i64 0] 50) none
            have hgb := gb_trans hg2 hga (Or.inl rfl)
            refine bodyPost_ret (results_tmp3 rfl _ _ _) rfl ?_
            rw [HE2.out]
            exact ⟨⟨_, rfl, HO.out.kept hgb (Classical.em _)⟩, gb_trans HG.out hgb (Or.inl rfl)⟩
        · have HBl := Lib.hid (fun wx => blank_or hb.1 hb.2 wx hbl)
          have HB2 : Hid (∀ j, k ≤ j → j < m + 1 → blankB (bAt s j) = true) := Lib.hid fun j h1 h2 => by
            by_cases e : j < m
            · exact HB.out j h1 e
            · obtain rfl : j = m := by omega
              exact hbl
          rw [← bAt_get hlt] at HBl
          clear hbl hb
          go_wp2_with (go_at_call 25; refine (HBl.out _).mono ?_; rintro e w2 ⟨rfl, rfl⟩)
          exact ⟨⟨m + 1, by omega, by omega, by go_num, HB2⟩, by simp [intOf]; omega⟩
      · obtain rfl : m = s.size := by omega
        have hltI : ¬ (s.size : Int) < (s.size : Int) := by omega
        have hsk := skip_eq hkm HB.out hm (Or.inl rfl)
        have HE2 : Hid (allT s 0 = (pre ++ [⟨1, ⟨#[]⟩, s.size, s.size, 0⟩], 0, 0)) := Lib.hid (by rw [HE.out, allT_end hk hsk])
        clear HT1 HT2 HE hsk HB
        have HNB := Lib.hid (World.news_of_block (heap_alloc_new wr (.cells #[.int .u8 1, .string ⟨#[]⟩, .int .i64 (s.size : Int)] 50)))
        have HZ : Hid (w.heap.size ≤ wr.heap.size) := Lib.hid HG.out.size
        have hz := HZ.out
        have HOA : Hid ((wr.alloc (.cells #[.int .u8 1, .string ⟨#[]⟩, .int .i64 (s.size : Int)] 50)).ownsRow w.heap.size 50 3 (.slice al pre.length cl) pre.length (pre.flatMap tokC)) := Lib.hid (HO.out.alloc _)
        go_wp2_with (at_builtin; refine wpList_append_lies _ rfl (.tmp 26) (.tmp 29) 23 rfl w.heap.size 50 i0 (.agg #[.int .u8 0, .string ⟨#[]⟩, .int .i64 0]) 3 32 Try.underlying23 hi hz0 hz1 hz2 rfl (by decide) (.slice al pre.length cl) pre.length (pre.flatMap tokC) rfl HOA.out ⟨wr.heap.size, 0, none⟩ 1 1 [.int .u8 1, .string ⟨#[]⟩, .int .i64 (s.size : Int)] rfl rfl HNB.out (by simp [Value.oneCell']) (by decide) (by unfold maxLen; omega) (by omega) (by rw [World.size_alloc]; omega) _ rfl ?_; intro g5 cap5 w5 hown5 hgr5 hat5 hlt5)
        refine bodyPost_ret (results_tmp3 rfl _ _ _) rfl ?_
        rw [HE2.out]
        refine ⟨⟨_, rfl, ?_⟩, gb_trans (gb_trans HG.out (World.grownBy_alloc wr (.cells #[.int .u8 1, .string ⟨#[]⟩, .int .i64 (s.size : Int)] 50) none) (Or.inl rfl)) hgr5 (by
          rcases e : (Value.slice al pre.length cl).ownBlock with _ | b
          · exact Or.inl rfl
          · exact Or.inr (Or.inr ⟨b, rfl, (HOA.out.lt b e).1⟩))⟩
        unfold OwnT
        rw [List.length_append, List.flatMap_append]
        exact hown5
set_option maxRecDepth 100000 in
/-- The document's tokens: all, or the error. -/
theorem reftokens_any (s : ByteArray) (w : World) (hs : s.size ≤ 100000000) :
    Calls Try.prog 11 #[.string s] w fun e w' => (∃ v, e = .returned (.tuple #[v, .int .i64 ((allT s 0).2.1 : Int), .int .i64 ((allT s 0).2.2 : Int)]) ∧ ((allT s 0).2.1 = 0 ∧ OwnT w' w.heap.size v (allT s 0).1 ∨ (allT s 0).2.1 ≠ 0 ∧ v = .slice none 0 0)) ∧ w.grownBy w' none := by
  have HB := Lib.hid (refbegin_any s w hs)
  have HP := Lib.hid (allT_place s)
  generalize allT s 0 = t at HB HP
  obtain ⟨L, n, p⟩ := t
  have hp : n = 0 → p = 0 := HP.out
  clear HP
  simp only at HB ⊢
  by_cases hn : n = 0
  · obtain rfl := hn
    obtain rfl := hp rfl
    clear hp
    go_enter Try.func11, Try.ntmps11
    go_wp2_with (go_at_call 12; refine HB.out.mono ?_; rintro e w1 ⟨⟨v, rfl, ho⟩, hg1⟩)
    refine bodyPost_ret (results_tmp3 rfl _ _ _) rfl ?_
    exact ⟨⟨_, rfl, Or.inl ⟨by trivial, ho⟩⟩, hg1⟩
  · have hnI : ¬ (n : Int) = 0 := by omega
    clear hp
    go_enter Try.func11, Try.ntmps11
    go_wp2_with (go_at_call 12; refine HB.out.mono ?_; rintro e w1 ⟨⟨v, rfl, ho⟩, hg1⟩)
    refine bodyPost_ret (results_tmp3 rfl _ _ _) rfl ?_
    exact ⟨⟨_, rfl, Or.inr ⟨hn, rfl⟩⟩, hg1⟩
end Go.Proofs.Ytlmpeddacadfkaa
