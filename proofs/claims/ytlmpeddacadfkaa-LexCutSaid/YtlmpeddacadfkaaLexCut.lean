/- LexCut, walked. -/
import Derived.Test.YtlmpeddacadfkaaLexBegins
import Derived.Test.YtlmpeddacadfkaaLexOwn
namespace Go.Proofs.Ytlmpeddacadfkaa
open Go.RowKit Go.Shelf

set_option maxRecDepth 100000 in
set_option maxHeartbeats 4000000 in
theorem walk_Cut (s : ByteArray) (w : World) : Calls Try.prog 9 #[.string s] w fun e w' => e = .returned (.bool true) ∧ Below w.heap.size w w' := by
  by_cases hs : s.size ≤ 16777216
  · have hsI : ¬ (s.size : Int) > 16777216 := by omega
    have HTk := Lib.hid (tokens_any s · (by omega))
    have HBg := Lib.hid (begins_any s (by omega) (s.size + 1) (by omega))
    have HSt := Lib.hid (stop_at s (s.size + 1) 0 (by omega) (Nat.zero_le _))
    have HC := Lib.hid (chain_all s (s.size + 1) 0 (by omega) (Nat.zero_le _))
    obtain ⟨L, er, at', hA⟩ : ∃ L er at', allT s 0 = (L, er, at') := ⟨_, _, _, rfl⟩
    rw [hA] at HTk HSt HBg HC
    by_cases h0 : er = 0
    · subst h0
      have HA0 : Hid (at' = 0) := Lib.hid (by
        have key : ∀ f k, (toks s f k).2.1 = 0 → (toks s f k).2.2 = 0 := fun f => by
          induction f with
          | zero => intro k _; rfl
          | succ f ih =>
            intro k h
            unfold toks at h ⊢
            by_cases he : (nextR s k).err ≠ 0
            · rw [if_pos he] at h; exact absurd h he
            · rw [if_neg he] at h ⊢
              by_cases h1 : (nextR s k).kind = 1
              · rw [if_pos h1]
              · rw [if_neg h1] at h ⊢
                exact ih _ h
        have h1 := key (s.size + 1 - 0) 0
        have h2 : toks s (s.size + 1 - 0) 0 = (L, 0, at') := hA
        rw [h2] at h1
        exact h1 rfl)
      clear hA HSt HBg HC
      obtain rfl := HA0.out
      clear HA0
      go_enter Try.func9, Try.ntmps9
      go_wp2_with (first
        | (go_at_call 10; refine (works_any w).mono ?_; rintro e w1 ⟨rfl, hg1⟩)
        | (go_at_call 13; refine (HTk.out _).mono ?_; rintro e w2 ⟨⟨v, rfl, hv⟩, hg2⟩; replace hv := hv.resolve_right (fun h => h.1 rfl); have HV := Lib.hid (own_row hv.2); obtain ⟨a, cap, rfl⟩ := own_val3 hv.2; clear hv))
      go_ret
      exact ⟨rfl, below_gb hg1 hg2⟩
    · have h0I : ¬ (er : Int) = 0 := by omega
      obtain ⟨_, hlt, hln, hcut⟩ := HSt.out h0
      simp only at hlt hln hcut
      have hlt2 : at' ≤ s.size := by omega
      have HT2 := Lib.hid (tokens_any (s.extract 0 at') · (by rw [size_ext hlt2]; omega))
      rw [hcut] at HT2
      rw [List.take_of_length_le (show (L, er, at').1.length ≤ s.size + 1 by show L.length ≤ _; omega)] at HBg
      obtain ⟨M, hM⟩ : ∃ M, L ++ [(⟨1, ⟨#[]⟩, at', at', 0⟩ : Tok)] = M := ⟨_, rfl⟩
      rw [hM] at HT2
      have hMl : M.length = L.length + 1 := by rw [← hM]; simp
      have HMt : Hid (M.take L.length = L) := Lib.hid (by rw [← hM, List.take_append_of_le_length (Nat.le_refl _), List.take_length])
      have HMe : Hid (M.getD L.length tok0 = ⟨1, ⟨#[]⟩, at', at', 0⟩) := Lib.hid (by rw [← hM, List.getD_eq_getElem?_getD, List.getElem?_append_right (Nat.le_refl _), Nat.sub_self]; rfl)
      have hMI : ((M.length : Int) != (L.length : Int) + 1) = false := by rw [hMl]; simp
      have hLM : L.length ≤ M.length := by omega
      have hLM2 : (L.length : Int) < (M.length : Int) := by omega
      have hLe : L.length ≤ 16777216 := by omega
      have hltI : (at' : Int) ≤ (s.size : Int) := by omega
      have hcast : ((s.size + 1 : Nat) : Int) = (s.size : Int) + 1 := by omega
      rw [hcast] at HBg
      clear hA HSt HC hcut hcast hln hM
      have HMl := Lib.hid hMl
      clear hMl
      go_enter Try.func9, Try.ntmps9
      go_wp2_with (go_at_call 10; refine (works_any w).mono ?_; rintro e w1 ⟨rfl, hg1⟩)
      refine (HTk.out _).mono ?_
      rintro e w2 ⟨⟨v, rfl, hv⟩, hg2⟩
      obtain rfl := (hv.resolve_left (fun h => h0 h.1)).2
      clear hv
      go_wp2_with (go_at_call 18; refine (HBg.out _).mono ?_; rintro e w3 ⟨v3, rfl, hv3, hg3⟩; have HV3 := Lib.hid (own_row hv3); obtain ⟨a3, c3, rfl⟩ := own_val3 hv3; clear hv3)
      refine (HT2.out _).mono ?_
      rintro e w4 ⟨⟨v, rfl, hv⟩, hg4⟩
      replace hv := hv.resolve_right (fun h => h.1 rfl)
      have HV4 := Lib.hid (own_row hv.2)
      obtain ⟨a4, c4, rfl⟩ := own_val3 hv.2
      clear hv
      obtain ⟨_, _, e4, hc4, hm4, hr4⟩ := HV4.out
      cases e4
      obtain ⟨g4, rfl, k0, k1, k2, k3⟩ := hr4 L.length (by have := HMl.out; omega)
      rw [HMe.out] at k1 k2 k3
      clear hr4
      unfold maxLen at hm4
      have HVt := Lib.hid (HV4.out.take L.length (by have := HMl.out; omega))
      rw [HMt.out] at HVt
      have HV3b := Lib.hid (HV3.out.grown hg4)
      go_wp2_with fail
      refine (sametokens_yes HVt.out HV3b.out rfl (fun i _ => ⟨rfl, rfl, rfl⟩)).mono ?_
      rintro e w5 ⟨rfl, hg5⟩
      have j1 : w5.cell? ⟨g4, L.length * 3, none⟩ = some (.int .u8 1) := (World.cell?_of_block (hg5.block g4 k0 (by simp))).trans k1
      have j2 : w5.cell? ⟨g4, L.length * 3 + 1, none⟩ = some (.string ⟨#[]⟩) := (World.cell?_of_block (hg5.block g4 k0 (by simp))).trans k2
      have j3 : w5.cell? ⟨g4, L.length * 3 + 2, none⟩ = some (.int .i64 (at' : Int)) := (World.cell?_of_block (hg5.block g4 k0 (by simp))).trans k3
      clear k1 k2 k3
      go_wp2_with fail
      go_ret
      exact ⟨rfl, below_gb (below_gb (below_then (below_gb hg1 hg2) hg3) hg4) hg5⟩
  · have hsI : (s.size : Int) > 16777216 := by omega
    go_enter Try.func9, Try.ntmps9
    go_wp2_with (go_at_call 10; refine (works_any w).mono ?_; rintro e w1 ⟨rfl, hg1⟩)
    go_ret
    exact ⟨rfl, hg1⟩
end Go.Proofs.Ytlmpeddacadfkaa
