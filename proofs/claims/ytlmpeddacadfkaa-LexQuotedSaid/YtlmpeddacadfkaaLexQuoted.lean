/- LexQuoted, walked. -/
import Derived.Test.YtlmpeddacadfkaaLexRows
import Derived.Test.YtlmpeddacadfkaaLexLaws2
import Derived.Test.YtlmpeddacadfkaaLexOwn
namespace Go.Proofs.Ytlmpeddacadfkaa
open Go.RowKit Go.Shelf

set_option maxRecDepth 100000 in
set_option maxHeartbeats 4000000 in
theorem walk_Quoted (s : ByteArray) (w : World) : Calls Try.prog 6 #[.string s] w fun e w' => e = .returned (.bool true) ∧ Below w.heap.size w w' := by
  by_cases hs : s.size ≤ 16777216
  · have hsI : ¬ (s.size : Int) > 16777216 := by omega
    have hm : s.size ≤ maxLen := by unfold maxLen; omega
    have HQ := Lib.hid (quote_any s · hm)
    have HN := Lib.hid (named_any s · hm)
    have HI := Lib.hid (isname_any s · hm)
    cases hn : namedB s
    · rw [hn] at HN
      rw [quote_none s hn] at HQ
      clear hn
      go_enter Try.func6, Try.ntmps6
      go_wp2_with (first
        | (go_at_call 10; refine (works_any w).mono ?_; rintro e w1 ⟨rfl, hg1⟩)
        | (go_at_call 20; refine (HQ.out _).mono ?_; rintro e w2 ⟨rfl, hg2⟩)
        | (go_at_call 23; refine (HN.out _).mono ?_; rintro e w3 ⟨rfl, rfl⟩))
      go_ret
      exact ⟨rfl, below_gb hg1 hg2⟩
    · rw [hn] at HN
      obtain ⟨b, hb⟩ := quoted_law s hn
      have hqs := quote_same s hn
      have hqz : (quoteF s).size ≤ 100000000 := by
        rw [quoteF_eq]
        rw [if_pos hn]
        split
        · omega
        · rw [app_size, app_size]; show 1 + s.size + 1 ≤ _; omega
      have HT := Lib.hid (tokens_any (quoteF s) · hqz)
      rw [hb] at HT
      have HE : Hid ((isNameF s == ((quoteF s).toList == s.toList)) = true) := Lib.hid (by
        cases hi : isNameF s
        · have : ((quoteF s).toList == s.toList) = false := by
            rw [beq_eq_false_iff_ne]
            intro e
            rw [hqs.1 e] at hi
            cases hi
          rw [this]; rfl
        · rw [hqs.2 hi]; simp)
      generalize quoteF s = q at HQ HT HE hqz
      generalize isNameF s = isn at HI HE
      clear hn hb hqs
      obtain ⟨M, hM⟩ : ∃ M, [(⟨2, s, 0, b, 0⟩ : Tok), ⟨1, ⟨#[]⟩, b, b, 0⟩] = M := ⟨_, rfl⟩
      rw [hM] at HT
      have HMl : Hid (M.length = 2) := Lib.hid (by rw [← hM]; rfl)
      have HM0 : Hid (M.getD 0 tok0 = ⟨2, s, 0, b, 0⟩) := Lib.hid (by rw [← hM]; rfl)
      clear hM
      go_enter Try.func6, Try.ntmps6
      go_wp2_with (first
        | (go_at_call 10; refine (works_any w).mono ?_; rintro e w1 ⟨rfl, hg1⟩)
        | (go_at_call 20; refine (HQ.out _).mono ?_; rintro e w2 ⟨rfl, hg2⟩)
        | (go_at_call 23; refine (HN.out _).mono ?_; rintro e w3 ⟨rfl, rfl⟩)
        | (go_at_call 13; refine (HT.out _).mono ?_; rintro e w4 ⟨⟨v, rfl, hv⟩, hg4⟩; replace hv := hv.resolve_right (fun h => h.1 rfl); have HV := Lib.hid (own_row hv.2); obtain ⟨a, cap, rfl⟩ := own_val3 hv.2; clear hv))
      refine (HI.out _).mono ?_
      rintro e w5 ⟨rfl, hg5⟩
      obtain ⟨_, _, e4, hc4, hm4, hr4⟩ := HV.out.grown hg5
      cases e4
      obtain ⟨g4, rfl, k0, k1, k2, k3⟩ := hr4 0 (by have := HMl.out; omega)
      rw [HM0.out] at k1 k2 k3
      clear hr4
      rw [HMl.out] at *
      unfold maxLen at hm4
      have hE := HE.out
      go_wp2_with fail
      go_ret
      exact ⟨rfl, below_gb (below_gb (below_gb hg1 hg2) hg4) hg5⟩
  · have hsI : (s.size : Int) > 16777216 := by omega
    go_enter Try.func6, Try.ntmps6
    go_wp2_with (go_at_call 10; refine (works_any w).mono ?_; rintro e w1 ⟨rfl, hg1⟩)
    go_ret
    exact ⟨rfl, hg1⟩
end Go.Proofs.Ytlmpeddacadfkaa
