/- Lex: the document's tokens at a place. -/
import Derived.Test.YtlmpeddacadfkaaRefLexQuote
import Derived.Test.YtlmpeddacadfkaaLexToks
namespace Go.Proofs.Ytlmpeddacadfkaa
open Go.RowKit

theorem blank_table : ∀ k : Fin 256, blankB ((k : Nat) : Int) = (((k : Nat) : Int) == 32 || (((k : Nat) : Int) == 9 || (((k : Nat) : Int) == 10 || ((k : Nat) : Int) == 13))) := by decide +kernel
theorem blankB_eq {c : Int} (h0 : 0 ≤ c) (h1 : c ≤ 255) : blankB c = (c == 32 || (c == 9 || (c == 10 || c == 13))) := by
  have := blank_table ⟨c.toNat, by omega⟩
  rw [show ((⟨c.toNat, by omega⟩ : Fin 256) : Nat) = c.toNat from rfl, Int.toNat_of_nonneg h0] at this
  exact this
theorem refblank_any (c : Int) (h0 : 0 ≤ c) (h1 : c ≤ 255) (w : World) : Calls Try.prog 25 #[.int .u8 c] w fun e w' => e = .returned (.bool (blankB c)) ∧ w = w' := by
  rw [blankB_eq h0 h1]
  go_enter Try.func25, Try.ntmps25
  go_wp2
  all_goals go_ret
  all_goals refine ⟨?_, rfl⟩
  all_goals show Ending.returned (Value.bool _) = Ending.returned (Value.bool _)
  all_goals congr 2
  all_goals rw [Bool.eq_iff_iff]
  all_goals simp
  all_goals omega

theorem bAt_extract {s : ByteArray} {p k : Nat} (h : p + k < s.size) : bAt (s.extract p s.size) k = bAt s (p + k) := by
  have h1 : k < (s.extract p s.size).size := by rw [ByteArray.size_extract]; omega
  rw [← bAt_get h1, ← bAt_get h, ByteArray.getElem_extract]
theorem extract_part {s : ByteArray} {p a b : Nat} (h : p + b ≤ s.size) : (s.extract p s.size).extract a b = s.extract (p + a) (p + b) := by
  rw [ByteArray.extract_extract]
  congr 1
  omega
/-- What the document's functions say of a place. -/
def refV (r : Res) (p : Nat) : Value := .tuple #[.agg #[.int .u8 (r.kind : Int), .string r.text, .int .i64 (if r.err = 0 then (p : Int) else 0)], .int .i64 (r.n : Int), .int .i64 (r.err : Int)]
set_option maxRecDepth 100000 in
set_option maxHeartbeats 2000000 in
theorem refquoted_any (s : ByteArray) (p : Nat) (w : World) (hs : s.size ≤ maxLen) (hp : p < s.size) :
    Calls Try.prog 51 #[.string s, .int .i64 (p : Int)] w fun e w' => e = .returned (refV (quotedR (s.extract p s.size)) p) ∧ w.grownBy w' none := by
  have hsz : (s.extract p s.size).size = s.size - p := by rw [ByteArray.size_extract]; omega
  unfold maxLen at hs
  go_enter Try.func51, Try.ntmps51
  go_wp2_with fail
  go_loop [7] (fun i => ∃ k : Nat, 1 ≤ k ∧ (p + k ≤ s.size ∨ k = 1) ∧ i = .int .i64 ((p : Int) + (k : Int)) ∧ Hid (∀ j, 1 ≤ j → j < k → plainB (bAt (s.extract p s.size) j) = true)) (fun i => s.size - (intOf i).toNat)
  case atStart => exact ⟨1, by omega, by omega, rfl, Lib.hid fun j h1 h2 => absurd h2 (by omega)⟩
  case round =>
    obtain ⟨k, hk1, hk, rfl, HO⟩ := hrel
    by_cases hlt : p + k < s.size
    · have hltI : (p : Int) + (k : Int) < (s.size : Int) := by omega
      have HQ : Hid (plainB (bAt (s.extract p s.size) k) = false → quotedR (s.extract p s.size) = if bAt (s.extract p s.size) k = 34 then (if k = 1 ∨ 33 < k then ⟨0, ⟨#[]⟩, 0, 22⟩ else ⟨2, (s.extract p s.size).extract 1 k, k + 1, 0⟩) else ⟨0, ⟨#[]⟩, 0, 21⟩) := Lib.hid fun h => by
        rw [quotedR_at (qEnd_eq hk1 HO.out (by omega) (Or.inr h)), if_neg (by omega)]
      have HG : Hid (plainB (bAt (s.extract p s.size) k) = true → ∀ j, 1 ≤ j → j < k + 1 → plainB (bAt (s.extract p s.size) j) = true) := Lib.hid fun h j h1 hj => by
        by_cases e : j < k
        · exact HO.out j h1 e
        · obtain rfl : j = k := by omega
          exact h
      rw [bAt_extract hlt, extract_part (by omega)] at HQ
      rw [show bAt (s.extract p s.size) k = bAt s (p + k) from bAt_extract hlt] at HG
      rw [← bAt_get hlt] at HQ HG
      have hge : (0 : Int) ≤ (s[p + k].toNat : Int) := by omega
      have hle : (s[p + k].toNat : Int) ≤ 255 := by have := s[p + k].toNat_lt; omega
      have htn : ((p : Int) + (k : Int)).toNat = p + k := by omega
      cases hok : plainB (s[p + k].toNat : Int)
      · have HQ2 := Lib.hid (HQ.out hok)
        have hor := plain_or hok
        clear hok HG HQ
        by_cases h34 : (s[p + k].toNat : Int) = 34
        · rw [if_pos h34] at HQ2
          clear hor
          by_cases hk2 : k = 1
          · have HQ3 : Hid (quotedR (s.extract p s.size) = ⟨0, ⟨#[]⟩, 0, 22⟩) := Lib.hid (by rw [HQ2.out, if_pos (Or.inl hk2)])
            clear HQ2
            subst hk2
            have hd : (p : Int) + ((1 : Nat) : Int) - (p : Int) - 1 = 0 := by omega
            go_wp2
            refine bodyPost_ret (results_tok rfl _ _ _ _ rfl (heap_alloc_new w _) rfl) rfl ?_
            rw [HQ3.out]
            exact ⟨rfl, World.grownBy_alloc w _ none⟩
          · by_cases hk3 : 33 < k
            · have HQ3 : Hid (quotedR (s.extract p s.size) = ⟨0, ⟨#[]⟩, 0, 22⟩) := Lib.hid (by rw [HQ2.out, if_pos (Or.inr hk3)])
              have hd : ¬ (p : Int) + (k : Int) - (p : Int) - 1 = 0 := by omega
              have hd2 : (32 : Int) < (p : Int) + (k : Int) - (p : Int) - 1 := by omega
              clear HQ2
              go_wp2
              refine bodyPost_ret (results_tok rfl _ _ _ _ rfl (heap_alloc_new w _) rfl) rfl ?_
              rw [HQ3.out]
              exact ⟨rfl, World.grownBy_alloc w _ none⟩
            · have HQ3 : Hid (quotedR (s.extract p s.size) = ⟨2, s.extract (p + 1) (p + k), k + 1, 0⟩) := Lib.hid (by rw [HQ2.out, if_neg (by omega)])
              have hd : ¬ (p : Int) + (k : Int) - (p : Int) - 1 = 0 := by omega
              have hd2 : ¬ (32 : Int) < (p : Int) + (k : Int) - (p : Int) - 1 := by omega
              have hd3 : (p : Int) + (k : Int) + 1 - (p : Int) = (k : Int) + 1 := by omega
              have hle1 : (p : Int) + 1 ≤ (p : Int) + (k : Int) := by omega
              have htn1 : ((p : Int) + 1).toNat = p + 1 := by omega
              clear HQ2
              go_wp2
              refine bodyPost_ret (results_tok rfl _ _ _ _ rfl (heap_alloc_new w _) rfl) rfl ?_
              rw [HQ3.out]
              exact ⟨by simp [refV], World.grownBy_alloc w _ none⟩
        · rw [if_neg h34] at HQ2
          have hor2 : (s[p + k].toNat : Int) < 32 ∨ 126 < (s[p + k].toNat : Int) ∨ (s[p + k].toNat : Int) = 92 := by omega
          clear hor
          rcases hor2 with h | h | h
          all_goals go_wp2
          all_goals refine bodyPost_ret (results_tok rfl _ _ _ _ rfl (heap_alloc_new w _) rfl) rfl ?_
          all_goals rw [HQ2.out]
          all_goals exact ⟨rfl, World.grownBy_alloc w _ none⟩
      · have HG2 := Lib.hid (HG.out hok)
        unfold plainB at hok
        simp only [Bool.not_eq_true', Bool.or_eq_false_iff, decide_eq_false_iff_not] at hok
        obtain ⟨h1, h2, h3, h4⟩ := hok
        clear HG HQ
        go_wp2
        exact ⟨⟨k + 1, by omega, by omega, by go_num, HG2⟩, by simp [intOf]; omega⟩
    · have HQ : Hid (quotedR (s.extract p s.size) = ⟨0, ⟨#[]⟩, 0, 21⟩) := Lib.hid (by rw [quotedR_at (qEnd_eq hk1 HO.out (by omega) (Or.inl (by omega))), if_pos (by omega)])
      have hI : ¬ (p : Int) + (k : Int) < (s.size : Int) := by omega
      go_wp2
      refine bodyPost_ret (results_tok rfl _ _ _ _ rfl (heap_alloc_new w _) rfl) rfl ?_
      rw [HQ.out]
      exact ⟨rfl, World.grownBy_alloc w _ none⟩
end Go.Proofs.Ytlmpeddacadfkaa
