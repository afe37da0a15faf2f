/- Lex: rows of tokens, read; SameTokens where they are the same. -/
import Derived.Test.YtlmpeddacadfkaaLexWritten
import Derived.Test.YtlmpeddacadfkaaLexTokens
import Derived.Deep.QuietTactic
import Derived.BigQuiet
namespace Go.Proofs.Ytlmpeddacadfkaa
open Go.RowKit

theorem flat_at : ∀ (L : List Tok) (i j : Nat), i < L.length → j < 3 → (L.flatMap tokC)[i * 3 + j]? = (tokC (L.getD i tok0))[j]?
  | [], i, _, h, _ => absurd h (Nat.not_lt_zero _)
  | t :: r, 0, j, _, hj => by
    rw [List.flatMap_cons, List.getElem?_append_left (by show 0 * 3 + j < 3; omega)]
    rw [show 0 * 3 + j = j by omega]
    rfl
  | t :: r, i + 1, j, h, hj => by
    rw [List.flatMap_cons, List.getElem?_append_right (by show 3 ≤ _; omega), show (i + 1) * 3 + j - (tokC t).length = i * 3 + j from by show (i + 1) * 3 + j - 3 = _; omega]
    rw [flat_at r i j (by simpa using h) hj]
    rfl
/-- A row of tokens that is read. -/
def TokRow (w : World) (v : Value) (L : List Tok) : Prop :=
  ∃ a cap, v = .slice a L.length cap ∧ L.length ≤ cap ∧ cap ≤ maxLen ∧ ∀ i, i < L.length → ∃ g, a = some ⟨g, 0, none⟩ ∧ g < w.heap.size ∧ w.cell? ⟨g, i * 3, none⟩ = some (.int .u8 ((L.getD i tok0).kind : Int)) ∧ w.cell? ⟨g, i * 3 + 1, none⟩ = some (.string (L.getD i tok0).text) ∧ w.cell? ⟨g, i * 3 + 2, none⟩ = some (.int .i64 ((L.getD i tok0).at' : Int))
theorem own_row {w : World} {Y : Nat} {v : Value} {L : List Tok} (h : OwnT w Y v L) : TokRow w v L := by
  have h0 := h
  rcases h.2 with ⟨rfl, hn⟩ | ⟨g, cap, cur, rfl, hY, hg, h1, h2, h3, h4⟩
  · rw [List.length_eq_zero_iff] at hn
    subst hn
    exact ⟨none, 0, rfl, Nat.le_refl _, Nat.zero_le _, fun i hi => absurd hi (Nat.not_lt_zero _)⟩
  · refine ⟨some ⟨g, 0, none⟩, cap, rfl, by omega, by omega, fun i hi => ⟨g, rfl, (Array.getElem?_eq_some_iff.1 hg).1, ?_, ?_, ?_⟩⟩
    · have := h0.cells (g := g) rfl (i * 3 + 0) _ (by rw [flat_at L i 0 hi (by decide)]; rfl)
      rw [Addr.add_lit, Nat.zero_add] at this
      exact this
    · have := h0.cells (g := g) rfl (i * 3 + 1) _ (by rw [flat_at L i 1 hi (by decide)]; rfl)
      rw [Addr.add_lit, Nat.zero_add] at this
      exact this
    · have := h0.cells (g := g) rfl (i * 3 + 2) _ (by rw [flat_at L i 2 hi (by decide)]; rfl)
      rw [Addr.add_lit, Nat.zero_add] at this
      exact this
theorem TokRow.same {w w' : World} {v : Value} {L : List Tok} (h : TokRow w v L) (hc : ∀ b o, b < w.heap.size → w'.cell? ⟨b, o, none⟩ = w.cell? ⟨b, o, none⟩) (hz : w.heap.size ≤ w'.heap.size) : TokRow w' v L := by
  obtain ⟨a, cap, h1, h2, h3, h4⟩ := h
  refine ⟨a, cap, h1, h2, h3, fun i hi => ?_⟩
  obtain ⟨g, e, k0, k1, k2, k3⟩ := h4 i hi
  exact ⟨g, e, by omega, by rw [hc _ _ k0]; exact k1, by rw [hc _ _ k0]; exact k2, by rw [hc _ _ k0]; exact k3⟩
theorem TokRow.grown {w w' : World} {v : Value} {L : List Tok} (h : TokRow w v L) (hg : w.grownBy w' none) : TokRow w' v L :=
  h.same (fun b _ hb => World.cell?_of_block (hg.block b hb (by simp))) hg.size
theorem TokRow.below {w w' : World} {v : Value} {L : List Tok} (h : TokRow w v L) (hg : Below w.heap.size w w') : TokRow w' v L :=
  h.same (fun b o hb => hg.cell (p := ⟨b, o, none⟩) hb) hg.size
theorem getD_take {L : List Tok} {i k : Nat} (h : i < k) : (L.take k).getD i tok0 = L.getD i tok0 := by
  rw [List.getD_eq_getElem?_getD, List.getElem?_take, if_pos h, List.getD_eq_getElem?_getD]
theorem TokRow.take {w : World} {a : Option Addr} {n cap : Nat} {L : List Tok} (h : TokRow w (.slice a n cap) L) (k : Nat) (hk : k ≤ L.length) : TokRow w (.slice a k cap) (L.take k) := by
  obtain ⟨a', cap', h1, h2, h3, h4⟩ := h
  cases h1
  have hl : (L.take k).length = k := by rw [List.length_take]; omega
  refine ⟨a, cap, by rw [hl], by omega, h3, fun i hi => ?_⟩
  rw [getD_take (by omega)]
  exact h4 i (by omega)
/-- Tokens as a text has them. -/
def likeT (x y : Tok) : Prop := x.kind = y.kind ∧ x.text = y.text ∧ x.at' = y.at'
set_option maxRecDepth 100000 in
set_option maxHeartbeats 2000000 in
theorem sametokens_yes {w : World} {u v : Value} {L M : List Tok} (hu : TokRow w u L) (hv : TokRow w v M) (hl : L.length = M.length) (he : ∀ i, i < L.length → likeT (L.getD i tok0) (M.getD i tok0)) :
    Calls Try.prog 14 #[u, v] w fun e w' => e = .returned (.bool true) ∧ w.grownBy w' none := by
  have HU := Lib.hid hu
  have HV := Lib.hid hv
  obtain ⟨a1, c1, rfl, hc1, hm1, _⟩ := hu
  obtain ⟨a2, c2, rfl, hc2, hm2, _⟩ := hv
  unfold maxLen at hm1 hm2
  have hne : ((L.length : Int) != (M.length : Int)) = false := by rw [hl]; simp
  have HE := Lib.hid he
  have hl1 : L.length ≤ M.length := by omega
  have hl2 : M.length ≤ L.length := by omega
  clear he hl
  go_enter Try.func14, Try.ntmps14
  go_wp2_with fail
  go_loopw [5] (fun i wr => ∃ k : Nat, k ≤ L.length ∧ i = .int .i64 (k : Int) ∧ w.grownBy wr none) (fun i _ => L.length - (intOf i).toNat)
  case atStart => exact ⟨0, Nat.zero_le _, rfl, gb_refl _ _⟩
  case round =>
    obtain ⟨k, hk, rfl, hG⟩ := hrel
    by_cases hlt : k < L.length
    · obtain ⟨_, _, e1, _, _, hr1⟩ := HU.out.grown hG
      cases e1
      obtain ⟨_, _, e2, _, _, hr2⟩ := HV.out.grown hG
      cases e2
      obtain ⟨g1, rfl, k0, k1, k2, k3⟩ := hr1 k hlt
      obtain ⟨g2, rfl, j0, j1, j2, j3⟩ := hr2 k (by omega)
      obtain ⟨e1, e2, e3⟩ := HE.out k hlt
      rw [← e1] at j1
      rw [← e2] at j2
      rw [← e3] at j3
      have hkI : (k : Int) < (L.length : Int) := by omega
      have hkM : (k : Int) < (M.length : Int) := by omega
      clear e1 e2 e3 hr1 hr2
      go_wp2_with fail
      go_quiet (fail)
      go_wp2_with fail
      go_roundw
      case rel => exact ⟨k + 1, by omega, by go_num, gb_trans hG (gb_drewN _ _ _) (Or.inl rfl)⟩
      case measure => simp [intOf]; omega
    · have hkI : ¬ (k : Int) < (L.length : Int) := by omega
      go_wp2_with fail
      go_ret
      exact ⟨rfl, hG⟩
end Go.Proofs.Ytlmpeddacadfkaa
