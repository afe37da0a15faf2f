/- Runner: a step. -/
import Derived.Test.YtpehmlkikhkmfaaRunAt
namespace Go.Proofs.Ytpehmlkikhkmfaa
open Go.RowKit

section
variable {w : World} {p mb : Nat} {vn vo vf : Value} {vs : List Value} {R : List (List Int)} {O : List Int} {F : List Bool} {s : Nat}

/-- Where a letter leads. -/
theorem step_core (h : RunAt w p mb vn vo vf vs R O F s) (l : Nat) (hl : l ≤ 65535) (i t : Nat) (hi : i < (R.getD s []).length) (hb : bits .and .i64 (l : Int) (((R.getD s []).length : Int) - 1) = (i : Int)) (ht : (R.getD s []).getD i 0 = (t : Int)) (htl : t < O.length) (hs5 : (R.getD s []).length ≤ 256) :
    Calls Try.prog 29 #[.pointer (some ⟨p, 0, none⟩), .int .u16 (l : Int)] w fun e w' => e = .returned (.int .u8 (O.getD t 0)) ∧ RunAt w' p mb vn vo vf vs R O F t ∧ w.grownBy w' (some p) := by
  have h4 := h.cell4
  have h0 := h.cell0
  have h1 := h.cell1
  have hf := h.frozen 4
  have hst := h.st
  have hsR : s < R.length := by rw [h.lr]; exact hst
  obtain ⟨u, hu, hru⟩ := h.each s hsR
  obtain ⟨gn, capn, rfl, hcn, hcellu⟩ := own_cell h.next s hsR
  rw [hu] at hcellu
  obtain ⟨gr, capr, rfl, hcr, hcelli⟩ := own_cell hru i hi
  rw [iv_at hi, ht] at hcelli
  obtain ⟨go, capo, rfl, hco, hcello⟩ := own_cell h.out t htl
  rw [ov_at htl] at hcello
  have HG := Lib.hid (h.goes t htl)
  have HT := Lib.hid h
  have hsm := h.small
  have hlr := Lib.hid h.lr
  have hpo : go ≠ p := by
    intro e
    rcases h.other h.out (by decide) with e2 | e2
    · simp [Value.ownBlock] at e2
    · exact e2 (by simp [Value.ownBlock, e])
  have hcello' : (w.setCell ⟨p, 4, none⟩ (.int .i64 (t : Int))).cell? ⟨go, t, none⟩ = some (.int .u8 (O.getD t 0)) := HG.out.2.cell hcello (by simp; exact hpo)
  clear h ht hu hru
  generalize O.getD t 0 = o at hcello hcello' ⊢
  generalize R.getD s [] = A at hcellu hcr hi hb hs5
  have hsI : (s : Int) < (R.length : Int) := by omega
  have hiI : (i : Int) < (A.length : Int) := by omega
  have htI : (t : Int) < (O.length : Int) := by omega
  go_enter Try.func29, Try.ntmps29
  go_wp2_with fail
  go_quiet (fail)
  have h9 := HT.out.kept (gb_drewN w nq none)
  have hg9 := gb_drewN w nq none
  generalize w.drewN nq = w9 at h9 hg9 ⊢
  have d4 := h9.cell4
  have d1 := h9.cell1
  have df := h9.frozen 4
  have di := hg9.cell hcelli (by simp)
  have do' := hg9.cell hcello (by simp)
  have G9 := h9.goes t htl
  have do2 := G9.2.cell do' (by simp; exact hpo)
  have HG9 := Lib.hid G9
  have H9 := Lib.hid hg9
  clear h9 hg9 G9 h4 h0 h1 hf hcello hcello' hcellu hcelli HG HT
  go_wp2_with fail
  generalize hwz : w9.setCell ⟨p, 4, none⟩ (.int .i64 (t : Int)) = wz at HG9 do2 ⊢
  clear hwz d4 d1 df di do'
  have f4 := HG9.out.1.cell4
  have f1 := HG9.out.1.cell1
  go_quiet (fail)
  go_wp2
  go_ret
  exact ⟨rfl, HG9.out.1.kept (gb_drewN _ _ none), gb_trans (gb_trans (gb_any H9.out (some p)) HG9.out.2 (Or.inr (Or.inl rfl))) (gb_drewN _ _ none) (Or.inl rfl)⟩

theorem i64_and_nat (a b : Nat) (ha : a < 9223372036854775808) (hb : b < 9223372036854775808) : bits .and .i64 (a : Int) (b : Int) = ((a &&& b : Nat) : Int) := by
  have hx : a &&& b < 2 ^ 63 := Nat.and_lt_two_pow _ (by omega)
  show IntKind.i64.wrap ((BitVec.ofInt 64 (a : Int) &&& BitVec.ofInt 64 (b : Int)).toNat : Int) = _
  rw [BitVec.toNat_and, ofInt_u64 a (by omega), ofInt_u64 b (by omega), IntKind.wrap_i64]
  omega

/-- A letter cut down to a row of a power of two. -/
theorem and_row (l c : Nat) (hl : l ≤ 65535) (hc : c ≤ 8) : bits .and .i64 (l : Int) (((2 ^ c : Nat) : Int) - 1) = ((l % 2 ^ c : Nat) : Int) := by
  have hp := pow_le hc
  have h0 : 0 < 2 ^ c := Nat.two_pow_pos c
  rw [show (((2 ^ c : Nat) : Int) - 1) = ((2 ^ c - 1 : Nat) : Int) by omega, i64_and_nat _ _ (by omega) (by omega), Nat.and_two_pow_sub_one_eq_mod]
end
end Go.Proofs.Ytpehmlkikhkmfaa
