/- The document's runner: its steps. -/
import Derived.Test.YtpehmlkikhkmfaaRefNew
import Derived.Test.YtpehmlkikhkmfaaRunMoore
namespace Go.Proofs.Ytpehmlkikhkmfaa
open Go.RowKit

/-- The document's runner as a whole. -/
def Ref (w : World) (q : Nat) (P : List ByteArray) (R : List (List Int)) (O : List Int) (s : Nat) : Prop := ∃ vp vn vo vs, RefAt w 0 q vp vn vo vs P R O s

section
variable {w w' : World} {q : Nat} {P : List ByteArray} {R : List (List Int)} {O : List Int} {s : Nat}
theorem Ref.kept (h : Ref w q P R O s) (hg : w.grownBy w' none) : Ref w' q P R O s := by
  obtain ⟨vp, vn, vo, vs, h⟩ := h
  exact ⟨vp, vn, vo, vs, h.kept hg⟩
theorem Ref.blk (h : Ref w q P R O s) : ∃ c fr, w.heap[q]? = some (.cells c 51 fr) := by
  obtain ⟨vp, vn, vo, vs, h⟩ := h
  exact ⟨_, _, h.blk⟩
theorem Ref.lt (h : Ref w q P R O s) : q < w.heap.size := by
  obtain ⟨vp, vn, vo, vs, h⟩ := h
  exact h.lt
theorem Ref.far {b : Nat} {c : Array Value} {e : TypeId} {fr : Nat × Nat} (h : Ref w q P R O s) (hb : w.heap[b]? = some (.cells c e fr)) (he : e = 106 ∨ e = 51) (hne : q ≠ b) (hg : w.grownBy w' (some b)) : Ref w' q P R O s := by
  obtain ⟨vp, vn, vo, vs, h⟩ := h
  exact ⟨vp, vn, vo, vs, h.far hb he hne hg⟩
theorem Ref.cell3 (h : Ref w q P R O s) : w.cell? ⟨q, 3, none⟩ = some (.int .i64 (s : Int)) := by
  obtain ⟨vp, vn, vo, vs, h⟩ := h
  exact h.cell3
theorem Ref.frozen3 (h : Ref w q P R O s) : w.frozen? ⟨q, 3, none⟩ = false := by
  obtain ⟨vp, vn, vo, vs, h⟩ := h
  exact h.frozen 3
theorem Ref.out (h : Ref w q P R O s) (hs : s < O.length) : ∃ g cap, w.cell? ⟨q, 2, none⟩ = some (.slice (some ⟨g, 0, none⟩) O.length cap) ∧ w.cell? ⟨g, s, none⟩ = some (.int .u8 (O.getD s 0)) := by
  obtain ⟨vp, vn, vo, vs, h⟩ := h
  obtain ⟨g, cap, rfl, _, hc⟩ := own_cell h.out s hs
  rw [ov_at hs] at hc
  exact ⟨g, cap, h.cell2, hc⟩
theorem Ref.goes (h : Ref w q P R O s) (t : Nat) : Ref (w.setCell ⟨q, 3, none⟩ (.int .i64 (t : Int))) q P R O t := by
  obtain ⟨vp, vn, vo, vs, h⟩ := h
  exact ⟨vp, vn, vo, vs, h.goes t⟩

set_option maxRecDepth 100000 in
set_option maxHeartbeats 2000000 in
theorem refstep_any (h : Ref w q P R O s) (hE : mErr P R O = 0) (hs : s < O.length) (l : Nat) (hl : l ≤ 65535) :
    Calls Try.prog 35 #[.pointer (some ⟨q, 0, none⟩), .int .u16 (l : Int)] w fun e w' => e = .returned (.int .u8 (O.getD (stepF R P.length s l) 0)) ∧ Ref w' q P R O (stepF R P.length s l) ∧ w.grownBy w' (some q) := by
  have hz := mErr_zero hE
  have hpl := listF_len hz.1
  have hsR : s < R.length := by have := hz.2.2.1; omega
  have hpow := mErr_pow hE s hsR
  have hll : l % 2 ^ P.length < (R.getD s []).length := by rw [hpow]; exact Nat.mod_lt _ (Nat.two_pow_pos _)
  obtain ⟨t, ht, hyt⟩ := inF_nat (rowsF_in hz.2.2.2.1 hsR hll)
  have hst : stepF R P.length s l = t := by unfold stepF; rw [hyt, Int.toNat_natCast]
  rw [hst]
  have htO : t < O.length := by have := hz.2.2.1; omega
  have hG := Lib.hid (h.goes t)
  obtain ⟨vp, vn, vo, vs, h⟩ := h
  have hk := fun w' (hg : w.grownBy w' none) => h.kept hg
  obtain ⟨gn, cn, rfl, hcn, hcell⟩ := own_cell h.next s hsR
  obtain ⟨u, hu, hr⟩ := h.each s hsR
  rw [hu] at hcell
  obtain ⟨gr, cr, rfl, hcr, hcl⟩ := own_cell hr (l % 2 ^ P.length) hll
  rw [iv_at hll, hyt] at hcl
  obtain ⟨ap, cp, rfl⟩ := own_val h.props
  obtain ⟨go, co, rfl, hco, hco2⟩ := own_cell h.out t htO
  rw [ov_at htO] at hco2
  have c0 := h.cell0
  have c1 := h.cell1
  have c2 := h.cell2
  have c3 := h.cell3
  have hf := h.frozen 3
  have HX : Hid (∀ wx, w.grownBy wx none → ((wx.setCell ⟨q, 3, none⟩ (.int .i64 (t : Int))).cell? ⟨q, 2, none⟩ = some (.slice (some ⟨go, 0, none⟩) O.length co) ∧ (wx.setCell ⟨q, 3, none⟩ (.int .i64 (t : Int))).cell? ⟨q, 3, none⟩ = some (.int .i64 (t : Int)) ∧ (wx.setCell ⟨q, 3, none⟩ (.int .i64 (t : Int))).cell? ⟨go, t, none⟩ = some (.int .u8 (O.getD t 0)) ∧ Ref (wx.setCell ⟨q, 3, none⟩ (.int .i64 (t : Int))) q P R O t)) := Lib.hid fun wx hg => by
    have h2 := (h.kept hg).goes t
    refine ⟨h2.cell2, h2.cell3, ?_, ⟨_, _, _, _, h2⟩⟩
    obtain ⟨g2, c2, hv, _, hc⟩ := own_cell h2.out t htO
    cases hv
    rw [hc, ov_at htO]
  clear h hk hu hr hG
  have hpb : (2 : Nat) ^ P.length ≤ 2 ^ 8 := Nat.pow_le_pow_right (by decide) hpl
  have hsh : wrap64 ((2 : Int) ^ P.length) = ((2 ^ P.length : Nat) : Int) := wrap_pow _ hpl
  have hp8I : (P.length : Int) ≤ 8 := by omega
  have hn2p : 0 < 2 ^ P.length := Nat.two_pow_pos _
  generalize hlen : (R.getD s []).length = m at hll hcl hcr hpow hcell
  generalize 2 ^ P.length = n2 at hsh hll hcl hpow hpb hn2p
  generalize O.getD t 0 = y at hco2 HX ⊢
  have hn2b : ¬ n2 = 0 := by omega
  have htm : Int.tmod (l : Int) (n2 : Int) = ((l % n2 : Nat) : Int) := by rw [Int.tmod_eq_emod_of_nonneg (Int.natCast_nonneg _)]; rfl
  have hidx : ((l % n2 : Nat) : Int) < (m : Int) := by omega
  generalize l % n2 = i at htm hidx hll hcl
  have hsI : (s : Int) < (R.length : Int) := by omega
  have htI : (t : Int) < (O.length : Int) := by omega
  clear hpow hlen hyt ht hE hz hst
  go_enter Try.func35, Try.ntmps35
  go_wp2_with fail
  go_region
  obtain ⟨x2, x3, xo, xr⟩ := HX.out w (gb_refl w none)
  have HR := Lib.hid xr
  have HG : Hid (w.grownBy (w.setCell ⟨q, 3, none⟩ (.int .i64 (t : Int))) (some q)) := Lib.hid gb_set
  generalize w.setCell ⟨q, 3, none⟩ (.int .i64 (t : Int)) = w5 at x2 x3 xo HR HG ⊢
  clear xr c0 c1 c2 c3 hf hcl hcell hco2
  go_wp2_with fail
  go_quiet (fail)
  go_wp2
  go_ret
  exact ⟨rfl, HR.out.kept (gb_trans (gb_drew w5 none) (gb_drewN _ _ none) (Or.inl rfl)), gb_trans HG.out (gb_trans (gb_drew w5 none) (gb_drewN _ _ none) (Or.inl rfl)) (Or.inl rfl)⟩

theorem refgoto_yes (h : Ref w q P R O s) (hl : R.length = O.length) (_hn : O.length ≤ 200000) (t : Nat) (ht : t < O.length) : Calls Try.prog 55 #[.pointer (some ⟨q, 0, none⟩), .int .i64 (t : Int)] w fun e w' => e = .returned (.int .i64 0) ∧ Ref w' q P R O t ∧ w.grownBy w' (some q) := by
  have HG := Lib.hid (h.goes t)
  obtain ⟨vp, vn, vo, vs, h⟩ := h
  have c1 := h.cell1
  have c3 := h.cell3
  have hf := h.frozen 3
  obtain ⟨an, cn, rfl⟩ := own_val h.next
  have htI : ¬ (R.length : Int) ≤ (t : Int) := by omega
  clear h
  go_enter Try.func55, Try.ntmps55
  go_wp2_with fail
  all_goals go_ret
  all_goals exact ⟨rfl, HG.out, gb_set⟩
theorem refgoto_no (h : Ref w q P R O s) (hl : R.length = O.length) (hn : O.length ≤ 200000) (t : Int) (ht : t < 0 ∨ (O.length : Int) ≤ t) : Calls Try.prog 55 #[.pointer (some ⟨q, 0, none⟩), .int .i64 t] w fun e w' => e = .returned (.int .i64 171) ∧ w = w' := by
  obtain ⟨vp, vn, vo, vs, h⟩ := h
  have c1 := h.cell1
  obtain ⟨an, cn, rfl⟩ := own_val h.next
  have ht2 : t < 0 ∨ (R.length : Int) ≤ t := by omega
  clear h ht
  go_enter Try.func55, Try.ntmps55
  rcases ht2 with ht | ht
  · go_wp2_with fail
    all_goals go_ret
    all_goals exact ⟨rfl, rfl⟩
  · go_wp2_with fail
    all_goals go_ret
    all_goals exact ⟨rfl, rfl⟩
end
end Go.Proofs.Ytpehmlkikhkmfaa
