/- Bits: the walk of BitsAlgebra. -/
import Derived.Test.YtaagbdncfcdfcaaBitsForms
import Derived.Test.YtaagbdncfcdfcaaBitsLaw
namespace Go.Proofs.Ytaagbdncfcdfcaa
open Go.RowKit
set_option maxRecDepth 100000 in
set_option maxHeartbeats 8000000 in
theorem algebra_walk (c : Int) (va vb vc : Value) (A B C : List Int) (w : World) (h1 : -9223372036854775808 ≤ c) (h2 : c ≤ 9223372036854775807) (hA : IntsAt w va A) (hB : IntsAt w vb B) (hC : IntsAt w vc C) :
    Calls Try.prog 4 #[.agg #[.int .i64 c, va, vb, vc]] w fun e w' => e = .returned (.bool true) ∧ Below w.heap.size w w' := by
  obtain ⟨xa, ka, rfl, a1, a2, a3⟩ := hA
  obtain ⟨xb, kb, rfl, b1, b2, b3⟩ := hB
  obtain ⟨xc, kc, rfl, c1, c2, c3⟩ := hC
  have HA := Lib.hid (show IntsAt w _ A from ⟨xa, ka, rfl, a1, a2, a3⟩)
  have HB := Lib.hid (show IntsAt w _ B from ⟨xb, kb, rfl, b1, b2, b3⟩)
  have HC := Lib.hid (show IntsAt w _ C from ⟨xc, kc, rfl, c1, c2, c3⟩)
  clear a1 a3 b1 b3 c1 c3
  obtain ⟨Z, hZw⟩ : ∃ Z, Z = w.heap.size := ⟨_, rfl⟩
  have HW := Lib.hid hZw
  by_cases hbig : 5000 < A.length + B.length + C.length
  · have hbig' : (5000 : Int) < (A.length : Int) + B.length + C.length := by omega
    clear hZw
    go_enter Try.func4, Try.ntmps4
    go_wp2_with fail
    go_ret
    exact ⟨rfl, (Below.refl _ _).alloc (Nat.le_refl _) _⟩
  · have hbig' : ¬ (5000 : Int) < (A.length : Int) + B.length + C.length := by omega
    have hn := widthF_le c
    have HF := Lib.hid (@width_any c)
    generalize widthF c = n at hn HF
    clear hZw hbig
    go_enter Try.func4, Try.ntmps4
    go_wp2_with fail
    refine (HF.out _ h1 h2).mono ?_
    rintro e w' ⟨rfl, rfl⟩
    obtain ⟨w1, hw1⟩ : ∃ w1, w1 = w.alloc (.cells #[.int .i64 c, .slice xa A.length ka, .slice xb B.length kb, .slice xc C.length kc] 38) := ⟨_, rfl⟩
    have hG : w.grownBy w1 none := by rw [hw1]; exact World.grownBy_alloc _ _ _
    have hA := HA.out.kept hG
    have hB := HB.out.kept hG
    have hC := HC.out.kept hG
    have hX1 : w1.cell? ⟨Z, 1, none⟩ = some (.slice xa A.length ka) := by rw [hw1, HW.out]; simp
    have hX2 : w1.cell? ⟨Z, 2, none⟩ = some (.slice xb B.length kb) := by rw [hw1, HW.out]; simp
    have hX3 : w1.cell? ⟨Z, 3, none⟩ = some (.slice xc C.length kc) := by rw [hw1, HW.out]; simp
    have hZ : Below Z w w1 := by rw [hw1, HW.out]; exact (Below.refl _ _).alloc (Nat.le_refl _) _
    have hZs : Z ≤ w.heap.size := by rw [HW.out]; exact Nat.le_refl _
    rw [← hw1, ← HW.out]
    clear hw1 hG
    go_wp2_with fail
    refine (of_h n _ A _ hn hA).mono ?_
    rintro e w2 ⟨pa, ga, ca, La, rfl, hpa, hga, ha, HLa, hG⟩
    have bs_a : Z ≤ ga := by have := hZ.size; omega
    have hZ := hZ.grown hG (by have := hZ.size; omega) (fun k e => by cases e)
    clear hpa hga
    have hB := hB.kept hG; have hC := hC.kept hG; have hX2 := hG.cell hX2 (by simp); have hX3 := hG.cell hX3 (by simp); clear hX1 hA hG
    go_wp2_with fail
    refine (of_h n _ B _ hn hB).mono ?_
    rintro e w3 ⟨pb, gb, cb, Lb, rfl, hpb, hgb, hb, HLb, hG⟩
    have nab : ga < gb := by have := ha.glt; omega
    have bs_b : Z ≤ gb := by have := hZ.size; omega
    have hZ := hZ.grown hG (by have := hZ.size; omega) (fun k e => by cases e)
    have ha := ha.kept hG (by simp) (by simp)
    clear hpb hgb
    have hC := hC.kept hG; have hX3 := hG.cell hX3 (by simp); clear hX2 hB hG
    go_wp2_with fail
    refine (of_h n _ C _ hn hC).mono ?_
    rintro e w4 ⟨pc, gc, cc, Lc, rfl, hpc, hgc, hc, HLc, hG⟩
    have nac : ga < gc := by have := ha.glt; omega
    have nbc : gb < gc := by have := hb.glt; omega
    have bs_c : Z ≤ gc := by have := hZ.size; omega
    have hZ := hZ.grown hG (by have := hZ.size; omega) (fun k e => by cases e)
    have ha := ha.kept hG (by simp) (by simp)
    have hb := hb.kept hG (by simp) (by simp)
    clear hpc hgc
    clear hX3 hC hG
    go_wp2_with fail
    refine (copy_h ha).mono ?_
    rintro e w5 ⟨po, go, co, Lo, rfl, hpo, hgo, ho, HLo, hG⟩
    have nao : ga < go := by have := ha.glt; omega
    have nbo : gb < go := by have := hb.glt; omega
    have nco : gc < go := by have := hc.glt; omega
    have bs_o : Z ≤ go := by have := hZ.size; omega
    have hZ := hZ.grown hG (by have := hZ.size; omega) (fun k e => by cases e)
    have ha := ha.kept hG (by simp) (by simp)
    have hb := hb.kept hG (by simp) (by simp)
    have hc := hc.kept hG (by simp) (by simp)
    clear hpo hgo
    clear hG
    go_wp2_with fail
    refine (or_h ho hb (by omega)).mono ?_
    rintro e w6 ⟨Lo1, rfl, zo, HLo1, hG⟩
    have ha := ha.kept hG (fun e => (ha.raw.ne ho.raw) (Option.some.inj e).symm) (by intro e; have := Option.some.inj e; omega)
    have hb := hb.kept hG (fun e => (hb.raw.ne ho.raw) (Option.some.inj e).symm) (by intro e; have := Option.some.inj e; omega)
    have hc := hc.kept hG (fun e => (hc.raw.ne ho.raw) (Option.some.inj e).symm) (by intro e; have := Option.some.inj e; omega)
    have hZ := hZ.grown hG (by have := hZ.size; omega) (fun k e => by cases e; exact bs_o)
    clear ho hG
    have ho := zo
    clear zo
    go_wp2_with fail
    refine (copy_h ha).mono ?_
    rintro e w7 ⟨pd, gd, cd, Ld, rfl, hpd, hgd, hd, HLd, hG⟩
    have nad : ga < gd := by have := ha.glt; omega
    have nbd : gb < gd := by have := hb.glt; omega
    have ncd : gc < gd := by have := hc.glt; omega
    have nod : go < gd := by have := ho.glt; omega
    have bs_d : Z ≤ gd := by have := hZ.size; omega
    have hZ := hZ.grown hG (by have := hZ.size; omega) (fun k e => by cases e)
    have ha := ha.kept hG (by simp) (by simp)
    have hb := hb.kept hG (by simp) (by simp)
    have hc := hc.kept hG (by simp) (by simp)
    have ho := ho.kept hG (by simp) (by simp)
    clear hpd hgd
    clear hG
    go_wp2_with fail
    refine (and_h hd hb (by omega)).mono ?_
    rintro e w8 ⟨Ld1, rfl, zd, HLd1, hG⟩
    have ha := ha.kept hG (fun e => (ha.raw.ne hd.raw) (Option.some.inj e).symm) (by intro e; have := Option.some.inj e; omega)
    have hb := hb.kept hG (fun e => (hb.raw.ne hd.raw) (Option.some.inj e).symm) (by intro e; have := Option.some.inj e; omega)
    have hc := hc.kept hG (fun e => (hc.raw.ne hd.raw) (Option.some.inj e).symm) (by intro e; have := Option.some.inj e; omega)
    have ho := ho.kept hG (fun e => (ho.raw.ne hd.raw) (Option.some.inj e).symm) (by intro e; have := Option.some.inj e; omega)
    have hZ := hZ.grown hG (by have := hZ.size; omega) (fun k e => by cases e; exact bs_d)
    clear hd hG
    have hd := zd
    clear zd
    go_wp2_with fail
    refine (copy_h ha).mono ?_
    rintro e w9 ⟨ps, gs, cs, Ls, rfl, hps, hgs, hs, HLs, hG⟩
    have nas : ga < gs := by have := ha.glt; omega
    have nbs : gb < gs := by have := hb.glt; omega
    have ncs : gc < gs := by have := hc.glt; omega
    have nos : go < gs := by have := ho.glt; omega
    have nds : gd < gs := by have := hd.glt; omega
    have bs_s : Z ≤ gs := by have := hZ.size; omega
    have hZ := hZ.grown hG (by have := hZ.size; omega) (fun k e => by cases e)
    have ha := ha.kept hG (by simp) (by simp)
    have hb := hb.kept hG (by simp) (by simp)
    have hc := hc.kept hG (by simp) (by simp)
    have ho := ho.kept hG (by simp) (by simp)
    have hd := hd.kept hG (by simp) (by simp)
    clear hps hgs
    clear hG
    go_wp2_with fail
    refine (less_h hs hb (by omega)).mono ?_
    rintro e w10 ⟨Ls1, rfl, zs, HLs1, hG⟩
    have ha := ha.kept hG (fun e => (ha.raw.ne hs.raw) (Option.some.inj e).symm) (by intro e; have := Option.some.inj e; omega)
    have hb := hb.kept hG (fun e => (hb.raw.ne hs.raw) (Option.some.inj e).symm) (by intro e; have := Option.some.inj e; omega)
    have hc := hc.kept hG (fun e => (hc.raw.ne hs.raw) (Option.some.inj e).symm) (by intro e; have := Option.some.inj e; omega)
    have ho := ho.kept hG (fun e => (ho.raw.ne hs.raw) (Option.some.inj e).symm) (by intro e; have := Option.some.inj e; omega)
    have hd := hd.kept hG (fun e => (hd.raw.ne hs.raw) (Option.some.inj e).symm) (by intro e; have := Option.some.inj e; omega)
    have hZ := hZ.grown hG (by have := hZ.size; omega) (fun k e => by cases e; exact bs_s)
    clear hs hG
    have hs := zs
    clear zs
    have qa := ha.good
    have qb := hb.good
    have qc := hc.good
    have eo : Lo1 = orL n La Lb := by rw [HLo1.out, HLo.out]
    have ed : Ld1 = andL La Lb := by rw [HLd1.out, HLd.out]
    have es : Ls1 = lessL La Lb := by rw [HLs1.out, HLs.out]
    obtain ⟨ma, Ha, ba'⟩ : ∃ m, Hid (ones La = m) ∧ m ≤ 65600 := ⟨_, rfl, ones_bound qa⟩
    obtain ⟨mb, Hb, bb'⟩ : ∃ m, Hid (ones Lb = m) ∧ m ≤ 65600 := ⟨_, rfl, ones_bound qb⟩
    obtain ⟨mo, Ho, bo'⟩ : ∃ m, Hid (ones Lo1 = m) ∧ m ≤ 65600 := ⟨_, rfl, ones_bound ho.good⟩
    obtain ⟨md, Hd, bd'⟩ : ∃ m, Hid (ones Ld1 = m) ∧ m ≤ 65600 := ⟨_, rfl, ones_bound hd.good⟩
    obtain ⟨ms, Hs, bs'⟩ : ∃ m, Hid (ones Ls1 = m) ∧ m ≤ 65600 := ⟨_, rfl, ones_bound hs.good⟩
    have e1 : mo + md = ma + mb := by
      have := law_or_and qa qb
      rw [← eo, ← ed, Ho.out, Hd.out, Ha.out, Hb.out] at this; exact this
    have e2 : ms + md = ma := by
      have := law_less_and qa qb
      rw [← es, ← ed, Hs.out, Hd.out, Ha.out] at this; exact this
    have t1 : ((mo : Int) + md != (ma : Int) + mb) = false := by rw [bne_eq_false_iff_eq]; omega
    have t2 : ((ms : Int) + md != (ma : Int)) = false := by rw [bne_eq_false_iff_eq]; omega
    have i1 : Hid (withinL Ld1 La = true) := by show withinL Ld1 La = true; rw [ed]; exact law_and_in qa
    have i2 : Hid (withinL La Lo1 = true) := by show withinL La Lo1 = true; rw [eo]; exact law_in_or qa qb
    have i3 : Hid (withinL Ls1 La = true) := by show withinL Ls1 La = true; rw [es]; exact law_less_in qa qb
    have Eo := Lib.hid eo
    have Ed := Lib.hid ed
    have Es := Lib.hid es
    clear e1 e2 eo ed es
    go_wp2_with fail
    refine (len_h ho _ Ho).mono ?_
    rintro e w' ⟨rfl, rfl⟩
    go_wp2_with fail
    refine (len_h hd _ Hd).mono ?_
    rintro e w' ⟨rfl, rfl⟩
    go_wp2_with fail
    refine (len_h ha _ Ha).mono ?_
    rintro e w' ⟨rfl, rfl⟩
    go_wp2_with fail
    refine (len_h hb _ Hb).mono ?_
    rintro e w' ⟨rfl, rfl⟩
    go_wp2_with fail
    refine (len_h hs _ Hs).mono ?_
    rintro e w' ⟨rfl, rfl⟩
    go_wp2_with fail
    refine (len_h hd _ Hd).mono ?_
    rintro e w' ⟨rfl, rfl⟩
    go_wp2_with fail
    refine (len_h ha _ Ha).mono ?_
    rintro e w' ⟨rfl, rfl⟩
    go_wp2_with fail
    refine (within_h hd ha _ i1).mono ?_
    rintro e w' ⟨rfl, rfl⟩
    go_wp2_with fail
    refine (within_h ha ho _ i2).mono ?_
    rintro e w' ⟨rfl, rfl⟩
    go_wp2_with fail
    refine (within_h hs ha _ i3).mono ?_
    rintro e w' ⟨rfl, rfl⟩
    clear t1 t2 i1 i2 i3 Ha Hb Ho Hd Hs ba' bb' bo' bd' bs'
    go_wp2_with fail
    refine (copy_h ho).mono ?_
    rintro e w11 ⟨px, gx, cx, Lx, rfl, hpx, hgx, hx, HLx, hG⟩
    have nax : ga < gx := by have := ha.glt; omega
    have nbx : gb < gx := by have := hb.glt; omega
    have ncx : gc < gx := by have := hc.glt; omega
    have nox : go < gx := by have := ho.glt; omega
    have ndx : gd < gx := by have := hd.glt; omega
    have nsx : gs < gx := by have := hs.glt; omega
    have bs_x : Z ≤ gx := by have := hZ.size; omega
    have hZ := hZ.grown hG (by have := hZ.size; omega) (fun k e => by cases e)
    have ha := ha.kept hG (by simp) (by simp)
    have hb := hb.kept hG (by simp) (by simp)
    have hc := hc.kept hG (by simp) (by simp)
    have ho := ho.kept hG (by simp) (by simp)
    have hd := hd.kept hG (by simp) (by simp)
    have hs := hs.kept hG (by simp) (by simp)
    clear hpx hgx
    clear hG
    go_wp2_with fail
    refine (and_h hx hc (by omega)).mono ?_
    rintro e w12 ⟨Lx1, rfl, zx, HLx1, hG⟩
    have ha := ha.kept hG (fun e => (ha.raw.ne hx.raw) (Option.some.inj e).symm) (by intro e; have := Option.some.inj e; omega)
    have hb := hb.kept hG (fun e => (hb.raw.ne hx.raw) (Option.some.inj e).symm) (by intro e; have := Option.some.inj e; omega)
    have hc := hc.kept hG (fun e => (hc.raw.ne hx.raw) (Option.some.inj e).symm) (by intro e; have := Option.some.inj e; omega)
    have ho := ho.kept hG (fun e => (ho.raw.ne hx.raw) (Option.some.inj e).symm) (by intro e; have := Option.some.inj e; omega)
    have hd := hd.kept hG (fun e => (hd.raw.ne hx.raw) (Option.some.inj e).symm) (by intro e; have := Option.some.inj e; omega)
    have hs := hs.kept hG (fun e => (hs.raw.ne hx.raw) (Option.some.inj e).symm) (by intro e; have := Option.some.inj e; omega)
    have hZ := hZ.grown hG (by have := hZ.size; omega) (fun k e => by cases e; exact bs_x)
    clear hx hG
    have hx := zx
    clear zx
    clear ho
    go_wp2_with fail
    refine (copy_h ha).mono ?_
    rintro e w13 ⟨py, gy, cy, Ly, rfl, hpy, hgy, hy, HLy, hG⟩
    have nay : ga < gy := by have := ha.glt; omega
    have nby : gb < gy := by have := hb.glt; omega
    have ncy : gc < gy := by have := hc.glt; omega
    have ndy : gd < gy := by have := hd.glt; omega
    have nsy : gs < gy := by have := hs.glt; omega
    have nxy : gx < gy := by have := hx.glt; omega
    have bs_y : Z ≤ gy := by have := hZ.size; omega
    have hZ := hZ.grown hG (by have := hZ.size; omega) (fun k e => by cases e)
    have ha := ha.kept hG (by simp) (by simp)
    have hb := hb.kept hG (by simp) (by simp)
    have hc := hc.kept hG (by simp) (by simp)
    have hd := hd.kept hG (by simp) (by simp)
    have hs := hs.kept hG (by simp) (by simp)
    have hx := hx.kept hG (by simp) (by simp)
    clear hpy hgy
    clear hG
    go_wp2_with fail
    refine (and_h hy hc (by omega)).mono ?_
    rintro e w14 ⟨Ly1, rfl, zy, HLy1, hG⟩
    have ha := ha.kept hG (fun e => (ha.raw.ne hy.raw) (Option.some.inj e).symm) (by intro e; have := Option.some.inj e; omega)
    have hb := hb.kept hG (fun e => (hb.raw.ne hy.raw) (Option.some.inj e).symm) (by intro e; have := Option.some.inj e; omega)
    have hc := hc.kept hG (fun e => (hc.raw.ne hy.raw) (Option.some.inj e).symm) (by intro e; have := Option.some.inj e; omega)
    have hd := hd.kept hG (fun e => (hd.raw.ne hy.raw) (Option.some.inj e).symm) (by intro e; have := Option.some.inj e; omega)
    have hs := hs.kept hG (fun e => (hs.raw.ne hy.raw) (Option.some.inj e).symm) (by intro e; have := Option.some.inj e; omega)
    have hx := hx.kept hG (fun e => (hx.raw.ne hy.raw) (Option.some.inj e).symm) (by intro e; have := Option.some.inj e; omega)
    have hZ := hZ.grown hG (by have := hZ.size; omega) (fun k e => by cases e; exact bs_y)
    clear hy hG
    have hy := zy
    clear zy
    go_wp2_with fail
    refine (copy_h hb).mono ?_
    rintro e w15 ⟨pz, gz, cz, Lz, rfl, hpz, hgz, hz, HLz, hG⟩
    have naz : ga < gz := by have := ha.glt; omega
    have nbz : gb < gz := by have := hb.glt; omega
    have ncz : gc < gz := by have := hc.glt; omega
    have ndz : gd < gz := by have := hd.glt; omega
    have nsz : gs < gz := by have := hs.glt; omega
    have nxz : gx < gz := by have := hx.glt; omega
    have nyz : gy < gz := by have := hy.glt; omega
    have bs_z : Z ≤ gz := by have := hZ.size; omega
    have hZ := hZ.grown hG (by have := hZ.size; omega) (fun k e => by cases e)
    have ha := ha.kept hG (by simp) (by simp)
    have hb := hb.kept hG (by simp) (by simp)
    have hc := hc.kept hG (by simp) (by simp)
    have hd := hd.kept hG (by simp) (by simp)
    have hs := hs.kept hG (by simp) (by simp)
    have hx := hx.kept hG (by simp) (by simp)
    have hy := hy.kept hG (by simp) (by simp)
    clear hpz hgz
    clear hG
    go_wp2_with fail
    refine (and_h hz hc (by omega)).mono ?_
    rintro e w16 ⟨Lz1, rfl, zz, HLz1, hG⟩
    have ha := ha.kept hG (fun e => (ha.raw.ne hz.raw) (Option.some.inj e).symm) (by intro e; have := Option.some.inj e; omega)
    have hb := hb.kept hG (fun e => (hb.raw.ne hz.raw) (Option.some.inj e).symm) (by intro e; have := Option.some.inj e; omega)
    have hc := hc.kept hG (fun e => (hc.raw.ne hz.raw) (Option.some.inj e).symm) (by intro e; have := Option.some.inj e; omega)
    have hd := hd.kept hG (fun e => (hd.raw.ne hz.raw) (Option.some.inj e).symm) (by intro e; have := Option.some.inj e; omega)
    have hs := hs.kept hG (fun e => (hs.raw.ne hz.raw) (Option.some.inj e).symm) (by intro e; have := Option.some.inj e; omega)
    have hx := hx.kept hG (fun e => (hx.raw.ne hz.raw) (Option.some.inj e).symm) (by intro e; have := Option.some.inj e; omega)
    have hy := hy.kept hG (fun e => (hy.raw.ne hz.raw) (Option.some.inj e).symm) (by intro e; have := Option.some.inj e; omega)
    have hZ := hZ.grown hG (by have := hZ.size; omega) (fun k e => by cases e; exact bs_z)
    clear hz hG
    have hz := zz
    clear zz
    clear hc
    go_wp2_with fail
    refine (or_h hy hz (by omega)).mono ?_
    rintro e w17 ⟨Ly2, rfl, zy, HLy2, hG⟩
    have ha := ha.kept hG (fun e => (ha.raw.ne hy.raw) (Option.some.inj e).symm) (by intro e; have := Option.some.inj e; omega)
    have hb := hb.kept hG (fun e => (hb.raw.ne hy.raw) (Option.some.inj e).symm) (by intro e; have := Option.some.inj e; omega)
    have hd := hd.kept hG (fun e => (hd.raw.ne hy.raw) (Option.some.inj e).symm) (by intro e; have := Option.some.inj e; omega)
    have hs := hs.kept hG (fun e => (hs.raw.ne hy.raw) (Option.some.inj e).symm) (by intro e; have := Option.some.inj e; omega)
    have hx := hx.kept hG (fun e => (hx.raw.ne hy.raw) (Option.some.inj e).symm) (by intro e; have := Option.some.inj e; omega)
    have hz := hz.kept hG (fun e => (hz.raw.ne hy.raw) (Option.some.inj e).symm) (by intro e; have := Option.some.inj e; omega)
    have hZ := hZ.grown hG (by have := hZ.size; omega) (fun k e => by cases e; exact bs_y)
    clear hy hG
    have hy := zy
    clear zy
    clear hz
    go_wp2_with fail
    refine (copy_h hd).mono ?_
    rintro e w18 ⟨pv, gv, cv, Lv, rfl, hpv, hgv, hv, HLv, hG⟩
    have nav : ga < gv := by have := ha.glt; omega
    have nbv : gb < gv := by have := hb.glt; omega
    have ndv : gd < gv := by have := hd.glt; omega
    have nsv : gs < gv := by have := hs.glt; omega
    have nxv : gx < gv := by have := hx.glt; omega
    have nyv : gy < gv := by have := hy.glt; omega
    have bs_v : Z ≤ gv := by have := hZ.size; omega
    have hZ := hZ.grown hG (by have := hZ.size; omega) (fun k e => by cases e)
    have ha := ha.kept hG (by simp) (by simp)
    have hb := hb.kept hG (by simp) (by simp)
    have hd := hd.kept hG (by simp) (by simp)
    have hs := hs.kept hG (by simp) (by simp)
    have hx := hx.kept hG (by simp) (by simp)
    have hy := hy.kept hG (by simp) (by simp)
    clear hpv hgv
    clear hG
    clear hd
    go_wp2_with fail
    refine (or_h hv hs (by omega)).mono ?_
    rintro e w19 ⟨Lv1, rfl, zv, HLv1, hG⟩
    have ha := ha.kept hG (fun e => (ha.raw.ne hv.raw) (Option.some.inj e).symm) (by intro e; have := Option.some.inj e; omega)
    have hb := hb.kept hG (fun e => (hb.raw.ne hv.raw) (Option.some.inj e).symm) (by intro e; have := Option.some.inj e; omega)
    have hs := hs.kept hG (fun e => (hs.raw.ne hv.raw) (Option.some.inj e).symm) (by intro e; have := Option.some.inj e; omega)
    have hx := hx.kept hG (fun e => (hx.raw.ne hv.raw) (Option.some.inj e).symm) (by intro e; have := Option.some.inj e; omega)
    have hy := hy.kept hG (fun e => (hy.raw.ne hv.raw) (Option.some.inj e).symm) (by intro e; have := Option.some.inj e; omega)
    have hZ := hZ.grown hG (by have := hZ.size; omega) (fun k e => by cases e; exact bs_v)
    clear hv hG
    have hv := zv
    clear zv
    go_wp2_with fail
    refine (and_h hs hb (by omega)).mono ?_
    rintro e w20 ⟨Ls2, rfl, zs, HLs2, hG⟩
    have ha := ha.kept hG (fun e => (ha.raw.ne hs.raw) (Option.some.inj e).symm) (by intro e; have := Option.some.inj e; omega)
    have hb := hb.kept hG (fun e => (hb.raw.ne hs.raw) (Option.some.inj e).symm) (by intro e; have := Option.some.inj e; omega)
    have hx := hx.kept hG (fun e => (hx.raw.ne hs.raw) (Option.some.inj e).symm) (by intro e; have := Option.some.inj e; omega)
    have hy := hy.kept hG (fun e => (hy.raw.ne hs.raw) (Option.some.inj e).symm) (by intro e; have := Option.some.inj e; omega)
    have hv := hv.kept hG (fun e => (hv.raw.ne hs.raw) (Option.some.inj e).symm) (by intro e; have := Option.some.inj e; omega)
    have hZ := hZ.grown hG (by have := hZ.size; omega) (fun k e => by cases e; exact bs_s)
    clear hs hG
    have hs := zs
    clear zs
    have j1 : Hid ((n == n && Lx1 == Ly2) = true) := by
      show (n == n && Lx1 == Ly2) = true
      have : Lx1 = Ly2 := by rw [HLx1.out, HLx.out, HLy2.out, HLy1.out, HLy.out, HLz1.out, HLz.out, Eo.out]; exact law_dist qa qb
      simp [this]
    have j2 : Hid ((n == n && Lv1 == La) = true) := by
      show (n == n && Lv1 == La) = true
      have : Lv1 = La := by rw [HLv1.out, HLv.out, Ed.out, Es.out]; exact law_whole qa qb
      simp [this]
    have j3 : Hid (ones Ls2 = 0) := by
      show ones Ls2 = 0
      rw [HLs2.out, Es.out]; exact law_none qa qb
    have t3 : (((0 : Nat) : Int) == 0) = true := rfl
    go_wp2_with fail
    refine (same_h hx hy _ j1).mono ?_
    rintro e w21 ⟨rfl, hG⟩
    have hZ := hZ.grown hG (by have := hZ.size; omega) (fun k e => by cases e)
    have ha := ha.kept hG (by simp) (by simp)
    have hb := hb.kept hG (by simp) (by simp)
    have hs := hs.kept hG (by simp) (by simp)
    have hx := hx.kept hG (by simp) (by simp)
    have hy := hy.kept hG (by simp) (by simp)
    have hv := hv.kept hG (by simp) (by simp)
    clear hG
    go_wp2_with fail
    refine (same_h hv ha _ j2).mono ?_
    rintro e w22 ⟨rfl, hG⟩
    have hZ := hZ.grown hG (by have := hZ.size; omega) (fun k e => by cases e)
    have ha := ha.kept hG (by simp) (by simp)
    have hb := hb.kept hG (by simp) (by simp)
    have hs := hs.kept hG (by simp) (by simp)
    have hx := hx.kept hG (by simp) (by simp)
    have hy := hy.kept hG (by simp) (by simp)
    have hv := hv.kept hG (by simp) (by simp)
    clear hG
    go_wp2_with fail
    refine (len_h hs _ j3).mono ?_
    rintro e w' ⟨rfl, rfl⟩
    clear j1 j2 j3
    obtain ⟨sa, Hsa⟩ : ∃ s, Hid (keyS n La = s) := ⟨_, rfl⟩
    obtain ⟨sb, Hsb⟩ : ∃ s, Hid (keyS n Lb = s) := ⟨_, rfl⟩
    go_wp2_with fail
    refine (key_h ha _ Hsa).mono ?_
    rintro e w23 ⟨rfl, hG⟩
    have hZ := hZ.grown hG (by have := hZ.size; omega) (fun k e => by cases e)
    have ha := ha.kept hG (by simp) (by simp)
    have hb := hb.kept hG (by simp) (by simp)
    have hs := hs.kept hG (by simp) (by simp)
    have hx := hx.kept hG (by simp) (by simp)
    have hy := hy.kept hG (by simp) (by simp)
    have hv := hv.kept hG (by simp) (by simp)
    clear hG
    go_wp2_with fail
    refine (key_h hb _ Hsb).mono ?_
    rintro e w24 ⟨rfl, hG⟩
    have hZ := hZ.grown hG (by have := hZ.size; omega) (fun k e => by cases e)
    have ha := ha.kept hG (by simp) (by simp)
    have hb := hb.kept hG (by simp) (by simp)
    have hs := hs.kept hG (by simp) (by simp)
    have hx := hx.kept hG (by simp) (by simp)
    have hy := hy.kept hG (by simp) (by simp)
    have hv := hv.kept hG (by simp) (by simp)
    clear hG
    by_cases hab : La = Lb
    · have hss : sa = sb := by rw [← Hsa.out, ← Hsb.out, hab]
      have r1 : Hid ((n == n && La == Lb) = true) := by show (n == n && La == Lb) = true; simp [hab]
      have r2 : Hid (withinL La Lb = true) := by show withinL La Lb = true; rw [hab]; exact law_within_self qb
      have r3 : Hid (withinL Lb La = true) := by show withinL Lb La = true; rw [hab]; exact law_within_self qb
      subst hss
      clear hab

      go_wp2_with fail
      refine (same_h ha hb _ r1).mono ?_
      rintro e w25 ⟨rfl, hG⟩
      have hZ := hZ.grown hG (by have := hZ.size; omega) (fun k e => by cases e)
      have ha := ha.kept hG (by simp) (by simp)
      have hb := hb.kept hG (by simp) (by simp)
      have hs := hs.kept hG (by simp) (by simp)
      have hx := hx.kept hG (by simp) (by simp)
      have hy := hy.kept hG (by simp) (by simp)
      have hv := hv.kept hG (by simp) (by simp)
      clear hG
      go_wp2_with fail
      refine (same_h ha hb _ r1).mono ?_
      rintro e w26 ⟨rfl, hG⟩
      have hZ := hZ.grown hG (by have := hZ.size; omega) (fun k e => by cases e)
      have ha := ha.kept hG (by simp) (by simp)
      have hb := hb.kept hG (by simp) (by simp)
      have hs := hs.kept hG (by simp) (by simp)
      have hx := hx.kept hG (by simp) (by simp)
      have hy := hy.kept hG (by simp) (by simp)
      have hv := hv.kept hG (by simp) (by simp)
      clear hG
      go_wp2_with fail
      refine (within_h ha hb _ r2).mono ?_
      rintro e w' ⟨rfl, rfl⟩
      go_wp2_with fail
      refine (within_h hb ha _ r3).mono ?_
      rintro e w' ⟨rfl, rfl⟩
      go_wp2_with fail
      go_ret
      rw [← HW.out]
      exact ⟨rfl, hZ⟩
    · have hss : sa ≠ sb := by
        intro e
        exact hab (keyS_inj qa qb (by rw [Hsa.out, Hsb.out, e]))
      have r1 : Hid ((n == n && La == Lb) = false) := by show (n == n && La == Lb) = false; simp [hab]
      have hs1 : (sa.toList == sb.toList) = false := by
        rw [beq_eq_false_iff_ne]
        intro e
        rw [ByteArray.toList_eq, ByteArray.toList_eq] at e
        apply hss
        cases sa; cases sb
        simp at e
        rw [e]
      cases r2' : withinL La Lb with
      | true =>
        have r2 : Hid (withinL La Lb = true) := r2'
        have r3 : Hid (withinL Lb La = false) := by
          show withinL Lb La = false
          cases r3' : withinL Lb La with
          | false => rfl
          | true => exact absurd (law_within_eq qa qb r2' r3') hab
        clear r2' hab hss
        go_wp2_with fail
        refine (same_h ha hb _ r1).mono ?_
        rintro e w27 ⟨rfl, hG⟩
        have hZ := hZ.grown hG (by have := hZ.size; omega) (fun k e => by cases e)
        have ha := ha.kept hG (by simp) (by simp)
        have hb := hb.kept hG (by simp) (by simp)
        have hs := hs.kept hG (by simp) (by simp)
        have hx := hx.kept hG (by simp) (by simp)
        have hy := hy.kept hG (by simp) (by simp)
        have hv := hv.kept hG (by simp) (by simp)
        clear hG
        go_wp2_with fail
        refine (same_h ha hb _ r1).mono ?_
        rintro e w28 ⟨rfl, hG⟩
        have hZ := hZ.grown hG (by have := hZ.size; omega) (fun k e => by cases e)
        have ha := ha.kept hG (by simp) (by simp)
        have hb := hb.kept hG (by simp) (by simp)
        have hs := hs.kept hG (by simp) (by simp)
        have hx := hx.kept hG (by simp) (by simp)
        have hy := hy.kept hG (by simp) (by simp)
        have hv := hv.kept hG (by simp) (by simp)
        clear hG
        go_wp2_with fail
        refine (within_h ha hb _ r2).mono ?_
        rintro e w' ⟨rfl, rfl⟩
        go_wp2_with fail
        refine (within_h hb ha _ r3).mono ?_
        rintro e w' ⟨rfl, rfl⟩
        go_wp2_with fail
        go_ret
        rw [← HW.out]
        exact ⟨rfl, hZ⟩
      | false =>
        have r2 : Hid (withinL La Lb = false) := r2'
        clear r2' hab hss
        go_wp2_with fail
        refine (same_h ha hb _ r1).mono ?_
        rintro e w29 ⟨rfl, hG⟩
        have hZ := hZ.grown hG (by have := hZ.size; omega) (fun k e => by cases e)
        have ha := ha.kept hG (by simp) (by simp)
        have hb := hb.kept hG (by simp) (by simp)
        have hs := hs.kept hG (by simp) (by simp)
        have hx := hx.kept hG (by simp) (by simp)
        have hy := hy.kept hG (by simp) (by simp)
        have hv := hv.kept hG (by simp) (by simp)
        clear hG
        go_wp2_with fail
        refine (same_h ha hb _ r1).mono ?_
        rintro e w30 ⟨rfl, hG⟩
        have hZ := hZ.grown hG (by have := hZ.size; omega) (fun k e => by cases e)
        have ha := ha.kept hG (by simp) (by simp)
        have hb := hb.kept hG (by simp) (by simp)
        have hs := hs.kept hG (by simp) (by simp)
        have hx := hx.kept hG (by simp) (by simp)
        have hy := hy.kept hG (by simp) (by simp)
        have hv := hv.kept hG (by simp) (by simp)
        clear hG
        go_wp2_with fail
        refine (within_h ha hb _ r2).mono ?_
        rintro e w' ⟨rfl, rfl⟩
        go_wp2_with fail
        go_ret
        rw [← HW.out]
        exact ⟨rfl, hZ⟩
end Go.Proofs.Ytaagbdncfcdfcaa
