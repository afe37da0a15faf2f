/- The book: lists of yes and no, marked, grown, looked at. -/
import Derived.Test.YtcdepblajobemaaBuilds19
set_option maxRecDepth 100000
namespace Go.Proofs.Ytcdepblajobemaa
open Go.RowKit

theorem Try.infoBools : (Try.prog.info? 25).map (fun i => (i.zero, i.size, i.bytes)) = some (some (.slice none 0 0), 1, 24) := by kernel_rfl
def mkB (i k : Nat) : Value := .bool (((i : Int) + (k : Int)).tmod 2 == 0)
def mgB (i k : Nat) : Value := .bool (((i : Int) + (k : Int)).tmod 2 != 0)
set_option maxRecDepth 100000 in
set_option maxHeartbeats 8000000 in
theorem own_bools {w : World} {Y : Nat} {lv : Value} {vs : List Value} {ns : Nat → Nat} (hl : w.ownsRow Y 25 1 lv vs.length vs) (hP : OwnP1 w Y 4 vs ns mkB 0 0) (hn : ∀ i, i < vs.length → ns i ≤ 1000000) (hm : vs.length ≤ 2) (hYw : Y ≤ w.heap.size) :
    Calls Try.prog 81 #[lv] w fun e w' => e = .returned (.bool true) ∧ Only 4 Y w w' := by
  have HL := Lib.hid hl
  have HP := Lib.hid hP
  have HN := Lib.hid hn
  obtain ⟨al, cl, rfl⟩ := own_val hl
  obtain ⟨i0, hi0, hz0a, hz1a, hz2a⟩ := info_parts Try.info4
  obtain ⟨i1, hi1, hz0b, hz1b, hz2b⟩ := info_parts Try.infoBools
  clear hl hP hn
  go_enter Try.func81, Try.ntmps81
  go_wp2_with fail
  go_loopw [3] (fun b wr => ∃ (bn : Nat), bn ≤ 1 ∧ b = .int .i64 (bn : Int) ∧ (bn = 0 → Hid (OwnP1 wr Y 4 vs ns mkB 0 0) ∧ Hid (wr.ownsRow Y 25 1 (.slice al vs.length cl) vs.length vs)) ∧ Hid (Only 4 Y w wr)) (fun b _ => 1 - (intOf b).toNat)
  case atStart => exact ⟨0, by omega, rfl, fun _ => ⟨HP, HL⟩, Lib.hid (Only.refl _ _ _)⟩
  case round =>
    obtain ⟨bn, hbn, rfl, HPL, HBb⟩ := hrel
    rcases (show bn = 0 ∨ bn = 1 by omega) with rfl | rfl
    case inr =>
      have hl2 : ¬ (2 : Int) < (vs.length : Int) := by omega
      go_wp2_with fail
      go_ret
      exact ⟨rfl, HBb.out⟩
    case inl =>
      obtain ⟨HPb, HLb⟩ := HPL rfl
      clear HPL HL
      go_wp2_with fail
      go_loopw [4] (fun i wr => ∃ (I : Nat), I ≤ vs.length ∧ i = .int .i64 (I : Int) ∧ Hid (OwnP1 wr Y 4 vs ns mkB I 0) ∧ Hid (wr.ownsRow Y 25 1 (.slice al vs.length cl) vs.length vs) ∧ Hid (Only 4 Y w wr)) (fun i _ => vs.length - (intOf i).toNat)
      case atStart => exact ⟨0, by omega, rfl, HPb, HLb, HBb⟩
      case round =>
        obtain ⟨I, hI, rfl, HP1, HL1, HB1⟩ := hrel
        by_cases hlt : I < vs.length
        · have hltI : (I : Int) < (vs.length : Int) := by omega
          have hnI := HN.out I hlt
          go_wp2_with fail
          go_loopw [5] (fun i wr => ∃ (K : Nat), K ≤ ns I ∧ i = .int .i64 (K : Int) ∧ Hid (OwnP1 wr Y 4 vs ns mkB I K) ∧ Hid (wr.ownsRow Y 25 1 (.slice al vs.length cl) vs.length vs) ∧ Hid (Only 4 Y w wr)) (fun i _ => ns I - (intOf i).toNat)
          case atStart => exact ⟨0, by omega, rfl, HP1, HL1, HB1⟩
          case round =>
            obtain ⟨K, hK, rfl, HP2, HL2, HB2⟩ := hrel
            obtain ⟨g1, c1, hv1, _, hc1⟩ := own_cell HL2.out I hlt
            cases hv1
            rw [show vs[I]? = some (vs.getD I default) by rw [List.getD_eq_getElem?_getD, List.getElem?_eq_getElem hlt]; rfl] at hc1
            by_cases hlk : K < ns I
            · have hltK : (K : Int) < (ns I : Int) := by omega
              obtain ⟨g, cap, _, hv, _⟩ := HP2.out.store hlt hlk
              have HSt : Hid (∀ wx, wr.grownBy wx none → (∃ u, wx.cell? ⟨g, K, none⟩ = some u) ∧ wx.frozen? ⟨g, K, none⟩ = false ∧
                  Hid (OwnP1 (wx.setCell ⟨g, K, none⟩ (mkB I K)) Y 4 vs ns mkB I (K + 1) ∧ (wx.setCell ⟨g, K, none⟩ (mkB I K)).ownsRow Y 25 1 (.slice (some ⟨g1, 0, none⟩) vs.length cl) vs.length vs ∧ Only 4 Y w (wx.setCell ⟨g, K, none⟩ (mkB I K)))) := Lib.hid fun wx hg => by
                obtain ⟨g', cap', u', hv', hc', hf', hP3, hg3, hYg, cg, hbg⟩ := (HP2.out.kept hg).store hlt hlk
                rw [hv] at hv'
                cases hv'
                have hLx := HL2.out.kept hg (Classical.em _)
                have hYr : Y ≤ wr.heap.size := Nat.le_trans hYw HB2.out.bel.size
                exact ⟨⟨_, hc'⟩, hf', Lib.hid ⟨hP3, hLx.kept hg3 (own_off hLx hbg (by decide)), (HB2.out.grown hg hYr (fun _ e => by cases e)).grown hg3 (Nat.le_trans hYr hg.size) (fun _ e => by cases e; exact ⟨hYg, Or.inr ⟨_, _, hbg⟩⟩)⟩⟩
              unfold mkB at HSt
              rw [hv] at hc1
              have hg1' := gb_drew wr none
              obtain ⟨⟨u0, hu0⟩, hf, HEnd⟩ := HSt.out _ hg1'
              clear hv
              go_wp2_with fail
              go_region
              all_goals go_wp2_with fail
              all_goals exact ⟨⟨K + 1, by omega, by go_num, Lib.hid HEnd.out.1, Lib.hid HEnd.out.2.1, Lib.hid HEnd.out.2.2⟩, by simp [intOf]; omega⟩
            · obtain rfl : K = ns I := by omega
              have hltK : ¬ ((ns I : Int) < (ns I : Int)) := by omega
              obtain ⟨a, cap, hv⟩ := HP2.out.at hlt
              rw [hv] at hc1
              go_wp2_with fail
              exact ⟨⟨I + 1, by omega, by go_num, Lib.hid HP2.out.next, HL2, HB2⟩, by simp [intOf]; omega⟩
        · obtain rfl : I = vs.length := by omega
          have hltI : ¬ ((vs.length : Int) < (vs.length : Int)) := by omega
          go_wp2_with fail
          have HQ0 : Hid (OwnP2 wr Y 4 vs ns mkB mgB []) := Lib.hid HP1.out.turn
          have HZ : Hid (Y ≤ wr.heap.size ∧ w.heap.size ≤ wr.heap.size) := Lib.hid ⟨Nat.le_trans hYw HB1.out.bel.size, HB1.out.bel.size⟩
          have HGl : Hid (∀ b, (Value.slice al vs.length cl).ownBlock = some b → b < wr.heap.size) := Lib.hid fun b hb => (HL1.out.lt b hb).2
          have hz0 : wr.heap.size ≤ wr.heap.size := Nat.le_refl _
          generalize hZ : wr.heap.size = Z at HZ HGl hz0
          clear HP1 HPb HP hI hlt
          go_loopw [7, 6] (fun i lg wr => ∃ (I : Nat) (ls : List Value), I ≤ vs.length ∧ i = .int .i64 (I : Int) ∧ ls.length = I ∧ wr.ownsRow Z 25 1 lg I ls ∧ Hid (OwnP2 wr Y 4 vs ns mkB mgB ls) ∧ Hid (wr.ownsRow Y 25 1 (.slice al vs.length cl) vs.length vs) ∧ Hid (Only 4 Y w wr) ∧ Z ≤ wr.heap.size) (fun i _ _ => vs.length - (intOf i).toNat)
          case atStart => exact ⟨0, [], by omega, rfl, rfl, World.ownsRow_nil _ _ _ _, HQ0, HL1, HB1, by omega⟩
          case round =>
            obtain ⟨I, ls, hI, rfl, hll, hown, HQ, HL, HB, hz⟩ := hrel
            obtain ⟨ag, cg, rfl⟩ := own_val hown
            by_cases hlt : I < vs.length
            · have hltI : (I : Int) < (vs.length : Int) := by omega
              have hnI := HN.out I hlt
              obtain ⟨g1, c1, hv1, _, hc1⟩ := own_cell HL.out I hlt
              cases hv1
              rw [show vs[I]? = some (vs.getD I default) by rw [List.getD_eq_getElem?_getD, List.getElem?_eq_getElem hlt]; rfl] at hc1
              have hX0 := HQ.out.begin (by omega)
              rw [hll] at hX0
              obtain ⟨a0, c0, hv0⟩ : ∃ a0 c0, vs.getD I default = .slice a0 (ns I) c0 := by
                obtain ⟨xs, h1, _⟩ := HQ.out.rows I hlt
                exact own_val h1
              rw [hv0] at hX0 hc1
              have HX0 := Lib.hid hX0
              have HOwn := Lib.hid hown
              clear hX0 hown
              go_wp2_with fail
              go_loopw [8, 9] (fun x k wr => ∃ (K : Nat), K ≤ 16 ∧ k = .int .i64 (K : Int) ∧ Hid (OwnX wr Y 4 vs ns mkB mgB ls x K) ∧ Hid (wr.ownsRow Z 25 1 (.slice ag I cg) I ls) ∧ Hid (wr.ownsRow Y 25 1 (.slice (some ⟨g1, 0, none⟩) vs.length cl) vs.length vs) ∧ Hid (Only 4 Y w wr) ∧ Z ≤ wr.heap.size) (fun _ k _ => 16 - (intOf k).toNat)
              case atStart => exact ⟨0, by omega, rfl, HX0, HOwn, HL, HB, hz⟩
              case round =>
                obtain ⟨K, hK, rfl, HX, HOw, HLr, HBr, hzr⟩ := hrel
                obtain ⟨ax, cx, rfl⟩ := HX.out.val
                have hYr : Y ≤ wr.heap.size := Nat.le_trans HZ.out.1 hzr
                rw [hll]
                by_cases hlk : K < 16
                · have hltK : (K : Int) < 16 := by omega
                  obtain ⟨xs, hx, hxm, hxq⟩ := HX.out.row
                  have hga := World.grownBy_alloc wr (.cells #[.bool (((I : Int) + (K : Int)).tmod 2 != 0)] 4) none
                  have hxa := hx.kept hga (Classical.em _)
                  rw [hll] at hxa
                  have HXA := Lib.hid hxa
                  clear hxa
                  go_wp2_with (at_builtin; (refine wpList_append_keeps _ rfl (.tmp 67) (.tmp 75) 25 rfl Y 4 i0 (.bool false) 1 1 Try.underlying25 hi0 hz0a hz1a hz2a rfl (by decide) (.slice ax (ns I + K) cx) (ns I + K) xs rfl HXA.out ⟨wr.heap.size, 0, none⟩ 1 1 [.bool (((I : Int) + (K : Int)).tmod 2 != 0)] rfl rfl (cell_one_new _ _ _) (by simp [Value.oneCell']) (by decide) (by unfold maxLen; omega) (by omega) (by rw [World.size_alloc]; omega) ?_; intro g5 cap5 w5 hown5 hor5; have HO5 := Lib.hid hown5; have HR5 := Lib.hid hor5; clear hown5 hor5))
                  have hP5 := HX.out.push hga hx hxm hxq (by rw [hll]; exact HO5.out) (by rw [hll]; exact HR5.out)
                  rw [hll] at hP5
                  have hK5 : Hid ((w5.ownsRow Z 25 1 (.slice ag I cg) I ls) ∧ (w5.ownsRow Y 25 1 (.slice (some ⟨g1, 0, none⟩) vs.length cl) vs.length vs) ∧ Only 4 Y w w5 ∧ wr.heap.size ≤ w5.heap.size) := Lib.hid (by
                    have hBa := HBr.out.grown hga hYr (fun _ e => by cases e)
                    have hLa := HOw.out.kept hga (Classical.em _)
                    have hla := HLr.out.kept hga (Classical.em _)
                    have hsz := hga.size
                    rcases HR5.out with ⟨he, hg⟩ | ⟨hg0, hg⟩
                    · obtain ⟨cc, hcc⟩ := own_holds (he ▸ HXA.out)
                      exact ⟨hLa.kept hg (own_off hLa hcc (by decide)), hla.kept hg (own_off hla hcc (by decide)), hBa.grown hg (Nat.le_trans hYr hsz) (fun b e => by cases e; exact ⟨(HXA.out.lt _ (by rw [he]; rfl)).1, Or.inr ⟨_, _, hcc⟩⟩), Nat.le_trans hsz hg.size⟩
                    · exact ⟨hLa.kept hg (Classical.em _), hla.kept hg (Classical.em _), hBa.grown hg (Nat.le_trans hYr hsz) (fun b e => by cases e), Nat.le_trans hsz hg.size⟩)
                  exact ⟨⟨K + 1, by omega, by go_num, Lib.hid hP5, Lib.hid hK5.out.1, Lib.hid hK5.out.2.1, Lib.hid hK5.out.2.2.1, Nat.le_trans hzr hK5.out.2.2.2⟩, by simp [intOf]; omega⟩
                · obtain rfl : K = 16 := by omega
                  have hltK : ¬ ((16 : Int) < 16) := by omega
                  have hga := World.grownBy_alloc wr (.cells #[.slice ax (ns I + 16) cx] 25) none
                  have HLA := Lib.hid (HOw.out.kept hga (Classical.em _))
                  go_wp2_with (at_builtin; (refine wpList_append_lies _ rfl (.tmp 77) (.tmp 79) 68 rfl Z 25 i1 (.slice none 0 0) 1 24 Try.underlying68 hi1 hz0b hz1b hz2b rfl (by decide) (.slice ag I cg) I ls rfl HLA.out ⟨wr.heap.size, 0, none⟩ 1 1 [.slice ax (ns I + 16) cx] rfl rfl (cell_one_new _ _ _) (by simp [Value.oneCell']) (by decide) (by unfold maxLen; omega) (by omega) (by rw [World.size_alloc]; omega) _ rfl ?_; intro g5 cap5 w5 hown5 hgr5 hat5 hlt5))
                  have hP5 := ((HX.out.kept hga).apart HLA.out (by decide) hgr5).done
                  have hlb : ∀ b, (Value.slice ag I cg).ownBlock = some b → Z ≤ b := fun b hb => (HLA.out.lt b hb).1
                  have hl5 : w5.ownsRow Y 25 1 (.slice (some ⟨g1, 0, none⟩) vs.length cl) vs.length vs := (HLr.out.kept hga (Classical.em _)).kept hgr5 (Or.inr (fun e2 => by
                    have h1 := hlb g1 e2.symm
                    have h2 := HGl.out g1 rfl
                    omega))
                  have hB5 : Only 4 Y w w5 := (HBr.out.grown hga hYr (fun _ e => by cases e)).grown hgr5 (Nat.le_trans hYr hga.size) (fun b hb => ⟨Nat.le_trans HZ.out.1 (hlb b hb), Or.inl (Nat.le_trans HZ.out.2 (hlb b hb))⟩)
                  have hz5 : Z ≤ w5.heap.size := Nat.le_trans hzr (Nat.le_trans hga.size hgr5.size)
                  exact ⟨⟨I + 1, ls ++ [.slice ax (ns I + 16) cx], by omega, by go_num, by simp [hll], hown5, Lib.hid (by rw [hll] at hP5; exact hP5), Lib.hid hl5, Lib.hid hB5, hz5⟩, by simp [intOf]; omega⟩
            · obtain rfl : I = vs.length := by omega
              have hltI : ¬ ((vs.length : Int) < (vs.length : Int)) := by omega
              have HOwn := Lib.hid hown
              clear hown
              go_wp2_with fail
              have hYr : Y ≤ wr.heap.size := Nat.le_trans HZ.out.1 hz
              have HE : Hid (∀ wx, wr.grownBy wx none → Only 4 Y w wx) := Lib.hid fun wx hg => HB.out.grown hg hYr (fun _ e => by cases e)
              have HG0 := Lib.hid (gb_refl wr none)
              clear HB
              rename World => wq
              go_loopw [10] (fun i wx => ∃ (I : Nat), I ≤ vs.length ∧ i = .int .i64 (I : Int) ∧ Hid (wq.grownBy wx none)) (fun i _ => vs.length - (intOf i).toNat)
              case atStart => exact ⟨0, by omega, rfl, HG0⟩
              case round =>
                obtain ⟨I, hI, rfl, HGx⟩ := hrel
                by_cases hlt : I < vs.length
                · have hltI : (I : Int) < (vs.length : Int) := by omega
                  have hnI := HN.out I hlt
                  obtain ⟨g1, c1, hv1, _, hc1⟩ := own_cell (HL.out.kept HGx.out (Classical.em _)) I hlt
                  cases hv1
                  rw [show vs[I]? = some (vs.getD I default) by rw [List.getD_eq_getElem?_getD, List.getElem?_eq_getElem hlt]; rfl] at hc1
                  obtain ⟨g2, c2, hv2, _, hc2⟩ := own_cell (HOwn.out.kept HGx.out (Classical.em _)) I hlt
                  cases hv2
                  rw [show ls[I]? = some (ls.getD I default) by rw [List.getD_eq_getElem?_getD, List.getElem?_eq_getElem (by omega)]; rfl] at hc2
                  obtain ⟨xs, hx, hxm⟩ := HQ.out.rows I hlt
                  obtain ⟨ys, hy, hym, hyq⟩ := HQ.out.long I (by omega)
                  obtain ⟨a3, c3, hv3⟩ := own_val hx
                  obtain ⟨g4, c4, hv4, _, _⟩ := own_cell hy 0 (by omega)
                  rw [hv3] at hx hc1
                  rw [hv4] at hy hc2
                  have HC1 := Lib.hid hc1
                  have HC2 := Lib.hid hc2
                  have HRx : Hid (∀ K, K < ns I → ∃ g, a3 = some ⟨g, 0, none⟩ ∧ ∀ wx, wq.grownBy wx none → wx.cell? ⟨g, K, none⟩ = some (mkB I K)) := Lib.hid fun K hK => by
                    obtain ⟨g, c, e1, _, _⟩ := own_cell hx K hK
                    cases e1
                    exact ⟨g, rfl, fun wx hg => one_at (hx.kept hg (Classical.em _)) hK (hxm K hK)⟩
                  have HRy : Hid (∀ K, K < ns I → ∀ wx, wq.grownBy wx none → wx.cell? ⟨g4, K, none⟩ = some (mkB I K)) := Lib.hid fun K hK wx hg => one_at (hy.kept hg (Classical.em _)) (by omega) (hym K hK)
                  have HRz : Hid (∀ K, K < 16 → ∀ wx, wq.grownBy wx none → wx.cell? ⟨g4, ns I + K, none⟩ = some (mgB I K)) := Lib.hid fun K hK wx hg => one_at (hy.kept hg (Classical.em _)) (by omega) (hyq K hK)
                  clear hx hy hxm hym hyq
                  go_wp2_with fail
                  have HG1 : Hid (∀ wx, wr.grownBy wx none → wx.cell? ⟨g1, I, none⟩ = some (.slice a3 (ns I) c3) ∧ wx.cell? ⟨g2, I, none⟩ = some (.slice (some ⟨g4, 0, none⟩) (ns I + 16) c4) ∧ wq.grownBy wx none) := Lib.hid fun wx hg => ⟨hg.cell HC1.out (by simp), hg.cell HC2.out (by simp), gb_trans HGx.out hg (Or.inl rfl)⟩
                  have HGr := Lib.hid (gb_refl wr none)
                  rename World => wp
                  go_loopw [12] (fun i wx => ∃ (K : Nat), K ≤ ns I ∧ i = .int .i64 (K : Int) ∧ Hid (wp.grownBy wx none)) (fun i _ => ns I - (intOf i).toNat)
                  case atStart => exact ⟨0, by omega, rfl, HGr⟩
                  case round =>
                    obtain ⟨K, hK, rfl, HGy⟩ := hrel
                    by_cases hlk : K < ns I
                    · have hltK : (K : Int) < (ns I : Int) := by omega
                      obtain ⟨g3, rfl, HX3⟩ := HRx.out K hlk
                      have HY3 := HRy.out K hlk
                      obtain ⟨h1, h2, h3⟩ := HG1.out wr HGy.out
                      have r1 := HX3 wr h3
                      have r2 := HY3 wr h3
                      unfold mkB at r1 r2
                      have HGe := Lib.hid (gb_trans HGy.out (gb_drew wr none) (Or.inl rfl))
                      clear HX3 HY3
                      have hK16 : (K : Int) < (ns I : Int) + 16 := by omega
                      go_wp2_with fail
                      go_quiet (fail)
                      go_wp2_with fail
                      exact ⟨⟨K + 1, by omega, by go_num, Lib.hid (gb_trans HGy.out (gb_drewN _ _ none) (Or.inl rfl))⟩, by simp [intOf]; omega⟩
                    · obtain rfl : K = ns I := by omega
                      have hltK : ¬ ((ns I : Int) < (ns I : Int)) := by omega
                      go_wp2_with fail
                      have HGs := HGy
                      go_loopw [13] (fun i wx => ∃ (K : Nat), K ≤ 16 ∧ i = .int .i64 (K : Int) ∧ Hid (wp.grownBy wx none)) (fun i _ => 16 - (intOf i).toNat)
                      case atStart => exact ⟨0, by omega, rfl, HGs⟩
                      case round =>
                        obtain ⟨K, hK, rfl, HGz⟩ := hrel
                        by_cases hlk : K < 16
                        · have hltK : (K : Int) < 16 := by omega
                          have HZ3 := HRz.out K hlk
                          obtain ⟨h1, h2, h3⟩ := HG1.out wr HGz.out
                          have r3 := HZ3 wr h3
                          unfold mgB at r3
                          clear HZ3
                          have hK16 : (ns I : Int) + (K : Int) < (ns I : Int) + 16 := by omega
                          go_wp2_with fail
                          go_quiet (fail)
                          go_wp2_with fail
                          exact ⟨⟨K + 1, by omega, by go_num, Lib.hid (gb_trans HGz.out (gb_drewN _ _ none) (Or.inl rfl))⟩, by simp [intOf]; omega⟩
                        · obtain rfl : K = 16 := by omega
                          have hltK : ¬ ((16 : Int) < 16) := by omega
                          go_wp2_with fail
                          exact ⟨⟨I + 1, by omega, by go_num, Lib.hid (gb_trans HGx.out HGz.out (Or.inl rfl))⟩, by simp [intOf]; omega⟩
                · obtain rfl : I = vs.length := by omega
                  have hltI : ¬ ((vs.length : Int) < (vs.length : Int)) := by omega
                  go_wp2_with fail
                  exact ⟨⟨1, by omega, by go_num, (fun h => by cases h), Lib.hid (HE.out _ HGx.out)⟩, by simp [intOf]⟩
end Go.Proofs.Ytcdepblajobemaa
namespace Go.Proofs.Ytcdepblajobemaa
open Go.RowKit

/-- A small list of two numbers in a block of its own. -/
def IsM (w : World) (v : Value) (x y : Int) : Prop := ∃ b, v = .slice (some ⟨b, 0, none⟩) 2 2 ∧ w.heap[b]? = some (.cells #[.int .i64 x, .int .i64 y] 3 (0, 0))
theorem IsM.grown {w w' : World} {v : Value} {x y : Int} {r : Option Nat} (h : IsM w v x y) (hg : w.grownBy w' r) (hr : ∀ b, r = some b → ∃ c fr, w.heap[b]? = some (.cells c 43 fr)) : IsM w' v x y := by
  obtain ⟨b, rfl, hb⟩ := h
  refine ⟨b, rfl, blk_kept hb hg (fun e => ?_)⟩
  obtain ⟨c, fr, hc⟩ := hr b e.symm
  exact blk_ne hb hc (by decide) rfl
theorem IsM.kept {w w' : World} {v : Value} {x y : Int} (h : IsM w v x y) (hg : w.grownBy w' none) : IsM w' v x y := h.grown hg (fun _ e => by cases e)
theorem isM_new (w : World) (x y : Int) : IsM (w.alloc (.cells #[.int .i64 x, .int .i64 y] 3)) (.slice (some ⟨w.heap.size, 0, none⟩) 2 2) x y := ⟨_, rfl, heap_alloc_new w _⟩
theorem IsM.ints {w : World} {v : Value} {x y : Int} (h : IsM w v x y) (hx : -9223372036854775808 ≤ x ∧ x ≤ 9223372036854775807) (hy : -9223372036854775808 ≤ y ∧ y ≤ 9223372036854775807) : IntsAt w v [x, y] := by
  obtain ⟨b, rfl, hb⟩ := h
  refine ⟨_, _, rfl, fun k hk => ?_, (by show 2 ≤ 17592186043904; decide), Or.inr ⟨b, 0, rfl, fun k hk => ?_⟩⟩
  · have hk2 : k < 2 := hk
    rcases (show k = 0 ∨ k = 1 by omega) with rfl | rfl
    · exact hx
    · exact hy
  · have hk2 : k < 2 := hk
    rcases (show k = 0 ∨ k = 1 by omega) with rfl | rfl <;> simp [World.cell?, hb]
def Marks (w : World) (mk : Nat → Nat → Value) (sg : Nat → Int) (N : Nat → Nat) : Prop := ∀ i k, k < N i → IsM w (mk i k) (sg i) (k : Int)
theorem Marks.grown {w w' : World} {mk : Nat → Nat → Value} {sg : Nat → Int} {N : Nat → Nat} {r : Option Nat} (h : Marks w mk sg N) (hg : w.grownBy w' r) (hr : ∀ b, r = some b → ∃ c fr, w.heap[b]? = some (.cells c 43 fr)) : Marks w' mk sg N := fun i k hk => (h i k hk).grown hg hr
theorem Marks.kept {w w' : World} {mk : Nat → Nat → Value} {sg : Nat → Int} {N : Nat → Nat} (h : Marks w mk sg N) (hg : w.grownBy w' none) : Marks w' mk sg N := fun i k hk => (h i k hk).kept hg
def sgP (i : Nat) : Int := (i : Int)
def sgN (i : Nat) : Int := -1 - (i : Int)
def bdP (ns : Nat → Nat) (I K i : Nat) : Nat := if i < I then ns i else if i = I then K else 0
/-- One mark more. -/
def putM (mk : Nat → Nat → Value) (I K : Nat) (v : Value) : Nat → Nat → Value := fun i k => if i = I ∧ k = K then v else mk i k
theorem putM_at (mk : Nat → Nat → Value) (I K : Nat) (v : Value) : putM mk I K v I K = v := if_pos ⟨rfl, rfl⟩
theorem putM_off {mk : Nat → Nat → Value} {I K i k : Nat} {v : Value} (h : ¬ (i = I ∧ k = K)) : putM mk I K v i k = mk i k := if_neg h

section
variable {w w' : World} {Y : Nat} {vs ls : List Value} {ns : Nat → Nat} {I K : Nat} {x : Value}
def MkP1 (w : World) (Y : Nat) (vs : List Value) (ns : Nat → Nat) (I K : Nat) : Prop := ∃ mk, OwnP1 w Y 43 vs ns mk I K ∧ Marks w mk sgP (bdP ns I K)
theorem MkP1.next (h : MkP1 w Y vs ns I (ns I)) : MkP1 w Y vs ns (I + 1) 0 := by
  obtain ⟨mk, h1, h2⟩ := h
  refine ⟨mk, h1.next, fun i k hk => h2 i k ?_⟩
  unfold bdP at hk ⊢
  by_cases c1 : i < I
  · rw [if_pos (by omega)] at hk; rw [if_pos c1]; exact hk
  · by_cases c2 : i = I
    · subst c2; rw [if_pos (by omega)] at hk; rw [if_neg c1, if_pos rfl]; exact hk
    · rw [if_neg (by omega), ite_self] at hk; exact absurd hk (Nat.not_lt_zero _)
theorem MkP1.at (h : MkP1 w Y vs ns I K) (hI : I < vs.length) : ∃ a cap, vs.getD I default = .slice a (ns I) cap := by
  obtain ⟨mk, h1, _⟩ := h
  exact h1.at hI
theorem MkP1.store (h : MkP1 w Y vs ns I K) (hI : I < vs.length) (hK : K < ns I) (h1 : w' = w.alloc (.cells #[.int .i64 (I : Int), .int .i64 (K : Int)] 3)) : ∃ g cap u0, vs.getD I default = .slice (some ⟨g, 0, none⟩) (ns I) cap ∧ w'.cell? ⟨g, K, none⟩ = some u0 ∧ w'.frozen? ⟨g, K, none⟩ = false ∧ MkP1 (w'.setCell ⟨g, K, none⟩ (.slice (some ⟨w.heap.size, 0, none⟩) 2 2)) Y vs ns I (K + 1) ∧ w'.grownBy (w'.setCell ⟨g, K, none⟩ (.slice (some ⟨w.heap.size, 0, none⟩) 2 2)) (some g) ∧ Y ≤ g ∧ ∃ c, w'.heap[g]? = some (.cells c 43 (0, 0)) := by
  obtain ⟨mk, hp, hm⟩ := h
  have hga := World.grownBy_alloc w (.cells #[.int .i64 (I : Int), .int .i64 (K : Int)] 3) none
  rw [← h1] at hga
  have hv0 : IsM w' (.slice (some ⟨w.heap.size, 0, none⟩) 2 2) (I : Int) (K : Int) := by rw [h1]; exact isM_new w _ _
  have hp1 := (hp.kept hga).congr (mk' := putM mk I K (.slice (some ⟨w.heap.size, 0, none⟩) 2 2)) (fun i k hk => (putM_off (fun e => by
    obtain ⟨rfl, rfl⟩ := e
    rw [if_neg (Nat.lt_irrefl _), if_pos rfl] at hk
    omega)).symm)
  obtain ⟨g, cap, u0, hv, hc, hf, hP3, hg3, hYg, cg, hbg⟩ := hp1.store hI hK
  rw [putM_at] at hP3 hg3
  refine ⟨g, cap, u0, hv, hc, hf, ⟨_, hP3, fun i k hk => ?_⟩, hg3, hYg, cg, hbg⟩
  have hr : ∀ b, some g = some b → ∃ c fr, w'.heap[b]? = some (.cells c 43 fr) := fun b e => by cases e; exact ⟨_, _, hbg⟩
  by_cases e : i = I ∧ k = K
  · obtain ⟨rfl, rfl⟩ := e
    rw [putM_at]
    exact hv0.grown hg3 hr
  · rw [putM_off e]
    refine ((hm i k ?_).kept hga).grown hg3 hr
    unfold bdP at hk ⊢
    by_cases c1 : i < I
    · rw [if_pos c1] at hk ⊢; exact hk
    · rw [if_neg c1] at hk ⊢
      by_cases c2 : i = I
      · rw [if_pos c2] at hk ⊢
        omega
      · rw [if_neg c2] at hk ⊢; exact hk
def MkP2 (w : World) (Y : Nat) (vs : List Value) (ns : Nat → Nat) (ls : List Value) : Prop := ∃ mk mg, OwnP2 w Y 43 vs ns mk mg ls ∧ Marks w mk sgP (fun i => if i < vs.length then ns i else 0) ∧ Marks w mg sgN (fun i => if i < ls.length then 16 else 0)
theorem MkP1.turn (h : MkP1 w Y vs ns vs.length 0) : MkP2 w Y vs ns [] := by
  obtain ⟨mk, h1, h2⟩ := h
  refine ⟨mk, mk, h1.turn, fun i k hk => h2 i k ?_, fun i k hk => ?_⟩
  · unfold bdP
    dsimp only at hk
    by_cases c : i < vs.length
    · rw [if_pos c] at hk ⊢; exact hk
    · rw [if_neg c] at hk; exact absurd hk (Nat.not_lt_zero _)
  · simp at hk
def MkX (w : World) (Y : Nat) (vs : List Value) (ns : Nat → Nat) (ls : List Value) (x : Value) (K : Nat) : Prop := ∃ mk mg, OwnX w Y 43 vs ns mk mg ls x K ∧ Marks w mk sgP (fun i => if i < vs.length then ns i else 0) ∧ Marks w mg sgN (fun i => if i < ls.length then 16 else if i = ls.length then K else 0)
theorem MkP2.begin (h : MkP2 w Y vs ns ls) (hI : ls.length < vs.length) : MkX w Y vs ns ls (vs.getD ls.length default) 0 := by
  obtain ⟨mk, mg, h1, h2, h3⟩ := h
  refine ⟨mk, mg, h1.begin hI, h2, fun i k hk => h3 i k ?_⟩
  dsimp only at hk ⊢
  by_cases c : i < ls.length
  · rw [if_pos c] at hk ⊢; exact hk
  · rw [if_neg c, ite_self] at hk; exact absurd hk (Nat.not_lt_zero _)
theorem MkP2.at (h : MkP2 w Y vs ns ls) (hI : I < vs.length) : ∃ a cap, vs.getD I default = .slice a (ns I) cap := by
  obtain ⟨mk, mg, h1, _⟩ := h
  obtain ⟨xs, h2, _⟩ := h1.rows I hI
  exact own_val h2
theorem MkX.val (h : MkX w Y vs ns ls x K) : ∃ a cap, x = .slice a (ns ls.length + K) cap := by
  obtain ⟨mk, mg, h1, _⟩ := h
  exact h1.val
theorem MkX.own (h : MkX w Y vs ns ls x K) : ∃ xs, w.ownsRow Y 43 1 x (ns ls.length + K) xs := by
  obtain ⟨mk, mg, h1, _⟩ := h
  obtain ⟨xs, h2, _⟩ := h1.row
  exact ⟨xs, h2⟩
/-- It has grown by one mark. -/
theorem MkX.push {w1 : World} {g cap b : Nat} {xs : List Value} (h : MkX w Y vs ns ls x K) (hK : K < 16) (h0 : w.grownBy w1 none) (hx : w.ownsRow Y 43 1 x (ns ls.length + K) xs) (hv : IsM w1 (.slice (some ⟨b, 0, none⟩) 2 2) (sgN ls.length) (K : Int))
    (h1 : w'.ownsRow Y 43 1 (.slice (some ⟨g, 0, none⟩) (ns ls.length + K + 1) cap) (ns ls.length + K + 1) (xs ++ [.slice (some ⟨b, 0, none⟩) 2 2]))
    (h2 : x = .slice (some ⟨g, 0, none⟩) (ns ls.length + K) cap ∧ w1.grownBy w' (some g) ∨ w1.heap.size ≤ g ∧ w1.grownBy w' none) : MkX w' Y vs ns ls (.slice (some ⟨g, 0, none⟩) (ns ls.length + K + 1) cap) (K + 1) := by
  obtain ⟨mk, mg, hX, hm, hq⟩ := h
  have hX1 := hX.congrL (mg' := putM mg ls.length K (.slice (some ⟨b, 0, none⟩) 2 2)) (fun i k hk => (putM_off (fun e => by
    obtain ⟨rfl, rfl⟩ := e
    rcases hk with hk | hk <;> omega)).symm)
  obtain ⟨ys, hy, hym, hyq⟩ := hX1.row
  have hxy : ys = xs := by
    rcases hx.2 with ⟨rfl, e0⟩ | ⟨g1, c1, cur1, rfl, _, hg1, _, _, _, t1⟩
    · have l1 := hx.1
      have l2 := hy.1
      rw [e0] at l1 l2
      rw [List.eq_nil_of_length_eq_zero (by omega : ys.length = 0), List.eq_nil_of_length_eq_zero (by omega : xs.length = 0)]
    · rcases hy.2 with ⟨e0, _⟩ | ⟨g2, c2, cur2, e2, _, hg2, _, _, _, t2⟩
      · cases e0
      · cases e2
        rw [hg1] at hg2
        simp only [Option.some.injEq, Obj.cells.injEq] at hg2
        obtain ⟨rfl, _⟩ := hg2
        rw [← t1, ← t2]
  subst hxy
  have hP := hX1.push h0 hx hym hyq (by rw [putM_at]; exact h1) h2
  have hcase : ∃ r, w1.grownBy w' r ∧ ∀ b, r = some b → ∃ c fr, w1.heap[b]? = some (.cells c 43 fr) := by
    rcases h2 with ⟨e, hg⟩ | ⟨_, hg⟩
    · refine ⟨_, hg, fun b e2 => ?_⟩
      cases e2
      obtain ⟨c, hc⟩ := own_holds (e ▸ hx)
      exact ⟨c, _, blk_kept hc h0 (by simp)⟩
    · exact ⟨_, hg, fun b e2 => by cases e2⟩
  obtain ⟨r, hgr, hr⟩ := hcase
  refine ⟨mk, _, hP, (hm.kept h0).grown hgr hr, fun i k hk => ?_⟩
  by_cases e : i = ls.length ∧ k = K
  · obtain ⟨rfl, rfl⟩ := e
    rw [putM_at]
    exact hv.grown hgr hr
  · rw [putM_off e]
    refine ((hq i k ?_).kept h0).grown hgr hr
    dsimp only at hk ⊢
    by_cases c1 : i < ls.length
    · rw [if_pos c1] at hk ⊢; exact hk
    · rw [if_neg c1] at hk ⊢
      by_cases c2 : i = ls.length
      · rw [if_pos c2] at hk ⊢; omega
      · rw [if_neg c2] at hk ⊢; exact hk
/-- It stands beside the others. -/
theorem MkX.done {w1 w5 : World} {Z n : Nat} {u : Value} {us : List Value} (h : MkX w Y vs ns ls x 16) (h0 : w.grownBy w1 none) (hu : w1.ownsRow Z 24 1 u n us) (h5 : w1.grownBy w5 u.ownBlock) : MkP2 w5 Y vs ns (ls ++ [x]) := by
  obtain ⟨mk, mg, hX, hm, hq⟩ := h
  have hfar : ∀ {v : Value} {a b : Int}, IsM w v a b → IsM w5 v a b := fun {v a b} hM => by
    obtain ⟨k, rfl, hb⟩ := hM.kept h0
    exact ⟨k, rfl, blk_kept hb h5 (fun e => own_off' hu hb (by decide) e.symm)⟩
  refine ⟨mk, mg, ((hX.kept h0).apart hu (by decide) h5).done, fun i k hk => hfar (hm i k hk), fun i k hk => hfar (hq i k ?_)⟩
  dsimp only at hk ⊢
  rw [List.length_append, List.length_singleton] at hk
  by_cases c1 : i < ls.length
  · rw [if_pos (by omega)] at hk; rw [if_pos c1]; exact hk
  · by_cases c2 : i = ls.length
    · rw [if_pos (by omega)] at hk; rw [if_neg c1, if_pos c2]; exact hk
    · rw [if_neg (by omega)] at hk; exact absurd hk (Nat.not_lt_zero _)
/-- What is read at the end. -/
theorem MkP2.read (h : MkP2 w Y vs ns ls) (hI : I < vs.length) (hL : I < ls.length) : ∃ a c g c', vs.getD I default = .slice a (ns I) c ∧ ls.getD I default = .slice (some ⟨g, 0, none⟩) (ns I + 16) c' ∧ (∀ K, K < ns I → ∃ b v, a = some ⟨b, 0, none⟩ ∧ w.cell? ⟨b, K, none⟩ = some v ∧ IsM w v (I : Int) (K : Int)) ∧ (∀ K, K < ns I → ∃ v, w.cell? ⟨g, K, none⟩ = some v ∧ IsM w v (I : Int) (K : Int)) ∧ (∀ K, K < 16 → ∃ v, w.cell? ⟨g, ns I + K, none⟩ = some v ∧ IsM w v (-1 - (I : Int)) (K : Int)) := by
  obtain ⟨mk, mg, hP, hm, hq⟩ := h
  obtain ⟨xs, hx, hxm⟩ := hP.rows I hI
  obtain ⟨ys, hy, hym, hyq⟩ := hP.long I hL
  obtain ⟨a3, c3, hv3⟩ := own_val hx
  obtain ⟨g4, c4, hv4, _, _⟩ := own_cell hy 0 (by omega)
  have hm1 : ∀ K, K < ns I → IsM w (mk I K) (I : Int) (K : Int) := fun K hK => hm I K (by dsimp only; rw [if_pos hI]; exact hK)
  refine ⟨a3, c3, g4, c4, hv3, hv4, fun K hK => ?_, fun K hK => ?_, fun K hK => ?_⟩
  · obtain ⟨g, c, e1, _, e2⟩ := own_cell hx K hK
    rw [hv3] at e1
    cases e1
    exact ⟨g, _, rfl, by rw [e2]; exact hxm K hK, hm1 K hK⟩
  · obtain ⟨g, c, e1, _, e2⟩ := own_cell hy K (by omega)
    rw [hv4] at e1
    cases e1
    exact ⟨_, by rw [e2]; exact hym K hK, hm1 K hK⟩
  · obtain ⟨g, c, e1, _, e2⟩ := own_cell hy (ns I + K) (by omega)
    rw [hv4] at e1
    cases e1
    exact ⟨_, by rw [e2]; exact hyq K hK, hq I K (by dsimp only; rw [if_pos hL]; exact hK)⟩
end
end Go.Proofs.Ytcdepblajobemaa
namespace Go.Proofs.Ytcdepblajobemaa
open Go.RowKit

theorem Try.infoRows : (Try.prog.info? 24).map (fun i => (i.zero, i.size, i.bytes)) = some (some (.slice none 0 0), 1, 24) := by kernel_rfl
set_option maxRecDepth 100000 in
set_option maxHeartbeats 8000000 in
theorem own_rows {w : World} {Y : Nat} {lv : Value} {vs : List Value} {ns : Nat → Nat} (hl : w.ownsRow Y 24 1 lv vs.length vs) (hP : MkP1 w Y vs ns 0 0) (hn : ∀ i, i < vs.length → ns i ≤ 1000000) (hm : vs.length ≤ 1000000) (hYw : Y ≤ w.heap.size) :
    Calls Try.prog 88 #[lv] w fun e w' => e = .returned (.bool true) ∧ Only 43 Y w w' := by
  have HL := Lib.hid hl
  have HP := Lib.hid hP
  have HN := Lib.hid hn
  obtain ⟨al, cl, rfl⟩ := own_val hl
  obtain ⟨i0, hi0, hz0a, hz1a, hz2a⟩ := info_parts Try.info43
  obtain ⟨i1, hi1, hz0b, hz1b, hz2b⟩ := info_parts Try.infoRows
  clear hl hP hn
  go_enter Try.func88, Try.ntmps88
  go_wp2_with fail
  go_loopw [3] (fun i wr => ∃ (I : Nat), I ≤ vs.length ∧ i = .int .i64 (I : Int) ∧ Hid (MkP1 wr Y vs ns I 0) ∧ Hid (wr.ownsRow Y 24 1 (.slice al vs.length cl) vs.length vs) ∧ Hid (Only 43 Y w wr)) (fun i _ => vs.length - (intOf i).toNat)
  case atStart => exact ⟨0, by omega, rfl, HP, HL, Lib.hid (Only.refl _ _ _)⟩
  case round =>
    obtain ⟨I, hI, rfl, HP1, HL1, HB1⟩ := hrel
    by_cases hlt : I < vs.length
    · have hltI : (I : Int) < (vs.length : Int) := by omega
      have hnI := HN.out I hlt
      go_wp2_with fail
      go_loopw [4] (fun i wr => ∃ (K : Nat), K ≤ ns I ∧ i = .int .i64 (K : Int) ∧ Hid (MkP1 wr Y vs ns I K) ∧ Hid (wr.ownsRow Y 24 1 (.slice al vs.length cl) vs.length vs) ∧ Hid (Only 43 Y w wr)) (fun i _ => ns I - (intOf i).toNat)
      case atStart => exact ⟨0, by omega, rfl, HP1, HL1, HB1⟩
      case round =>
        obtain ⟨K, hK, rfl, HP2, HL2, HB2⟩ := hrel
        obtain ⟨g1, c1, hv1, _, hc1⟩ := own_cell HL2.out I hlt
        cases hv1
        rw [show vs[I]? = some (vs.getD I default) by rw [List.getD_eq_getElem?_getD, List.getElem?_eq_getElem hlt]; rfl] at hc1
        by_cases hlk : K < ns I
        · have hltK : (K : Int) < (ns I : Int) := by omega
          obtain ⟨g, cap, u0, hv, hc, hf, hP3, hg3, hYg, cg, hbg⟩ := HP2.out.store hlt hlk rfl
          rw [hv] at hc1
          have hga := World.grownBy_alloc wr (.cells #[.int .i64 (I : Int), .int .i64 (K : Int)] 3) none
          have hLa := HL2.out.kept hga (Classical.em _)
          have hYr : Y ≤ wr.heap.size := Nat.le_trans hYw HB2.out.bel.size
          have HEnd := Lib.hid (And.intro hP3 (And.intro (hLa.kept hg3 (own_off hLa hbg (by decide))) ((HB2.out.grown hga hYr (fun _ e => by cases e)).grown hg3 (Nat.le_trans hYr hga.size) (fun _ e => by cases e; exact ⟨hYg, Or.inr ⟨_, _, hbg⟩⟩))))
          clear hP3 hg3 hbg hLa hga
          go_wp2_with fail
          exact ⟨⟨K + 1, by omega, by go_num, Lib.hid HEnd.out.1, Lib.hid HEnd.out.2.1, Lib.hid HEnd.out.2.2⟩, by simp [intOf]; omega⟩
        · obtain rfl : K = ns I := by omega
          have hltK : ¬ ((ns I : Int) < (ns I : Int)) := by omega
          obtain ⟨a, cap, hv⟩ := HP2.out.at hlt
          rw [hv] at hc1
          go_wp2_with fail
          exact ⟨⟨I + 1, by omega, by go_num, Lib.hid HP2.out.next, HL2, HB2⟩, by simp [intOf]; omega⟩
    · obtain rfl : I = vs.length := by omega
      have hltI : ¬ ((vs.length : Int) < (vs.length : Int)) := by omega
      go_wp2_with fail
      have HQ0 : Hid (MkP2 wr Y vs ns []) := Lib.hid HP1.out.turn
      have HZ : Hid (Y ≤ wr.heap.size ∧ w.heap.size ≤ wr.heap.size) := Lib.hid ⟨Nat.le_trans hYw HB1.out.bel.size, HB1.out.bel.size⟩
      have HGl : Hid (∀ b, (Value.slice al vs.length cl).ownBlock = some b → b < wr.heap.size) := Lib.hid fun b hb => (HL1.out.lt b hb).2
      have hz0 : wr.heap.size ≤ wr.heap.size := Nat.le_refl _
      generalize hZ : wr.heap.size = Z at HZ HGl hz0
      clear HP1 HP hI hlt
      go_loopw [6, 5] (fun i lg wr => ∃ (I : Nat) (ls : List Value), I ≤ vs.length ∧ i = .int .i64 (I : Int) ∧ ls.length = I ∧ wr.ownsRow Z 24 1 lg I ls ∧ Hid (MkP2 wr Y vs ns ls) ∧ Hid (wr.ownsRow Y 24 1 (.slice al vs.length cl) vs.length vs) ∧ Hid (Only 43 Y w wr) ∧ Z ≤ wr.heap.size) (fun i _ _ => vs.length - (intOf i).toNat)
      case atStart => exact ⟨0, [], by omega, rfl, rfl, World.ownsRow_nil _ _ _ _, HQ0, HL1, HB1, by omega⟩
      case round =>
        obtain ⟨I, ls, hI, rfl, hll, hown, HQ, HL, HB, hz⟩ := hrel
        obtain ⟨ag, cg, rfl⟩ := own_val hown
        by_cases hlt : I < vs.length
        · have hltI : (I : Int) < (vs.length : Int) := by omega
          have hnI := HN.out I hlt
          obtain ⟨g1, c1, hv1, _, hc1⟩ := own_cell HL.out I hlt
          cases hv1
          rw [show vs[I]? = some (vs.getD I default) by rw [List.getD_eq_getElem?_getD, List.getElem?_eq_getElem hlt]; rfl] at hc1
          have hX0 := HQ.out.begin (by omega)
          rw [hll] at hX0
          obtain ⟨a0, c0, hv0⟩ := HQ.out.at hlt
          rw [hv0] at hX0 hc1
          have HX0 := Lib.hid hX0
          have HOwn := Lib.hid hown
          clear hX0 hown
          go_wp2_with fail
          go_loopw [7, 8] (fun x k wr => ∃ (K : Nat), K ≤ 16 ∧ k = .int .i64 (K : Int) ∧ Hid (MkX wr Y vs ns ls x K) ∧ Hid (wr.ownsRow Z 24 1 (.slice ag I cg) I ls) ∧ Hid (wr.ownsRow Y 24 1 (.slice (some ⟨g1, 0, none⟩) vs.length cl) vs.length vs) ∧ Hid (Only 43 Y w wr) ∧ Z ≤ wr.heap.size) (fun _ k _ => 16 - (intOf k).toNat)
          case atStart => exact ⟨0, by omega, rfl, HX0, HOwn, HL, HB, hz⟩
          case round =>
            obtain ⟨K, hK, rfl, HX, HOw, HLr, HBr, hzr⟩ := hrel
            obtain ⟨ax, cx, rfl⟩ := HX.out.val
            have hYr : Y ≤ wr.heap.size := Nat.le_trans HZ.out.1 hzr
            rw [hll]
            by_cases hlk : K < 16
            · have hltK : (K : Int) < 16 := by omega
              obtain ⟨xs, hx⟩ := HX.out.own
              have hga1 := World.grownBy_alloc wr (.cells #[.int .i64 (-1 - (I : Int)), .int .i64 (K : Int)] 3) none
              have hga2 := World.grownBy_alloc (wr.alloc (.cells #[.int .i64 (-1 - (I : Int)), .int .i64 (K : Int)] 3)) (.cells #[.slice (some ⟨wr.heap.size, 0, none⟩) 2 2] 43) none
              have hga := gb_trans hga1 hga2 (Or.inl rfl)
              have HMk := Lib.hid ((isM_new wr (-1 - (I : Int)) (K : Int)).kept hga2)
              have hxa := hx.kept hga (Classical.em _)
              rw [hll] at hxa
              have HXA := Lib.hid hxa
              have HXr := Lib.hid hx
              have HGA := Lib.hid hga
              have HNw := Lib.hid (cell_one_new (wr.alloc (.cells #[.int .i64 (-1 - (I : Int)), .int .i64 (K : Int)] 3)) (.slice (some ⟨wr.heap.size, 0, none⟩) 2 2) 43)
              rw [World.size_alloc] at HNw
              clear hxa hga hga1 hga2 hx
              go_wp2_with (at_builtin; (refine wpList_append_keeps _ rfl (.tmp 51) (.tmp 56) 24 rfl Y 43 i0 (.slice none 0 0) 1 24 Try.underlying24 hi0 hz0a hz1a hz2a rfl (by decide) (.slice ax (ns I + K) cx) (ns I + K) xs rfl HXA.out ⟨wr.heap.size + 1, 0, none⟩ 1 1 [.slice (some ⟨wr.heap.size, 0, none⟩) 2 2] rfl rfl HNw.out (by simp [Value.oneCell']) (by decide) (by unfold maxLen; omega) (by omega) (by rw [World.size_alloc, World.size_alloc]; omega) ?_; intro g5 cap5 w5 hown5 hor5; have HO5 := Lib.hid hown5; have HR5 := Lib.hid hor5; clear hown5 hor5))
              have hP5 := HX.out.push hlk HGA.out HXr.out (by rw [hll]; exact HMk.out) (by rw [hll]; exact HO5.out) (by rw [hll]; exact HR5.out)
              rw [hll] at hP5
              have hK5 : Hid ((w5.ownsRow Z 24 1 (.slice ag I cg) I ls) ∧ (w5.ownsRow Y 24 1 (.slice (some ⟨g1, 0, none⟩) vs.length cl) vs.length vs) ∧ Only 43 Y w w5 ∧ wr.heap.size ≤ w5.heap.size) := Lib.hid (by
                have hga := HGA.out
                have hBa := HBr.out.grown hga hYr (fun _ e => by cases e)
                have hLa := HOw.out.kept hga (Classical.em _)
                have hla := HLr.out.kept hga (Classical.em _)
                have hsz := hga.size
                rcases HR5.out with ⟨he, hg⟩ | ⟨hg0, hg⟩
                · obtain ⟨cc, hcc⟩ := own_holds (he ▸ HXA.out)
                  exact ⟨hLa.kept hg (own_off hLa hcc (by decide)), hla.kept hg (own_off hla hcc (by decide)), hBa.grown hg (Nat.le_trans hYr hsz) (fun b e => by cases e; exact ⟨(HXA.out.lt _ (by rw [he]; rfl)).1, Or.inr ⟨_, _, hcc⟩⟩), Nat.le_trans hsz hg.size⟩
                · exact ⟨hLa.kept hg (Classical.em _), hla.kept hg (Classical.em _), hBa.grown hg (Nat.le_trans hYr hsz) (fun b e => by cases e), Nat.le_trans hsz hg.size⟩)
              exact ⟨⟨K + 1, by omega, by go_num, Lib.hid hP5, Lib.hid hK5.out.1, Lib.hid hK5.out.2.1, Lib.hid hK5.out.2.2.1, Nat.le_trans hzr hK5.out.2.2.2⟩, by simp [intOf]; omega⟩
            · obtain rfl : K = 16 := by omega
              have hltK : ¬ ((16 : Int) < 16) := by omega
              have hga := World.grownBy_alloc wr (.cells #[.slice ax (ns I + 16) cx] 24) none
              have HLA := Lib.hid (HOw.out.kept hga (Classical.em _))
              go_wp2_with (at_builtin; (refine wpList_append_lies _ rfl (.tmp 58) (.tmp 60) 75 rfl Z 24 i1 (.slice none 0 0) 1 24 Try.underlying75 hi1 hz0b hz1b hz2b rfl (by decide) (.slice ag I cg) I ls rfl HLA.out ⟨wr.heap.size, 0, none⟩ 1 1 [.slice ax (ns I + 16) cx] rfl rfl (cell_one_new _ _ _) (by simp [Value.oneCell']) (by decide) (by unfold maxLen; omega) (by omega) (by rw [World.size_alloc]; omega) _ rfl ?_; intro g5 cap5 w5 hown5 hgr5 hat5 hlt5))
              have hP5 := HX.out.done hga HLA.out hgr5
              have hlb : ∀ b, (Value.slice ag I cg).ownBlock = some b → Z ≤ b := fun b hb => (HLA.out.lt b hb).1
              have hl5 : w5.ownsRow Y 24 1 (.slice (some ⟨g1, 0, none⟩) vs.length cl) vs.length vs := (HLr.out.kept hga (Classical.em _)).kept hgr5 (Or.inr (fun e2 => by
                have h1 := hlb g1 e2.symm
                have h2 := HGl.out g1 rfl
                omega))
              have hB5 : Only 43 Y w w5 := (HBr.out.grown hga hYr (fun _ e => by cases e)).grown hgr5 (Nat.le_trans hYr hga.size) (fun b hb => ⟨Nat.le_trans HZ.out.1 (hlb b hb), Or.inl (Nat.le_trans HZ.out.2 (hlb b hb))⟩)
              have hz5 : Z ≤ w5.heap.size := Nat.le_trans hzr (Nat.le_trans hga.size hgr5.size)
              exact ⟨⟨I + 1, ls ++ [.slice ax (ns I + 16) cx], by omega, by go_num, by simp [hll], hown5, Lib.hid (by rw [hll] at hP5; exact hP5), Lib.hid hl5, Lib.hid hB5, hz5⟩, by simp [intOf]; omega⟩
        · obtain rfl : I = vs.length := by omega
          have hltI : ¬ ((vs.length : Int) < (vs.length : Int)) := by omega
          have HOwn := Lib.hid hown
          clear hown
          go_wp2_with fail
          have hYr : Y ≤ wr.heap.size := Nat.le_trans HZ.out.1 hz
          have HE : Hid (∀ wx, wr.grownBy wx none → Only 43 Y w wx) := Lib.hid fun wx hg => HB.out.grown hg hYr (fun _ e => by cases e)
          have HG0 := Lib.hid (gb_refl wr none)
          clear HB
          rename World => wq
          go_loopw [9] (fun i wx => ∃ (I : Nat), I ≤ vs.length ∧ i = .int .i64 (I : Int) ∧ Hid (wq.grownBy wx none)) (fun i _ => vs.length - (intOf i).toNat)
          case atStart => exact ⟨0, by omega, rfl, HG0⟩
          case round =>
            obtain ⟨I, hI, rfl, HGx⟩ := hrel
            by_cases hlt : I < vs.length
            · have hltI : (I : Int) < (vs.length : Int) := by omega
              have hnI := HN.out I hlt
              obtain ⟨g1, c1, hv1, _, hc1⟩ := own_cell (HL.out.kept HGx.out (Classical.em _)) I hlt
              cases hv1
              rw [show vs[I]? = some (vs.getD I default) by rw [List.getD_eq_getElem?_getD, List.getElem?_eq_getElem hlt]; rfl] at hc1
              obtain ⟨g2, c2, hv2, _, hc2⟩ := own_cell (HOwn.out.kept HGx.out (Classical.em _)) I hlt
              cases hv2
              rw [show ls[I]? = some (ls.getD I default) by rw [List.getD_eq_getElem?_getD, List.getElem?_eq_getElem (by omega)]; rfl] at hc2
              obtain ⟨a3, c3, g4, c4, hv3, hv4, hr1, hr2, hr3⟩ := HQ.out.read hlt (by omega)
              rw [hv3] at hc1
              rw [hv4] at hc2
              have HC1 := Lib.hid hc1
              have HC2 := Lib.hid hc2
              have HRx := Lib.hid hr1
              have HRy := Lib.hid hr2
              have HRz := Lib.hid hr3
              clear hr1 hr2 hr3
              go_wp2_with fail
              have HG1 : Hid (∀ wx, wr.grownBy wx none → wx.cell? ⟨g1, I, none⟩ = some (.slice a3 (ns I) c3) ∧ wx.cell? ⟨g2, I, none⟩ = some (.slice (some ⟨g4, 0, none⟩) (ns I + 16) c4) ∧ wq.grownBy wx none) := Lib.hid fun wx hg => ⟨hg.cell HC1.out (by simp), hg.cell HC2.out (by simp), gb_trans HGx.out hg (Or.inl rfl)⟩
              have HGr := Lib.hid (gb_refl wr none)
              rename World => wp
              go_loopw [11] (fun i wx => ∃ (K : Nat), K ≤ ns I ∧ i = .int .i64 (K : Int) ∧ Hid (wp.grownBy wx none)) (fun i _ => ns I - (intOf i).toNat)
              case atStart => exact ⟨0, by omega, rfl, HGr⟩
              case round =>
                obtain ⟨K, hK, rfl, HGy⟩ := hrel
                by_cases hlk : K < ns I
                · have hltK : (K : Int) < (ns I : Int) := by omega
                  obtain ⟨g3, v3, rfl, r1, m1⟩ := HRx.out K hlk
                  obtain ⟨v4, r2, m2⟩ := HRy.out K hlk
                  obtain ⟨h1, h2, h3⟩ := HG1.out wr HGy.out
                  have q1 := h3.cell r1 (by simp)
                  have M1 := Lib.hid (m1.kept h3)
                  have M2 := Lib.hid (m2.kept h3)
                  have R2 := Lib.hid (h3.cell r2 (by simp))
                  have hK16 : (K : Int) < (ns I : Int) + 16 := by omega
                  have hga := World.grownBy_alloc wr (.cells #[.int .i64 (I : Int), .int .i64 (K : Int)] 3) none
                  have HS1 := Lib.hid (same_ints ((M1.out.kept hga).ints (by omega) (by omega)) ((isM_new wr (I : Int) (K : Int)).ints (by omega) (by omega)))
                  have HGA := Lib.hid hga
                  obtain ⟨bm, rfl, _⟩ := m1
                  obtain ⟨bn, rfl, _⟩ := m2
                  clear hga r1 r2
                  go_wp2_with fail
                  refine HS1.out.mono ?_
                  rintro e w1 ⟨rfl, hg1⟩
                  have hgw1 := gb_trans HGA.out hg1 (Or.inl rfl)
                  have q2 := hgw1.cell R2.out (by simp)
                  have q3 := hgw1.cell h2 (by simp)
                  have hga2 := World.grownBy_alloc w1 (.cells #[.int .i64 (I : Int), .int .i64 (K : Int)] 3) none
                  have HS2 := Lib.hid (same_ints (((M2.out.kept hgw1).kept hga2).ints (by omega) (by omega)) ((isM_new w1 (I : Int) (K : Int)).ints (by omega) (by omega)))
                  have HGB := Lib.hid (gb_trans hgw1 hga2 (Or.inl rfl))
                  clear hga2 hg1 hgw1
                  go_wp2_with fail
                  refine HS2.out.mono ?_
                  rintro e w2 ⟨rfl, hg2⟩
                  go_wp2_with fail
                  exact ⟨⟨K + 1, by omega, by go_num, Lib.hid (gb_trans HGy.out (gb_trans HGB.out hg2 (Or.inl rfl)) (Or.inl rfl))⟩, by simp [intOf]; omega⟩
                · obtain rfl : K = ns I := by omega
                  have hltK : ¬ ((ns I : Int) < (ns I : Int)) := by omega
                  go_wp2_with fail
                  have HGs := HGy
                  go_loopw [12] (fun i wx => ∃ (K : Nat), K ≤ 16 ∧ i = .int .i64 (K : Int) ∧ Hid (wp.grownBy wx none)) (fun i _ => 16 - (intOf i).toNat)
                  case atStart => exact ⟨0, by omega, rfl, HGs⟩
                  case round =>
                    obtain ⟨K, hK, rfl, HGz⟩ := hrel
                    by_cases hlk : K < 16
                    · have hltK : (K : Int) < 16 := by omega
                      obtain ⟨v5, r3, m3⟩ := HRz.out K hlk
                      obtain ⟨h1, h2, h3⟩ := HG1.out wr HGz.out
                      have q3 := h3.cell r3 (by simp)
                      have M3 := Lib.hid (m3.kept h3)
                      have hK16 : (ns I : Int) + (K : Int) < (ns I : Int) + 16 := by omega
                      have hga := World.grownBy_alloc wr (.cells #[.int .i64 (-1 - (I : Int)), .int .i64 (K : Int)] 3) none
                      have HS3 := Lib.hid (same_ints ((M3.out.kept hga).ints (by omega) (by omega)) ((isM_new wr (-1 - (I : Int)) (K : Int)).ints (by omega) (by omega)))
                      have HGA := Lib.hid hga
                      obtain ⟨bm, rfl, _⟩ := m3
                      clear hga r3
                      go_wp2_with fail
                      refine HS3.out.mono ?_
                      rintro e w1 ⟨rfl, hg1⟩
                      go_wp2_with fail
                      exact ⟨⟨K + 1, by omega, by go_num, Lib.hid (gb_trans HGz.out (gb_trans HGA.out hg1 (Or.inl rfl)) (Or.inl rfl))⟩, by simp [intOf]; omega⟩
                    · obtain rfl : K = 16 := by omega
                      have hltK : ¬ ((16 : Int) < 16) := by omega
                      go_wp2_with fail
                      exact ⟨⟨I + 1, by omega, by go_num, Lib.hid (gb_trans HGx.out HGz.out (Or.inl rfl))⟩, by simp [intOf]; omega⟩
            · obtain rfl : I = vs.length := by omega
              have hltI : ¬ ((vs.length : Int) < (vs.length : Int)) := by omega
              go_wp2_with fail
              go_ret
              exact ⟨rfl, HE.out _ HGx.out⟩
end Go.Proofs.Ytcdepblajobemaa
namespace Go.Proofs.Ytcdepblajobemaa
open Go.RowKit

theorem ownnil_bytes (w : World) : Calls Try.prog 78 #[.slice none 0 0] w fun e w' => e = .returned (.bool true) ∧ w = w' := by
  go_enter Try.func78, Try.ntmps78
  go_wp2_with fail
  go_loop [3] (fun i => i = .int .i64 0) (fun _ => 0)
  case atStart => rfl
  case round =>
    obtain rfl := hrel
    go_wp2_with fail
    go_loop [6] (fun i => i = .int .i64 0) (fun _ => 0)
    case atStart => rfl
    case round =>
      obtain rfl := hrel
      go_wp2_with fail
      go_loop [9] (fun i => i = .int .i64 0) (fun _ => 0)
      case atStart => rfl
      case round =>
        obtain rfl := hrel
        go_wp2_with fail
        go_ret
        exact ⟨rfl, rfl⟩
theorem ownnil_texts (w : World) : Calls Try.prog 79 #[.slice none 0 0] w fun e w' => e = .returned (.bool true) ∧ w = w' := by
  go_enter Try.func79, Try.ntmps79
  go_wp2_with fail
  go_loop [3] (fun i => i = .int .i64 0) (fun _ => 0)
  case atStart => rfl
  case round =>
    obtain rfl := hrel
    go_wp2_with fail
    go_loop [6] (fun i => i = .int .i64 0) (fun _ => 0)
    case atStart => rfl
    case round =>
      obtain rfl := hrel
      go_wp2_with fail
      go_loop [9] (fun i => i = .int .i64 0) (fun _ => 0)
      case atStart => rfl
      case round =>
        obtain rfl := hrel
        go_wp2_with fail
        go_ret
        exact ⟨rfl, rfl⟩
theorem ownnil_ints (w : World) : Calls Try.prog 80 #[.slice none 0 0] w fun e w' => e = .returned (.bool true) ∧ w = w' := by
  go_enter Try.func80, Try.ntmps80
  go_wp2_with fail
  go_loop [3] (fun i => i = .int .i64 0) (fun _ => 0)
  case atStart => rfl
  case round =>
    obtain rfl := hrel
    go_wp2_with fail
    go_loop [6] (fun i => i = .int .i64 0) (fun _ => 0)
    case atStart => rfl
    case round =>
      obtain rfl := hrel
      go_wp2_with fail
      go_loop [9] (fun i => i = .int .i64 0) (fun _ => 0)
      case atStart => rfl
      case round =>
        obtain rfl := hrel
        go_wp2_with fail
        go_ret
        exact ⟨rfl, rfl⟩
theorem ownnil_letters (w : World) : Calls Try.prog 82 #[.slice none 0 0] w fun e w' => e = .returned (.bool true) ∧ w = w' := by
  go_enter Try.func82, Try.ntmps82
  go_wp2_with fail
  go_loop [3] (fun i => i = .int .i64 0) (fun _ => 0)
  case atStart => rfl
  case round =>
    obtain rfl := hrel
    go_wp2_with fail
    go_loop [6] (fun i => i = .int .i64 0) (fun _ => 0)
    case atStart => rfl
    case round =>
      obtain rfl := hrel
      go_wp2_with fail
      go_loop [9] (fun i => i = .int .i64 0) (fun _ => 0)
      case atStart => rfl
      case round =>
        obtain rfl := hrel
        go_wp2_with fail
        go_ret
        exact ⟨rfl, rfl⟩
theorem ownnil_edges (w : World) : Calls Try.prog 83 #[.slice none 0 0] w fun e w' => e = .returned (.bool true) ∧ w = w' := by
  go_enter Try.func83, Try.ntmps83
  go_wp2_with fail
  go_loop [3] (fun i => i = .int .i64 0) (fun _ => 0)
  case atStart => rfl
  case round =>
    obtain rfl := hrel
    go_wp2_with fail
    go_loop [6] (fun i => i = .int .i64 0) (fun _ => 0)
    case atStart => rfl
    case round =>
      obtain rfl := hrel
      go_wp2_with fail
      go_loop [9] (fun i => i = .int .i64 0) (fun _ => 0)
      case atStart => rfl
      case round =>
        obtain rfl := hrel
        go_wp2_with fail
        go_ret
        exact ⟨rfl, rfl⟩
theorem ownnil_tokens (w : World) : Calls Try.prog 84 #[.slice none 0 0] w fun e w' => e = .returned (.bool true) ∧ w = w' := by
  go_enter Try.func84, Try.ntmps84
  go_wp2_with fail
  go_loop [3] (fun i => i = .int .i64 0) (fun _ => 0)
  case atStart => rfl
  case round =>
    obtain rfl := hrel
    go_wp2_with fail
    go_loop [6] (fun i => i = .int .i64 0) (fun _ => 0)
    case atStart => rfl
    case round =>
      obtain rfl := hrel
      go_wp2_with fail
      go_loop [9] (fun i => i = .int .i64 0) (fun _ => 0)
      case atStart => rfl
      case round =>
        obtain rfl := hrel
        go_wp2_with fail
        go_ret
        exact ⟨rfl, rfl⟩
theorem ownnil_verdicts (w : World) : Calls Try.prog 85 #[.slice none 0 0] w fun e w' => e = .returned (.bool true) ∧ w = w' := by
  go_enter Try.func85, Try.ntmps85
  go_wp2_with fail
  go_loop [3] (fun i => i = .int .i64 0) (fun _ => 0)
  case atStart => rfl
  case round =>
    obtain rfl := hrel
    go_wp2_with fail
    go_loop [6] (fun i => i = .int .i64 0) (fun _ => 0)
    case atStart => rfl
    case round =>
      obtain rfl := hrel
      go_wp2_with fail
      go_loop [9] (fun i => i = .int .i64 0) (fun _ => 0)
      case atStart => rfl
      case round =>
        obtain rfl := hrel
        go_wp2_with fail
        go_ret
        exact ⟨rfl, rfl⟩
theorem ownnil_alarms (w : World) : Calls Try.prog 86 #[.slice none 0 0] w fun e w' => e = .returned (.bool true) ∧ w = w' := by
  go_enter Try.func86, Try.ntmps86
  go_wp2_with fail
  go_loop [3] (fun i => i = .int .i64 0) (fun _ => 0)
  case atStart => rfl
  case round =>
    obtain rfl := hrel
    go_wp2_with fail
    go_loop [6] (fun i => i = .int .i64 0) (fun _ => 0)
    case atStart => rfl
    case round =>
      obtain rfl := hrel
      go_wp2_with fail
      go_loop [9] (fun i => i = .int .i64 0) (fun _ => 0)
      case atStart => rfl
      case round =>
        obtain rfl := hrel
        go_wp2_with fail
        go_ret
        exact ⟨rfl, rfl⟩
theorem ownnil_slices (w : World) : Calls Try.prog 87 #[.slice none 0 0] w fun e w' => e = .returned (.bool true) ∧ w = w' := by
  go_enter Try.func87, Try.ntmps87
  go_wp2_with fail
  go_loop [3] (fun i => i = .int .i64 0) (fun _ => 0)
  case atStart => rfl
  case round =>
    obtain rfl := hrel
    go_wp2_with fail
    go_loop [6] (fun i => i = .int .i64 0) (fun _ => 0)
    case atStart => rfl
    case round =>
      obtain rfl := hrel
      go_wp2_with fail
      go_loop [9] (fun i => i = .int .i64 0) (fun _ => 0)
      case atStart => rfl
      case round =>
        obtain rfl := hrel
        go_wp2_with fail
        go_ret
        exact ⟨rfl, rfl⟩
theorem ownnil_rows (w : World) : Calls Try.prog 88 #[.slice none 0 0] w fun e w' => e = .returned (.bool true) ∧ w = w' := by
  go_enter Try.func88, Try.ntmps88
  go_wp2_with fail
  go_loop [3] (fun i => i = .int .i64 0) (fun _ => 0)
  case atStart => rfl
  case round =>
    obtain rfl := hrel
    go_wp2_with fail
    go_loop [6] (fun i => i = .int .i64 0) (fun _ => 0)
    case atStart => rfl
    case round =>
      obtain rfl := hrel
      go_wp2_with fail
      go_loop [9] (fun i => i = .int .i64 0) (fun _ => 0)
      case atStart => rfl
      case round =>
        obtain rfl := hrel
        go_wp2_with fail
        go_ret
        exact ⟨rfl, rfl⟩
theorem ownnil_words (w : World) : Calls Try.prog 89 #[.slice none 0 0] w fun e w' => e = .returned (.bool true) ∧ w = w' := by
  go_enter Try.func89, Try.ntmps89
  go_wp2_with fail
  go_loop [3] (fun i => i = .int .i64 0) (fun _ => 0)
  case atStart => rfl
  case round =>
    obtain rfl := hrel
    go_wp2_with fail
    go_loop [6] (fun i => i = .int .i64 0) (fun _ => 0)
    case atStart => rfl
    case round =>
      obtain rfl := hrel
      go_wp2_with fail
      go_loop [9] (fun i => i = .int .i64 0) (fun _ => 0)
      case atStart => rfl
      case round =>
        obtain rfl := hrel
        go_wp2_with fail
        go_ret
        exact ⟨rfl, rfl⟩
theorem ownnil_formulas (w : World) : Calls Try.prog 90 #[.slice none 0 0] w fun e w' => e = .returned (.bool true) ∧ w = w' := by
  go_enter Try.func90, Try.ntmps90
  go_wp2_with fail
  go_loop [3] (fun i => i = .int .i64 0) (fun _ => 0)
  case atStart => rfl
  case round =>
    obtain rfl := hrel
    go_wp2_with fail
    go_loop [6] (fun i => i = .int .i64 0) (fun _ => 0)
    case atStart => rfl
    case round =>
      obtain rfl := hrel
      go_wp2_with fail
      go_loop [9] (fun i => i = .int .i64 0) (fun _ => 0)
      case atStart => rfl
      case round =>
        obtain rfl := hrel
        go_wp2_with fail
        go_ret
        exact ⟨rfl, rfl⟩
set_option maxRecDepth 100000 in
theorem ownnil_bools (w : World) : Calls Try.prog 81 #[.slice none 0 0] w fun e w' => e = .returned (.bool true) ∧ w = w' := by
  go_enter Try.func81, Try.ntmps81
  go_wp2_with fail
  go_loop [3] (fun i => ∃ b : Nat, b ≤ 1 ∧ i = .int .i64 (b : Int)) (fun i => 1 - (intOf i).toNat)
  case atStart => exact ⟨0, by omega, rfl⟩
  case round =>
    obtain ⟨b, hb, rfl⟩ := hrel
    rcases (show b = 0 ∨ b = 1 by omega) with rfl | rfl
    · go_wp2_with fail
      go_loop [4] (fun i => i = .int .i64 0) (fun _ => 0)
      case atStart => rfl
      case round =>
        obtain rfl := hrel
        go_wp2_with fail
        go_loop [7] (fun i => i = .int .i64 0) (fun _ => 0)
        case atStart => rfl
        case round =>
          obtain rfl := hrel
          go_wp2_with fail
          go_loop [10] (fun i => i = .int .i64 0) (fun _ => 0)
          case atStart => rfl
          case round =>
            obtain rfl := hrel
            go_wp2_with fail
            go_round
            case rel => exact ⟨1, by omega, rfl⟩
            case measure => first | decide | exact Nat.zero_lt_one | trace_state
    · go_wp2_with fail
      go_ret
      exact ⟨rfl, rfl⟩
end Go.Proofs.Ytcdepblajobemaa
