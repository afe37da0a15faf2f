/- The book: lists of texts, marked, grown, looked at. -/
import Derived.Test.YtcdepblajobemaaBuilds18
set_option maxRecDepth 100000
namespace Go.Proofs.Ytcdepblajobemaa
open Go.RowKit

def mkT (i k : Nat) : Value := .string (markP i k)
def mgT (i k : Nat) : Value := .string (markN (i + 1) k)
theorem Try.info23 : (Try.prog.info? 23).map (fun i => (i.zero, i.size, i.bytes)) = some (some (.slice none 0 0), 1, 24) := by kernel_rfl
theorem one_at {w : World} {Y e n cap g k : Nat} {xs : List Value} {f : Value} (h : w.ownsRow Y e 1 (.slice (some ⟨g, 0, none⟩) n cap) n xs) (hk : k < n) (hx : xs[k]? = some f) : w.cell? ⟨g, k, none⟩ = some f := by
  obtain ⟨g', c', e1, _, e2⟩ := own_cell h k hk
  cases e1
  rw [e2]
  exact hx
set_option maxRecDepth 100000 in
set_option maxHeartbeats 8000000 in
theorem own_texts {w : World} {Y : Nat} {lv : Value} {vs : List Value} {ns : Nat → Nat} (hl : w.ownsRow Y 23 1 lv vs.length vs) (hP : OwnP1 w Y 9 vs ns mkT 0 0) (hn : ∀ i, i < vs.length → ns i ≤ 1000000) (hm : vs.length ≤ 1000000) (hYw : Y ≤ w.heap.size) :
    Calls Try.prog 79 #[lv] w fun e w' => e = .returned (.bool true) ∧ Only 9 Y w w' := by
  have HL := Lib.hid hl
  have HP := Lib.hid hP
  have HN := Lib.hid hn
  obtain ⟨al, cl, rfl⟩ := own_val hl
  obtain ⟨i0, hi0, hz0a, hz1a, hz2a⟩ := info_parts Try.info9
  obtain ⟨i1, hi1, hz0b, hz1b, hz2b⟩ := info_parts Try.info23
  clear hl hP hn
  go_enter Try.func79, Try.ntmps79
  go_wp2_with fail
  go_loopw [3] (fun i wr => ∃ (I : Nat), I ≤ vs.length ∧ i = .int .i64 (I : Int) ∧ Hid (OwnP1 wr Y 9 vs ns mkT I 0) ∧ Hid (wr.ownsRow Y 23 1 (.slice al vs.length cl) vs.length vs) ∧ Hid (Only 9 Y w wr)) (fun i _ => vs.length - (intOf i).toNat)
  case atStart => exact ⟨0, by omega, rfl, HP, HL, Lib.hid (Only.refl _ _ _)⟩
  case round =>
    obtain ⟨I, hI, rfl, HP1, HL1, HB1⟩ := hrel
    by_cases hlt : I < vs.length
    · have hltI : (I : Int) < (vs.length : Int) := by omega
      have hnI := HN.out I hlt
      go_wp2_with fail
      go_loopw [4] (fun i wr => ∃ (K : Nat), K ≤ ns I ∧ i = .int .i64 (K : Int) ∧ Hid (OwnP1 wr Y 9 vs ns mkT I K) ∧ Hid (wr.ownsRow Y 23 1 (.slice al vs.length cl) vs.length vs) ∧ Hid (Only 9 Y w wr)) (fun i _ => ns I - (intOf i).toNat)
      case atStart => exact ⟨0, by omega, rfl, HP1, HL1, HB1⟩
      case round =>
        obtain ⟨K, hK, rfl, HP2, HL2, HB2⟩ := hrel
        obtain ⟨g1, c1, hv1, _, hc1⟩ := own_cell HL2.out I hlt
        cases hv1
        rw [show vs[I]? = some (vs.getD I default) by rw [List.getD_eq_getElem?_getD, List.getElem?_eq_getElem hlt]; rfl] at hc1
        by_cases hlk : K < ns I
        · have hltK : (K : Int) < (ns I : Int) := by omega
          obtain ⟨g, cap, _, hv, _⟩ := HP2.out.store hlt hlk
          have HM := Lib.hid (fun w' => markp_any I K w' (by omega) (by omega))
          -- the store, in whatever world the mark leaves
          have HSt : Hid (∀ wx, wr.grownBy wx none → (∃ u, wx.cell? ⟨g, K, none⟩ = some u) ∧ wx.frozen? ⟨g, K, none⟩ = false ∧
              Hid (OwnP1 (wx.setCell ⟨g, K, none⟩ (.string (markP I K))) Y 9 vs ns mkT I (K + 1) ∧ (wx.setCell ⟨g, K, none⟩ (.string (markP I K))).ownsRow Y 23 1 (.slice (some ⟨g1, 0, none⟩) vs.length cl) vs.length vs ∧ Only 9 Y w (wx.setCell ⟨g, K, none⟩ (.string (markP I K))))) := Lib.hid fun wx hg => by
            obtain ⟨g', cap', u', hv', hc', hf', hP3, hg3, hYg, cg, hbg⟩ := (HP2.out.kept hg).store hlt hlk
            rw [hv] at hv'
            cases hv'
            have hLx := HL2.out.kept hg (Classical.em _)
            have hYr : Y ≤ wr.heap.size := Nat.le_trans hYw HB2.out.bel.size
            exact ⟨⟨_, hc'⟩, hf', Lib.hid ⟨hP3, hLx.kept hg3 (own_off hLx hbg (by decide)), (HB2.out.grown hg hYr (fun _ e => by cases e)).grown hg3 (Nat.le_trans hYr hg.size) (fun _ e => by cases e; exact ⟨hYg, Or.inr ⟨_, _, hbg⟩⟩)⟩⟩
          generalize markP I K = m at HM HSt
          rw [hv] at hc1
          have HC1 : Hid (∀ wx, wr.grownBy wx none → wx.cell? ⟨g1, I, none⟩ = some (.slice (some ⟨g, 0, none⟩) (ns I) cap)) := Lib.hid fun wx hg => hg.cell hc1 (by simp)
          clear hv
          go_wp2_with fail
          go_region_with (go_at_call 108; refine (HM.out _).mono ?_; rintro e w1 ⟨rfl, hg1⟩; have hg1' := gb_trans (gb_drew wr none) hg1 (Or.inl rfl); have hc1' := HC1.out _ hg1'; obtain ⟨⟨u0, hu0⟩, hf, HEnd⟩ := HSt.out _ hg1')
          all_goals go_wp2_with fail
          all_goals exact ⟨⟨K + 1, by omega, by go_num, Lib.hid HEnd.out.1, Lib.hid HEnd.out.2.1, Lib.hid HEnd.out.2.2⟩, by simp [intOf]; omega⟩
        · obtain rfl : K = ns I := by omega
          have hltK : ¬ ((ns I : Int) < (ns I : Int)) := by omega
          obtain ⟨a, cap, hv⟩ := HP2.out.at hlt
          rw [hv] at hc1
          go_wp2_with fail
          exact ⟨⟨I + 1, by omega, by go_num, Lib.hid HP2.out.next, HL2, HB2⟩, by simp [intOf]; omega⟩
    · obtain rfl : I = vs.length := by omega
      have hltI : ¬ ((vs.length : Int) < (vs.length : Int)) := by omega
      go_wp2_with fail
      have HQ0 : Hid (OwnP2 wr Y 9 vs ns mkT mgT []) := Lib.hid HP1.out.turn
      have HZ : Hid (Y ≤ wr.heap.size ∧ w.heap.size ≤ wr.heap.size) := Lib.hid ⟨Nat.le_trans hYw HB1.out.bel.size, HB1.out.bel.size⟩
      have HGl : Hid (∀ b, (Value.slice al vs.length cl).ownBlock = some b → b < wr.heap.size) := Lib.hid fun b hb => (HL1.out.lt b hb).2
      have hz0 : wr.heap.size ≤ wr.heap.size := Nat.le_refl _
      generalize hZ : wr.heap.size = Z at HZ HGl hz0
      clear HP1 HP hI hlt
      go_loopw [6, 5] (fun i lg wr => ∃ (I : Nat) (ls : List Value), I ≤ vs.length ∧ i = .int .i64 (I : Int) ∧ ls.length = I ∧ wr.ownsRow Z 23 1 lg I ls ∧ Hid (OwnP2 wr Y 9 vs ns mkT mgT ls) ∧ Hid (wr.ownsRow Y 23 1 (.slice al vs.length cl) vs.length vs) ∧ Hid (Only 9 Y w wr) ∧ Z ≤ wr.heap.size) (fun i _ _ => vs.length - (intOf i).toNat)
      case atStart => exact ⟨0, [], by omega, rfl, rfl, World.ownsRow_nil _ _ _ _, HQ0, HL1, HB1, by omega⟩
      case round =>
        obtain ⟨I, ls, hI, rfl, hll, hown, HQ, HL, HB, hz⟩ := hrel
        obtain ⟨ag, cg, rfl⟩ := own_val hown
        by_cases hlt : I < vs.length
        · have hltI : (I : Int) < (vs.length : Int) := by omega
          have hnI := HN.out I hlt
          obtain ⟨g1, c1, hv1, _, hc1⟩ := own_cell HL.out I hlt
          cases hv1
          rw [show vs[I]? = some (vs.getD I default) by rw [List.getD_eq_getElem?_getD, List.getElem?_eq_getElem hlt]; rfl] at hc1
          have hX0 := HQ.out.begin (by omega)
          rw [hll] at hX0
          obtain ⟨a0, c0, hv0⟩ : ∃ a0 c0, vs.getD I default = .slice a0 (ns I) c0 := by
            obtain ⟨xs, h1, _⟩ := HQ.out.rows I hlt
            exact own_val h1
          rw [hv0] at hX0 hc1
          have HX0 := Lib.hid hX0
          have HOwn := Lib.hid hown
          clear hX0 hown
          go_wp2_with fail
          go_loopw [7, 8] (fun x k wr => ∃ (K : Nat), K ≤ 16 ∧ k = .int .i64 (K : Int) ∧ Hid (OwnX wr Y 9 vs ns mkT mgT ls x K) ∧ Hid (wr.ownsRow Z 23 1 (.slice ag I cg) I ls) ∧ Hid (wr.ownsRow Y 23 1 (.slice (some ⟨g1, 0, none⟩) vs.length cl) vs.length vs) ∧ Hid (Only 9 Y w wr) ∧ Z ≤ wr.heap.size) (fun _ k _ => 16 - (intOf k).toNat)
          case atStart => exact ⟨0, by omega, rfl, HX0, HOwn, HL, HB, hz⟩
          case round =>
            obtain ⟨K, hK, rfl, HX, HOw, HLr, HBr, hzr⟩ := hrel
            obtain ⟨ax, cx, rfl⟩ := HX.out.val
            have hYr : Y ≤ wr.heap.size := Nat.le_trans HZ.out.1 hzr
            rw [hll]
            by_cases hlk : K < 16
            · have hltK : (K : Int) < 16 := by omega
              obtain ⟨xs, hx, hxm, hxq⟩ := HX.out.row
              have HM := Lib.hid (fun w' => markn_any I K w' (by omega) (by omega))
              have hmg : mgT I K = .string (markN (I + 1) K) := rfl
              generalize markN (I + 1) K = m at HM hmg
              have HMg := Lib.hid hmg
              have HXr := Lib.hid hx
              have HXm := Lib.hid hxm
              have HXq := Lib.hid hxq
              clear hx hxm hxq hmg
              go_wp2_with (first
                | (go_at_call 108; refine (HM.out _).mono ?_; rintro e w1 ⟨rfl, hg1⟩; have hga := gb_trans hg1 (World.grownBy_alloc w1 (.cells #[.string m] 9) none) (Or.inl rfl); have hxa := HXr.out.kept hga (Classical.em _); rw [hll] at hxa; have HXA := Lib.hid hxa; have HGA := Lib.hid hga; have HNB := Lib.hid (World.news_of_block (heap_alloc_new w1 (.cells #[.string m] 9))); have hsz1 := hg1.size; clear hxa hga hg1)
                | (at_builtin; (refine wpList_append_keeps _ rfl (.tmp 51) (.tmp 56) 23 rfl Y 9 i0 (.string ⟨#[]⟩) 1 16 Try.underlying23 hi0 hz0a hz1a hz2a rfl (by decide) (.slice ax (ns I + K) cx) (ns I + K) xs rfl HXA.out ⟨w1.heap.size, 0, none⟩ 1 1 [.string m] rfl rfl HNB.out (by simp [Value.oneCell']) (by decide) (by unfold maxLen; omega) (by omega) (by rw [World.size_alloc]; omega) ?_; intro g5 cap5 w5 hown5 hor5; have HO5 := Lib.hid hown5; have HR5 := Lib.hid hor5; clear hown5 hor5)))
              have hP5 := HX.out.push HGA.out HXr.out HXm.out HXq.out (by rw [hll, HMg.out]; exact HO5.out) (by rw [hll]; exact HR5.out)
              rw [hll] at hP5
              have hK5 : Hid ((w5.ownsRow Z 23 1 (.slice ag I cg) I ls) ∧ (w5.ownsRow Y 23 1 (.slice (some ⟨g1, 0, none⟩) vs.length cl) vs.length vs) ∧ Only 9 Y w w5 ∧ wr.heap.size ≤ w5.heap.size) := Lib.hid (by
                have hga := HGA.out
                have hBa := HBr.out.grown hga hYr (fun _ e => by cases e)
                have hLa := HOw.out.kept hga (Classical.em _)
                have hla := HLr.out.kept hga (Classical.em _)
                have hsz := hga.size
                rcases HR5.out with ⟨he, hg⟩ | ⟨hg0, hg⟩
                · obtain ⟨cc, hcc⟩ := own_holds (he ▸ HXA.out)
                  exact ⟨hLa.kept hg (own_off hLa hcc (by decide)), hla.kept hg (own_off hla hcc (by decide)), hBa.grown hg (Nat.le_trans hYr hsz) (fun b e => by cases e; exact ⟨(HXA.out.lt _ (by rw [he]; rfl)).1, Or.inr ⟨_, _, hcc⟩⟩), Nat.le_trans hsz hg.size⟩
                · exact ⟨hLa.kept hg (Classical.em _), hla.kept hg (Classical.em _), hBa.grown hg (Nat.le_trans hYr hsz) (fun b e => by cases e), Nat.le_trans hsz hg.size⟩)
              exact ⟨⟨K + 1, by omega, by go_num, Lib.hid hP5, Lib.hid hK5.out.1, Lib.hid hK5.out.2.1, Lib.hid hK5.out.2.2.1, Nat.le_trans hzr hK5.out.2.2.2⟩, by simp [intOf]; omega⟩
            · obtain rfl : K = 16 := by omega
              have hltK : ¬ ((16 : Int) < 16) := by omega
              have hga := World.grownBy_alloc wr (.cells #[.slice ax (ns I + 16) cx] 23) none
              have HLA := Lib.hid (HOw.out.kept hga (Classical.em _))
              go_wp2_with (at_builtin; (refine wpList_append_lies _ rfl (.tmp 58) (.tmp 60) 67 rfl Z 23 i1 (.slice none 0 0) 1 24 Try.underlying67 hi1 hz0b hz1b hz2b rfl (by decide) (.slice ag I cg) I ls rfl HLA.out ⟨wr.heap.size, 0, none⟩ 1 1 [.slice ax (ns I + 16) cx] rfl rfl (cell_one_new _ _ _) (by simp [Value.oneCell']) (by decide) (by unfold maxLen; omega) (by omega) (by rw [World.size_alloc]; omega) _ rfl ?_; intro g5 cap5 w5 hown5 hgr5 hat5 hlt5))
              have hP5 := ((HX.out.kept hga).apart HLA.out (by decide) hgr5).done
              have hlb : ∀ b, (Value.slice ag I cg).ownBlock = some b → Z ≤ b := fun b hb => (HLA.out.lt b hb).1
              have hl5 : w5.ownsRow Y 23 1 (.slice (some ⟨g1, 0, none⟩) vs.length cl) vs.length vs := (HLr.out.kept hga (Classical.em _)).kept hgr5 (Or.inr (fun e2 => by
                have h1 := hlb g1 e2.symm
                have h2 := HGl.out g1 rfl
                omega))
              have hB5 : Only 9 Y w w5 := (HBr.out.grown hga hYr (fun _ e => by cases e)).grown hgr5 (Nat.le_trans hYr hga.size) (fun b hb => ⟨Nat.le_trans HZ.out.1 (hlb b hb), Or.inl (Nat.le_trans HZ.out.2 (hlb b hb))⟩)
              have hz5 : Z ≤ w5.heap.size := Nat.le_trans hzr (Nat.le_trans hga.size hgr5.size)
              exact ⟨⟨I + 1, ls ++ [.slice ax (ns I + 16) cx], by omega, by go_num, by simp [hll], hown5, Lib.hid (by rw [hll] at hP5; exact hP5), Lib.hid hl5, Lib.hid hB5, hz5⟩, by simp [intOf]; omega⟩
        · obtain rfl : I = vs.length := by omega
          have hltI : ¬ ((vs.length : Int) < (vs.length : Int)) := by omega
          have HOwn := Lib.hid hown
          clear hown
          go_wp2_with fail
          have hYr : Y ≤ wr.heap.size := Nat.le_trans HZ.out.1 hz
          have HE : Hid (∀ wx, wr.grownBy wx none → Only 9 Y w wx) := Lib.hid fun wx hg => HB.out.grown hg hYr (fun _ e => by cases e)
          have HG0 := Lib.hid (gb_refl wr none)
          clear HB
          rename World => wq
          go_loopw [9] (fun i wx => ∃ (I : Nat), I ≤ vs.length ∧ i = .int .i64 (I : Int) ∧ Hid (wq.grownBy wx none)) (fun i _ => vs.length - (intOf i).toNat)
          case atStart => exact ⟨0, by omega, rfl, HG0⟩
          case round =>
            obtain ⟨I, hI, rfl, HGx⟩ := hrel
            by_cases hlt : I < vs.length
            · have hltI : (I : Int) < (vs.length : Int) := by omega
              have hnI := HN.out I hlt
              obtain ⟨g1, c1, hv1, _, hc1⟩ := own_cell (HL.out.kept HGx.out (Classical.em _)) I hlt
              cases hv1
              rw [show vs[I]? = some (vs.getD I default) by rw [List.getD_eq_getElem?_getD, List.getElem?_eq_getElem hlt]; rfl] at hc1
              obtain ⟨g2, c2, hv2, _, hc2⟩ := own_cell (HOwn.out.kept HGx.out (Classical.em _)) I hlt
              cases hv2
              rw [show ls[I]? = some (ls.getD I default) by rw [List.getD_eq_getElem?_getD, List.getElem?_eq_getElem (by omega)]; rfl] at hc2
              obtain ⟨xs, hx, hxm⟩ := HQ.out.rows I hlt
              obtain ⟨ys, hy, hym, hyq⟩ := HQ.out.long I (by omega)
              obtain ⟨a3, c3, hv3⟩ := own_val hx
              obtain ⟨g4, c4, hv4, _, _⟩ := own_cell hy 0 (by omega)
              rw [hv3] at hx hc1
              rw [hv4] at hy hc2
              have HC1 := Lib.hid hc1
              have HC2 := Lib.hid hc2
              have HRx : Hid (∀ K, K < ns I → ∃ g, a3 = some ⟨g, 0, none⟩ ∧ ∀ wx, wq.grownBy wx none → wx.cell? ⟨g, K, none⟩ = some (mkT I K)) := Lib.hid fun K hK => by
                obtain ⟨g, c, e1, _, _⟩ := own_cell hx K hK
                cases e1
                exact ⟨g, rfl, fun wx hg => one_at (hx.kept hg (Classical.em _)) hK (hxm K hK)⟩
              have HRy : Hid (∀ K, K < ns I → ∀ wx, wq.grownBy wx none → wx.cell? ⟨g4, K, none⟩ = some (mkT I K)) := Lib.hid fun K hK wx hg => one_at (hy.kept hg (Classical.em _)) (by omega) (hym K hK)
              have HRz : Hid (∀ K, K < 16 → ∀ wx, wq.grownBy wx none → wx.cell? ⟨g4, ns I + K, none⟩ = some (mgT I K)) := Lib.hid fun K hK wx hg => one_at (hy.kept hg (Classical.em _)) (by omega) (hyq K hK)
              clear hx hy hxm hym hyq
              go_wp2_with fail
              have HG1 : Hid (∀ wx, wr.grownBy wx none → wx.cell? ⟨g1, I, none⟩ = some (.slice a3 (ns I) c3) ∧ wx.cell? ⟨g2, I, none⟩ = some (.slice (some ⟨g4, 0, none⟩) (ns I + 16) c4) ∧ wq.grownBy wx none) := Lib.hid fun wx hg => ⟨hg.cell HC1.out (by simp), hg.cell HC2.out (by simp), gb_trans HGx.out hg (Or.inl rfl)⟩
              have HGr := Lib.hid (gb_refl wr none)
              rename World => wp
              go_loopw [11] (fun i wx => ∃ (K : Nat), K ≤ ns I ∧ i = .int .i64 (K : Int) ∧ Hid (wp.grownBy wx none)) (fun i _ => ns I - (intOf i).toNat)
              case atStart => exact ⟨0, by omega, rfl, HGr⟩
              case round =>
                obtain ⟨K, hK, rfl, HGy⟩ := hrel
                by_cases hlk : K < ns I
                · have hltK : (K : Int) < (ns I : Int) := by omega
                  obtain ⟨g3, rfl, HX3⟩ := HRx.out K hlk
                  have HY3 := HRy.out K hlk
                  have HM := Lib.hid (fun w' => markp_any I K w' (by omega) (by omega))
                  have HSS : Hid (∀ wx, wr.grownBy wx none → wx.cell? ⟨g1, I, none⟩ = some (.slice (some ⟨g3, 0, none⟩) (ns I) c3) ∧ wx.cell? ⟨g3, K, none⟩ = some (.string (markP I K)) ∧ wx.cell? ⟨g2, I, none⟩ = some (.slice (some ⟨g4, 0, none⟩) (ns I + 16) c4) ∧ wx.cell? ⟨g4, K, none⟩ = some (.string (markP I K))) := Lib.hid fun wx hg => by
                    have h0 := gb_trans HGy.out hg (Or.inl rfl)
                    obtain ⟨h1, h2, h3⟩ := HG1.out wx h0
                    exact ⟨h1, HX3 wx h3, h2, HY3 wx h3⟩
                  clear HX3 HY3
                  have hK16 : (K : Int) < (ns I : Int) + 16 := by omega
                  generalize markP I K = m at HM HSS
                  go_wp2_with fail
                  refine wp_region_held_drew (S := (fun wx => wx.cell? ⟨g1, I, none⟩ = some (.slice (some ⟨g3, 0, none⟩) (ns I) c3) ∧ wx.cell? ⟨g3, K, none⟩ = some (.string m) ∧ wx.cell? ⟨g2, I, none⟩ = some (.slice (some ⟨g4, 0, none⟩) (ns I + 16) c4) ∧ wx.cell? ⟨g4, K, none⟩ = some (.string m))) (by kernel_rfl) (HSS.out _ (gb_drew _ none)) (fun hHeld => ?_)
                  have HG := Lib.hid (gb_drew wr none)
                  generalize wr.drew = wx0 at hHeld HG ⊢
                  refine wpAnyH_take (i := 0) (oi := ({ dst := some 78, op := Go.Op.move (Go.Operand.tmp 0), type := 67, pos := "own.go:52", after := #[], guard := none } : Oper)) (v := ?_) rfl (by kernel_rfl) (by kernel_rfl) (by kernel_rfl) (fun _ _ _ h => h) (Or.inl ⟨by rfl, ?_⟩) (by assumption) ?_
                  rotate_left
                  · (intro wS hSw; (try dsimp only at hSw); go_simp <;> with_reducible rfl)
                  try simp only [Act.put, List.setIfInBounds_toArray, List.set_cons_zero, List.set_cons_succ]
                  refine wpAnyH_take (i := 1) (oi := ({ dst := some 79, op := Go.Op.move (Go.Operand.tmp 9), type := 3, pos := "own.go:52", after := #[], guard := none } : Oper)) (v := ?_) rfl (by kernel_rfl) (by kernel_rfl) (by kernel_rfl) (fun _ _ _ h => h) (Or.inl ⟨by rfl, ?_⟩) (by assumption) ?_
                  rotate_left
                  · (intro wS hSw; (try dsimp only at hSw); go_simp <;> with_reducible rfl)
                  try simp only [Act.put, List.setIfInBounds_toArray, List.set_cons_zero, List.set_cons_succ]
                  refine wpAnyH_take (i := 2) (oi := ({ dst := some 80, op := Go.Op.indexAddr 67 (Go.Operand.tmp 78) (Go.Operand.tmp 79), type := 0, pos := "own.go:52", after := #[{ on := 0, ground := Go.Ground.data }, { on := 1, ground := Go.Ground.data }], guard := none } : Oper)) (v := ?_) rfl (by kernel_rfl) (by kernel_rfl) (by kernel_rfl) (fun _ _ _ h => h) (Or.inl ⟨by rfl, ?_⟩) (by assumption) ?_
                  rotate_left
                  · (intro wS hSw; (try dsimp only at hSw); go_simp <;> with_reducible rfl)
                  try simp only [Act.put, List.setIfInBounds_toArray, List.set_cons_zero, List.set_cons_succ]
                  refine wpAnyH_take (i := 3) (oi := ({ dst := some 81, op := Go.Op.load 23 (Go.Operand.tmp 80), type := 23, pos := "own.go:52", after := #[{ on := 2, ground := Go.Ground.data }], guard := none } : Oper)) (v := ?_) rfl (by kernel_rfl) (by kernel_rfl) (by kernel_rfl) (fun _ _ _ h => h) (Or.inl ⟨by rfl, ?_⟩) (by assumption) ?_
                  rotate_left
                  · (intro wS hSw; (try dsimp only at hSw); go_simp <;> with_reducible rfl)
                  try simp only [Act.put, List.setIfInBounds_toArray, List.set_cons_zero, List.set_cons_succ]
                  refine wpAnyH_take (i := 4) (oi := ({ dst := some 82, op := Go.Op.move (Go.Operand.tmp 11), type := 3, pos := "own.go:52", after := #[], guard := none } : Oper)) (v := ?_) rfl (by kernel_rfl) (by kernel_rfl) (by kernel_rfl) (fun _ _ _ h => h) (Or.inl ⟨by rfl, ?_⟩) (by assumption) ?_
                  rotate_left
                  · (intro wS hSw; (try dsimp only at hSw); go_simp <;> with_reducible rfl)
                  try simp only [Act.put, List.setIfInBounds_toArray, List.set_cons_zero, List.set_cons_succ]
                  refine wpAnyH_take (i := 5) (oi := ({ dst := some 83, op := Go.Op.indexAddr 23 (Go.Operand.tmp 81) (Go.Operand.tmp 82), type := 0, pos := "own.go:52", after := #[{ on := 3, ground := Go.Ground.data }, { on := 4, ground := Go.Ground.data }], guard := none } : Oper)) (v := ?_) rfl (by kernel_rfl) (by kernel_rfl) (by kernel_rfl) (fun _ _ _ h => h) (Or.inl ⟨by rfl, ?_⟩) (by assumption) ?_
                  rotate_left
                  · (intro wS hSw; (try dsimp only at hSw); go_simp <;> with_reducible rfl)
                  try simp only [Act.put, List.setIfInBounds_toArray, List.set_cons_zero, List.set_cons_succ]
                  refine wpAnyH_take (i := 6) (oi := ({ dst := some 84, op := Go.Op.load 9 (Go.Operand.tmp 83), type := 9, pos := "own.go:52", after := #[{ on := 5, ground := Go.Ground.data }], guard := none } : Oper)) (v := ?_) rfl (by kernel_rfl) (by kernel_rfl) (by kernel_rfl) (fun _ _ _ h => h) (Or.inl ⟨by rfl, ?_⟩) (by assumption) ?_
                  rotate_left
                  · (intro wS hSw; (try dsimp only at hSw); go_simp <;> with_reducible rfl)
                  try simp only [Act.put, List.setIfInBounds_toArray, List.set_cons_zero, List.set_cons_succ]
                  refine wpAnyH_take (i := 7) (oi := ({ dst := some 85, op := Go.Op.move (Go.Operand.tmp 9), type := 3, pos := "own.go:52", after := #[], guard := none } : Oper)) (v := ?_) rfl (by kernel_rfl) (by kernel_rfl) (by kernel_rfl) (fun _ _ _ h => h) (Or.inl ⟨by rfl, ?_⟩) (by assumption) ?_
                  rotate_left
                  · (intro wS hSw; (try dsimp only at hSw); go_simp <;> with_reducible rfl)
                  try simp only [Act.put, List.setIfInBounds_toArray, List.set_cons_zero, List.set_cons_succ]
                  refine wpAnyH_take (i := 8) (oi := ({ dst := some 86, op := Go.Op.move (Go.Operand.tmp 11), type := 3, pos := "own.go:52", after := #[], guard := none } : Oper)) (v := ?_) rfl (by kernel_rfl) (by kernel_rfl) (by kernel_rfl) (fun _ _ _ h => h) (Or.inl ⟨by rfl, ?_⟩) (by assumption) ?_
                  rotate_left
                  · (intro wS hSw; (try dsimp only at hSw); go_simp <;> with_reducible rfl)
                  try simp only [Act.put, List.setIfInBounds_toArray, List.set_cons_zero, List.set_cons_succ]
                  refine wpAnyH_ready (rs := [9]) (by kernel_rfl) (by simp) ?_
                  refine AllReadyH.cons (o := ({ dst := some 87, op := Go.Op.call { callee := Go.Callee.value (Go.Operand.func 108), args := #[Go.Operand.tmp 85, Go.Operand.tmp 86], argTypes := #[3, 3] }, type := 9, pos := "own.go:52", after := #[{ on := 7, ground := Go.Ground.data }, { on := 8, ground := Go.Ground.data }], guard := none } : Oper)) rfl (fun K hK => ?_) ?_
                  · go_simp
                    ((with_reducible refine (HM.out _).mono ?_); rintro e wx1 ⟨rfl, hgN⟩)
                    replace HG := Lib.hid (gb_trans HG.out hgN (Or.inl rfl))
                    clear hgN
                    refine hK.out _ _ (HSS.out _ HG.out) (fun hHeld => ?_)
                    clear hK K
                    try simp only [Act.put, List.setIfInBounds_toArray, List.set_cons_zero, List.set_cons_succ]
                    refine wpAnyH_take (i := 10) (oi := ({ dst := some 88, op := Go.Op.binOp Go.BinOp.neq 9 (Go.Operand.tmp 84) (Go.Operand.tmp 87) 9, type := 4, pos := "own.go:52", after := #[{ on := 6, ground := Go.Ground.data }, { on := 9, ground := Go.Ground.data }], guard := none } : Oper)) (v := ?_) rfl (by kernel_rfl) (by kernel_rfl) (by kernel_rfl) (fun _ _ _ h => h) (Or.inl ⟨by rfl, ?_⟩) (by assumption) ?_
                    rotate_left
                    · (intro wS hSw; (try dsimp only at hSw); go_simp <;> with_reducible rfl)
                    try simp only [Act.put, List.setIfInBounds_toArray, List.set_cons_zero, List.set_cons_succ]
                    refine wpAnyH_take (i := 11) (oi := ({ dst := some 89, op := Go.Op.move (Go.Operand.tmp 88), type := 4, pos := "own.go:52", after := #[{ on := 10, ground := Go.Ground.data }, { on := 9, ground := Go.Ground.chain }], guard := none } : Oper)) (v := ?_) rfl (by kernel_rfl) (by kernel_rfl) (by kernel_rfl) (fun _ _ _ h => h) (Or.inl ⟨by rfl, ?_⟩) (by assumption) ?_
                    rotate_left
                    · (intro wS hSw; (try dsimp only at hSw); go_simp <;> with_reducible rfl)
                    try simp only [Act.put, List.setIfInBounds_toArray, List.set_cons_zero, List.set_cons_succ]
                    refine wpAnyH_take (i := 12) (oi := ({ dst := some 90, op := Go.Op.move (Go.Operand.tmp 5), type := 67, pos := "own.go:52", after := #[{ on := 11, ground := Go.Ground.guard }], guard := some (11, false) } : Oper)) (v := ?_) rfl (by kernel_rfl) (by kernel_rfl) (by kernel_rfl) (fun _ _ _ h => h) (Or.inl ⟨by rfl, ?_⟩) (by assumption) ?_
                    rotate_left
                    · (intro wS hSw; (try dsimp only at hSw); go_simp <;> with_reducible rfl)
                    try simp only [Act.put, List.setIfInBounds_toArray, List.set_cons_zero, List.set_cons_succ]
                    refine wpAnyH_take (i := 13) (oi := ({ dst := some 91, op := Go.Op.move (Go.Operand.tmp 9), type := 3, pos := "own.go:52", after := #[{ on := 11, ground := Go.Ground.guard }], guard := some (11, false) } : Oper)) (v := ?_) rfl (by kernel_rfl) (by kernel_rfl) (by kernel_rfl) (fun _ _ _ h => h) (Or.inl ⟨by rfl, ?_⟩) (by assumption) ?_
                    rotate_left
                    · (intro wS hSw; (try dsimp only at hSw); go_simp <;> with_reducible rfl)
                    try simp only [Act.put, List.setIfInBounds_toArray, List.set_cons_zero, List.set_cons_succ]
                    refine wpAnyH_take (i := 14) (oi := ({ dst := some 92, op := Go.Op.indexAddr 67 (Go.Operand.tmp 90) (Go.Operand.tmp 91), type := 0, pos := "own.go:52", after := #[{ on := 12, ground := Go.Ground.data }, { on := 13, ground := Go.Ground.data }, { on := 11, ground := Go.Ground.guard }], guard := some (11, false) } : Oper)) (v := ?_) rfl (by kernel_rfl) (by kernel_rfl) (by kernel_rfl) (fun _ _ _ h => h) (Or.inl ⟨by rfl, ?_⟩) (by assumption) ?_
                    rotate_left
                    · (intro wS hSw; (try dsimp only at hSw); go_simp <;> with_reducible rfl)
                    try simp only [Act.put, List.setIfInBounds_toArray, List.set_cons_zero, List.set_cons_succ]
                    refine wpAnyH_take (i := 15) (oi := ({ dst := some 93, op := Go.Op.load 23 (Go.Operand.tmp 92), type := 23, pos := "own.go:52", after := #[{ on := 14, ground := Go.Ground.data }, { on := 11, ground := Go.Ground.guard }], guard := some (11, false) } : Oper)) (v := ?_) rfl (by kernel_rfl) (by kernel_rfl) (by kernel_rfl) (fun _ _ _ h => h) (Or.inl ⟨by rfl, ?_⟩) (by assumption) ?_
                    rotate_left
                    · (intro wS hSw; (try dsimp only at hSw); go_simp <;> with_reducible rfl)
                    try simp only [Act.put, List.setIfInBounds_toArray, List.set_cons_zero, List.set_cons_succ]
                    refine wpAnyH_take (i := 16) (oi := ({ dst := some 94, op := Go.Op.move (Go.Operand.tmp 11), type := 3, pos := "own.go:52", after := #[{ on := 11, ground := Go.Ground.guard }], guard := some (11, false) } : Oper)) (v := ?_) rfl (by kernel_rfl) (by kernel_rfl) (by kernel_rfl) (fun _ _ _ h => h) (Or.inl ⟨by rfl, ?_⟩) (by assumption) ?_
                    rotate_left
                    · (intro wS hSw; (try dsimp only at hSw); go_simp <;> with_reducible rfl)
                    try simp only [Act.put, List.setIfInBounds_toArray, List.set_cons_zero, List.set_cons_succ]
                    refine wpAnyH_take (i := 17) (oi := ({ dst := some 95, op := Go.Op.indexAddr 23 (Go.Operand.tmp 93) (Go.Operand.tmp 94), type := 0, pos := "own.go:52", after := #[{ on := 15, ground := Go.Ground.data }, { on := 16, ground := Go.Ground.data }, { on := 11, ground := Go.Ground.guard }], guard := some (11, false) } : Oper)) (v := ?_) rfl (by kernel_rfl) (by kernel_rfl) (by kernel_rfl) (fun _ _ _ h => h) (Or.inl ⟨by rfl, ?_⟩) (by assumption) ?_
                    rotate_left
                    · (intro wS hSw; (try dsimp only at hSw); go_simp <;> with_reducible rfl)
                    try simp only [Act.put, List.setIfInBounds_toArray, List.set_cons_zero, List.set_cons_succ]
                    refine wpAnyH_take (i := 18) (oi := ({ dst := some 96, op := Go.Op.load 9 (Go.Operand.tmp 95), type := 9, pos := "own.go:52", after := #[{ on := 17, ground := Go.Ground.data }, { on := 11, ground := Go.Ground.guard }], guard := some (11, false) } : Oper)) (v := ?_) rfl (by kernel_rfl) (by kernel_rfl) (by kernel_rfl) (fun _ _ _ h => h) (Or.inl ⟨by rfl, ?_⟩) (by assumption) ?_
                    rotate_left
                    · (intro wS hSw; (try dsimp only at hSw); go_simp <;> with_reducible rfl)
                    try simp only [Act.put, List.setIfInBounds_toArray, List.set_cons_zero, List.set_cons_succ]
                    refine wpAnyH_take (i := 19) (oi := ({ dst := some 97, op := Go.Op.move (Go.Operand.tmp 9), type := 3, pos := "own.go:52", after := #[{ on := 11, ground := Go.Ground.guard }], guard := some (11, false) } : Oper)) (v := ?_) rfl (by kernel_rfl) (by kernel_rfl) (by kernel_rfl) (fun _ _ _ h => h) (Or.inl ⟨by rfl, ?_⟩) (by assumption) ?_
                    rotate_left
                    · (intro wS hSw; (try dsimp only at hSw); go_simp <;> with_reducible rfl)
                    try simp only [Act.put, List.setIfInBounds_toArray, List.set_cons_zero, List.set_cons_succ]
                    refine wpAnyH_take (i := 20) (oi := ({ dst := some 98, op := Go.Op.move (Go.Operand.tmp 11), type := 3, pos := "own.go:52", after := #[{ on := 11, ground := Go.Ground.guard }], guard := some (11, false) } : Oper)) (v := ?_) rfl (by kernel_rfl) (by kernel_rfl) (by kernel_rfl) (fun _ _ _ h => h) (Or.inl ⟨by rfl, ?_⟩) (by assumption) ?_
                    rotate_left
                    · (intro wS hSw; (try dsimp only at hSw); go_simp <;> with_reducible rfl)
                    try simp only [Act.put, List.setIfInBounds_toArray, List.set_cons_zero, List.set_cons_succ]
                    refine wpAnyH_ready (rs := [21]) (by kernel_rfl) (by simp) ?_
                    refine AllReadyH.cons (o := ({ dst := some 99, op := Go.Op.call { callee := Go.Callee.value (Go.Operand.func 108), args := #[Go.Operand.tmp 97, Go.Operand.tmp 98], argTypes := #[3, 3] }, type := 9, pos := "own.go:52", after := #[{ on := 19, ground := Go.Ground.data }, { on := 20, ground := Go.Ground.data }, { on := 11, ground := Go.Ground.chain }, { on := 11, ground := Go.Ground.guard }], guard := some (11, false) } : Oper)) rfl (fun K hK => ?_) ?_
                    · go_simp
                      ((with_reducible refine (HM.out _).mono ?_); rintro e wx2 ⟨rfl, hgN⟩)
                      replace HG := Lib.hid (gb_trans HG.out hgN (Or.inl rfl))
                      clear hgN
                      refine hK.out _ _ (HSS.out _ HG.out) (fun hHeld => ?_)
                      clear hK K
                      try simp only [Act.put, List.setIfInBounds_toArray, List.set_cons_zero, List.set_cons_succ]
                      refine wpAnyH_take (i := 22) (oi := ({ dst := some 100, op := Go.Op.binOp Go.BinOp.neq 9 (Go.Operand.tmp 96) (Go.Operand.tmp 99) 9, type := 4, pos := "own.go:52", after := #[{ on := 18, ground := Go.Ground.data }, { on := 21, ground := Go.Ground.data }, { on := 11, ground := Go.Ground.guard }], guard := some (11, false) } : Oper)) (v := ?_) rfl (by kernel_rfl) (by kernel_rfl) (by kernel_rfl) (fun _ _ _ h => h) (Or.inl ⟨by rfl, ?_⟩) (by assumption) ?_
                      rotate_left
                      · (intro wS hSw; (try dsimp only at hSw); go_simp <;> with_reducible rfl)
                      try simp only [Act.put, List.setIfInBounds_toArray, List.set_cons_zero, List.set_cons_succ]
                      refine wpAnyH_take (i := 23) (oi := ({ dst := some 101, op := Go.Op.pick (Go.Operand.tmp 89) (Go.Operand.const (Go.Value.bool true)) (Go.Operand.tmp 100), type := 4, pos := "own.go:52", after := #[{ on := 11, ground := Go.Ground.data }, { on := 22, ground := Go.Ground.data }], guard := none } : Oper)) (v := ?_) rfl (by kernel_rfl) (by kernel_rfl) (by kernel_rfl) (fun _ _ _ h => h) (Or.inl ⟨by rfl, ?_⟩) (by assumption) ?_
                      rotate_left
                      · (intro wS hSw; (try dsimp only at hSw); go_simp <;> with_reducible rfl)
                      try simp only [Act.put, List.setIfInBounds_toArray, List.set_cons_zero, List.set_cons_succ]
                      refine wpAnyH_done (by kernel_rfl) ?_ _
                      go_wp2_with fail
                      exact ⟨⟨K + 1, by omega, by go_num, Lib.hid (gb_trans HGy.out HG.out (Or.inl rfl))⟩, by simp [intOf]; omega⟩
                    exact AllReadyH.nil
                  exact AllReadyH.nil
                · obtain rfl : K = ns I := by omega
                  have hltK : ¬ ((ns I : Int) < (ns I : Int)) := by omega
                  go_wp2_with fail
                  have HGs := HGy
                  go_loopw [12] (fun i wx => ∃ (K : Nat), K ≤ 16 ∧ i = .int .i64 (K : Int) ∧ Hid (wp.grownBy wx none)) (fun i _ => 16 - (intOf i).toNat)
                  case atStart => exact ⟨0, by omega, rfl, HGs⟩
                  case round =>
                    obtain ⟨K, hK, rfl, HGz⟩ := hrel
                    by_cases hlk : K < 16
                    · have hltK : (K : Int) < 16 := by omega
                      have HZ3 := HRz.out K hlk
                      have HM := Lib.hid (fun w' => markn_any I K w' (by omega) (by omega))
                      have HSS : Hid (∀ wx, wr.grownBy wx none → wx.cell? ⟨g2, I, none⟩ = some (.slice (some ⟨g4, 0, none⟩) (ns I + 16) c4) ∧ wx.cell? ⟨g4, ns I + K, none⟩ = some (.string (markN (I + 1) K))) := Lib.hid fun wx hg => by
                        have h0 := gb_trans HGz.out hg (Or.inl rfl)
                        obtain ⟨h1, h2, h3⟩ := HG1.out wx h0
                        exact ⟨h2, HZ3 wx h3⟩
                      clear HZ3
                      have hK16 : (ns I : Int) + (K : Int) < (ns I : Int) + 16 := by omega
                      have hK17 : ((ns I : Int) + (K : Int)).toNat = ns I + K := by omega
                      have hK19 : IntKind.i64.wrap ((ns I : Int) + (K : Int)) = (ns I : Int) + (K : Int) := IntWalk.i64_in _ (by omega)
                      have hK20 : IntKind.i64.wrap (-1 - (I : Int)) = -1 - (I : Int) := IntWalk.i64_in _ (by omega)
                      have hK18 : (0 : Int) ≤ (ns I : Int) + (K : Int) := by omega
                      generalize markN (I + 1) K = m at HM HSS
                      go_wp2_with fail
                      refine wp_region_held_drew (S := (fun wx => wx.cell? ⟨g2, I, none⟩ = some (.slice (some ⟨g4, 0, none⟩) (ns I + 16) c4) ∧ wx.cell? ⟨g4, ns I + K, none⟩ = some (.string m))) (by kernel_rfl) (HSS.out _ (gb_drew _ none)) (fun hHeld => ?_)
                      have HG := Lib.hid (gb_drew wr none)
                      generalize wr.drew = wx0 at hHeld HG ⊢
                      refine wpAnyH_take (i := 0) (oi := ({ dst := some 106, op := Go.Op.move (Go.Operand.tmp 5), type := 67, pos := "own.go:57", after := #[], guard := none } : Oper)) (v := ?_) rfl (by kernel_rfl) (by kernel_rfl) (by kernel_rfl) (fun _ _ _ h => h) (Or.inl ⟨by rfl, ?_⟩) (by assumption) ?_
                      rotate_left
                      · (intro wS hSw; (try dsimp only at hSw); go_simp <;> with_reducible rfl)
                      try simp only [Act.put, List.setIfInBounds_toArray, List.set_cons_zero, List.set_cons_succ]
                      refine wpAnyH_take (i := 1) (oi := ({ dst := some 107, op := Go.Op.move (Go.Operand.tmp 9), type := 3, pos := "own.go:57", after := #[], guard := none } : Oper)) (v := ?_) rfl (by kernel_rfl) (by kernel_rfl) (by kernel_rfl) (fun _ _ _ h => h) (Or.inl ⟨by rfl, ?_⟩) (by assumption) ?_
                      rotate_left
                      · (intro wS hSw; (try dsimp only at hSw); go_simp <;> with_reducible rfl)
                      try simp only [Act.put, List.setIfInBounds_toArray, List.set_cons_zero, List.set_cons_succ]
                      refine wpAnyH_take (i := 2) (oi := ({ dst := some 108, op := Go.Op.indexAddr 67 (Go.Operand.tmp 106) (Go.Operand.tmp 107), type := 0, pos := "own.go:57", after := #[{ on := 0, ground := Go.Ground.data }, { on := 1, ground := Go.Ground.data }], guard := none } : Oper)) (v := ?_) rfl (by kernel_rfl) (by kernel_rfl) (by kernel_rfl) (fun _ _ _ h => h) (Or.inl ⟨by rfl, ?_⟩) (by assumption) ?_
                      rotate_left
                      · (intro wS hSw; (try dsimp only at hSw); go_simp <;> with_reducible rfl)
                      try simp only [Act.put, List.setIfInBounds_toArray, List.set_cons_zero, List.set_cons_succ]
                      refine wpAnyH_take (i := 3) (oi := ({ dst := some 109, op := Go.Op.load 23 (Go.Operand.tmp 108), type := 23, pos := "own.go:57", after := #[{ on := 2, ground := Go.Ground.data }], guard := none } : Oper)) (v := ?_) rfl (by kernel_rfl) (by kernel_rfl) (by kernel_rfl) (fun _ _ _ h => h) (Or.inl ⟨by rfl, ?_⟩) (by assumption) ?_
                      rotate_left
                      · (intro wS hSw; (try dsimp only at hSw); go_simp <;> with_reducible rfl)
                      try simp only [Act.put, List.setIfInBounds_toArray, List.set_cons_zero, List.set_cons_succ]
                      refine wpAnyH_take (i := 4) (oi := ({ dst := some 110, op := Go.Op.move (Go.Operand.tmp 10), type := 3, pos := "own.go:57", after := #[], guard := none } : Oper)) (v := ?_) rfl (by kernel_rfl) (by kernel_rfl) (by kernel_rfl) (fun _ _ _ h => h) (Or.inl ⟨by rfl, ?_⟩) (by assumption) ?_
                      rotate_left
                      · (intro wS hSw; (try dsimp only at hSw); go_simp <;> with_reducible rfl)
                      try simp only [Act.put, List.setIfInBounds_toArray, List.set_cons_zero, List.set_cons_succ]
                      refine wpAnyH_take (i := 5) (oi := ({ dst := some 111, op := Go.Op.move (Go.Operand.tmp 12), type := 3, pos := "own.go:57", after := #[], guard := none } : Oper)) (v := ?_) rfl (by kernel_rfl) (by kernel_rfl) (by kernel_rfl) (fun _ _ _ h => h) (Or.inl ⟨by rfl, ?_⟩) (by assumption) ?_
                      rotate_left
                      · (intro wS hSw; (try dsimp only at hSw); go_simp <;> with_reducible rfl)
                      try simp only [Act.put, List.setIfInBounds_toArray, List.set_cons_zero, List.set_cons_succ]
                      refine wpAnyH_take (i := 6) (oi := ({ dst := some 112, op := Go.Op.binOp Go.BinOp.add 3 (Go.Operand.tmp 110) (Go.Operand.tmp 111) 3, type := 3, pos := "own.go:57", after := #[{ on := 4, ground := Go.Ground.data }, { on := 5, ground := Go.Ground.data }], guard := none } : Oper)) (v := ?_) rfl (by kernel_rfl) (by kernel_rfl) (by kernel_rfl) (fun _ _ _ h => h) (Or.inl ⟨by rfl, ?_⟩) (by assumption) ?_
                      rotate_left
                      · (intro wS hSw; (try dsimp only at hSw); go_simp <;> with_reducible rfl)
                      try simp only [Act.put, List.setIfInBounds_toArray, List.set_cons_zero, List.set_cons_succ]
                      refine wpAnyH_take (i := 7) (oi := ({ dst := some 113, op := Go.Op.indexAddr 23 (Go.Operand.tmp 109) (Go.Operand.tmp 112), type := 0, pos := "own.go:57", after := #[{ on := 3, ground := Go.Ground.data }, { on := 6, ground := Go.Ground.data }], guard := none } : Oper)) (v := ?_) rfl (by kernel_rfl) (by kernel_rfl) (by kernel_rfl) (fun _ _ _ h => h) (Or.inl ⟨by rfl, ?_⟩) (by assumption) ?_
                      rotate_left
                      · (intro wS hSw; (try dsimp only at hSw); go_simp <;> with_reducible rfl)
                      try simp only [Act.put, List.setIfInBounds_toArray, List.set_cons_zero, List.set_cons_succ]
                      refine wpAnyH_take (i := 8) (oi := ({ dst := some 114, op := Go.Op.load 9 (Go.Operand.tmp 113), type := 9, pos := "own.go:57", after := #[{ on := 7, ground := Go.Ground.data }], guard := none } : Oper)) (v := ?_) rfl (by kernel_rfl) (by kernel_rfl) (by kernel_rfl) (fun _ _ _ h => h) (Or.inl ⟨by rfl, ?_⟩) (by assumption) ?_
                      rotate_left
                      · (intro wS hSw; (try dsimp only at hSw); go_simp <;> with_reducible rfl)
                      try simp only [Act.put, List.setIfInBounds_toArray, List.set_cons_zero, List.set_cons_succ]
                      refine wpAnyH_take (i := 9) (oi := ({ dst := some 115, op := Go.Op.move (Go.Operand.tmp 9), type := 3, pos := "own.go:57", after := #[], guard := none } : Oper)) (v := ?_) rfl (by kernel_rfl) (by kernel_rfl) (by kernel_rfl) (fun _ _ _ h => h) (Or.inl ⟨by rfl, ?_⟩) (by assumption) ?_
                      rotate_left
                      · (intro wS hSw; (try dsimp only at hSw); go_simp <;> with_reducible rfl)
                      try simp only [Act.put, List.setIfInBounds_toArray, List.set_cons_zero, List.set_cons_succ]
                      refine wpAnyH_take (i := 10) (oi := ({ dst := some 116, op := Go.Op.binOp Go.BinOp.sub 3 (Go.Operand.const (Go.Value.int Go.IntKind.i64 (-1))) (Go.Operand.tmp 115) 3, type := 3, pos := "own.go:57", after := #[{ on := 9, ground := Go.Ground.data }], guard := none } : Oper)) (v := ?_) rfl (by kernel_rfl) (by kernel_rfl) (by kernel_rfl) (fun _ _ _ h => h) (Or.inl ⟨by rfl, ?_⟩) (by assumption) ?_
                      rotate_left
                      · (intro wS hSw; (try dsimp only at hSw); go_simp <;> with_reducible rfl)
                      try simp only [Act.put, List.setIfInBounds_toArray, List.set_cons_zero, List.set_cons_succ]
                      refine wpAnyH_take (i := 11) (oi := ({ dst := some 117, op := Go.Op.move (Go.Operand.tmp 12), type := 3, pos := "own.go:57", after := #[], guard := none } : Oper)) (v := ?_) rfl (by kernel_rfl) (by kernel_rfl) (by kernel_rfl) (fun _ _ _ h => h) (Or.inl ⟨by rfl, ?_⟩) (by assumption) ?_
                      rotate_left
                      · (intro wS hSw; (try dsimp only at hSw); go_simp <;> with_reducible rfl)
                      try simp only [Act.put, List.setIfInBounds_toArray, List.set_cons_zero, List.set_cons_succ]
                      refine wpAnyH_ready (rs := [12]) (by kernel_rfl) (by simp) ?_
                      refine AllReadyH.cons (o := ({ dst := some 118, op := Go.Op.call { callee := Go.Callee.value (Go.Operand.func 108), args := #[Go.Operand.tmp 116, Go.Operand.tmp 117], argTypes := #[3, 3] }, type := 9, pos := "own.go:57", after := #[{ on := 10, ground := Go.Ground.data }, { on := 11, ground := Go.Ground.data }], guard := none } : Oper)) rfl (fun K hK => ?_) ?_
                      · go_simp
                        ((with_reducible refine (HM.out _).mono ?_); rintro e wx1 ⟨rfl, hgN⟩)
                        replace HG := Lib.hid (gb_trans HG.out hgN (Or.inl rfl))
                        clear hgN
                        refine hK.out _ _ (HSS.out _ HG.out) (fun hHeld => ?_)
                        clear hK K
                        try simp only [Act.put, List.setIfInBounds_toArray, List.set_cons_zero, List.set_cons_succ]
                        refine wpAnyH_take (i := 13) (oi := ({ dst := some 119, op := Go.Op.binOp Go.BinOp.neq 9 (Go.Operand.tmp 114) (Go.Operand.tmp 118) 9, type := 4, pos := "own.go:57", after := #[{ on := 8, ground := Go.Ground.data }, { on := 12, ground := Go.Ground.data }], guard := none } : Oper)) (v := ?_) rfl (by kernel_rfl) (by kernel_rfl) (by kernel_rfl) (fun _ _ _ h => h) (Or.inl ⟨by rfl, ?_⟩) (by assumption) ?_
                        rotate_left
                        · (intro wS hSw; (try dsimp only at hSw); go_simp <;> with_reducible rfl)
                        try simp only [Act.put, List.setIfInBounds_toArray, List.set_cons_zero, List.set_cons_succ]
                        refine wpAnyH_done (by kernel_rfl) ?_ _
                        go_wp2_with fail
                        exact ⟨⟨K + 1, by omega, by go_num, Lib.hid (gb_trans HGz.out HG.out (Or.inl rfl))⟩, by simp [intOf]; omega⟩
                      exact AllReadyH.nil
                    · obtain rfl : K = 16 := by omega
                      have hltK : ¬ ((16 : Int) < 16) := by omega
                      go_wp2_with fail
                      exact ⟨⟨I + 1, by omega, by go_num, Lib.hid (gb_trans HGx.out HGz.out (Or.inl rfl))⟩, by simp [intOf]; omega⟩
            · obtain rfl : I = vs.length := by omega
              have hltI : ¬ ((vs.length : Int) < (vs.length : Int)) := by omega
              go_wp2_with fail
              go_ret
              exact ⟨rfl, HE.out _ HGx.out⟩
end Go.Proofs.Ytcdepblajobemaa
