/- The book: lists of verdicts, marked, grown, looked at. -/
import Derived.Test.YtpehmlkikhkmfaaOwnRows
namespace Go.Proofs.Ytpehmlkikhkmfaa
open Go.RowKit

def mkV (i k : Nat) : Value := .int .u8 ((((i : Int) * 97 + (k : Int) * 13) % 256))
def mgV (i k : Nat) : Value := .int .u8 ((((-1 - (i : Int)) * 97 + (k : Int) * 13) % 256))

theorem Try.info25 : (Try.prog.info? 25).map (fun i => (i.zero, i.size, i.bytes)) = some (some (.slice none 0 0), 1, 24) := by kernel_rfl
set_option maxRecDepth 100000 in
set_option maxHeartbeats 4000000 in
theorem own_verdicts {w : World} {Y : Nat} {lv : Value} {vs : List Value} {ns : Nat → Nat} (hl : w.ownsRow Y 25 1 lv vs.length vs) (hP : OwnP1 w Y 59 vs ns mkV 0 0) (hn : ∀ i, i < vs.length → ns i ≤ 1000000) (hm : vs.length ≤ 1000000) (hYw : Y ≤ w.heap.size) :
    Calls Try.prog 65 #[lv] w fun e w' => e = .returned (.bool true) ∧ Only 59 Y w w' := by
  have HL := Lib.hid hl
  have HP := Lib.hid hP
  have HN := Lib.hid hn
  obtain ⟨al, cl, rfl⟩ := own_val hl
  obtain ⟨i0, hi0, hz0a, hz1a, hz2a⟩ := info_parts Try.info59
  obtain ⟨i1, hi1, hz0b, hz1b, hz2b⟩ := info_parts Try.info25
  clear hl hP hn
  go_enter Try.func65, Try.ntmps65
  go_wp2_with fail
  go_loopw [3] (fun i wr => ∃ (I : Nat), I ≤ vs.length ∧ i = .int .i64 (I : Int) ∧ Hid (OwnP1 wr Y 59 vs ns mkV I 0) ∧ Hid (wr.ownsRow Y 25 1 (.slice al vs.length cl) vs.length vs) ∧ Hid (Only 59 Y w wr)) (fun i _ => vs.length - (intOf i).toNat)
  case atStart => exact ⟨0, by omega, rfl, HP, HL, Lib.hid (Only.refl _ _ _)⟩
  case round =>
    obtain ⟨I, hI, rfl, HP1, HL1, HB1⟩ := hrel
    by_cases hlt : I < vs.length
    · have hltI : (I : Int) < (vs.length : Int) := by omega
      have hnI := HN.out I hlt
      go_wp2_with fail
      go_loopw [4] (fun i wr => ∃ (K : Nat), K ≤ ns I ∧ i = .int .i64 (K : Int) ∧ Hid (OwnP1 wr Y 59 vs ns mkV I K) ∧ Hid (wr.ownsRow Y 25 1 (.slice al vs.length cl) vs.length vs) ∧ Hid (Only 59 Y w wr)) (fun i _ => ns I - (intOf i).toNat)
      case atStart => exact ⟨0, by omega, rfl, HP1, HL1, HB1⟩
      case round =>
        obtain ⟨K, hK, rfl, HP2, HL2, HB2⟩ := hrel
        obtain ⟨g1, c1, hv1, _, hc1⟩ := own_cell HL2.out I hlt
        cases hv1
        rw [show vs[I]? = some (vs.getD I default) by rw [List.getD_eq_getElem?_getD, List.getElem?_eq_getElem hlt]; rfl] at hc1
        by_cases hlk : K < ns I
        · have hltK : (K : Int) < (ns I : Int) := by omega
          obtain ⟨g, cap, u0, hv, hc, hf, hP3, hg3, hYg, cg, hbg⟩ := HP2.out.store hlt hlk
          rw [hv] at hc1
          unfold mkV at hP3 hg3
          have HEnd := Lib.hid (And.intro hP3 (And.intro (HL2.out.kept hg3 (own_off HL2.out hbg (by decide))) (HB2.out.grown hg3 (Nat.le_trans hYw HB2.out.bel.size) (fun _ e => by cases e; exact ⟨hYg, Or.inr ⟨_, _, hbg⟩⟩))))
          clear hP3 hg3 hbg
          go_wp2_with fail
          exact ⟨⟨K + 1, by omega, by go_num, Lib.hid HEnd.out.1, Lib.hid HEnd.out.2.1, Lib.hid HEnd.out.2.2⟩, by simp [intOf]; omega⟩
        · obtain rfl : K = ns I := by omega
          have hltK : ¬ ((ns I : Int) < (ns I : Int)) := by omega
          obtain ⟨a, cap, hv⟩ := HP2.out.at hlt
          rw [hv] at hc1
          go_wp2_with fail
          exact ⟨⟨I + 1, by omega, by go_num, Lib.hid HP2.out.next, HL2, HB2⟩, by simp [intOf]; omega⟩
    · obtain rfl : I = vs.length := by omega
      have hltI : ¬ ((vs.length : Int) < (vs.length : Int)) := by omega
      go_wp2_with fail
      have HQ0 : Hid (OwnP2 wr Y 59 vs ns mkV mgV []) := Lib.hid HP1.out.turn
      have HZ : Hid (Y ≤ wr.heap.size ∧ w.heap.size ≤ wr.heap.size) := Lib.hid ⟨Nat.le_trans hYw HB1.out.bel.size, HB1.out.bel.size⟩
      have HGl : Hid (∀ b, (Value.slice al vs.length cl).ownBlock = some b → b < wr.heap.size) := Lib.hid fun b hb => (HL1.out.lt b hb).2
      have hz0 : wr.heap.size ≤ wr.heap.size := Nat.le_refl _
      generalize hZ : wr.heap.size = Z at HZ HGl hz0
      clear HP1 HP hI hlt
      go_loopw [6, 5] (fun i lg wr => ∃ (I : Nat) (ls : List Value), I ≤ vs.length ∧ i = .int .i64 (I : Int) ∧ ls.length = I ∧ wr.ownsRow Z 25 1 lg I ls ∧ Hid (OwnP2 wr Y 59 vs ns mkV mgV ls) ∧ Hid (wr.ownsRow Y 25 1 (.slice al vs.length cl) vs.length vs) ∧ Hid (Only 59 Y w wr) ∧ Z ≤ wr.heap.size) (fun i _ _ => vs.length - (intOf i).toNat)
      case atStart => exact ⟨0, [], by omega, rfl, rfl, World.ownsRow_nil _ _ _ _, HQ0, HL1, HB1, by omega⟩
      case round =>
        obtain ⟨I, ls, hI, rfl, hll, hown, HQ, HL, HB, hz⟩ := hrel
        obtain ⟨ag, cg, rfl⟩ := own_val hown
        by_cases hlt : I < vs.length
        · have hltI : (I : Int) < (vs.length : Int) := by omega
          have hnI := HN.out I hlt
          obtain ⟨g1, c1, hv1, _, hc1⟩ := own_cell HL.out I hlt
          cases hv1
          rw [show vs[I]? = some (vs.getD I default) by rw [List.getD_eq_getElem?_getD, List.getElem?_eq_getElem hlt]; rfl] at hc1
          have hX0 := HQ.out.begin (by omega)
          rw [hll] at hX0
          obtain ⟨a0, c0, hv0⟩ : ∃ a0 c0, vs.getD I default = .slice a0 (ns I) c0 := by
            obtain ⟨xs, h1, _⟩ := HQ.out.rows I hlt
            exact own_val h1
          rw [hv0] at hX0 hc1
          have HX0 := Lib.hid hX0
          have HOwn := Lib.hid hown
          clear hX0 hown
          go_wp2_with fail
          go_loopw [7, 8] (fun x k wr => ∃ (K : Nat), K ≤ 16 ∧ k = .int .i64 (K : Int) ∧ Hid (OwnX wr Y 59 vs ns mkV mgV ls x K) ∧ Hid (wr.ownsRow Z 25 1 (.slice ag I cg) I ls) ∧ Hid (wr.ownsRow Y 25 1 (.slice (some ⟨g1, 0, none⟩) vs.length cl) vs.length vs) ∧ Hid (Only 59 Y w wr) ∧ Z ≤ wr.heap.size) (fun _ k _ => 16 - (intOf k).toNat)
          case atStart => exact ⟨0, by omega, rfl, HX0, HOwn, HL, HB, hz⟩
          case round =>
            obtain ⟨K, hK, rfl, HX, HOw, HLr, HBr, hzr⟩ := hrel
            obtain ⟨ax, cx, rfl⟩ := HX.out.val
            have hYr : Y ≤ wr.heap.size := Nat.le_trans HZ.out.1 hzr
            rw [hll]
            by_cases hlk : K < 16
            · have hltK : (K : Int) < 16 := by omega
              obtain ⟨xs, hx, hxm, hxq⟩ := HX.out.row
              have hga := World.grownBy_alloc wr (.cells #[.int .u8 (((-1 - (I : Int)) * 97 + (K : Int) * 13) % 256)] 59) none
              have hxa := hx.kept hga (Classical.em _)
              rw [hll] at hxa
              have HXA := Lib.hid hxa
              clear hxa
              go_wp2_with (at_builtin; (refine wpList_append_keeps _ rfl (.tmp 54) (.tmp 62) 25 rfl Y 59 i0 (.int .u8 0) 1 1 Try.underlying25 hi0 hz0a hz1a hz2a rfl (by decide) (.slice ax (ns I + K) cx) (ns I + K) xs rfl HXA.out ⟨wr.heap.size, 0, none⟩ 1 1 [.int .u8 (((-1 - (I : Int)) * 97 + (K : Int) * 13) % 256)] rfl rfl (cell_one_new _ _ _) (by simp [Value.oneCell']) (by decide) (by unfold maxLen; omega) (by omega) (by rw [World.size_alloc]; omega) ?_; intro g5 cap5 w5 hown5 hor5; have HO5 := Lib.hid hown5; have HR5 := Lib.hid hor5; clear hown5 hor5))
              have hP5 := HX.out.push hga hx hxm hxq (by rw [hll]; exact HO5.out) (by rw [hll]; exact HR5.out)
              rw [hll] at hP5
              have hK5 : Hid ((w5.ownsRow Z 25 1 (.slice ag I cg) I ls) ∧ (w5.ownsRow Y 25 1 (.slice (some ⟨g1, 0, none⟩) vs.length cl) vs.length vs) ∧ Only 59 Y w w5 ∧ wr.heap.size ≤ w5.heap.size) := Lib.hid (by
                have hBa := HBr.out.grown hga hYr (fun _ e => by cases e)
                have hLa := HOw.out.kept hga (Classical.em _)
                have hla := HLr.out.kept hga (Classical.em _)
                have hsz := hga.size
                rcases HR5.out with ⟨he, hg⟩ | ⟨hg0, hg⟩
                · obtain ⟨cc, hcc⟩ := own_holds (he ▸ HXA.out)
                  exact ⟨hLa.kept hg (own_off hLa hcc (by decide)), hla.kept hg (own_off hla hcc (by decide)), hBa.grown hg (Nat.le_trans hYr hsz) (fun b e => by cases e; exact ⟨(HXA.out.lt _ (by rw [he]; rfl)).1, Or.inr ⟨_, _, hcc⟩⟩), Nat.le_trans hsz hg.size⟩
                · exact ⟨hLa.kept hg (Classical.em _), hla.kept hg (Classical.em _), hBa.grown hg (Nat.le_trans hYr hsz) (fun b e => by cases e), Nat.le_trans hsz hg.size⟩)
              exact ⟨⟨K + 1, by omega, by go_num, Lib.hid hP5, Lib.hid hK5.out.1, Lib.hid hK5.out.2.1, Lib.hid hK5.out.2.2.1, Nat.le_trans hzr hK5.out.2.2.2⟩, by simp [intOf]; omega⟩
            · obtain rfl : K = 16 := by omega
              have hltK : ¬ ((16 : Int) < 16) := by omega
              have hga := World.grownBy_alloc wr (.cells #[.slice ax (ns I + 16) cx] 25) none
              have HLA := Lib.hid (HOw.out.kept hga (Classical.em _))
              go_wp2_with (at_builtin; (refine wpList_append_lies _ rfl (.tmp 64) (.tmp 66) 69 rfl Z 25 i1 (.slice none 0 0) 1 24 Try.underlying69 hi1 hz0b hz1b hz2b rfl (by decide) (.slice ag I cg) I ls rfl HLA.out ⟨wr.heap.size, 0, none⟩ 1 1 [.slice ax (ns I + 16) cx] rfl rfl (cell_one_new _ _ _) (by simp [Value.oneCell']) (by decide) (by unfold maxLen; omega) (by omega) (by rw [World.size_alloc]; omega) _ rfl ?_; intro g5 cap5 w5 hown5 hgr5 hat5 hlt5))
              have hP5 := ((HX.out.kept hga).apart HLA.out (by decide) hgr5).done
              have hlb : ∀ b, (Value.slice ag I cg).ownBlock = some b → Z ≤ b := fun b hb => (HLA.out.lt b hb).1
              have hl5 : w5.ownsRow Y 25 1 (.slice (some ⟨g1, 0, none⟩) vs.length cl) vs.length vs := (HLr.out.kept hga (Classical.em _)).kept hgr5 (Or.inr (fun e2 => by
                have h1 := hlb g1 e2.symm
                have h2 := HGl.out g1 rfl
                omega))
              have hB5 : Only 59 Y w w5 := (HBr.out.grown hga hYr (fun _ e => by cases e)).grown hgr5 (Nat.le_trans hYr hga.size) (fun b hb => ⟨Nat.le_trans HZ.out.1 (hlb b hb), Or.inl (Nat.le_trans HZ.out.2 (hlb b hb))⟩)
              have hz5 : Z ≤ w5.heap.size := Nat.le_trans hzr (Nat.le_trans hga.size hgr5.size)
              exact ⟨⟨I + 1, ls ++ [.slice ax (ns I + 16) cx], by omega, by go_num, by simp [hll], hown5, Lib.hid (by rw [hll] at hP5; exact hP5), Lib.hid hl5, Lib.hid hB5, hz5⟩, by simp [intOf]; omega⟩
        · obtain rfl : I = vs.length := by omega
          have hltI : ¬ ((vs.length : Int) < (vs.length : Int)) := by omega
          have HOwn := Lib.hid hown
          clear hown
          go_wp2_with fail
          go_loop [9] (fun i => ∃ (I : Nat), I ≤ vs.length ∧ i = .int .i64 (I : Int)) (fun i => vs.length - (intOf i).toNat)
          case atStart => exact ⟨0, by omega, rfl⟩
          case round =>
            obtain ⟨I, hI, rfl⟩ := hrel
            by_cases hlt : I < vs.length
            · have hltI : (I : Int) < (vs.length : Int) := by omega
              have hnI := HN.out I hlt
              obtain ⟨g1, c1, hv1, _, hc1⟩ := own_cell HL.out I hlt
              cases hv1
              rw [show vs[I]? = some (vs.getD I default) by rw [List.getD_eq_getElem?_getD, List.getElem?_eq_getElem hlt]; rfl] at hc1
              obtain ⟨g2, c2, hv2, _, hc2⟩ := own_cell HOwn.out I hlt
              cases hv2
              rw [show ls[I]? = some (ls.getD I default) by rw [List.getD_eq_getElem?_getD, List.getElem?_eq_getElem (by omega)]; rfl] at hc2
              obtain ⟨xs, hx, hxm⟩ := HQ.out.rows I hlt
              obtain ⟨ys, hy, hym, hyq⟩ := HQ.out.long I (by omega)
              obtain ⟨a3, c3, hv3⟩ := own_val hx
              obtain ⟨g4, c4, hv4, _, _⟩ := own_cell hy 0 (by omega)
              rw [hv3] at hx hc1
              rw [hv4] at hy hc2
              have HRx : Hid (∀ K, K < ns I → ∃ g, a3 = some ⟨g, 0, none⟩ ∧ wr.cell? ⟨g, K, none⟩ = some (mkV I K)) := Lib.hid fun K hK => by
                obtain ⟨g, c, e1, _, e2⟩ := own_cell hx K hK
                cases e1
                exact ⟨g, rfl, by rw [e2]; exact hxm K hK⟩
              have HRy : Hid (∀ K, K < ns I → wr.cell? ⟨g4, K, none⟩ = some (mkV I K)) := Lib.hid fun K hK => by
                obtain ⟨g, c, e1, _, e2⟩ := own_cell hy K (by omega)
                cases e1
                rw [e2]; exact hym K hK
              have HRz : Hid (∀ K, K < 16 → wr.cell? ⟨g4, ns I + K, none⟩ = some (mgV I K)) := Lib.hid fun K hK => by
                obtain ⟨g, c, e1, _, e2⟩ := own_cell hy (ns I + K) (by omega)
                cases e1
                rw [e2]; exact hyq K hK
              clear hx hy hxm hym hyq
              go_wp2_with fail
              go_loop [11] (fun i => ∃ (K : Nat), K ≤ ns I ∧ i = .int .i64 (K : Int)) (fun i => ns I - (intOf i).toNat)
              case atStart => exact ⟨0, by omega, rfl⟩
              case round =>
                obtain ⟨K, hK, rfl⟩ := hrel
                by_cases hlk : K < ns I
                · have hltK : (K : Int) < (ns I : Int) := by omega
                  obtain ⟨g3, rfl, r1⟩ := HRx.out K hlk
                  have r2 := HRy.out K hlk
                  unfold mkV at r1 r2
                  go_wp2_with fail
                  exact ⟨⟨K + 1, by omega, by go_num⟩, by simp [intOf]; omega⟩
                · obtain rfl : K = ns I := by omega
                  have hltK : ¬ ((ns I : Int) < (ns I : Int)) := by omega
                  go_wp2_with fail
                  go_loop [12] (fun i => ∃ (K : Nat), K ≤ 16 ∧ i = .int .i64 (K : Int)) (fun i => 16 - (intOf i).toNat)
                  case atStart => exact ⟨0, by omega, rfl⟩
                  case round =>
                    obtain ⟨K, hK, rfl⟩ := hrel
                    by_cases hlk : K < 16
                    · have hltK : (K : Int) < 16 := by omega
                      have r3 := HRz.out K hlk
                      unfold mgV at r3
                      go_wp2_with fail
                      exact ⟨⟨K + 1, by omega, by go_num⟩, by simp [intOf]; omega⟩
                    · obtain rfl : K = 16 := by omega
                      have hltK : ¬ ((16 : Int) < 16) := by omega
                      go_wp2_with fail
                      exact ⟨⟨I + 1, by omega, by go_num⟩, by simp [intOf]; omega⟩
            · obtain rfl : I = vs.length := by omega
              have hltI : ¬ ((vs.length : Int) < (vs.length : Int)) := by omega
              go_wp2_with fail
              go_ret
              exact ⟨rfl, HB.out⟩
end Go.Proofs.Ytpehmlkikhkmfaa
