/- Runner: Run. -/
import Derived.Test.YtpehmlkikhkmfaaRunSums
import Derived.Deep.AppendLies
namespace Go.Proofs.Ytpehmlkikhkmfaa
open Go.RowKit

/-- Events that lie in memory. -/
def EventsAt (w : World) (v : Value) (E : List (List ByteArray)) : Prop :=
  ∃ a cap, v = .slice a E.length cap ∧ E.length ≤ cap ∧ E.length ≤ 17592186043904 ∧
    (E = [] ∨ ∃ b off, a = some ⟨b, off, none⟩ ∧ ∀ k, k < E.length → ∃ u, w.cell? ⟨b, off + k, none⟩ = some u ∧ TextsAt w u (E.getD k []))
theorem EventsAt.kept {w w' : World} {v : Value} {E : List (List ByteArray)} (h : EventsAt w v E) (hg : w.grownBy w' none) : EventsAt w' v E := by
  obtain ⟨a, cap, rfl, h0, h1, h3⟩ := h
  refine ⟨a, cap, rfl, h0, h1, ?_⟩
  rcases h3 with h3 | ⟨b, off, rfl, h3⟩
  · exact Or.inl h3
  · exact Or.inr ⟨b, off, rfl, fun k hk => by obtain ⟨u, hu, hi⟩ := h3 k hk; exact ⟨u, hg.cell hu (by simp), hi.kept hg⟩⟩

/-- Where events lead. -/
def goS (P : List ByteArray) (R : List (List Int)) (E : List (List ByteArray)) : Nat := E.foldl (nextF P R) 0
theorem goS_take (P : List ByteArray) (R : List (List Int)) (E : List (List ByteArray)) (k : Nat) (hk : k < E.length) : goS P R (E.take (k + 1)) = nextF P R (goS P R (E.take k)) (E.getD k []) := by
  unfold goS
  rw [List.take_add_one, List.foldl_append]
  have e : E[k]?.toList = [E.getD k []] := by rw [List.getD_eq_getElem?_getD, List.getElem?_eq_getElem hk]; rfl
  rw [e]
  rfl
/-- The verdicts behind events. -/
def runL (P : List ByteArray) (R : List (List Int)) (O : List Int) (E : List (List ByteArray)) (n : Nat) : List Int := (List.range n).map fun k => O.getD (goS P R (E.take (k + 1))) 0
theorem runL_len (P : List ByteArray) (R : List (List Int)) (O : List Int) (E : List (List ByteArray)) (n : Nat) : (runL P R O E n).length = n := by simp [runL]
theorem runL_step (P : List ByteArray) (R : List (List Int)) (O : List Int) (E : List (List ByteArray)) (n : Nat) : (runL P R O E (n + 1)).map ov = (runL P R O E n).map ov ++ [.int .u8 (O.getD (goS P R (E.take (n + 1))) 0)] := by
  unfold runL
  rw [List.range_succ, List.map_append, List.map_append]
  rfl

theorem run_no (vp vn vo ve : Value) (P : List ByteArray) (R : List (List Int)) (O : List Int) (w : World) (hM : MachAt w vp vn vo P R O) (hE : mErr P R O = 140) :
    Calls Try.prog 21 #[.agg #[vp, vn, vo], ve] w fun e w' => e = .returned (.tuple #[.slice none 0 0, .int .i64 170]) ∧ w.grownBy w' none := by
  have hg := World.grownBy_alloc w (.cells #[vp, vn, vo] 27) none
  have c0 := cell3_0 w vp vn vo 27
  have c1 := cell3_1 w vp vn vo 27
  have c2 := cell3_2 w vp vn vo 27
  have HN := Lib.hid (new_no vp vn vo P R O _ (hM.kept hg) hE)
  clear hM hE
  go_enter Try.func21, Try.ntmps21
  go_wp2_with (go_at_call 13; refine HN.out.mono ?_; rintro e w1 ⟨rfl, hg1⟩)
  go_ret2
  exact ⟨rfl, gb_trans hg hg1 (Or.inl rfl)⟩

set_option maxHeartbeats 2000000 in
theorem run_yes (vp vn vo ve : Value) (P : List ByteArray) (R : List (List Int)) (O : List Int) (E : List (List ByteArray)) (w : World) (hM : MachAt w vp vn vo P R O) (hE : mErr P R O = 0) (hn : O.length ≤ 200000) (hev : EventsAt w ve E) (hel : E.length ≤ 1000000) :
    Calls Try.prog 21 #[.agg #[vp, vn, vo], ve] w fun e w' => ∃ v, e = .returned (.tuple #[v, .int .i64 0]) ∧ w'.ownsRow w.heap.size 59 1 v E.length ((runL P R O E E.length).map ov) ∧ w.grownBy w' none := by
  have hg := World.grownBy_alloc w (.cells #[vp, vn, vo] 27) none
  have c0 := cell3_0 w vp vn vo 27
  have c1 := cell3_1 w vp vn vo 27
  have c2 := cell3_2 w vp vn vo 27
  have HN := Lib.hid (new_live vp vn vo _ (hM.kept hg) hE hn)
  have HEv := Lib.hid hev
  have HE := Lib.hid hE
  obtain ⟨i0, hi, hz0, hz1, hz2⟩ := info_parts Try.info59
  obtain ⟨ae, ce, rfl, hce, _⟩ := hev
  clear hM hE hn
  go_enter Try.func21, Try.ntmps21
  go_wp2_with (go_at_call 13; refine HN.out.mono ?_; rintro e w1 ⟨p, F, rfl, hL, _, hg1, hp⟩)
  clear c0 c1 c2
  have hG := gb_trans hg hg1 (Or.inl rfl)
  have hpw : w.heap.size ≤ p := Nat.le_trans hg.size hp
  clear hg hg1 hp HN
  go_loopw [21, 8] (fun i l wr => ∃ (k : Nat), k ≤ E.length ∧ i = .int .i64 (k : Int) ∧ wr.ownsRow w1.heap.size 59 1 l k ((runL P R O E k).map ov) ∧ Live wr w1.heap.size p P R O F (goS P R (E.take k)) ∧ w.grownBy wr none ∧ w1.heap.size ≤ wr.heap.size) (fun i _ _ => E.length - (intOf i).toNat)
  case atStart => exact ⟨0, by omega, rfl, World.ownsRow_nil _ _ _ _, hL, hG, Nat.le_refl _⟩
  case round =>
    obtain ⟨k, hk, rfl, hown, hLr, hGr, hZr⟩ := hrel
    by_cases hlt : k < E.length
    · obtain ⟨_, _, hve, _, _, hn3⟩ := HEv.out.kept hGr
      cases hve
      rcases hn3 with rfl | ⟨be, offe, rfl, hn3⟩
      · exact absurd hlt (by simp)
      obtain ⟨u, hu, hTx⟩ := hn3 k hlt
      clear hn3
      obtain ⟨au, cu, rfl⟩ : ∃ au cu, u = .slice au (E.getD k []).length cu := by obtain ⟨au, cu, e, _⟩ := hTx; exact ⟨au, cu, e⟩
      obtain ⟨al, cl, rfl⟩ := own_val hown
      have HEvt := Lib.hid (live_event hLr HE.out hTx)
      rw [← goS_take P R E k hlt] at HEvt
      have HSt := Lib.hid (runL_step P R O E k)
      have hkI : (k : Int) < (E.length : Int) := by omega
      have HFar : Hid (∀ w2 : World, wr.grownBy w2 (some p) → w2.ownsRow w1.heap.size 59 1 (.slice al k cl) k ((runL P R O E k).map ov) ∧ w.grownBy w2 none) := Lib.hid fun w2 h2 => by
        obtain ⟨c, fr, hb⟩ := hLr.blk
        exact ⟨hown.kept h2 (own_off hown hb (by decide)), gb_trans hGr h2 (Or.inr (Or.inr ⟨p, rfl, hpw⟩))⟩
      obtain ⟨s2, hs2⟩ : ∃ s2, Hid (s2 = goS P R (E.take (k + 1))) := ⟨_, rfl⟩
      rw [← hs2.out] at HEvt HSt
      generalize O.getD s2 0 = x at HEvt HSt
      generalize hlen : (E.getD k []).length = m at hu HEvt
      clear hTx hown hLr hlen
      go_wp2_with (first
        | (go_at_call 28; refine HEvt.out.mono ?_; rintro e w2 ⟨rfl, hL2, hg2⟩; have hF2 := HFar.out _ hg2; have HL2 := Lib.hid hL2; clear hL2)
        | (at_builtin; refine wpList_append_lies _ rfl (.tmp 25) (.tmp 29) 25 rfl w1.heap.size 59 i0 (.int .u8 0) 1 1 Try.underlying25 hi hz0 hz1 hz2 rfl (by decide) (.slice al k cl) k ((runL P R O E k).map ov) rfl (hF2.1.alloc _) ⟨w2.heap.size, 0, none⟩ 1 1 [.int .u8 x] rfl rfl (cell_one_new _ _ _) (by simp [Value.oneCell']) (by decide) (by unfold maxLen; omega) (by omega) (by rw [World.size_alloc]; have := hg2.size; omega) _ rfl ?_; intro g5 cap5 w5 hown5 hgr5 hat5 hlt5))
      have hga := World.grownBy_alloc w2 (.cells #[.int .u8 x] 59) none
      rw [← HSt.out] at hown5
      have hv2 := hF2.1.kept hga (Classical.em _)
      have hb5 : ∀ b, (Value.slice al k cl).ownBlock = some b → w1.heap.size ≤ b := fun b hb => (hv2.lt b hb).1
      refine ⟨⟨k + 1, by omega, by go_num, hown5, by rw [← hs2.out]; exact (HL2.out.kept hga).over hgr5 hb5, gb_trans (gb_trans hF2.2 hga (Or.inl rfl)) hgr5 ?_, ?_⟩, by simp [intOf]; omega⟩
      · rcases e : (Value.slice al k cl).ownBlock with _ | b
        · exact Or.inl rfl
        · exact Or.inr (Or.inr ⟨b, rfl, Nat.le_trans hG.size (hb5 b e)⟩)
      · have h1 := hg2.size
        have h2 := hga.size
        have h3 := hgr5.size
        omega
    · obtain rfl : k = E.length := by omega
      go_wp2_with fail
      go_ret2
      exact ⟨_, rfl, own_base hown hG.size, hGr⟩
end Go.Proofs.Ytpehmlkikhkmfaa
