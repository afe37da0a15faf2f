/- Runner: All itself. -/
import Derived.Test.YtpehmlkikhkmfaaRunAllIt
import Derived.Test.YtpehmlkikhkmfaaRunRun
namespace Go.Proofs.Ytpehmlkikhkmfaa
open Go.RowKit

def allV (Be Bl Br : Nat) : Value := .func (.func 71) #[] #[.pointer (some ⟨Be, 0, none⟩), .pointer (some ⟨Bl, 0, none⟩), .pointer (some ⟨Br, 0, none⟩)]
theorem rowsIn_of {w : World} {p mb Y : Nat} {vn vo vf : Value} {vs : List Value} {R : List (List Int)} {O : List Int} {F : List Bool} {s : Nat} (h : RunAt w p mb vn vo vf vs R O F s) (ho : Ovr Y p mb vn vo vf vs) : RowsIn Y w.heap.size vn vo vf vs := by
  obtain ⟨_, _, o3, o4, o5, o6⟩ := ho
  refine ⟨fun b hb => ⟨o3 b hb, (h.next.lt b hb).2⟩, fun b hb => ⟨o4 b hb, (h.out.lt b hb).2⟩, fun b hb => ⟨o5 b hb, (h.fin.lt b hb).2⟩, fun i v hv b hb => ⟨o6 i v hv b hb, ?_⟩⟩
  have hi : i < R.length := by have := (List.getElem?_eq_some_iff.1 hv).1; have := h.next.1; omega
  obtain ⟨u, hu, hr⟩ := h.each i hi
  obtain rfl := Option.some.inj (hv.symm.trans hu)
  exact (hr.lt b hb).2
set_option maxRecDepth 100000 in
set_option maxHeartbeats 2000000 in
theorem all_yes (vp vn vo : Value) (c : Array Value) (P : List ByteArray) (R : List (List Int)) (O : List Int) (w : World) (hM : MachAt w vp vn vo P R O) (hE : mErr P R O = 0) (hn : O.length ≤ 200000) :
    Calls Try.prog 34 #[.agg #[vp, vn, vo], .func (.func 33) #[] c] w fun e w' => ∃ Be Bl Br p mb vn' vo' vf' vs F, e = .returned (allV Be Bl Br) ∧ Boxed w' Be 33 (.int .i64 0) ∧ Boxed w' Bl 125 (.func (.func 33) #[] c) ∧ Boxed w' Br 32 (.pointer (some ⟨p, 0, none⟩)) ∧
      RunAt w' p mb vn' vo' vf' vs R O F 0 ∧ RowsIn w.heap.size w'.heap.size vn' vo' vf' vs ∧ w.heap.size ≤ p ∧ w.heap.size ≤ Be ∧ w.heap.size ≤ Bl ∧ w.heap.size ≤ Br ∧ w.grownBy w' none := by
  have hg := World.grownBy_alloc w (.cells #[vp, vn, vo] 27) none
  have hg2 := World.grownBy_alloc (w.alloc (.cells #[vp, vn, vo] 27)) (.cells #[.func (.func 33) #[] c] 125) none
  have c0 := hg2.cell (cell3_0 w vp vn vo 27) (by simp)
  have c1 := hg2.cell (cell3_1 w vp vn vo 27) (by simp)
  have c2 := hg2.cell (cell3_2 w vp vn vo 27) (by simp)
  have hbl := Boxed.new (w.alloc (.cells #[vp, vn, vo] 27)) 125 (.func (.func 33) #[] c)
  have HN := Lib.hid (new_yes vp vn vo P R O _ ((hM.kept hg).kept hg2) hE hn)
  have hG0 := gb_trans hg hg2 (Or.inl rfl)
  obtain ⟨⟨ap, cp, rfl, -⟩, ⟨an, cn, rfl, -⟩, ⟨ao, co, rfl, -⟩⟩ := hM
  clear hE hn hg hg2
  go_enter Try.func34, Try.ntmps34
  go_wp2_with (go_at_call 13; refine HN.out.mono ?_; rintro e w1 ⟨p, mb, vn', vo', vf', vs, F, rfl, hR, _, _, hg1, hp, ho⟩)
  go_ret
  have ha := World.grownBy_alloc w1 (.cells #[.pointer (some ⟨p, 0, none⟩)] 32) none
  have hb := World.grownBy_alloc (w1.alloc (.cells #[.pointer (some ⟨p, 0, none⟩)] 32)) (.cells #[.int .i64 0] 33) none
  have hab := gb_trans ha hb (Or.inl rfl)
  rw [World.size_alloc] at hbl
  have hG := gb_trans hG0 (gb_trans hg1 hab (Or.inl rfl)) (Or.inl rfl)
  have hz0 := hG0.size
  have hz1 := hg1.size
  have hbe := Boxed.new (w1.alloc (.cells #[.pointer (some ⟨p, 0, none⟩)] 32)) 33 (.int .i64 0)
  rw [World.size_alloc] at hbe
  have hR2 := hR.kept hab
  have hrows := rowsIn_of hR2 (Y := w.heap.size) (by
    obtain ⟨o1, o2, o3, o4, o5, o6⟩ := ho
    exact ⟨by omega, by omega, fun b h => by have := o3 b h; omega, fun b h => by have := o4 b h; omega, fun b h => by have := o5 b h; omega, fun i v h b h2 => by have := o6 i v h b h2; omega⟩)
  exact ⟨w1.heap.size + 1, w.heap.size + 1, w1.heap.size, p, mb, vn', vo', vf', vs, F, rfl, hbe, (hbl.kept hg1 (by simp)).kept hab (by simp), (Boxed.new w1 32 (.pointer (some ⟨p, 0, none⟩))).alloc _, hR2, hrows, by omega, by omega, by omega, by omega, hG⟩
set_option maxRecDepth 100000 in
set_option maxHeartbeats 2000000 in
theorem all_no (vp vn vo : Value) (c : Array Value) (P : List ByteArray) (R : List (List Int)) (O : List Int) (w : World) (hM : MachAt w vp vn vo P R O) (hE : mErr P R O = 140) :
    Calls Try.prog 34 #[.agg #[vp, vn, vo], .func (.func 33) #[] c] w fun e w' => ∃ Be Bl Br, e = .returned (allV Be Bl Br) ∧ Boxed w' Be 33 (.int .i64 170) ∧ w.heap.size ≤ Be ∧ w.grownBy w' none := by
  have hg := World.grownBy_alloc w (.cells #[vp, vn, vo] 27) none
  have hg2 := World.grownBy_alloc (w.alloc (.cells #[vp, vn, vo] 27)) (.cells #[.func (.func 33) #[] c] 125) none
  have c0 := hg2.cell (cell3_0 w vp vn vo 27) (by simp)
  have c1 := hg2.cell (cell3_1 w vp vn vo 27) (by simp)
  have c2 := hg2.cell (cell3_2 w vp vn vo 27) (by simp)
  have HN := Lib.hid (new_no vp vn vo P R O _ ((hM.kept hg).kept hg2) hE)
  have hG0 := gb_trans hg hg2 (Or.inl rfl)
  obtain ⟨⟨ap, cp, rfl, -⟩, ⟨an, cn, rfl, -⟩, ⟨ao, co, rfl, -⟩⟩ := hM
  clear hE hg hg2
  go_enter Try.func34, Try.ntmps34
  go_wp2_with (go_at_call 13; refine HN.out.mono ?_; rintro e w1 ⟨rfl, hg1⟩)
  go_ret
  have ha := World.grownBy_alloc w1 (.cells #[.pointer none] 32) none
  have hb := World.grownBy_alloc (w1.alloc (.cells #[.pointer none] 32)) (.cells #[.int .i64 170] 33) none
  have hab := gb_trans ha hb (Or.inl rfl)
  have hG := gb_trans hG0 (gb_trans hg1 hab (Or.inl rfl)) (Or.inl rfl)
  have hz0 := hG0.size
  have hz1 := hg1.size
  have hbe := Boxed.new (w1.alloc (.cells #[.pointer none] 32)) 33 (.int .i64 170)
  rw [World.size_alloc] at hbe
  exact ⟨w1.heap.size + 1, w.heap.size + 1, w1.heap.size, rfl, hbe, by omega, hG⟩
end Go.Proofs.Ytpehmlkikhkmfaa
