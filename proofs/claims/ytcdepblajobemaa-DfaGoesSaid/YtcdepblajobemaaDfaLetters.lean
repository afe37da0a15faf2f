/- Dfa: the letters of the law, cut to the automaton's. -/
import Derived.Test.YtcdepblajobemaaDfaOwn
import Derived.Test.YtcdepblajobemaaDfaInv
import Derived.Test.YtcdepblajobemaaDfaRun
import Derived.Deep.AppendLies
import Derived.IntWalk
set_option maxRecDepth 100000
namespace Go.Proofs.Ytcdepblajobemaa
open Go.RowKit

theorem Try.info55 : (Try.prog.info? 55).map (fun i => (i.zero, i.size, i.bytes)) = some (some (.int .u16 0), 1, 2) := by kernel_rfl
def uv (x : Nat) : Value := .int .u16 ((x : Nat) : Int)
def lettersF (m : Nat) (U : List Nat) : List Nat := (U.take 40).map (· % 2 ^ m)
theorem letters_len (m : Nat) (U : List Nat) : (lettersF m U).length = min 40 U.length := by simp [lettersF]
theorem letters_one {m : Nat} {U : List Nat} {k : Nat} (h : k < (lettersF m U).length) : (lettersF m U).getD k 0 = U.getD k 0 % 2 ^ m := by
  rw [letters_len] at h
  unfold lettersF
  rw [List.getD_eq_getElem?_getD, List.getElem?_map, List.getElem?_take, if_pos (by omega), List.getD_eq_getElem?_getD, List.getElem?_eq_getElem (show k < U.length by omega)]
  rfl
theorem letters_small (m : Nat) (U : List Nat) : ∀ k, k < (lettersF m U).length → (lettersF m U).getD k 0 < 2 ^ m := by
  intro k hk
  rw [letters_one hk]
  exact Nat.mod_lt _ (Nat.pow_pos (by decide))
theorem take_letters {A : List Nat} {l : Nat} (h : l < A.length) : (A.take (l + 1)).map uv = (A.take l).map uv ++ [uv (A.getD l 0)] := by
  rw [List.take_succ_eq_append_getElem h, List.map_append, List.getD_eq_getElem?_getD, List.getElem?_eq_getElem h]
  rfl
theorem letters_of_own {w : World} {Z : Nat} {v : Value} {U : List Nat} (h : w.ownsRow Z 55 1 v U.length (U.map uv)) (h1 : ∀ k, k < U.length → U.getD k 0 ≤ 65535) (h2 : U.length ≤ 70368744175616) : LettersAt w v U := by
  rcases h.2 with ⟨rfl, h0⟩ | ⟨g, cap, cur, rfl, _⟩
  · exact ⟨none, 0, by rw [h0], h1, h2, Or.inl (List.eq_nil_of_length_eq_zero h0)⟩
  · refine ⟨_, _, rfl, h1, h2, Or.inr ⟨g, 0, rfl, fun k hk => ?_⟩⟩
    obtain ⟨g', cap', e, _, hc⟩ := own_cell h k hk
    simp only [Value.slice.injEq, Option.some.injEq, Addr.mk.injEq] at e
    obtain ⟨⟨rfl, -⟩, -⟩ := e
    rw [Nat.zero_add, hc, List.getElem?_map, List.getD_eq_getElem?_getD, List.getElem?_eq_getElem hk]
    rfl
theorem letters_of_own' {w : World} {Z n : Nat} {v : Value} {U : List Nat} (hn : U.length = n) (h : w.ownsRow Z 55 1 v n (U.map uv)) (h1 : ∀ k, k < U.length → U.getD k 0 ≤ 65535) (h2 : U.length ≤ 70368744175616) : LettersAt w v U := by
  subst hn
  exact letters_of_own h h1 h2
theorem own_cap {w : World} {Z e n : Nat} {v : Value} {xs : List Value} (h : w.ownsRow Z e 1 v n xs) : ∃ a cap, v = .slice a n cap ∧ n ≤ cap := by
  rcases h.2 with ⟨rfl, h0⟩ | ⟨g, cap, cur, rfl, hb, hg, hc, _⟩
  · exact ⟨none, 0, by rw [h0], by omega⟩
  · exact ⟨_, _, rfl, hc⟩
theorem rem_u16 (x M : Nat) (hx : x ≤ 65535) : IntKind.u16.wrap (((x : Nat) : Int).tmod ((M : Nat) : Int)) = ((x % M : Nat) : Int) := by
  have h1 : (((x : Nat) : Int).tmod ((M : Nat) : Int)) = ((x % M : Nat) : Int) := Int.ofNat_tmod _ _ |>.symm
  rw [h1]
  have := Nat.mod_le x M
  simp [IntKind.wrap, IntKind.bits, IntKind.signed]
  omega
theorem shl_u16 (m : Nat) (hm : m ≤ 8) : IntKind.u16.wrap ((2 : Int) ^ m) = ((2 ^ m : Nat) : Int) := by
  have h2 : 2 ^ m ≤ 2 ^ 8 := Nat.pow_le_pow_right (by decide) hm
  have h3 : ((2 : Int) ^ m) = ((2 ^ m : Nat) : Int) := by simp
  rw [h3]
  generalize 2 ^ m = x at h2
  simp [IntKind.wrap, IntKind.bits, IntKind.signed]
  omega
set_option maxHeartbeats 2000000 in
theorem letters_any (m : Nat) (hm : m ≤ 8) (vu : Value) (U : List Nat) (w : World) (h : LettersAt w vu U) :
    Calls Try.prog 24 #[vu, .int .i64 (m : Int)] w fun e w' => ∃ a cap, e = .returned (.slice a (lettersF m U).length cap) ∧ (lettersF m U).length ≤ cap ∧ LettersAt w' (.slice a (lettersF m U).length cap) (lettersF m U) ∧ w.grownBy w' none := by
  obtain ⟨ua, uc, rfl, h1, h2, h3⟩ := h
  have HC := Lib.hid h3
  have H1 := Lib.hid h1
  obtain ⟨M, HM⟩ : ∃ M : Nat, Hid (2 ^ m = M) := ⟨_, rfl⟩
  have hM0 : 0 < M ∧ M ≤ 256 := by rw [← HM.out]; exact ⟨Nat.one_le_two_pow, pow_le hm⟩
  have hsh : IntKind.u16.wrap ((2 : Int) ^ m) = (M : Int) := by rw [← HM.out]; exact shl_u16 m hm
  have HF := Lib.hid (letters_len m U)
  clear h1 h3
  go_enter Try.func24, Try.ntmps24
  go_wp2_with fail
  go_loopg [5, 6] 40 (fun gk v c wx => ∃ (i : Nat), i + gk = 40 ∧ i ≤ U.length ∧ c = .int .i64 (i : Int) ∧ Hid (wx.ownsRow w.heap.size 55 1 v i (((lettersF m U).take i).map uv)) ∧ Hid (w.grownBy wx none))
  case atStart => exact ⟨0, by omega, by omega, rfl, Lib.hid (World.ownsRow_nil _ _ _ _), Lib.hid (gb_refl _ _)⟩
  case round =>
    obtain ⟨i, hig, hiu, rfl, HO, HG⟩ := hrel
    by_cases c1 : i < U.length
    case neg =>
      obtain rfl : i = U.length := by omega
      go_wp2
      go_ret
      have hl : (lettersF m U).length = U.length := by rw [HF.out]; omega
      obtain ⟨va, vc, rfl, hvc⟩ := own_cap HO.out
      rw [hl]
      refine ⟨_, _, rfl, hvc, letters_of_own' hl (Z := w.heap.size) ?_ ?_ ?_, HG.out⟩
      · have := HO.out
        rw [List.take_of_length_le (by omega)] at this
        exact this
      · intro k hk
        have := letters_small m U k hk
        rw [HM.out] at this
        omega
      · omega
    have c1I : (i : Int) < (U.length : Int) := by omega
    by_cases c2 : i < 40
    case neg =>
      have c2I : ¬ (i : Int) < 40 := by omega
      go_wp2
      go_ret
      have hl : (lettersF m U).length = i := by rw [HF.out]; omega
      obtain ⟨va, vc, rfl, hvc⟩ := own_cap HO.out
      rw [hl]
      refine ⟨_, _, rfl, hvc, letters_of_own' hl (Z := w.heap.size) ?_ ?_ ?_, HG.out⟩
      · have := HO.out
        rw [List.take_of_length_le (by omega)] at this
        exact this
      · intro k hk
        have := letters_small m U k hk
        rw [HM.out] at this
        omega
      · omega
    have c2I : (i : Int) < 40 := by omega
    obtain ⟨b, off, rfl, hcell⟩ : ∃ b off, ua = some ⟨b, off, none⟩ ∧ ∀ k, k < U.length → w.cell? ⟨b, off + k, none⟩ = some (.int .u16 ((U.getD k 0 : Nat) : Int)) := by
      rcases HC.out with h | h
      · rw [h] at c1; cases c1
      · exact h
    have hl : i < (lettersF m U).length := by rw [HF.out]; omega
    have hx := H1.out i c1
    have HE : Hid ((lettersF m U).getD i 0 = U.getD i 0 % M) := Lib.hid (by rw [letters_one hl, HM.out])
    have hcx := HG.out.cell (hcell i c1) (by simp)
    have hcd : ∀ j, (wr.drewN j).cell? ⟨b, off + i, none⟩ = some (.int .u16 ((U.getD i 0 : Nat) : Int)) := fun j => hcx
    clear hcell
    have HL := Lib.hid hl
    generalize U.getD i 0 = y at HE hx hcx hcd
    have hr1 := rem_u16 y M hx
    have hr2 : (((y : Nat) : Int).tmod ((M : Nat) : Int)) = ((y % M : Nat) : Int) := Int.ofNat_tmod _ _ |>.symm
    have hy : y % M ≤ 65535 := by have := Nat.mod_le y M; omega
    obtain ⟨z, HZ⟩ : ∃ z, Hid (y % M = z) := ⟨_, rfl⟩
    rw [HZ.out] at hr1 hr2 HE
    have hz : z < 256 := by rw [← HZ.out]; have := Nat.mod_lt y hM0.1; omega
    obtain ⟨i2, hi2, hx0, hx1, hx2⟩ := info_parts Try.info55
    obtain ⟨va, vc, rfl⟩ := own_val HO.out
    have HOd := Lib.hid (HO.out.drew)
    have hbs : w.heap.size ≤ wr.heap.size := HG.out.size
    have hMne : ¬ M = 0 := by omega
    obtain ⟨go, rfl⟩ : ∃ go : Nat, go = gk := ⟨_, rfl⟩
    clear hl hy
    go_wp2_with fail
    go_region_law (refine step_append_lies _ (by rfl) (.tmp 17) (.tmp 25) 28 (by rfl) w.heap.size 55 i2 (.int .u16 0) 1 2 Try.underlying28 hi2 hx0 hx1 hx2 rfl (by decide) (.slice va i vc) i _ (by rfl) (HOd.out.alloc _) ⟨wr.heap.size, 0, none⟩ 1 1 [.int .u16 (z : Int)] (by rfl) (by rfl) (cell_one_new _ _ _) (by simp [Value.oneCell']) (by decide) (by unfold maxLen; omega) (by omega) (by show w.heap.size ≤ (wr.alloc _).heap.size; rw [World.size_alloc]; omega) _ rfl ?_; intro g6 cap6 y4 hown6 hgr6 hat6 hlt6)
    clear hat6 hlt6
    go_wp2_with fail
    go_roundg (go - 1)
    case measure => omega
    case rel =>
      refine ⟨i + 1, by omega, by omega, by go_num, Lib.hid ?_, Lib.hid ?_⟩
      · rw [take_letters HL.out, HE.out]
        exact hown6
      · refine gb_trans HG.out (gb_trans (gb_trans (World.grownBy_alloc wr _ (Value.slice va i vc).ownBlock) (gb_drew _ _) (Or.inr (Or.inl rfl))) hgr6 (Or.inr (Or.inl rfl))) ?_
        rcases HO.out.2 with ⟨e, _⟩ | ⟨g, cap, cur, e, hb, _⟩
        · rw [e]; exact Or.inl rfl
        · rw [e]; exact Or.inr (Or.inr ⟨g, rfl, hb⟩)
end Go.Proofs.Ytcdepblajobemaa
