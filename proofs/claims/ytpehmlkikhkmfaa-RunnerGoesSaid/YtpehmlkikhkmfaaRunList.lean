/- Runner: lists of names. -/
import Derived.Test.YtpehmlkikhkmfaaRunNames
namespace Go.Proofs.Ytpehmlkikhkmfaa
open Go.RowKit

/-- Texts that lie in memory. -/
def TextsAt (w : World) (v : Value) (L : List ByteArray) : Prop :=
  ∃ a cap, v = .slice a L.length cap ∧ L.length ≤ cap ∧ L.length ≤ 17592186043904 ∧ (∀ k, k < L.length → (L.getD k ⟨#[]⟩).size ≤ maxLen) ∧
    (L = [] ∨ ∃ b off, a = some ⟨b, off, none⟩ ∧ ∀ k, k < L.length → w.cell? ⟨b, off + k, none⟩ = some (.string (L.getD k ⟨#[]⟩)))

theorem TextsAt.take {w : World} {a : Option Addr} {len cap : Nat} {L : List ByteArray} (h : TextsAt w (.slice a len cap) L) (k : Nat) (hk : k ≤ L.length) : TextsAt w (.slice a k cap) (L.take k) := by
  obtain ⟨a', cap', he, h0, h1, h2, h3⟩ := h
  cases he
  have hl : (L.take k).length = k := by simp; omega
  have hg : ∀ j, j < k → (L.take k).getD j ⟨#[]⟩ = L.getD j ⟨#[]⟩ := fun j hj => by simp [List.getD_eq_getElem?_getD, hj]
  refine ⟨a, cap, by rw [hl], by omega, by omega, fun j hj => by rw [hl] at hj; rw [hg j hj]; exact h2 j (by omega), ?_⟩
  rcases h3 with rfl | ⟨b, off, rfl, h3⟩
  · exact Or.inl (by simp)
  · exact Or.inr ⟨b, off, rfl, fun j hj => by rw [hl] at hj; rw [hg j hj]; exact h3 j (by omega)⟩

def sameB (x y : ByteArray) : Bool := x.toList == y.toList
def hasF (L : List ByteArray) (s : ByteArray) : Bool := L.any fun x => s.toList == x.toList
theorem hasF_yes {L : List ByteArray} {s : ByteArray} (k : Nat) (hk : k < L.length) (h : (s.toList == (L.getD k ⟨#[]⟩).toList) = true) : hasF L s = true := by
  unfold hasF
  rw [List.any_eq_true]
  exact ⟨_, by rw [List.getD_eq_getElem?_getD, List.getElem?_eq_getElem hk]; exact List.getElem_mem _, h⟩
theorem hasF_no {L : List ByteArray} {s : ByteArray} (h : ∀ k, k < L.length → (s.toList == (L.getD k ⟨#[]⟩).toList) = false) : hasF L s = false := by
  unfold hasF
  rw [List.any_eq_false]
  intro x hx
  obtain ⟨k, hk, rfl⟩ := List.mem_iff_getElem.1 hx
  have := h k hk
  rw [List.getD_eq_getElem?_getD, List.getElem?_eq_getElem hk] at this
  simpa using this

set_option maxHeartbeats 1000000 in
theorem index_any (v : Value) (L : List ByteArray) (s : ByteArray) (w : World) (hL : TextsAt w v L) :
    Calls Try.prog 86 #[v, .string s] w fun e w' => (∃ r : Int, e = .returned (.int .i64 r) ∧ decide (0 ≤ r) = hasF L s ∧ -1 ≤ r ∧ r ≤ 17592186043904) ∧ w = w' := by
  obtain ⟨a, cap, rfl, hcap, hlen, hsz, hc⟩ := hL
  have HC := Lib.hid hc
  have HS := Lib.hid hsz
  clear hc hsz
  go_enter Try.func86, Try.ntmps86
  go_wp2
  go_loop [8] (fun i => ∃ k : Nat, k ≤ L.length ∧ i = .int .i64 (k : Int) ∧ Hid (∀ j, j < k → (s.toList == (L.getD j ⟨#[]⟩).toList) = false)) (fun i => L.length - (intOf i).toNat)
  case atStart => exact ⟨0, by omega, rfl, fun j h => absurd h (by omega)⟩
  case round =>
    obtain ⟨k, hk, rfl, HO⟩ := hrel
    by_cases hlt : k < L.length
    · rcases HC.out with rfl | ⟨b, off, rfl, hcc⟩
      · exact absurd hlt (by simp)
      · have hcell := hcc k hlt
        clear hcc
        have HB := Lib.hid (hasF_yes (s := s) k hlt)
        have HG : Hid ((s.toList == (L.getD k ⟨#[]⟩).toList) = false → ∀ j, j < k + 1 → (s.toList == (L.getD j ⟨#[]⟩).toList) = false) := Lib.hid fun h j hj => by
          rcases Nat.lt_or_ge j k with h1 | h1
          · exact HO.out j h1
          · obtain rfl : j = k := by omega
            exact h
        generalize L.getD k ⟨#[]⟩ = x at hcell HB HG
        cases hb : (s.toList == x.toList)
        · have HG2 := Lib.hid (HG.out hb)
          go_wp2
          go_round
          case rel => exact ⟨k + 1, by omega, by go_num, HG2⟩
          case measure => simp [intOf]; omega
        · have HB2 := Lib.hid (HB.out hb)
          go_wp2
          go_ret
          exact ⟨⟨_, rfl, by rw [HB2.out]; simp, by omega, by omega⟩, rfl⟩
    · obtain rfl : k = L.length := by omega
      have HB2 := Lib.hid (hasF_no HO.out)
      go_wp2
      go_ret
      exact ⟨⟨_, rfl, by rw [HB2.out]; rfl, by omega, by omega⟩, rfl⟩

theorem contains_any (v : Value) (L : List ByteArray) (s : ByteArray) (w : World) (hL : TextsAt w v L) :
    Calls Try.prog 84 #[v, .string s] w fun e w' => e = .returned (.bool (hasF L s)) ∧ w = w' := by
  go_enter Try.func84, Try.ntmps84
  go_wp2_with (go_at_call 86; refine (index_any _ L s _ hL).mono ?_; rintro e w' ⟨⟨r, rfl, hr, h1, h2⟩, rfl⟩)
  go_ret
  exact ⟨by rw [← hr]; rfl, rfl⟩

def listF (L : List ByteArray) : Bool := ((List.range L.length).all fun i => namedF (L.getD i ⟨#[]⟩) && !hasF (L.take i) (L.getD i ⟨#[]⟩)) && decide (L.length ≤ 8)
theorem listF_bad {L : List ByteArray} {i : Nat} (hi : i < L.length) (h : (namedF (L.getD i ⟨#[]⟩) && !hasF (L.take i) (L.getD i ⟨#[]⟩)) = false) : listF L = false := by
  unfold listF
  rw [Bool.and_eq_false_iff]
  left
  rw [List.all_eq_false]
  exact ⟨i, List.mem_range.2 hi, by rw [h]; simp⟩
theorem listF_good {L : List ByteArray} (h : ∀ i, i < L.length → (namedF (L.getD i ⟨#[]⟩) && !hasF (L.take i) (L.getD i ⟨#[]⟩)) = true) : listF L = decide (L.length ≤ 8) := by
  unfold listF
  have : ((List.range L.length).all fun i => namedF (L.getD i ⟨#[]⟩) && !hasF (L.take i) (L.getD i ⟨#[]⟩)) = true := by
    rw [List.all_eq_true]
    exact fun i hi => h i (List.mem_range.1 hi)
  rw [this, Bool.true_and]

set_option maxHeartbeats 1000000 in
theorem list_any (v : Value) (L : List ByteArray) (w : World) (hL : TextsAt w v L) :
    Calls Try.prog 72 #[v] w fun e w' => e = .returned (.bool (listF L)) ∧ w = w' := by
  have HL := Lib.hid hL
  obtain ⟨a, cap, rfl, hcap, hlen, hsz, hc⟩ := hL
  have HC := Lib.hid hc
  have HS := Lib.hid hsz
  clear hc hsz
  go_enter Try.func72, Try.ntmps72
  go_wp2
  go_loop [7] (fun i => ∃ k : Nat, k ≤ L.length ∧ i = .int .i64 (k : Int) ∧ Hid (∀ j, j < k → (namedF (L.getD j ⟨#[]⟩) && !hasF (L.take j) (L.getD j ⟨#[]⟩)) = true)) (fun i => L.length - (intOf i).toNat)
  case atStart => exact ⟨0, by omega, rfl, fun j h => absurd h (by omega)⟩
  case round =>
    obtain ⟨k, hk, rfl, HO⟩ := hrel
    by_cases hlt : k < L.length
    · have HT := Lib.hid (HL.out.take k hk)
      rcases HC.out with rfl | ⟨b, off, rfl, hcc⟩
      · exact absurd hlt (by simp)
      · have hcell := hcc k hlt
        have hxs := HS.out k hlt
        clear hcc
        have HB := Lib.hid (listF_bad hlt)
        have HG : Hid ((namedF (L.getD k ⟨#[]⟩) && !hasF (L.take k) (L.getD k ⟨#[]⟩)) = true → ∀ j, j < k + 1 → (namedF (L.getD j ⟨#[]⟩) && !hasF (L.take j) (L.getD j ⟨#[]⟩)) = true) := Lib.hid fun h j hj => by
          rcases Nat.lt_or_ge j k with h1 | h1
          · exact HO.out j h1
          · obtain rfl : j = k := by omega
            exact h
        generalize L.getD k ⟨#[]⟩ = x at hcell HB HG hxs
        have HNm := Lib.hid (fun w => named_any x w hxs)
        have HCt := Lib.hid (fun w hh => contains_any (.slice (some ⟨b, off, none⟩) k cap) (L.take k) x w hh)
        clear hxs
        generalize namedF x = nb at HB HG HNm
        generalize hasF (L.take k) x = cb at HB HG HCt
        cases nb
        · have HB2 := Lib.hid (HB.out rfl)
          go_wp2_with (go_at_call 83; refine (HNm.out _).mono ?_; rintro e w' ⟨rfl, rfl⟩)
          go_ret
          exact ⟨by rw [HB2.out]; rfl, rfl⟩
        · cases cb
          · have HG2 := Lib.hid (HG.out rfl)
            go_wp2_with (first | (go_at_call 83; refine (HNm.out _).mono ?_; rintro e w' ⟨rfl, rfl⟩) | (go_at_call 84; refine (HCt.out _ HT.out).mono ?_; rintro e w' ⟨rfl, rfl⟩))
            go_round
            case rel => exact ⟨k + 1, by omega, by go_num, HG2⟩
            case measure => simp [intOf]; omega
          · have HB2 := Lib.hid (HB.out rfl)
            go_wp2_with (first | (go_at_call 83; refine (HNm.out _).mono ?_; rintro e w' ⟨rfl, rfl⟩) | (go_at_call 84; refine (HCt.out _ HT.out).mono ?_; rintro e w' ⟨rfl, rfl⟩))
            go_ret
            exact ⟨by rw [HB2.out]; rfl, rfl⟩
    · obtain rfl : k = L.length := by omega
      have HB2 := Lib.hid (listF_good HO.out)
      go_wp2
      all_goals go_ret
      all_goals exact ⟨by rw [HB2.out]; simp; try omega, rfl⟩
end Go.Proofs.Ytpehmlkikhkmfaa
