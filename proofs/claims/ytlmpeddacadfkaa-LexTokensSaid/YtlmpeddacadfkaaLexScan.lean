/- Lex: what the scanner's functions say. -/
import Derived.Test.YtlmpeddacadfkaaLexWords
import Derived.Lib.Bytealg
namespace Go.Proofs.Ytlmpeddacadfkaa
open Go.RowKit

set_option maxHeartbeats 1000000 in
set_option maxRecDepth 100000 in
theorem sl_indexbyte (s : ByteArray) (c : Int) (w : World) : Calls Try.prog 63 #[.string s, .int .u8 c] w fun e w' => e = .returned (.int .i64 (Lib.indexByte s.data.toList c.toNat.toUInt8)) ∧ w = w' := by
  go_enter Try.func63, Try.ntmps63
  go_wp2
  rw [run_callFunc_extern Try.func65 (by kernel_rfl) (by kernel_rfl) (by kernel_rfl) (e := Extern.BytealgIndexByte.indexByte) (by kernel_rfl), Lib.run_indexByteString]
  simp only [Result.andThen]
  rw [Oper.upon_value]
  go_wp2
  go_ret
  exact ⟨rfl, rfl⟩
theorem indexbyte_any (s : ByteArray) (c : Int) (w : World) : Calls Try.prog 54 #[.string s, .int .u8 c] w fun e w' => e = .returned (.int .i64 (Lib.indexByte s.data.toList c.toNat.toUInt8)) ∧ w = w' := by
  have H := Lib.hid (sl_indexbyte s c)
  go_enter Try.func54, Try.ntmps54
  go_wp2_with (go_at_call 63; refine (H.out _).mono ?_; rintro e w1 ⟨rfl, rfl⟩)
  go_ret
  exact ⟨rfl, rfl⟩

theorem none_any (v : Value) (s : ByteArray) (w : World) :
    Calls Try.prog 56 #[v, .string s] w fun e w' => e = .returned (resV ⟨0, ⟨#[]⟩, 0, 20⟩) ∧ w.grownBy w' none := by
  go_enter Try.func56, Try.ntmps56
  go_wp2
  refine bodyPost_ret (results_tok rfl _ _ _ _ rfl (heap_alloc_new w _) rfl) rfl ?_
  exact ⟨rfl, World.grownBy_alloc w _ none⟩

def plainB (c : Int) : Bool := !(decide (c < 32) || (decide (126 < c) || (c == 34 || c == 92)))
theorem plain_or {c : Int} (h : plainB c = false) : c < 32 ∨ 126 < c ∨ c = 34 ∨ c = 92 := by
  unfold plainB at h
  simp only [Bool.not_eq_false', Bool.or_eq_true, decide_eq_true_eq, beq_iff_eq] at h
  omega
def prefL (p : Int → Bool) : List UInt8 → Nat
  | [] => 0
  | c :: t => if p (c.toNat : Int) then prefL p t + 1 else 0
theorem prefL_eq {p : Int → Bool} : ∀ (l : List UInt8) (k : Nat), (∀ j, j < k → p ((l.getD j 0).toNat : Int) = true) → k ≤ l.length → (k = l.length ∨ p ((l.getD k 0).toNat : Int) = false) → prefL p l = k
  | [], k, _, hk, _ => by simp at hk; subst hk; rfl
  | c :: t, 0, _, _, h => by
    rcases h with h | h
    · simp at h
    · have h2 : p (c.toNat : Int) = false := h
      unfold prefL
      rw [h2]
      rfl
  | c :: t, k + 1, hj, hk, h => by
    have h0 : p (c.toNat : Int) = true := hj 0 (by omega)
    unfold prefL
    rw [h0, if_pos rfl, prefL_eq t k (fun j h1 => hj (j + 1) (by omega)) (by simpa using hk) (by
      rcases h with h | h
      · left; simpa using h
      · right; exact h)]
def qEnd (s : ByteArray) : Nat := 1 + prefL plainB (s.data.toList.drop 1)
theorem qEnd_eq {s : ByteArray} {k : Nat} (h1 : 1 ≤ k) (hp : ∀ j, 1 ≤ j → j < k → plainB (bAt s j) = true) (hk : k ≤ s.size ∨ k = 1) (he : s.size ≤ k ∨ plainB (bAt s k) = false) : qEnd s = k := by
  have hd : ∀ j, ((s.data.toList.drop 1).getD j 0) = s.data.toList.getD (j + 1) 0 := fun j => by
    rw [List.getD_eq_getElem?_getD, List.getElem?_drop, List.getD_eq_getElem?_getD, Nat.add_comm]
  have hl : (s.data.toList.drop 1).length = s.size - 1 := by rw [List.length_drop]; rfl
  unfold qEnd
  rw [prefL_eq (s.data.toList.drop 1) (k - 1) (fun j hj => by rw [hd]; exact hp (j + 1) (by omega) (by omega)) (by omega) (by
    rcases he with he | he
    · left; omega
    · right; rw [hd, show k - 1 + 1 = k by omega]; exact he)]
  omega
def quotedR (s : ByteArray) : Res := if s.size ≤ qEnd s then ⟨0, ⟨#[]⟩, 0, 21⟩ else if bAt s (qEnd s) = 34 then (if qEnd s = 1 ∨ 33 < qEnd s then ⟨0, ⟨#[]⟩, 0, 22⟩ else ⟨2, s.extract 1 (qEnd s), qEnd s + 1, 0⟩) else ⟨0, ⟨#[]⟩, 0, 21⟩
theorem quotedR_at {s : ByteArray} {k : Nat} (h : qEnd s = k) : quotedR s = if s.size ≤ k then ⟨0, ⟨#[]⟩, 0, 21⟩ else if bAt s k = 34 then (if k = 1 ∨ 33 < k then ⟨0, ⟨#[]⟩, 0, 22⟩ else ⟨2, s.extract 1 k, k + 1, 0⟩) else ⟨0, ⟨#[]⟩, 0, 21⟩ := by subst h; rfl

set_option maxHeartbeats 2000000 in
theorem quoted_any (v : Value) (s : ByteArray) (w : World) (hs : s.size ≤ maxLen) :
    Calls Try.prog 53 #[v, .string s] w fun e w' => e = .returned (resV (quotedR s)) ∧ w.grownBy w' none := by
  unfold maxLen at hs
  go_enter Try.func53, Try.ntmps53
  go_wp2_with fail
  go_loop [7] (fun i => ∃ k : Nat, 1 ≤ k ∧ (k ≤ s.size ∨ k = 1) ∧ i = .int .i64 (k : Int) ∧ Hid (∀ j, 1 ≤ j → j < k → plainB (bAt s j) = true)) (fun i => s.size - (intOf i).toNat)
  case atStart => exact ⟨1, by omega, by omega, rfl, fun j h1 h2 => absurd h2 (by omega)⟩
  case round =>
    obtain ⟨k, hk1, hk, rfl, HO⟩ := hrel
    by_cases hlt : k < s.size
    · have HQ : Hid (plainB (bAt s k) = false → quotedR s = if bAt s k = 34 then (if k = 1 ∨ 33 < k then ⟨0, ⟨#[]⟩, 0, 22⟩ else ⟨2, s.extract 1 k, k + 1, 0⟩) else ⟨0, ⟨#[]⟩, 0, 21⟩) := Lib.hid fun h => by
        rw [quotedR_at (qEnd_eq hk1 HO.out hk (Or.inr h)), if_neg (by omega)]
      have HG : Hid (plainB (bAt s k) = true → ∀ j, 1 ≤ j → j < k + 1 → plainB (bAt s j) = true) := Lib.hid fun h j h1 hj => by
        by_cases e : j < k
        · exact HO.out j h1 e
        · obtain rfl : j = k := by omega
          exact h
      rw [← bAt_get hlt] at HQ HG
      cases hok : plainB (s[k].toNat : Int)
      · have HQ2 := Lib.hid (HQ.out hok)
        have hor := plain_or hok
        clear hok HG HQ
        by_cases h34 : (s[k].toNat : Int) = 34
        · rw [if_pos h34] at HQ2
          clear hor
          by_cases hk2 : k = 1
          · have HQ3 : Hid (quotedR s = ⟨0, ⟨#[]⟩, 0, 22⟩) := Lib.hid (by rw [HQ2.out, if_pos (Or.inl hk2)])
            clear HQ2
            subst hk2
            go_wp2
            refine bodyPost_ret (results_tok rfl _ _ _ _ rfl (heap_alloc_new w _) rfl) rfl ?_
            rw [HQ3.out]
            exact ⟨rfl, World.grownBy_alloc w _ none⟩
          · by_cases hk3 : 33 < k
            · have HQ3 : Hid (quotedR s = ⟨0, ⟨#[]⟩, 0, 22⟩) := Lib.hid (by rw [HQ2.out, if_pos (Or.inr hk3)])
              have hkI : ¬ (k : Int) = 1 := by omega
              have hkJ : (32 : Int) < (k : Int) - 1 := by omega
              clear HQ2
              go_wp2
              refine bodyPost_ret (results_tok rfl _ _ _ _ rfl (heap_alloc_new w _) rfl) rfl ?_
              rw [HQ3.out]
              exact ⟨rfl, World.grownBy_alloc w _ none⟩
            · have HQ3 : Hid (quotedR s = ⟨2, s.extract 1 k, k + 1, 0⟩) := Lib.hid (by rw [HQ2.out, if_neg (by omega)])
              have hkI : ¬ (k : Int) = 1 := by omega
              have hkJ : ¬ (32 : Int) < (k : Int) - 1 := by omega
              clear HQ2
              go_wp2
              refine bodyPost_ret (results_tok rfl _ _ _ _ rfl (heap_alloc_new w _) rfl) rfl ?_
              rw [HQ3.out]
              exact ⟨by simp [resV], World.grownBy_alloc w _ none⟩
        · rw [if_neg h34] at HQ2
          have hor2 : (s[k].toNat : Int) < 32 ∨ 126 < (s[k].toNat : Int) ∨ (s[k].toNat : Int) = 92 := by omega
          clear hor
          rcases hor2 with h | h | h
          all_goals go_wp2
          all_goals refine bodyPost_ret (results_tok rfl _ _ _ _ rfl (heap_alloc_new w _) rfl) rfl ?_
          all_goals rw [HQ2.out]
          all_goals exact ⟨rfl, World.grownBy_alloc w _ none⟩
      · have HG2 := Lib.hid (HG.out hok)
        unfold plainB at hok
        simp only [Bool.not_eq_true', Bool.or_eq_false_iff, decide_eq_false_iff_not] at hok
        obtain ⟨h1, h2, h3, h4⟩ := hok
        clear HG HQ
        go_wp2
        exact ⟨⟨k + 1, by omega, by omega, by go_num, HG2⟩, by simp [intOf]; omega⟩
    · have HQ : Hid (quotedR s = ⟨0, ⟨#[]⟩, 0, 21⟩) := Lib.hid (by rw [quotedR_at (qEnd_eq hk1 HO.out hk (Or.inl (by omega))), if_pos (by omega)])
      have hI : ¬ (k : Int) < (s.size : Int) := by omega
      go_wp2
      refine bodyPost_ret (results_tok rfl _ _ _ _ rfl (heap_alloc_new w _) rfl) rfl ?_
      rw [HQ.out]
      exact ⟨rfl, World.grownBy_alloc w _ none⟩

/-- Does a text begin with another one? -/
def preB (s p : ByteArray) : Bool := decide (p.size ≤ s.size) && ((s.extract 0 p.size).toList == p.toList)
theorem sl_prefix (s p : ByteArray) (w : World) : Calls Try.prog 66 #[.string s, .string p] w fun e w' => e = .returned (.bool (preB s p)) ∧ w = w' := by
  go_enter Try.func66, Try.ntmps66
  by_cases h : p.size ≤ s.size
  · have hI : (p.size : Int) ≤ (s.size : Int) := by omega
    have HP : Hid (preB s p = ((s.extract 0 p.size).toList == p.toList)) := Lib.hid (by unfold preB; simp [h])
    cases hc : ((s.extract 0 p.size).toList == p.toList) <;> rw [hc] at HP
    all_goals go_wp2
    all_goals go_ret
    all_goals exact ⟨by rw [HP.out]; rfl, rfl⟩
  · have hI : ¬ (p.size : Int) ≤ (s.size : Int) := by omega
    have HP : Hid (preB s p = false) := Lib.hid (by unfold preB; simp [h])
    go_wp2
    all_goals go_ret
    all_goals exact ⟨by rw [HP.out]; rfl, rfl⟩
theorem hasprefix_any (s p : ByteArray) (w : World) : Calls Try.prog 64 #[.string s, .string p] w fun e w' => e = .returned (.bool (preB s p)) ∧ w = w' := by
  have H := Lib.hid (fun w => sl_prefix s p w)
  go_enter Try.func64, Try.ntmps64
  go_wp2_with (go_at_call 66; refine (H.out _).mono ?_; rintro e w1 ⟨rfl, rfl⟩)
  go_ret
  exact ⟨rfl, rfl⟩

def signR (s : ByteArray) : Res := if preB s ⟨#[45, 62]⟩ = true then ⟨4, ⟨#[45, 62]⟩, 2, 0⟩ else if preB s ⟨#[60, 45, 62]⟩ = true then ⟨4, ⟨#[60, 45, 62]⟩, 3, 0⟩ else if (bAt s 0 == 45 || bAt s 0 == 60) = true then ⟨0, ⟨#[]⟩, 0, 20⟩ else ⟨4, s.extract 0 1, 1, 0⟩
set_option maxHeartbeats 2000000 in
theorem sign_any (v : Value) (s : ByteArray) (w : World) (hs : s.size ≤ maxLen) (h1 : 1 ≤ s.size) :
    Calls Try.prog 55 #[v, .string s] w fun e w' => e = .returned (resV (signR s)) ∧ w.grownBy w' none := by
  have HP := Lib.hid (fun w p => hasprefix_any s p w)
  have hr : signR s = if preB s ⟨#[45, 62]⟩ = true then ⟨4, ⟨#[45, 62]⟩, 2, 0⟩ else if preB s ⟨#[60, 45, 62]⟩ = true then ⟨4, ⟨#[60, 45, 62]⟩, 3, 0⟩ else if (bAt s 0 == 45 || bAt s 0 == 60) = true then ⟨0, ⟨#[]⟩, 0, 20⟩ else ⟨4, s.extract 0 1, 1, 0⟩ := rfl
  have h1I : (1 : Int) ≤ (s.size : Int) := by omega
  have h0I : (0 : Int) < (s.size : Int) := by omega
  rw [← bAt_get (by omega : 0 < s.size)] at hr
  generalize signR s = r at hr
  unfold maxLen at hs
  go_enter Try.func55, Try.ntmps55
  cases hp1 : preB s ⟨#[45, 62]⟩ <;> rw [hp1] at hr
  · cases hp2 : preB s ⟨#[60, 45, 62]⟩ <;> rw [hp2] at hr
    · rw [if_neg (by simp), if_neg (by simp)] at hr
      cases h45 : ((s[0].toNat : Int) == 45) <;> cases h60 : ((s[0].toNat : Int) == 60) <;> rw [h45, h60] at hr
      · rw [if_neg (by simp)] at hr
        have HR := Lib.hid hr
        have hz : (s.extract 0 1).size = 1 := by simp; omega
        clear hr
        go_wp2_with (go_at_call 64; refine (HP.out _ _).mono ?_; rintro e w1 ⟨rfl, rfl⟩)
        refine bodyPost_ret (results_tok rfl _ _ _ _ rfl (heap_alloc_new w _) rfl) rfl ?_
        rw [HR.out]
        exact ⟨by simp [resV], World.grownBy_alloc w _ none⟩
      all_goals
        rw [if_pos (by rfl)] at hr
        have HR := Lib.hid hr
        clear hr
        go_wp2_with (go_at_call 64; refine (HP.out _ _).mono ?_; rintro e w1 ⟨rfl, rfl⟩)
        refine bodyPost_ret (results_tok rfl _ _ _ _ rfl (heap_alloc_new w _) rfl) rfl ?_
        rw [HR.out]
        exact ⟨rfl, World.grownBy_alloc w _ none⟩
    · rw [if_neg (by simp), if_pos rfl] at hr
      have HR := Lib.hid hr
      clear hr
      go_wp2_with (go_at_call 64; refine (HP.out _ _).mono ?_; rintro e w1 ⟨rfl, rfl⟩)
      refine bodyPost_ret (results_tok rfl _ _ _ _ rfl (heap_alloc_new w _) rfl) rfl ?_
      rw [HR.out]
      exact ⟨rfl, World.grownBy_alloc w _ none⟩
  · rw [if_pos rfl] at hr
    have HR := Lib.hid hr
    clear hr
    go_wp2_with (go_at_call 64; refine (HP.out _ _).mono ?_; rintro e w1 ⟨rfl, rfl⟩)
    refine bodyPost_ret (results_tok rfl _ _ _ _ rfl (heap_alloc_new w _) rfl) rfl ?_
    rw [HR.out]
    exact ⟨rfl, World.grownBy_alloc w _ none⟩
end Go.Proofs.Ytlmpeddacadfkaa
