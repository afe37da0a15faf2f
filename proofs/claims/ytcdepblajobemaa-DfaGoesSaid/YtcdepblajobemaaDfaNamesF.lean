/- Dfa: lists of names. -/
import Derived.Test.YtcdepblajobemaaDfaOrder
import Derived.Test.YtcdepblajobemaaBitsTable
import Derived.Maps.Views
set_option maxRecDepth 100000
namespace Go.Proofs.Ytcdepblajobemaa
open Go.RowKit

/-- Texts that lie in memory. -/
def TextsAt (w : World) (v : Value) (L : List ByteArray) : Prop :=
  ∃ a cap, v = .slice a L.length cap ∧ L.length ≤ cap ∧ L.length ≤ 17592186043904 ∧ (∀ k, k < L.length → (L.getD k ⟨#[]⟩).size ≤ maxLen) ∧
    (L = [] ∨ ∃ b off, a = some ⟨b, off, none⟩ ∧ ∀ k, k < L.length → w.cell? ⟨b, off + k, none⟩ = some (.string (L.getD k ⟨#[]⟩)))
theorem TextsAt.kept {w w' : World} {v : Value} {L : List ByteArray} (h : TextsAt w v L) (hg : w.grownBy w' none) : TextsAt w' v L := by
  obtain ⟨a, cap, rfl, h0, h1, h2, h3⟩ := h
  refine ⟨a, cap, rfl, h0, h1, h2, ?_⟩
  rcases h3 with h3 | ⟨b, off, rfl, h3⟩
  · exact Or.inl h3
  · exact Or.inr ⟨b, off, rfl, fun k hk => hg.cell (h3 k hk) (by simp)⟩
def okByte (c : Int) : Bool := !(decide (c < 32) || (decide (126 < c) || (c == 34 || c == 92)))
theorem bad_or {c : Int} (h : ¬ okByte c = true) : c < 32 ∨ 126 < c ∨ c = 34 ∨ c = 92 := by
  unfold okByte at h
  simp only [Bool.not_eq_true', Bool.or_eq_false_iff, decide_eq_false_iff_not, beq_eq_false_iff_ne] at h
  omega
/-- The k-th byte. -/
def bAt (s : ByteArray) (k : Nat) : Int := ((s.data.toList.getD k 0).toNat : Int)
theorem bAt_get {s : ByteArray} {k : Nat} (hk : k < s.size) : (s[k].toNat : Int) = bAt s k := by
  have hk2 : k < s.data.toList.length := hk
  unfold bAt
  rw [List.getD_eq_getElem?_getD, List.getElem?_eq_getElem hk2]
  rfl
def namedF (s : ByteArray) : Bool := decide (1 ≤ s.size) && (decide (s.size ≤ 32) && (List.range s.size).all fun j => okByte (bAt s j))
/-- Is the k-th name new? -/
def newB (P : List ByteArray) (k : Nat) : Bool := (List.range k).all fun j => !decide (P.getD j ⟨#[]⟩ = P.getD k ⟨#[]⟩)
def nameB (P : List ByteArray) (k : Nat) : Bool := namedF (P.getD k ⟨#[]⟩) && newB P k
def namesF (P : List ByteArray) : Bool := (List.range P.length).all (nameB P) && decide (P.length ≤ 8)
theorem names_no {P : List ByteArray} {k : Nat} (hk : k < P.length) (h : nameB P k = false) : namesF P = false := by
  unfold namesF
  rw [all_not h hk, Bool.false_and]
theorem names_yes {P : List ByteArray} (h : ∀ k, k < P.length → nameB P k = true) : namesF P = decide (P.length ≤ 8) := by
  unfold namesF
  have : (List.range P.length).all (nameB P) = true := by
    rw [List.all_eq_true]
    intro k hk
    exact h k (List.mem_range.1 hk)
  rw [this, Bool.true_and]
theorem named_no {s : ByteArray} {j : Nat} (hj : j < s.size) (h : okByte (bAt s j) = false) : namedF s = false := by
  unfold namedF
  rw [all_not h hj, Bool.and_false, Bool.and_false]
theorem named_yes {s : ByteArray} (h1 : 1 ≤ s.size) (h2 : s.size ≤ 32) (h : ∀ j, j < s.size → okByte (bAt s j) = true) : namedF s = true := by
  unfold namedF
  have : (List.range s.size).all (fun j => okByte (bAt s j)) = true := by
    rw [List.all_eq_true]
    intro k hk
    exact h k (List.mem_range.1 hk)
  rw [this, decide_eq_true h1, decide_eq_true h2]
  rfl
/-- What the map says of names. -/
def Seen (P : List ByteArray) (k : Nat) (D : DataW Unit) : Prop := ∀ x : ByteArray, x.size ≤ maxLen → D.atKey (.string x.data.toList) (.lit (.int .i64 0)) = .lit (.int .i64 (if (List.range k).all (fun j => !decide (P.getD j ⟨#[]⟩ = x)) = true then 0 else 1))
theorem Seen.put {P : List ByteArray} {k : Nat} {D : DataW Unit} (h : Seen P k D) (hm : Maps.IsMap D) : Seen P (k + 1) (D.put (.string (P.getD k ⟨#[]⟩).data.toList) (.lit (.int .i64 1))) := by
  intro x hx
  rw [all_succ]
  by_cases e : P.getD k ⟨#[]⟩ = x
  · rw [decide_eq_true e, Bool.not_true, Bool.and_false, ← e]
    exact Maps.atKey_put_same hm (show WideAt.IsKeyLit (.string (P.getD k ⟨#[]⟩).data.toList) from trivial) _ _
  · rw [decide_eq_false e, Bool.not_false, Bool.and_true, Maps.atKey_put_other (fun e2 => e ?_), h x hx]
    simp only [Lit.string.injEq] at e2
    cases x; simp only at e2
    cases hP : P.getD k ⟨#[]⟩
    rw [hP] at e2
    simp only at e2
    rw [Array.toList_inj.1 e2]
theorem Seen.zero (P : List ByteArray) : Seen P 0 (.map []) := fun _ _ => rfl
/-- The map's look-up. -/
theorem look_name {w : World} {mb n k : Nat} {D : DataW Unit} {P : List ByteArray} (h : w.ownsMap Try.prog 9 (plainElem Try.prog 3) mb n D) (hs : Seen P k D) (hz : (P.getD k ⟨#[]⟩).size ≤ maxLen) :
    (Instr.lookup 114 (.map (some mb)) (.string (P.getD k ⟨#[]⟩)) false).run Try.prog w = .ok (.int .i64 (if newB P k = true then 0 else 1)) w := by
  obtain ⟨c, hrun, hat, _⟩ := h.lookup_int strKeyed Try.underlying114 Try.underlying3 (Try.zeroValue3 w) (WideMaps.keyOf_string_mk Try.underlying9 hz)
  rw [hs _ hz] at hat
  simp only [DataW.lit.injEq, Lit.int.injEq, true_and] at hat
  rw [hrun, ← hat]
  rfl
set_option maxHeartbeats 4000000 in
theorem isnames_any (v : Value) (P : List ByteArray) (w : World) (hP : TextsAt w v P) : Calls Try.prog 91 #[v] w fun e w' => e = .returned (.bool (namesF P)) ∧ w.grownBy w' none := by
  have HP := Lib.hid hP
  obtain ⟨a, cap, rfl, hcap, hl, hz, hc⟩ := hP
  have HZ := Lib.hid hz
  have HNo := Lib.hid (fun k hk h => names_no (P := P) (k := k) hk h)
  have HYe := Lib.hid (names_yes (P := P))
  clear hc hz
  have hmm := @run_makeMap Try.prog
  go_enter Try.func91, Try.ntmps91
  go_wp2_with fail
  have HM0 := Lib.hid (World.ownsMap_made (H := Unit) w Try.prog 9 (plainElem Try.prog 3))
  go_loopw [10] (fun i wr => ∃ (k n : Nat) (D : DataW Unit), k ≤ P.length ∧ n ≤ k ∧ i = .int .i64 (k : Int) ∧ Hid (∀ j, j < k → nameB P j = true) ∧ Hid (wr.ownsMap Try.prog 9 (plainElem Try.prog 3) w.heap.size n D) ∧ Hid (Seen P k D) ∧ Hid (w.grownBy wr none)) (fun i _ => P.length - (intOf i).toNat)
  case atStart => exact ⟨0, 0, .map [], Nat.zero_le _, Nat.le_refl _, rfl, Lib.hid fun j h => absurd h (Nat.not_lt_zero _), HM0, Lib.hid (Seen.zero P), Lib.hid (World.grownBy_alloc _ _ none)⟩
  case round =>
    obtain ⟨k, n, D, hk, hnk, rfl, H0, HM, HS, HG⟩ := hrel
    by_cases hlt : k < P.length
    · have hkI : (k : Int) < (P.length : Int) := by omega
      obtain ⟨_, _, e1, _, _, _, hc⟩ := HP.out.kept HG.out
      cases e1
      rcases hc with rfl | ⟨b, off, rfl, hc⟩
      · exact absurd hlt (by simp)
      have hck := hc k hlt
      have hlook := look_name HM.out HS.out (HZ.out k hlt)
      have hzk := HZ.out k hlt
      have HNk := Lib.hid (HNo.out k hlt)
      have HB : Hid (nameB P k = (namedF (P.getD k ⟨#[]⟩) && newB P k)) := Lib.hid rfl
      have HPut := Lib.hid fun hm => HS.out.put (k := k) hm
      have HK : Hid (keyOf Try.prog 9 (.string (P.getD k ⟨#[]⟩)) = some (.string (P.getD k ⟨#[]⟩).data.toList)) := Lib.hid (WideMaps.keyOf_string_mk Try.underlying9 hzk)
      have HYk : Hid (nameB P k = true → ∀ j, j < k + 1 → nameB P j = true) := Lib.hid fun h j hj => by
        by_cases e : j < k
        · exact H0.out j e
        · obtain rfl : j = k := by omega
          exact h
      clear hc
      generalize P.getD k ⟨#[]⟩ = s at hck hlook hzk HB HPut HK
      unfold maxLen at hzk
      by_cases h1 : 1 ≤ s.size
      · by_cases h2 : s.size ≤ 32
        · have h1I : ¬ (s.size : Int) < 1 := by omega
          have h2I : ¬ (s.size : Int) > 32 := by omega
          cases hnew : newB P k
          · rw [hnew] at hlook HB
            have HV := Lib.hid (HNk.out (by rw [HB.out, Bool.and_false]))
            simp only [Bool.false_eq_true, if_false] at hlook
            clear HB HNk HYk hnew
            go_wp2_with fail
            go_ret
            exact ⟨by rw [HV.out]; rfl, HG.out⟩
          · rw [hnew] at hlook HB
            simp only [if_true] at hlook
            clear hnew
            go_wp2_with (at_mapUpdate; refine wpList_mapUpdate_own _ rfl _ _ _ 114 rfl 9 3 strKeyed Try.underlying114 (plainElem Try.prog 3) w.heap.size n D rfl HM.out (by unfold maxLen; omega) _ _ _ rfl rfl HK.out (.lit (.int .i64 1)) [] (plainElem_int Try.underlying3 (by decide)) ?_; intro w1 hown1 hgr1)
            have HMn : Hid (w1.ownsMap Try.prog 9 (plainElem Try.prog 3) w.heap.size (n + 1) (D.put (.string s.data.toList) (.lit (.int .i64 1)))) := Lib.hid hown1
            have HSn := Lib.hid (HPut.out HM.out.isMap)
            have HGn : Hid (w.grownBy w1 none) := Lib.hid (gb_trans HG.out hgr1 (Or.inr (Or.inr ⟨_, rfl, Nat.le_refl _⟩)))
            clear hown1 hgr1 hlook
            obtain ⟨wo, rfl⟩ : ∃ wo : World, wo = w1 := ⟨_, rfl⟩
            go_wp2_with fail
            go_loop [34] (fun i => ∃ j : Nat, j ≤ s.size ∧ i = .int .i64 (j : Int) ∧ Hid (∀ m, m < j → okByte (bAt s m) = true)) (fun i => s.size - (intOf i).toNat)
            case atStart => exact ⟨0, Nat.zero_le _, rfl, Lib.hid fun m h => absurd h (Nat.not_lt_zero _)⟩
            case round =>
              obtain ⟨j, hj, rfl, HO⟩ := hrel
              by_cases hjs : j < s.size
              · have hjI : (j : Int) < (s.size : Int) := by omega
                have hge : (0 : Int) ≤ (s[j].toNat : Int) := by omega
                have hle : (s[j].toNat : Int) ≤ 255 := by have := s[j].toNat_lt; omega
                have HNm := Lib.hid (fun h => named_no (s := s) hjs h)
                have HYm : Hid (okByte (bAt s j) = true → ∀ m, m < j + 1 → okByte (bAt s m) = true) := Lib.hid fun h m hm => by
                  by_cases e : m < j
                  · exact HO.out m e
                  · obtain rfl : m = j := by omega
                    exact h
                rw [← bAt_get hjs] at HNm HYm
                by_cases hok : okByte (s[j].toNat : Int) = true
                · have HYm2 := Lib.hid (HYm.out hok)
                  unfold okByte at hok
                  simp only [Bool.not_eq_true', Bool.or_eq_false_iff, decide_eq_false_iff_not] at hok
                  obtain ⟨x1, x2, x3, x4⟩ := hok
                  clear HNm HYm
                  go_wp2_with fail
                  exact ⟨⟨j + 1, by omega, by go_num, HYm2⟩, by simp [intOf]; omega⟩
                · have HV := Lib.hid (HNk.out (by rw [HB.out, HNm.out (by simpa using hok)]; rfl))
                  have hor := bad_or hok
                  clear HNm HYm HB HNk HYk hok
                  rcases hor with h | h | h | h
                  all_goals go_wp2_with fail
                  all_goals go_ret
                  all_goals exact ⟨by rw [HV.out]; rfl, HGn.out⟩
              · have hjI : ¬ (j : Int) < (s.size : Int) := by omega
                have HYn := Lib.hid (HYk.out (by rw [HB.out, named_yes h1 h2 (fun m hm => HO.out m (by omega))]; rfl))
                clear HB HNk HYk
                go_wp2_with fail
                exact ⟨⟨k + 1, n + 1, _, by omega, by omega, by go_num, HYn, HMn, HSn, HGn⟩, by simp [intOf]; omega⟩
        · have h2I : (s.size : Int) > 32 := by omega
          have h1I : ¬ (s.size : Int) < 1 := by omega
          have HV := Lib.hid (HNk.out (by rw [HB.out]; unfold namedF; rw [decide_eq_false h2]; simp))
          clear HB HNk HYk hlook
          go_wp2_with fail
          go_ret
          exact ⟨by rw [HV.out]; rfl, HG.out⟩
      · have h1I : (s.size : Int) < 1 := by omega
        have HV := Lib.hid (HNk.out (by rw [HB.out]; unfold namedF; rw [decide_eq_false h1]; simp))
        clear HB HNk HYk hlook
        go_wp2_with fail
        go_ret
        exact ⟨by rw [HV.out]; rfl, HG.out⟩
    · obtain rfl : k = P.length := by omega
      have hkI : ¬ (P.length : Int) < (P.length : Int) := by omega
      have HV := Lib.hid (HYe.out H0.out)
      by_cases h8 : P.length ≤ 8
      · have h8I : (P.length : Int) ≤ 8 := by omega
        go_wp2_with fail
        go_ret
        exact ⟨by rw [HV.out]; simp [h8], HG.out⟩
      · have h8I : ¬ (P.length : Int) ≤ 8 := by omega
        go_wp2_with fail
        go_ret
        exact ⟨by rw [HV.out]; simp [h8], HG.out⟩
end Go.Proofs.Ytcdepblajobemaa
