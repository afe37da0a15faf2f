/- Lex: the document's token at a place. -/
import Derived.Test.YtlmpeddacadfkaaRefLexBare
import Derived.Test.YtlmpeddacadfkaaLexLocal
import Derived.Deep.QuietTactic
import Derived.BigQuiet
namespace Go.Proofs.Ytlmpeddacadfkaa
open Go.RowKit

def signsL : List ByteArray := [⟨#[33]⟩, ⟨#[38]⟩, ⟨#[124]⟩, ⟨#[40]⟩, ⟨#[41]⟩, ⟨#[45, 62]⟩, ⟨#[60, 45, 62]⟩]
/-- The first of the signs with which a text begins, from the k-th sign on. -/
def signFrom (x : ByteArray) : Nat → List ByteArray → Res
  | _, [] => ⟨0, ⟨#[]⟩, 0, 20⟩
  | k, y :: l => if preB x y = true then ⟨4, y, y.size, 0⟩ else signFrom x (k + 1) l
theorem pre1 (x : ByteArray) (c : UInt8) (h1 : 1 ≤ x.size) : preB x ⟨#[c]⟩ = (bAt x 0 == (c.toNat : Int)) := by
  rw [Bool.eq_iff_iff]
  constructor
  · intro h
    have := (preB_at h).2 0 (by show 0 < 1; decide)
    rw [this]
    simp [bAt]
  · intro h
    have h2 : bAt x 0 = (c.toNat : Int) := by simpa using h
    unfold preB
    rw [decide_eq_true (show (⟨#[c]⟩ : ByteArray).size ≤ x.size from h1), Bool.true_and]
    have e : x.extract 0 (⟨#[c]⟩ : ByteArray).size = ⟨#[c]⟩ := ba_ext (by rw [size_ext (show (⟨#[c]⟩ : ByteArray).size ≤ x.size from h1)]; rfl) fun i hi => by
      rw [size_ext (show (⟨#[c]⟩ : ByteArray).size ≤ x.size from h1)] at hi
      have hi0 : i = 0 := by have : (⟨#[c]⟩ : ByteArray).size = 1 := rfl; omega
      subst hi0
      rw [bAt_ext (show (⟨#[c]⟩ : ByteArray).size ≤ x.size from h1) (by show 0 + 0 < 1; decide), h2]
      simp [bAt]
    rw [e]
    simp
theorem signB_not {c : Int} (h0 : 0 ≤ c) (h1 : c ≤ 255) : signB c = (c == 33 || (c == 38 || (c == 124 || (c == 40 || (c == 41 || (c == 45 || c == 60)))))) := by
  have key : ∀ k : Fin 256, signB ((k : Nat) : Int) = (((k : Nat) : Int) == 33 || (((k : Nat) : Int) == 38 || (((k : Nat) : Int) == 124 || (((k : Nat) : Int) == 40 || (((k : Nat) : Int) == 41 || (((k : Nat) : Int) == 45 || ((k : Nat) : Int) == 60)))))) := by decide +kernel
  have := key ⟨c.toNat, by omega⟩
  rw [show (((⟨c.toNat, by omega⟩ : Fin 256) : Nat) : Int) = c from Int.toNat_of_nonneg h0] at this
  exact this
/-- The signs, tried one by one, are the sign. -/
theorem signs_law (x : ByteArray) (h1 : 1 ≤ x.size) : signFrom x 0 signsL = if signB (bAt x 0) = true then signR x else ⟨0, ⟨#[]⟩, 0, 20⟩ := by
  have hb := bAt_byte x 0
  have hx1 : ∀ (c : UInt8), bAt x 0 = (c.toNat : Int) → x.extract 0 1 = ⟨#[c]⟩ := fun c h => by
    have h2 : preB x ⟨#[c]⟩ = true := by rw [pre1 x c h1]; simpa using h
    unfold preB at h2
    simp only [Bool.and_eq_true, decide_eq_true_eq, beq_iff_eq] at h2
    exact toList_eq h2.2
  have hp2 : preB x ⟨#[45, 62]⟩ = true → bAt x 0 = 45 := fun h => (preB_at h).2 0 (by decide)
  have hp3 : preB x ⟨#[60, 45, 62]⟩ = true → bAt x 0 = 60 := fun h => (preB_at h).2 0 (by decide)
  unfold signsL signFrom signFrom signFrom signFrom signFrom signFrom signFrom signFrom
  rw [pre1 x 33 h1, pre1 x 38 h1, pre1 x 124 h1, pre1 x 40 h1, pre1 x 41 h1, signB_not hb.1 hb.2]
  unfold signR
  by_cases c1 : bAt x 0 = 33
  · have n2 : ¬ preB x ⟨#[45, 62]⟩ = true := fun h => by have := hp2 h; omega
    have n3 : ¬ preB x ⟨#[60, 45, 62]⟩ = true := fun h => by have := hp3 h; omega
    rw [hx1 33 c1, c1]
    simp only [if_neg n2, if_neg n3]
    rfl
  by_cases c2 : bAt x 0 = 38
  · have n2 : ¬ preB x ⟨#[45, 62]⟩ = true := fun h => by have := hp2 h; omega
    have n3 : ¬ preB x ⟨#[60, 45, 62]⟩ = true := fun h => by have := hp3 h; omega
    rw [hx1 38 c2, c2]
    simp only [if_neg n2, if_neg n3]
    rfl
  by_cases c3 : bAt x 0 = 124
  · have n2 : ¬ preB x ⟨#[45, 62]⟩ = true := fun h => by have := hp2 h; omega
    have n3 : ¬ preB x ⟨#[60, 45, 62]⟩ = true := fun h => by have := hp3 h; omega
    rw [hx1 124 c3, c3]
    simp only [if_neg n2, if_neg n3]
    rfl
  by_cases c4 : bAt x 0 = 40
  · have n2 : ¬ preB x ⟨#[45, 62]⟩ = true := fun h => by have := hp2 h; omega
    have n3 : ¬ preB x ⟨#[60, 45, 62]⟩ = true := fun h => by have := hp3 h; omega
    rw [hx1 40 c4, c4]
    simp only [if_neg n2, if_neg n3]
    rfl
  by_cases c5 : bAt x 0 = 41
  · have n2 : ¬ preB x ⟨#[45, 62]⟩ = true := fun h => by have := hp2 h; omega
    have n3 : ¬ preB x ⟨#[60, 45, 62]⟩ = true := fun h => by have := hp3 h; omega
    rw [hx1 41 c5, c5]
    simp only [if_neg n2, if_neg n3]
    rfl
  have d1 : (bAt x 0 == ((33 : UInt8).toNat : Int)) = false := by rw [beq_eq_false_iff_ne]; exact c1
  have d2 : (bAt x 0 == ((38 : UInt8).toNat : Int)) = false := by rw [beq_eq_false_iff_ne]; exact c2
  have d3 : (bAt x 0 == ((124 : UInt8).toNat : Int)) = false := by rw [beq_eq_false_iff_ne]; exact c3
  have d4 : (bAt x 0 == ((40 : UInt8).toNat : Int)) = false := by rw [beq_eq_false_iff_ne]; exact c4
  have d5 : (bAt x 0 == ((41 : UInt8).toNat : Int)) = false := by rw [beq_eq_false_iff_ne]; exact c5
  rw [d1, d2, d3, d4, d5]
  have e1 : (bAt x 0 == 33) = false := d1
  have e2 : (bAt x 0 == 38) = false := d2
  have e3 : (bAt x 0 == 124) = false := d3
  have e4 : (bAt x 0 == 40) = false := d4
  have e5 : (bAt x 0 == 41) = false := d5
  rw [e1, e2, e3, e4, e5]
  simp only [Bool.false_or, Bool.false_eq_true, if_false]
  by_cases p2 : preB x ⟨#[45, 62]⟩ = true
  · rw [if_pos p2, if_pos p2, hp2 p2]
    rfl
  · rw [if_neg p2, if_neg p2]
    by_cases p3 : preB x ⟨#[60, 45, 62]⟩ = true
    · rw [if_pos p3, if_pos p3, hp3 p3]
      rfl
    · rw [if_neg p3, if_neg p3]
      by_cases hc : (bAt x 0 == 45 || bAt x 0 == 60) = true
      · rw [if_pos hc, if_pos hc]
      · rw [if_neg hc]
theorem part_else {x : ByteArray} (h1 : 1 ≤ x.size) (hl : isLet (bAt x 0) = false) (hq : (bAt x 0 == 34) = false) : partR x = signFrom x 0 signsL := by
  rw [signs_law x h1]
  unfold partR
  rw [hl, hq]
  rfl
theorem sign_size : ∀ k, k < 7 → 1 ≤ (signsL.getD k ⟨#[]⟩).size ∧ (signsL.getD k ⟨#[]⟩).size ≤ 3 := by decide
theorem sign_drop {k : Nat} (hk : k < 7) : signsL.drop k = signsL.getD k ⟨#[]⟩ :: signsL.drop (k + 1) := by
  rw [List.drop_eq_getElem_cons (show k < signsL.length from hk), List.getD_eq_getElem?_getD, List.getElem?_eq_getElem (show k < signsL.length from hk)]
  rfl
set_option maxRecDepth 100000 in
set_option maxHeartbeats 4000000 in
theorem refone_any (s : ByteArray) (p : Nat) (w : World) (hs : s.size ≤ 100000000) (hp : p < s.size) :
    Calls Try.prog 26 #[.string s, .int .i64 (p : Int)] w fun e w' => e = .returned (refV (partR (s.extract p s.size)) p) ∧ w.grownBy w' none := by
  have hsz : (s.extract p s.size).size = s.size - p := by rw [ByteArray.size_extract]; omega
  have h0 : bAt (s.extract p s.size) 0 = bAt s p := extract_at hp
  have hb := bAt_byte s p
  have hmm : s.size ≤ maxLen := by unfold maxLen; omega
  have HL := Lib.hid (refletter_any (bAt s p) hb.1 hb.2)
  cases hl : isLet (bAt s p) <;> rw [hl] at HL
  · cases hq : (bAt s p == 34)
    · have HP : Hid (partR (s.extract p s.size) = signFrom (s.extract p s.size) 0 signsL) := Lib.hid (part_else (by omega) (by rw [h0]; exact hl) (by rw [h0]; exact hq))
      rw [← bAt_get hp] at HL hq
      clear hl h0
      go_enter Try.func26, Try.ntmps26
      go_wp2_with (go_at_call 48; refine (HL.out _).mono ?_; rintro e w2 ⟨rfl, rfl⟩)
      have hgX := World.grownBy_alloc (w.alloc (.cells #[.int .u8 0, .string ⟨#[]⟩, .int .i64 0] 50)) (.cells #[.string ⟨#[33]⟩, .string ⟨#[38]⟩, .string ⟨#[124]⟩, .string ⟨#[40]⟩, .string ⟨#[41]⟩, .string ⟨#[45, 62]⟩, .string ⟨#[60, 45, 62]⟩] 9) none
      have HC : Hid (∀ k, k < 7 → ((w.alloc (.cells #[.int .u8 0, .string ⟨#[]⟩, .int .i64 0] 50)).alloc (.cells #[.string ⟨#[33]⟩, .string ⟨#[38]⟩, .string ⟨#[124]⟩, .string ⟨#[40]⟩, .string ⟨#[41]⟩, .string ⟨#[45, 62]⟩, .string ⟨#[60, 45, 62]⟩] 9)).cell? ⟨w.heap.size + 1, k, none⟩ = some (.string (signsL.getD k ⟨#[]⟩))) := Lib.hid fun k hk => by
        have e := heap_alloc_new (w.alloc (.cells #[.int .u8 0, .string ⟨#[]⟩, .int .i64 0] 50)) (.cells #[.string ⟨#[33]⟩, .string ⟨#[38]⟩, .string ⟨#[124]⟩, .string ⟨#[40]⟩, .string ⟨#[41]⟩, .string ⟨#[45, 62]⟩, .string ⟨#[60, 45, 62]⟩] 9)
        rw [World.size_alloc] at e
        simp only [World.cell?, e]
        rcases (show k = 0 ∨ k = 1 ∨ k = 2 ∨ k = 3 ∨ k = 4 ∨ k = 5 ∨ k = 6 by omega) with rfl | rfl | rfl | rfl | rfl | rfl | rfl <;> rfl
      have HGX := Lib.hid hgX
      clear hgX
      generalize ((w.alloc (.cells #[.int .u8 0, .string ⟨#[]⟩, .int .i64 0] 50)).alloc (.cells #[.string ⟨#[33]⟩, .string ⟨#[38]⟩, .string ⟨#[124]⟩, .string ⟨#[40]⟩, .string ⟨#[41]⟩, .string ⟨#[45, 62]⟩, .string ⟨#[60, 45, 62]⟩] 9)) = wt at HC HGX ⊢
      have HGt := Lib.hid (gb_refl wt none)
      go_loopw [9, 10] (fun i _ wr => ∃ k : Nat, k ≤ 7 ∧ i = .int .i64 (k : Int) ∧ Hid (partR (s.extract p s.size) = signFrom (s.extract p s.size) k (signsL.drop k)) ∧ Hid (wt.grownBy wr none)) (fun i _ _ => 7 - (intOf i).toNat)
      case atStart => exact ⟨0, by omega, rfl, HP, HGt⟩
      case round =>
        obtain ⟨k, hk, rfl, HF, HG⟩ := hrel
        obtain ⟨k0, k1, k2, f0, f1, f2⟩ := tok_box (gb_trans HGX.out HG.out (Or.inl rfl))
        have HEnd := Lib.hid (fun x y z => tok_end (gb_trans HGX.out HG.out (Or.inl rfl)) x y z)
        by_cases hlt : k < 7
        · have hkI : (k : Int) < 7 := by omega
          have hc := HG.out.cell (HC.out k hlt) (by simp)
          have hy := sign_size k hlt
          have HY : Hid (preB (s.extract p s.size) (signsL.getD k ⟨#[]⟩) = true → partR (s.extract p s.size) = ⟨4, signsL.getD k ⟨#[]⟩, (signsL.getD k ⟨#[]⟩).size, 0⟩) := Lib.hid fun h => by
            rw [HF.out, sign_drop hlt]
            unfold signFrom
            rw [if_pos h]
          have HNo : Hid (preB (s.extract p s.size) (signsL.getD k ⟨#[]⟩) = false → partR (s.extract p s.size) = signFrom (s.extract p s.size) (k + 1) (signsL.drop (k + 1))) := Lib.hid fun h => by
            rw [HF.out, sign_drop hlt]
            conv => lhs; unfold signFrom
            rw [if_neg (by rw [h]; simp)]
          generalize signsL.getD k ⟨#[]⟩ = y at hc hy HY HNo
          have hpre : preB (s.extract p s.size) y = (decide (y.size ≤ s.size - p) && ((s.extract p (p + y.size)).toList == y.toList)) := by
            unfold preB
            rw [hsz]
            by_cases hf : y.size ≤ s.size - p
            · rw [extract_part (by omega), Nat.add_zero]
            · rw [decide_eq_false hf, Bool.false_and, Bool.false_and]
          rw [hpre] at HY HNo
          clear hpre HC HF
          have hWr : IntKind.i64.wrap ((p : Int) + (y.size : Int)) = (p : Int) + (y.size : Int) := IntWalk.i64_in _ (by omega)
          have htn : ((p : Int) + (y.size : Int)).toNat = p + y.size := by omega
          have hle : (p : Int) ≤ (p : Int) + (y.size : Int) := by omega
          by_cases hf : p + y.size ≤ s.size
          · have hfI : (p : Int) + (y.size : Int) ≤ (s.size : Int) := by omega
            rw [decide_eq_true (show y.size ≤ s.size - p by omega), Bool.true_and] at HY HNo
            cases hb : ((s.extract p (p + y.size)).toList == y.toList)
            · have HN2 := Lib.hid (HNo.out hb)
              clear HY HNo
              go_wp2_with fail
              go_quiet (fail)
              go_wp2_with fail
              go_roundw
              case rel => exact ⟨k + 1, by omega, by go_num, HN2, Lib.hid (gb_trans HG.out (gb_drewN _ _ _) (Or.inl rfl))⟩
              case measure => simp [intOf]; omega
            · have HV := Lib.hid (HY.out hb)
              clear HY HNo
              go_wp2_with fail
              go_quiet (fail)
              obtain ⟨k0, k1, k2, f0, f1, f2⟩ := tok_box (gb_trans HGX.out (gb_trans HG.out (gb_drewN wr nq none) (Or.inl rfl)) (Or.inl rfl))
              have HEnd := Lib.hid (fun x y z => tok_end (gb_trans HGX.out (gb_trans HG.out (gb_drewN wr nq none) (Or.inl rfl)) (Or.inl rfl)) x y z)
              go_wp2_with fail
              refine bodyPost_ret (results_tok rfl _ _ _ _ rfl (HEnd.out _ _ _).1 rfl) rfl ?_
              rw [HV.out]
              exact ⟨rfl, (HEnd.out _ _ _).2⟩
          · have hfI : decide ((p : Int) + (y.size : Int) ≤ (s.size : Int)) = false := decide_eq_false (by omega)
            have HN2 := Lib.hid (HNo.out (by rw [decide_eq_false (by omega)]; rfl))
            clear HY HNo
            go_wp2_with fail
            go_quiet (fail)
            go_wp2_with fail
            go_roundw
            case rel => exact ⟨k + 1, by omega, by go_num, HN2, Lib.hid (gb_trans HG.out (gb_drewN _ _ _) (Or.inl rfl))⟩
            case measure => simp [intOf]; omega
        · obtain rfl : k = 7 := by omega
          have hkI : ¬ ((7 : Int) < 7) := by omega
          have HV : Hid (partR (s.extract p s.size) = ⟨0, ⟨#[]⟩, 0, 20⟩) := Lib.hid (by rw [HF.out]; rfl)
          clear HF
          go_wp2_with fail
          refine bodyPost_ret (results_tok rfl _ _ _ _ rfl (HEnd.out _ _ _).1 rfl) rfl ?_
          rw [HV.out]
          exact ⟨rfl, (HEnd.out _ _ _).2⟩
    · have HP : Hid (partR (s.extract p s.size) = quotedR (s.extract p s.size)) := Lib.hid (by unfold partR; rw [h0, hl, hq]; rfl)
      have HQ := Lib.hid (refquoted_any s p · hmm hp)
      rw [← HP.out] at HQ
      generalize partR (s.extract p s.size) = r at HQ
      unfold refV at HQ
      by_cases he : r.err = 0
      · rw [if_pos he] at HQ
        rw [← bAt_get hp] at HL hq
        clear hl h0 HP
        go_enter Try.func26, Try.ntmps26
        go_wp2_with (first
          | (go_at_call 48; refine (HL.out _).mono ?_; rintro e w2 ⟨rfl, rfl⟩)
          | (go_at_call 51; refine (HQ.out _).mono ?_; rintro e w3 ⟨rfl, hg3⟩; obtain ⟨k0, k1, k2, f0, f1, f2⟩ := tok_box hg3; have HEnd := Lib.hid (fun x y z => tok_end hg3 x y z)))
        refine bodyPost_ret (results_tok rfl _ _ _ _ rfl (HEnd.out _ _ _).1 rfl) rfl ?_
        exact ⟨by simp [refV, he], (HEnd.out _ _ _).2⟩
      · rw [if_neg he] at HQ
        rw [← bAt_get hp] at HL hq
        clear hl h0 HP
        go_enter Try.func26, Try.ntmps26
        go_wp2_with (first
          | (go_at_call 48; refine (HL.out _).mono ?_; rintro e w2 ⟨rfl, rfl⟩)
          | (go_at_call 51; refine (HQ.out _).mono ?_; rintro e w3 ⟨rfl, hg3⟩; obtain ⟨k0, k1, k2, f0, f1, f2⟩ := tok_box hg3; have HEnd := Lib.hid (fun x y z => tok_end hg3 x y z)))
        refine bodyPost_ret (results_tok rfl _ _ _ _ rfl (HEnd.out _ _ _).1 rfl) rfl ?_
        exact ⟨by simp [refV, he], (HEnd.out _ _ _).2⟩
  · have HP : Hid (partR (s.extract p s.size) = wordR (s.extract p s.size)) := Lib.hid (by unfold partR; rw [h0, hl]; rfl)
    have HB := Lib.hid (refbare_any s p · hmm hp)
    rw [← HP.out] at HB
    generalize partR (s.extract p s.size) = r at HB
    unfold refV at HB
    by_cases he : r.err = 0
    · rw [if_pos he] at HB
      rw [← bAt_get hp] at HL
      clear hl h0 HP
      go_enter Try.func26, Try.ntmps26
      go_wp2_with (first
        | (go_at_call 48; refine (HL.out _).mono ?_; rintro e w2 ⟨rfl, rfl⟩)
        | (go_at_call 50; refine (HB.out _).mono ?_; rintro e w3 ⟨rfl, hg3⟩; obtain ⟨k0, k1, k2, f0, f1, f2⟩ := tok_box hg3; have HEnd := Lib.hid (fun x y z => tok_end hg3 x y z)))
      refine bodyPost_ret (results_tok rfl _ _ _ _ rfl (HEnd.out _ _ _).1 rfl) rfl ?_
      exact ⟨by simp [refV, he], (HEnd.out _ _ _).2⟩
    · rw [if_neg he] at HB
      rw [← bAt_get hp] at HL
      clear hl h0 HP
      go_enter Try.func26, Try.ntmps26
      go_wp2_with (first
        | (go_at_call 48; refine (HL.out _).mono ?_; rintro e w2 ⟨rfl, rfl⟩)
        | (go_at_call 50; refine (HB.out _).mono ?_; rintro e w3 ⟨rfl, hg3⟩; obtain ⟨k0, k1, k2, f0, f1, f2⟩ := tok_box hg3; have HEnd := Lib.hid (fun x y z => tok_end hg3 x y z)))
      refine bodyPost_ret (results_tok rfl _ _ _ _ rfl (HEnd.out _ _ _).1 rfl) rfl ?_
      exact ⟨by simp [refV, he], (HEnd.out _ _ _).2⟩
end Go.Proofs.Ytlmpeddacadfkaa
