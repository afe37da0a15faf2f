/- Lex: the next token. -/
import Derived.Test.YtlmpeddacadfkaaLexMade
import Derived.Deep.DeepCutAuto
namespace Go.Proofs.Ytlmpeddacadfkaa
open Go.RowKit

def blankB (c : Int) : Bool := decide (0 ≤ Lib.indexByte [32, 9, 10, 13] c.toNat.toUInt8)
/-- Where the blanks end. -/
def skipF (s : ByteArray) (k : Nat) : Nat := k + prefL blankB (s.data.toList.drop k)
theorem skip_eq {s : ByteArray} {k m : Nat} (hkm : k ≤ m) (hp : ∀ j, k ≤ j → j < m → blankB (bAt s j) = true) (hm : m ≤ s.size) (he : m = s.size ∨ blankB (bAt s m) = false) : skipF s k = m := by
  have hd : ∀ j, ((s.data.toList.drop k).getD j 0) = s.data.toList.getD (k + j) 0 := fun j => by
    rw [List.getD_eq_getElem?_getD, List.getElem?_drop, List.getD_eq_getElem?_getD]
  have hl : (s.data.toList.drop k).length = s.size - k := by rw [List.length_drop]; rfl
  unfold skipF
  rw [prefL_eq (s.data.toList.drop k) (m - k) (fun j hj => by rw [hd]; exact hp (k + j) (by omega) (by omega)) (by omega) (by
    rcases he with he | he
    · left; omega
    · right; rw [hd, show k + (m - k) = m by omega]; exact he)]
  omega
/-- What stands at the front of a text that does not begin with a blank. -/
def partR (s : ByteArray) : Res := if isLet (bAt s 0) = true then wordR s else if (bAt s 0 == 34) = true then quotedR s else if signB (bAt s 0) = true then signR s else ⟨0, ⟨#[]⟩, 0, 20⟩
/-- A token, where it is, the place behind; or an error and its place. -/
structure Tok where
  kind : Nat
  text : ByteArray
  at' : Nat
  behind : Nat
  err : Nat
def tokR (s : ByteArray) (p : Nat) : Tok := if s.size ≤ p then ⟨1, ⟨#[]⟩, p, p, 0⟩ else if (partR (s.extract p s.size)).err = 0 then ⟨(partR (s.extract p s.size)).kind, (partR (s.extract p s.size)).text, p, p + (partR (s.extract p s.size)).n, 0⟩ else ⟨0, ⟨#[]⟩, 0, p, (partR (s.extract p s.size)).err⟩
def nextR (s : ByteArray) (k : Nat) : Tok := tokR s (skipF s k)
def tokenV (t : Tok) : Value := .agg #[.int .u8 (t.kind : Int), .string t.text, .int .i64 (t.at' : Int)]
def nextV (t : Tok) : Value := .tuple #[tokenV t, .int .i64 (t.behind : Int), .int .i64 (t.err : Int)]

theorem part_any (s : ByteArray) (hs : s.size ≤ maxLen) (h1 : 1 ≤ s.size) : ∃ f : Nat, clsF (bAt s 0) = f ∧ (f = 52 ∨ f = 53 ∨ f = 55 ∨ f = 56) ∧ ∀ (v : Value) (wx : World), Calls Try.prog f #[v, .string s] wx fun e w' => e = .returned (resV (partR s)) ∧ wx.grownBy w' none := by
  refine ⟨_, rfl, ?_, ?_⟩
  · unfold clsF
    split
    · exact Or.inl rfl
    · split
      · exact Or.inr (Or.inl rfl)
      · split
        · exact Or.inr (Or.inr (Or.inl rfl))
        · exact Or.inr (Or.inr (Or.inr rfl))
  · unfold clsF partR
    intro v wx
    split
    · exact word_any v s wx hs
    · split
      · exact quoted_any v s wx hs
      · split
        · exact sign_any v s wx hs h1
        · exact none_any v s wx
theorem extract_at {s : ByteArray} {m : Nat} (hm : m < s.size) : bAt (s.extract m s.size) 0 = bAt s m := by
  have h1 : 0 < (s.extract m s.size).size := by rw [ByteArray.size_extract]; omega
  rw [← bAt_get h1, ← bAt_get hm]
  congr 2
  rw [ByteArray.getElem_extract]
  rfl

theorem partR_n {s : ByteArray} (h1 : 1 ≤ s.size) : (partR s).n ≤ s.size := by
  unfold partR
  split
  · unfold wordR
    split
    · exact runF_le s
    · split
      · exact Nat.zero_le _
      · exact runF_le s
  · split
    · unfold quotedR
      split
      · exact Nat.zero_le _
      · split
        · split
          · exact Nat.zero_le _
          · show qEnd s + 1 ≤ s.size
            omega
        · exact Nat.zero_le _
    · split
      · unfold signR
        split
        · rename_i h
          unfold preB at h
          simp only [Bool.and_eq_true, decide_eq_true_eq] at h
          exact h.1
        · split
          · rename_i h
            unfold preB at h
            simp only [Bool.and_eq_true, decide_eq_true_eq] at h
            exact h.1
          · split
            · exact Nat.zero_le _
            · exact h1
      · exact Nat.zero_le _
theorem cutA {w w2 : World} (h : ((w.alloc (.cells #[.int .u8 0, .string ⟨#[]⟩, .int .i64 0] 50)).alloc (.cells #[.int .u8 0, .string ⟨#[]⟩, .int .i64 0] 50)).grownBy w2 none) (x y z : Value) :
    (((w2.setCell ⟨w.heap.size + 1, 0, none⟩ x).setCell ⟨w.heap.size + 1, 1, none⟩ y).setCell ⟨w.heap.size + 1, 2, none⟩ z).heap[w.heap.size + 1]? = some (.cells #[x, y, z] 50 (0, 0)) ∧ (w.alloc (.cells #[.int .u8 0, .string ⟨#[]⟩, .int .i64 0] 50)).grownBy (((w2.setCell ⟨w.heap.size + 1, 0, none⟩ x).setCell ⟨w.heap.size + 1, 1, none⟩ y).setCell ⟨w.heap.size + 1, 2, none⟩ z) none := by
  have := tok_end h x y z
  rw [World.size_alloc] at this
  exact this
set_option maxRecDepth 100000 in
set_option maxHeartbeats 4000000 in
theorem next_any {w : World} {b : Nat} (hT : TabAt w b) (s : ByteArray) (hs : s.size ≤ maxLen) (k : Nat) (hk : k ≤ s.size) :
    Calls Try.prog 28 #[.pointer (some ⟨b, 0, none⟩), .string s, .int .i64 (k : Int)] w fun e w' => e = .returned (nextV (nextR s k)) ∧ w.grownBy w' none := by
  have HI := Lib.hid (indexbyte_any ⟨#[32, 9, 10, 13]⟩)
  have HT := Lib.hid hT
  clear hT
  unfold maxLen at hs
  go_enter Try.func28, Try.ntmps28
  go_wp2_with fail
  go_loop [2] (fun i => ∃ m : Nat, k ≤ m ∧ m ≤ s.size ∧ i = .int .i64 (m : Int) ∧ Hid (∀ j, k ≤ j → j < m → blankB (bAt s j) = true)) (fun i => s.size - (intOf i).toNat)
  case atStart => exact ⟨k, by omega, hk, rfl, fun j h1 h2 => absurd h2 (by omega)⟩
  case round =>
    obtain ⟨m, hkm, hm, rfl, HO⟩ := hrel
    by_cases hlt : m < s.size
    · have hmI : (m : Int) < (s.size : Int) := by omega
      have HG : Hid (blankB (bAt s m) = true → ∀ j, k ≤ j → j < m + 1 → blankB (bAt s j) = true) := Lib.hid fun h j h1 hj => by
        by_cases e : j < m
        · exact HO.out j h1 e
        · obtain rfl : j = m := by omega
          exact h
      have HN : Hid (blankB (bAt s m) = false → nextR s k = tokR s m) := Lib.hid fun h => by
        unfold nextR
        rw [skip_eq hkm HO.out hm (Or.inr h)]
      have HIm := Lib.hid (HI.out (s[m].toNat : Int))
      cases hbl : blankB (bAt s m)
      · have HN2 := Lib.hid (HN.out hbl)
        have hbn : 0 ≤ bAt s m ∧ bAt s m ≤ 255 := bAt_byte s m
        unfold blankB at hbl
        rw [← bAt_get hlt] at hbl
        generalize Lib.indexByte [32, 9, 10, 13] ((s[m].toNat : Int)).toNat.toUInt8 = r at HIm hbl
        clear HN HG
        have hr : ¬ (0 : Int) ≤ r := of_decide_eq_false hbl
        have hsz : (s.extract m s.size).size = s.size - m := by rw [ByteArray.size_extract]; omega
        obtain ⟨f, hf, hcases, hcalls⟩ := part_any (s.extract m s.size) (by unfold maxLen; omega) (by omega)
        rw [extract_at hlt, ← bAt_get hlt] at hf
        obtain ⟨tab, ht1, ht2, ht3⟩ := HT.out
        have hj : s[m].toNat < 256 := s[m].toNat_lt
        have htc := ht3 s[m].toNat hj
        rw [hf] at htc
        have hcell : (w.alloc (.cells #[.int .u8 0, .string ⟨#[]⟩, .int .i64 0] 50)).cell? ⟨b, s[m].toNat, none⟩ = some (.func (.func f) #[] #[]) := by
          have h0 : w.cell? ⟨b, s[m].toNat, none⟩ = some (.func (.func f) #[] #[]) := by simp only [World.cell?, ht1]; exact htc
          exact (World.grownBy_alloc w _ none).cell h0 (by simp)
        have hcell2 := (World.grownBy_alloc _ (.cells #[.int .u8 0, .string ⟨#[]⟩, .int .i64 0] 50) none).cell hcell (by simp)
        have HTk : Hid (tokR s m = if (partR (s.extract m s.size)).err = 0 then ⟨(partR (s.extract m s.size)).kind, (partR (s.extract m s.size)).text, m, m + (partR (s.extract m s.size)).n, 0⟩ else ⟨0, ⟨#[]⟩, 0, m, (partR (s.extract m s.size)).err⟩) := Lib.hid (by unfold tokR; rw [if_neg (by omega)])
        have HCs := Lib.hid hcalls
        have HTok := Lib.hid (HN2.out.trans HTk.out)
        have hn2 : (partR (s.extract m s.size)).n ≤ s.size - m := by rw [← hsz]; exact partR_n (by omega)
        generalize partR (s.extract m s.size) = r0 at HCs HTok hn2
        unfold resV at HCs
        have hjI : (s[m].toNat : Int) < 256 := by omega
        clear hf ht1 ht2 ht3 htc hcalls HTk HN2
        go_wp2_with (go_at_call 54; refine (HIm.out _).mono ?_; rintro e w1 ⟨rfl, rfl⟩)
        go_cut [9, 10, 11] (fun s9 s10 s11 wx => ∃ b2 : Nat, s9 = .pointer (some ⟨b2, 0, none⟩) ∧ s10 = .int .i64 (r0.n : Int) ∧ s11 = .int .i64 (r0.err : Int) ∧ Hid (wx.heap[b2]? = some (.cells #[.int .u8 (r0.kind : Int), .string r0.text, .int .i64 0] 50 (0, 0))) ∧ Hid ((w.alloc (.cells #[.int .u8 0, .string ⟨#[]⟩, .int .i64 0] 50)).grownBy wx none) ∧ w.heap.size < b2)
        case first =>
          rcases hcases with rfl | rfl | rfl | rfl
          · go_region_with (go_at_call 52; refine (HCs.out _ _).mono ?_; rintro e w2 ⟨rfl, hg2⟩; have hg2d := gb_trans (gb_drew _ none) hg2 (Or.inl rfl); have HB1 : Hid ((w.alloc (.cells #[.int .u8 0, .string ⟨#[]⟩, .int .i64 0] 50)).grownBy w2 none) := Lib.hid (by first | exact hg2d | exact gb_trans (World.grownBy_alloc _ _ none) hg2d (Or.inl rfl)); have HX := Lib.hid hg2d; obtain ⟨q0, q1, q2, e0, e1, e2⟩ := tok_box hg2d; (try simp only [World.size_alloc] at q0 q1 q2 e0 e1 e2); obtain ⟨k0, k1, k2, f0, f1, f2⟩ := tok_box (gb_refl (w2.alloc (.cells #[.int .u8 0, .string ⟨#[]⟩, .int .i64 0] 50)) none))
            all_goals
              go_wp2_with fail
            all_goals
              go_meet
            all_goals
              first
                | exact ⟨w.heap.size + 1, rfl, rfl, rfl, Lib.hid (cutA HX.out _ _ _).1, Lib.hid (cutA HX.out _ _ _).2, by omega⟩
                | exact ⟨w2.heap.size, rfl, rfl, rfl, Lib.hid (heap_alloc_new w2 _), Lib.hid (gb_trans HB1.out (World.grownBy_alloc w2 _ none) (Or.inl rfl)), by have h9 := HB1.out.size; rw [World.size_alloc] at h9; omega⟩
          · go_region_with (go_at_call 53; refine (HCs.out _ _).mono ?_; rintro e w2 ⟨rfl, hg2⟩; have hg2d := gb_trans (gb_drew _ none) hg2 (Or.inl rfl); have HB1 : Hid ((w.alloc (.cells #[.int .u8 0, .string ⟨#[]⟩, .int .i64 0] 50)).grownBy w2 none) := Lib.hid (by first | exact hg2d | exact gb_trans (World.grownBy_alloc _ _ none) hg2d (Or.inl rfl)); have HX := Lib.hid hg2d; obtain ⟨q0, q1, q2, e0, e1, e2⟩ := tok_box hg2d; (try simp only [World.size_alloc] at q0 q1 q2 e0 e1 e2); obtain ⟨k0, k1, k2, f0, f1, f2⟩ := tok_box (gb_refl (w2.alloc (.cells #[.int .u8 0, .string ⟨#[]⟩, .int .i64 0] 50)) none))
            all_goals
              go_wp2_with fail
            all_goals
              go_meet
            all_goals
              first
                | exact ⟨w.heap.size + 1, rfl, rfl, rfl, Lib.hid (cutA HX.out _ _ _).1, Lib.hid (cutA HX.out _ _ _).2, by omega⟩
                | exact ⟨w2.heap.size, rfl, rfl, rfl, Lib.hid (heap_alloc_new w2 _), Lib.hid (gb_trans HB1.out (World.grownBy_alloc w2 _ none) (Or.inl rfl)), by have h9 := HB1.out.size; rw [World.size_alloc] at h9; omega⟩
          · go_region_with (go_at_call 55; refine (HCs.out _ _).mono ?_; rintro e w2 ⟨rfl, hg2⟩; have hg2d := gb_trans (gb_drew _ none) hg2 (Or.inl rfl); have HB1 : Hid ((w.alloc (.cells #[.int .u8 0, .string ⟨#[]⟩, .int .i64 0] 50)).grownBy w2 none) := Lib.hid (by first | exact hg2d | exact gb_trans (World.grownBy_alloc _ _ none) hg2d (Or.inl rfl)); have HX := Lib.hid hg2d; obtain ⟨q0, q1, q2, e0, e1, e2⟩ := tok_box hg2d; (try simp only [World.size_alloc] at q0 q1 q2 e0 e1 e2); obtain ⟨k0, k1, k2, f0, f1, f2⟩ := tok_box (gb_refl (w2.alloc (.cells #[.int .u8 0, .string ⟨#[]⟩, .int .i64 0] 50)) none))
            all_goals
              go_wp2_with fail
            all_goals
              go_meet
            all_goals
              first
                | exact ⟨w.heap.size + 1, rfl, rfl, rfl, Lib.hid (cutA HX.out _ _ _).1, Lib.hid (cutA HX.out _ _ _).2, by omega⟩
                | exact ⟨w2.heap.size, rfl, rfl, rfl, Lib.hid (heap_alloc_new w2 _), Lib.hid (gb_trans HB1.out (World.grownBy_alloc w2 _ none) (Or.inl rfl)), by have h9 := HB1.out.size; rw [World.size_alloc] at h9; omega⟩
          · go_region_with (go_at_call 56; refine (HCs.out _ _).mono ?_; rintro e w2 ⟨rfl, hg2⟩; have hg2d := gb_trans (gb_drew _ none) hg2 (Or.inl rfl); have HB1 : Hid ((w.alloc (.cells #[.int .u8 0, .string ⟨#[]⟩, .int .i64 0] 50)).grownBy w2 none) := Lib.hid (by first | exact hg2d | exact gb_trans (World.grownBy_alloc _ _ none) hg2d (Or.inl rfl)); have HX := Lib.hid hg2d; obtain ⟨q0, q1, q2, e0, e1, e2⟩ := tok_box hg2d; (try simp only [World.size_alloc] at q0 q1 q2 e0 e1 e2); obtain ⟨k0, k1, k2, f0, f1, f2⟩ := tok_box (gb_refl (w2.alloc (.cells #[.int .u8 0, .string ⟨#[]⟩, .int .i64 0] 50)) none))
            all_goals
              go_wp2_with fail
            all_goals
              go_meet
            all_goals
              first
                | exact ⟨w.heap.size + 1, rfl, rfl, rfl, Lib.hid (cutA HX.out _ _ _).1, Lib.hid (cutA HX.out _ _ _).2, by omega⟩
                | exact ⟨w2.heap.size, rfl, rfl, rfl, Lib.hid (heap_alloc_new w2 _), Lib.hid (gb_trans HB1.out (World.grownBy_alloc w2 _ none) (Or.inl rfl)), by have h9 := HB1.out.size; rw [World.size_alloc] at h9; omega⟩
        case rest =>
          obtain ⟨b2, rfl, rfl, rfl, HB2, HG1, hlt2⟩ := hcut
          obtain ⟨k0, k1, k2, f0, f1, f2⟩ := tok_box HG1.out
          have j0 : wc.cell? ⟨b2, 0, none⟩ = some (.int .u8 (r0.kind : Int)) := by simp [World.cell?, HB2.out]
          have j1 : wc.cell? ⟨b2, 1, none⟩ = some (.string r0.text) := by simp [World.cell?, HB2.out]
          have j2 : wc.cell? ⟨b2, 2, none⟩ = some (.int .i64 0) := by simp [World.cell?, HB2.out]
          have jf : wc.frozen? ⟨b2, 2, none⟩ = false := by simp [World.frozen?, HB2.out]
          by_cases he : r0.err = 0
          · have heI : (r0.err : Int) = 0 := by omega
            go_wp2_with fail
            have hE := HTok.out
            rw [if_pos he] at hE
            have hg3 := gb_trans HG1.out (gb_set (a := ⟨b2, 2, none⟩) (v := .int .i64 (m : Int))) (Or.inr (Or.inr ⟨b2, rfl, by rw [World.size_alloc]; omega⟩))
            refine bodyPost_ret (results_tok rfl _ _ _ _ rfl (tok_end hg3 _ _ _).1 rfl) rfl ?_
            rw [hE]
            exact ⟨by simp [nextV, tokenV], (tok_end hg3 _ _ _).2⟩
          · have heI : ¬ (r0.err : Int) = 0 := by omega
            go_wp2_with fail
            have hE := HTok.out
            rw [if_neg he] at hE
            refine bodyPost_ret (results_tok rfl _ _ _ _ rfl (tok_end HG1.out _ _ _).1 rfl) rfl ?_
            rw [hE]
            exact ⟨rfl, (tok_end HG1.out _ _ _).2⟩
      · have HG2 := Lib.hid (HG.out hbl)
        unfold blankB at hbl
        rw [← bAt_get hlt] at hbl
        generalize Lib.indexByte [32, 9, 10, 13] ((s[m].toNat : Int)).toNat.toUInt8 = r at HIm hbl
        clear HN HG
        have hr : (0 : Int) ≤ r := of_decide_eq_true hbl
        go_wp2_with (go_at_call 54; refine (HIm.out _).mono ?_; rintro e w1 ⟨rfl, rfl⟩)
        exact ⟨⟨m + 1, by omega, by omega, by go_num, HG2⟩, by simp [intOf]; omega⟩
    · obtain rfl : m = s.size := by omega
      have HN : Hid (nextR s k = ⟨1, ⟨#[]⟩, s.size, s.size, 0⟩) := Lib.hid (by
        unfold nextR
        rw [skip_eq hkm HO.out hm (Or.inl rfl)]
        unfold tokR
        rw [if_pos (Nat.le_refl _)])
      have hmI : ¬ (s.size : Int) < (s.size : Int) := by omega
      go_wp2_with fail
      refine bodyPost_ret (results_tok rfl _ _ _ _ rfl (heap_alloc_new w _) rfl) rfl ?_
      rw [HN.out]
      exact ⟨rfl, World.grownBy_alloc w _ none⟩
end Go.Proofs.Ytlmpeddacadfkaa
