/- Lex: the scanner's table. -/
import Derived.Test.YtlmpeddacadfkaaLexScan
import Derived.Laws.EntriesVeiled
namespace Go.Proofs.Ytlmpeddacadfkaa
open Go.RowKit

def signL : List UInt8 := [33, 38, 124, 40, 41, 45, 60]
def signB (c : Int) : Bool := decide (0 ≤ Lib.indexByte signL c.toNat.toUInt8)
/-- Which function looks at what a byte begins. -/
def clsF (c : Int) : Nat := if isLet c = true then 52 else if (c == 34) = true then 53 else if signB c = true then 55 else 56
def fnV (k : Nat) : Value := .func (.func k) #[] #[]
/-- The table. -/
def TabAt (w : World) (b : Nat) : Prop := ∃ tab : Array Value, w.heap[b]? = some (.cells tab 84 (0, 0)) ∧ tab.size = 256 ∧ ∀ j : Nat, j < 256 → tab[j]? = some (fnV (clsF (j : Int)))

set_option maxRecDepth 100000 in
set_option maxHeartbeats 4000000 in
theorem made_any (w : World) : Calls Try.prog 27 #[] w fun e w' => e = .returned (.pointer (some ⟨w.heap.size, 0, none⟩)) ∧ TabAt w' w.heap.size ∧ w.grownBy w' none := by
  have HL := Lib.hid letter_any
  have HI := Lib.hid (indexbyte_any ⟨#[33, 38, 124, 40, 41, 45, 60]⟩)
  go_enter Try.func27, Try.ntmps27
  go_wp2_with fail
  have hb0 := heap_alloc_new w (.cells Try.zeroCells84 84)
  have hg0 := World.grownBy_alloc w (.cells Try.zeroCells84 84) none
  have hz0 : Try.zeroCells84.size = 256 := by decide
  generalize Try.zeroCells84 = tab0 at hb0 hg0 hz0 ⊢
  go_loopw [6] (fun i wr => ∃ (k : Nat) (tab : Array Value), k ≤ 256 ∧ i = .int .i64 (k : Int) ∧ wr.heap[w.heap.size]? = some (.cells tab 84 (0, 0)) ∧ tab.size = 256 ∧ Hid (∀ j : Nat, j < k → tab[j]? = some (fnV (clsF (j : Int)))) ∧ w.grownBy wr none) (fun i _ => 256 - (intOf i).toNat)
  case atStart => exact ⟨0, tab0, by omega, rfl, hb0, hz0, Lib.hid (fun j hj => absurd hj (Nat.not_lt_zero _)), hg0⟩
  case round =>
    obtain ⟨k, tab, hk, rfl, hb, hs, HT, hG⟩ := hrel
    by_cases hlt : k < 256
    · have hkI : (k : Int) < 256 := by omega
      have HLk := Lib.hid (HL.out (k : Int) (by omega) (by omega))
      have HIk := Lib.hid (HI.out (k : Int))
      have hcell : wr.cell? ⟨w.heap.size, k, none⟩ = some (tab[k]'(by omega)) := by simp [World.cell?, hb, hs, hlt]
      have hfz : wr.frozen? ⟨w.heap.size, k, none⟩ = false := by simp [World.frozen?, hb]
      generalize tab[k]'(by omega) = old at hcell
      have HSet : Hid (∀ m, clsF (k : Int) = m → (wr.setCell ⟨w.heap.size, k, none⟩ (.func (.func m) #[] #[])).heap[w.heap.size]? = some (.cells (tab.setIfInBounds k (fnV m)) 84 (0, 0)) ∧ (tab.setIfInBounds k (fnV m)).size = 256 ∧ (∀ j : Nat, j < k + 1 → (tab.setIfInBounds k (fnV m))[j]? = some (fnV (clsF (j : Int)))) ∧ w.grownBy (wr.setCell ⟨w.heap.size, k, none⟩ (.func (.func m) #[] #[])) none) := Lib.hid fun m hm => by
        refine ⟨heap_setCell_same wr w.heap.size k tab _ _ hb, by simpa using hs, fun j hj => ?_, gb_trans hG gb_set (Or.inr (Or.inr ⟨_, rfl, Nat.le_refl _⟩))⟩
        rw [Array.getElem?_setIfInBounds]
        by_cases e : k = j
        · subst e; rw [if_pos rfl, if_pos (by omega), hm]
        · rw [if_neg e]; exact HT.out j (by omega)
      cases hl : isLet (k : Int)
      · cases h34 : ((k : Int) == 34)
        · cases hsg : decide (0 ≤ Lib.indexByte [33, 38, 124, 40, 41, 45, 60] (UInt8.ofNat k))
          · have HE := Lib.hid (HSet.out 56 (by unfold clsF; rw [hl, h34, show signB (k : Int) = false from hsg]; rfl))
            rw [hl] at HLk
            clear HSet hb HT
            go_wp2_with (first
              | (go_at_call 43; refine (HLk.out _).mono ?_; rintro e w1 ⟨rfl, rfl⟩)
              | (go_at_call 54; refine (HIk.out _).mono ?_; rintro e w1 ⟨rfl, rfl⟩))
            exact ⟨⟨k + 1, _, by omega, by go_num, HE.out.1, HE.out.2.1, Lib.hid HE.out.2.2.1, HE.out.2.2.2⟩, by simp [intOf]; omega⟩
          · have HE := Lib.hid (HSet.out 55 (by unfold clsF; rw [hl, h34, show signB (k : Int) = true from hsg]; rfl))
            rw [hl] at HLk
            clear HSet hb HT
            go_wp2_with (first
              | (go_at_call 43; refine (HLk.out _).mono ?_; rintro e w1 ⟨rfl, rfl⟩)
              | (go_at_call 54; refine (HIk.out _).mono ?_; rintro e w1 ⟨rfl, rfl⟩))
            exact ⟨⟨k + 1, _, by omega, by go_num, HE.out.1, HE.out.2.1, Lib.hid HE.out.2.2.1, HE.out.2.2.2⟩, by simp [intOf]; omega⟩
        · have HE := Lib.hid (HSet.out 53 (by unfold clsF; rw [hl, h34]; rfl))
          rw [hl] at HLk
          clear HSet hb HT
          go_wp2_with (first
            | (go_at_call 43; refine (HLk.out _).mono ?_; rintro e w1 ⟨rfl, rfl⟩)
            | (go_at_call 54; refine (HIk.out _).mono ?_; rintro e w1 ⟨rfl, rfl⟩))
          exact ⟨⟨k + 1, _, by omega, by go_num, HE.out.1, HE.out.2.1, Lib.hid HE.out.2.2.1, HE.out.2.2.2⟩, by simp [intOf]; omega⟩
      · have HE := Lib.hid (HSet.out 52 (by unfold clsF; rw [hl]; rfl))
        rw [hl] at HLk
        clear HSet hb HT
        go_wp2_with (first
          | (go_at_call 43; refine (HLk.out _).mono ?_; rintro e w1 ⟨rfl, rfl⟩)
          | (go_at_call 54; refine (HIk.out _).mono ?_; rintro e w1 ⟨rfl, rfl⟩))
        exact ⟨⟨k + 1, _, by omega, by go_num, HE.out.1, HE.out.2.1, Lib.hid HE.out.2.2.1, HE.out.2.2.2⟩, by simp [intOf]; omega⟩
    · obtain rfl : k = 256 := by omega
      have hkI : ¬ (256 : Int) < 256 := by omega
      go_wp2_with fail
      go_ret
      exact ⟨rfl, ⟨tab, hb, hs, HT.out⟩, hG⟩
end Go.Proofs.Ytlmpeddacadfkaa
