/- Runner: New. -/
import Derived.Test.YtpehmlkikhkmfaaRunEvent
import Derived.Maps.OwnSet
import Derived.Deep.RegionLaw
import Derived.Deep.DeepCutAuto
namespace Go.Proofs.Ytpehmlkikhkmfaa
open Go.RowKit

theorem new_no (vp vn vo : Value) (P : List ByteArray) (R : List (List Int)) (O : List Int) (w : World) (hM : MachAt w vp vn vo P R O) (hE : mErr P R O = 140) :
    Calls Try.prog 13 #[.agg #[vp, vn, vo]] w fun e w' => e = .returned (.tuple #[.pointer none, .int .i64 170]) ∧ w.grownBy w' none := by
  have hb0 := World.grownBy_alloc w (.cells #[vp, vn, vo] 27) none
  have HC := Lib.hid (check_any vp vn vo P R O _ (hM.kept hb0))
  have HB0 := Lib.hid hb0
  rw [hE] at HC
  have HM := Lib.hid hM
  clear hM hE hb0
  go_enter Try.func13, Try.ntmps13
  go_wp2_with (go_at_call 37; refine HC.out.mono ?_; rintro e w1 ⟨rfl, hg1⟩)
  go_ret2
  exact ⟨rfl, gb_trans HB0.out hg1 (Or.inl rfl)⟩

theorem mErr_zero {P : List ByteArray} {R : List (List Int)} {O : List Int} (h : mErr P R O = 0) : listF P = true ∧ O.length ≠ 0 ∧ R.length = O.length ∧ rowsF R = true ∧ ∀ s, s < O.length → stateF P R O s = true := by
  unfold mErr at h
  by_cases hm : machF P R O = true
  · unfold machF at hm
    simp only [Bool.and_eq_true, decide_eq_true_eq, List.all_eq_true, List.mem_range] at hm
    obtain ⟨h1, h2, h3, h4, h5⟩ := hm
    exact ⟨h1, h2, h3, h4, h5⟩
  · rw [if_neg hm] at h
    cases h
theorem mErr_rows {P : List ByteArray} {R : List (List Int)} {O : List Int} (h : mErr P R O = 0) : ∀ k, k < R.length → (R.getD k []).length ≤ 256 := by
  obtain ⟨h1, _, h3, _, h5⟩ := mErr_zero h
  intro k hk
  have := h5 k (by omega)
  unfold stateF at this
  simp only [Bool.and_eq_true, decide_eq_true_eq] at this
  rw [this.2]
  exact pow_le (listF_len h1)

/-- What is kept while the pieces are made. -/
def Pieces (w1 : World) (b : Nat) (vp vn vo : Value) (w' : World) : Prop :=
  Below w1.heap.size w1 w' ∧ w'.cell? ⟨b, 0, none⟩ = some vp ∧ w'.cell? ⟨b, 1, none⟩ = some vn ∧ w'.cell? ⟨b, 2, none⟩ = some vo

theorem blk_new (w : World) (o : Obj) (p : Nat) (hp : p = w.heap.size) : (w.alloc o).heap[p]? = some o := hp ▸ heap_alloc_new w o

/-- A runner that has got its verdicts and what is final, and no rows and names yet. -/
structure FreshAt (Y : Nat) (w1 wx : World) (p mb : Nat) (vo vf : Value) (O : List Int) (F : List Bool) : Prop where
  blk : wx.heap[p]? = some (.cells #[.slice none 0 0, vo, vf, .map (some mb), .int .i64 0] 106 (0, 0))
  out : wx.ownsRow Y 59 1 vo O.length (O.map ov)
  fin : wx.ownsRow Y 4 1 vf O.length (F.map bv)
  map : wx.ownsMap Try.prog 9 (plainElem (H := Unit) Try.prog 81) mb 0 (.map [])
  bel : Below Y w1 wx

theorem below_alloc {w1 w' : World} (h : Below w1.heap.size w1 w') (o : Obj) : Below w1.heap.size w1 (w'.alloc o) := h.alloc h.size o


theorem drew_size (w : World) : w.drew.heap.size = w.heap.size := rfl

section
variable {w1 w2 w3 : World} {vo vf : Value} {O : List Int} {F : List Bool}
theorem fresh_a (ho2 : w2.ownsRow w1.heap.size 59 1 vo O.length (O.map ov)) (hf3 : w3.ownsRow w1.heap.size 4 1 vf O.length (F.map bv)) (hg3 : w2.grownBy w3 none) (hb3 : Below w1.heap.size w1 w3) :
    FreshAt w1.heap.size w1 ((w3.alloc (Obj.map #[] 0)).alloc (Obj.cells #[.slice none 0 0, vo, vf, .map (some w3.heap.size), .int .i64 0] 106)) (w3.heap.size + 1) w3.heap.size vo vf O F := by
  refine ⟨blk_new _ _ _ (by simp), ((ho2.kept hg3 (Classical.em _)).alloc _).alloc _, (hf3.alloc _).alloc _, (World.ownsMap_made _ _ _ _).alloc _, below_alloc (below_alloc hb3 _) _⟩
theorem fresh_b (ho2 : w2.ownsRow w1.heap.size 59 1 vo O.length (O.map ov)) (hf3 : w3.ownsRow w1.heap.size 4 1 vf O.length (F.map bv)) (hg3 : (w2.alloc (Obj.map #[] 0)).grownBy w3 none) (hb3 : Below w1.heap.size w1 w3) :
    FreshAt w1.heap.size w1 (w3.alloc (Obj.cells #[.slice none 0 0, vo, vf, .map (some w2.heap.size), .int .i64 0] 106)) w3.heap.size w2.heap.size vo vf O F := by
  refine ⟨blk_new _ _ _ rfl, ((ho2.alloc _).kept hg3 (Classical.em _)).alloc _, hf3.alloc _, ((World.ownsMap_made _ _ _ _).kept hg3 (by simp)).alloc _, below_alloc hb3 _⟩
theorem fresh_c (hg2 : (w1.drew.alloc (Obj.map #[] 0)).grownBy w2 none) (ho2 : w2.ownsRow w1.heap.size 59 1 vo O.length (O.map ov)) (hf3 : w3.ownsRow w1.heap.size 4 1 vf O.length (F.map bv)) (hg3 : w2.grownBy w3 none) (hb3 : Below w1.heap.size w1 w3) :
    FreshAt w1.heap.size w1 (w3.alloc (Obj.cells #[.slice none 0 0, vo, vf, .map (some w1.heap.size), .int .i64 0] 106)) w3.heap.size w1.heap.size vo vf O F := by
  have hm := ((World.ownsMap_made w1.drew Try.prog 9 (plainElem (H := Unit) Try.prog 81)).kept hg2 (by simp)).kept hg3 (by simp)
  refine ⟨blk_new _ _ _ rfl, (ho2.kept hg3 (Classical.em _)).alloc _, hf3.alloc _, hm.alloc _, below_alloc hb3 _⟩
end
end Go.Proofs.Ytpehmlkikhkmfaa
