/- Dfa: the example, in plain Lean. -/
import Derived.Test.YtcdepblajobemaaDfaBuild2
set_option maxRecDepth 100000
namespace Go.Proofs.Ytcdepblajobemaa
open Go.RowKit

def kName : ByteArray := ⟨#[97]⟩
def kA : Aut := ⟨[kName], 1, [0], [⟨0, 0, 1, 0⟩], [0]⟩
def kR : List (List Int) := [[1, 0], [1, 1]]
def kB : List Bool := [true, false]
def kD : Dfa := ⟨[kName], kR, kB⟩
theorem k_chk : chkA kA = 0 := by decide +kernel
theorem k_len : (allB kA 1 (ofL 1 [0])).length = 2 := by decide +kernel
theorem k_R : (bldD kA 1 (ofL 1 [0])).R = kR := by decide +kernel
theorem k_B : (bldD kA 1 (ofL 1 [0])).B = kB := by decide +kernel
theorem k_yes : hasV kD [1, 1] = true := by decide +kernel
theorem k_no : hasV kD [1, 0] = false := by decide +kernel
theorem k_c1 : runC kD [1, 1] = 0 := by decide +kernel
theorem k_c2 : runC kD [1, 0] = 0 := by decide +kernel
theorem k_err : dErr kD = 0 := by decide +kernel
theorem texts_of_own {Z : Nat} {w : World} {v : Value} {P : List ByteArray} (h : w.ownsRow Z 9 1 v P.length (P.map sv)) (hl : P.length ≤ 17592186043904) (hs : ∀ k, k < P.length → (P.getD k ⟨#[]⟩).size ≤ maxLen) : TextsAt w v P := by
  rcases h.2 with ⟨rfl, h0⟩ | ⟨g, cap, cur, rfl, hb, hg, hc, _⟩
  · exact ⟨none, 0, by rw [h0], by omega, hl, hs, Or.inl (List.eq_nil_of_length_eq_zero h0)⟩
  · refine ⟨some ⟨g, 0, none⟩, cap, rfl, hc, hl, hs, Or.inr ⟨g, 0, rfl, fun k hk => ?_⟩⟩
    rw [Nat.zero_add, h.cellAt k (by omega), List.getElem?_map, List.getElem?_eq_getElem hk, List.getD_eq_getElem?_getD, List.getElem?_eq_getElem hk]
    rfl
theorem ints_of_own {Z : Nat} {w : World} {v : Value} {A : List Int} (h : w.ownsRow Z 3 1 v A.length (A.map iv)) (hl : A.length ≤ 17592186043904) (hs : ∀ k, k < A.length → -9223372036854775808 ≤ A.getD k 0 ∧ A.getD k 0 ≤ 9223372036854775807) : IntsAt w v A := by
  rcases h.2 with ⟨rfl, h0⟩ | ⟨g, cap, cur, rfl, hb, hg, hc, _⟩
  · exact ⟨none, 0, by rw [h0], hs, hl, Or.inl (List.eq_nil_of_length_eq_zero h0)⟩
  · refine ⟨some ⟨g, 0, none⟩, cap, rfl, hs, hl, Or.inr ⟨g, 0, rfl, fun k hk => ?_⟩⟩
    rw [Nat.zero_add, h.cellAt k (by omega), List.getElem?_map, List.getElem?_eq_getElem hk, List.getD_eq_getElem?_getD, List.getElem?_eq_getElem hk]
    rfl
theorem bools_of_own {Z : Nat} {w : World} {v : Value} {B : List Bool} (h : w.ownsRow Z 4 1 v B.length (B.map tv01)) (hl : B.length ≤ 140737488351232) : BoolsAt w v B := by
  rcases h.2 with ⟨rfl, h0⟩ | ⟨g, cap, cur, rfl, hb, hg, hc, _⟩
  · exact ⟨none, 0, by rw [h0], by omega, hl, Or.inl (List.eq_nil_of_length_eq_zero h0)⟩
  · refine ⟨some ⟨g, 0, none⟩, cap, rfl, hc, hl, Or.inr ⟨g, 0, rfl, fun k hk => ?_⟩⟩
    rw [Nat.zero_add, h.cellAt k (by omega), List.getElem?_map, List.getElem?_eq_getElem hk, List.getD_eq_getElem?_getD, List.getElem?_eq_getElem hk]
    rfl
theorem dfa_of_built {Z : Nat} {w : World} {vp vn vl : Value} {us : List Value} {P : List ByteArray} {R : List (List Int)} {B : List Bool} (h : BuiltAt Z w vp vn vl us P R B) (hP : P.length ≤ 17592186043904) (hs : ∀ k, k < P.length → (P.getD k ⟨#[]⟩).size ≤ maxLen) (hR : R.length ≤ 17592186043904)
    (hr : ∀ i, i < R.length → (R.getD i []).length ≤ 17592186043904 ∧ ∀ k, k < (R.getD i []).length → -9223372036854775808 ≤ (R.getD i []).getD k 0 ∧ (R.getD i []).getD k 0 ≤ 9223372036854775807) (hB : B.length ≤ 140737488351232) : DfaAt w vp vn vl ⟨P, R, B⟩ := by
  refine ⟨texts_of_own h.p hP hs, ?_, bools_of_own h.b hB⟩
  rcases h.n.2 with ⟨rfl, h0⟩ | ⟨g, cap, cur, rfl, hb, hg, hc, _⟩
  · exact ⟨none, 0, by rw [h0], by show R.length ≤ 0; omega, hR, Or.inl (List.eq_nil_of_length_eq_zero h0)⟩
  · refine ⟨some ⟨g, 0, none⟩, cap, rfl, hc, hR, Or.inr ⟨g, 0, rfl, fun k hk => ?_⟩⟩
    have hk' : k < R.length := hk
    have hu := h.u
    refine ⟨us.getD k default, ?_, ints_of_own (h.each k hk') (hr k hk').1 (hr k hk').2⟩
    rw [Nat.zero_add, h.n.cellAt k (by omega), List.getD_eq_getElem?_getD, List.getElem?_eq_getElem (by omega)]
    rfl
theorem k_bld2 (vp vi ve vf : Value) (q g cap : Nat) (w : World) (h : AutAt w vp vi ve vf kA) (hs : SetAt w q g cap 1 (ofL 1 [0])) :
    Calls Try.prog 23 #[autV vp vi ve vf 1, .pointer (some ⟨q, 0, none⟩), .int .i64 2] w fun e w' => ∃ xp yp xn yn xl yl us, e = .returned (.tuple #[.agg #[.slice xp 1 yp, .slice xn 2 yn, .slice xl 2 yl], .int .i64 0]) ∧ BuiltAt w.heap.size w' (.slice xp 1 yp) (.slice xn 2 yn) (.slice xl 2 yl) us [kName] kR kB ∧ w.grownBy w' none :=
  (bld_yes vp vi ve vf kA 1 rfl (by decide) q g cap (ofL 1 [0]) 2 (by decide) w h hs k_chk).mono fun e w' ⟨hg, hr⟩ => by
    rw [k_len, k_R, k_B] at hr
    rcases hr with ⟨h1, _⟩ | ⟨_, vp', vn, vl, us, he, hb⟩
    · exact absurd h1 (by decide)
    · obtain ⟨xp, yp, rfl⟩ := own_val hb.p
      obtain ⟨xn, yn, rfl⟩ := own_val hb.n
      obtain ⟨xl, yl, rfl⟩ := own_val hb.b
      exact ⟨xp, yp, xn, yn, xl, yl, us, he, hb, hg⟩
theorem k_bld1 (vp vi ve vf : Value) (q g cap : Nat) (w : World) (h : AutAt w vp vi ve vf kA) (hs : SetAt w q g cap 1 (ofL 1 [0])) :
    Calls Try.prog 23 #[autV vp vi ve vf 1, .pointer (some ⟨q, 0, none⟩), .int .i64 1] w fun e w' => e = .returned (.tuple #[.agg #[.slice none 0 0, .slice none 0 0, .slice none 0 0], .int .i64 131]) ∧ w.grownBy w' none :=
  (bld_yes vp vi ve vf kA 1 rfl (by decide) q g cap (ofL 1 [0]) 1 (by decide) w h hs k_chk).mono fun e w' ⟨hg, hr⟩ => by
    rw [k_len] at hr
    rcases hr with ⟨_, he⟩ | ⟨h1, _⟩
    · exact ⟨he, hg⟩
    · exact absurd h1 (by decide)
theorem alloc5 (w : World) (o0 o1 o2 o3 o4 : Obj) : w.grownBy (((((w.alloc o0).alloc o1).alloc o2).alloc o3).alloc o4) none ∧ (((((w.alloc o0).alloc o1).alloc o2).alloc o3).alloc o4).heap[w.heap.size]? = some o0 ∧ (((((w.alloc o0).alloc o1).alloc o2).alloc o3).alloc o4).heap[w.heap.size + 1]? = some o1 ∧
    (((((w.alloc o0).alloc o1).alloc o2).alloc o3).alloc o4).heap[w.heap.size + 1 + 1]? = some o2 ∧ (((((w.alloc o0).alloc o1).alloc o2).alloc o3).alloc o4).heap[w.heap.size + 1 + 1 + 1]? = some o3 ∧ (((((w.alloc o0).alloc o1).alloc o2).alloc o3).alloc o4).heap[w.heap.size + 1 + 1 + 1 + 1]? = some o4 := by
  have e := fun (w : World) (o : Obj) => World.grownBy_alloc w o none
  have h1 := heap_alloc_new (w.alloc o0) o1
  have h2 := heap_alloc_new ((w.alloc o0).alloc o1) o2
  have h3 := heap_alloc_new (((w.alloc o0).alloc o1).alloc o2) o3
  have h4 := heap_alloc_new ((((w.alloc o0).alloc o1).alloc o2).alloc o3) o4
  simp only [World.size_alloc] at h1 h2 h3 h4
  exact ⟨gb_trans (gb_trans (gb_trans (gb_trans (e _ _) (e _ _) (Or.inl rfl)) (e _ _) (Or.inl rfl)) (e _ _) (Or.inl rfl)) (e _ _) (Or.inl rfl), blk_kept (blk_kept (blk_kept (blk_kept (heap_alloc_new w o0) (e _ o1) (by simp)) (e _ o2) (by simp)) (e _ o3) (by simp)) (e _ o4) (by simp),
    blk_kept (blk_kept (blk_kept h1 (e _ o2) (by simp)) (e _ o3) (by simp)) (e _ o4) (by simp), blk_kept (blk_kept h2 (e _ o3) (by simp)) (e _ o4) (by simp), blk_kept h3 (e _ o4) (by simp), h4⟩
theorem ints_blk {w : World} {b : Nat} {x : Int} (h : w.heap[b]? = some (.cells #[.int .i64 x] 3 (0, 0))) (hx : -9223372036854775808 ≤ x ∧ x ≤ 9223372036854775807) : IntsAt w (.slice (some ⟨b, 0, none⟩) 1 1) [x] := ints1 w b x hx (by simp [World.cell?, h])
theorem letters_blk {w : World} {b : Nat} {x y : Nat} (h : w.heap[b]? = some (.cells #[.int .u16 (x : Int), .int .u16 (y : Int)] 55 (0, 0))) (hx : x ≤ 65535) (hy : y ≤ 65535) : LettersAt w (.slice (some ⟨b, 0, none⟩) 2 2) [x, y] := by
  refine ⟨some ⟨b, 0, none⟩, 2, rfl, fun k hk => ?_, (by show 2 ≤ 70368744175616; decide), Or.inr ⟨_, _, rfl, fun k hk => ?_⟩⟩
  · have hk2 : k < 2 := hk
    match k, hk2 with
    | 0, _ => exact hx
    | 1, _ => exact hy
  · have hk2 : k < 2 := hk
    match k, hk2 with
    | 0, _ => simp [World.cell?, h]
    | 1, _ => simp [World.cell?, h]
theorem k_aut {w : World} {b : Nat} (h0 : w.heap[b]? = some (.cells #[.string ⟨#[97]⟩] 9 (0, 0))) (h1 : w.heap[b + 1]? = some (.cells #[.int .i64 0] 3 (0, 0))) (h2 : w.heap[b + 1 + 1]? = some (.cells #[.int .i64 0, .int .i64 0, .int .u16 1, .int .u16 0] 61 (0, 0))) (h3 : w.heap[b + 1 + 1 + 1]? = some (.cells #[.int .i64 0] 3 (0, 0))) :
    AutAt w (.slice (some ⟨b, 0, none⟩) 1 1) (.slice (some ⟨b + 1, 0, none⟩) 1 1) (.slice (some ⟨b + 1 + 1, 0, none⟩) 1 1) (.slice (some ⟨b + 1 + 1 + 1, 0, none⟩) 1 1) kA := by
  refine ⟨⟨some ⟨b, 0, none⟩, 1, rfl, Nat.le_refl _, (by show 1 ≤ 17592186043904; decide), fun k hk => ?_, Or.inr ⟨_, _, rfl, fun k hk => ?_⟩⟩, ints_blk h1 (by decide), ⟨some ⟨b + 1 + 1, 0, none⟩, 1, rfl, Nat.le_refl _, fun k hk => ?_, (by show 1 ≤ 17592186043904; decide), Or.inr ⟨_, _, rfl, fun k hk => ?_⟩⟩, ints_blk h3 (by decide)⟩
  · have hk1 : k < 1 := hk
    obtain rfl : k = 0 := by omega
    show 1 ≤ maxLen
    unfold maxLen
    decide
  · have hk1 : k < 1 := hk
    obtain rfl : k = 0 := by omega
    simp [World.cell?, h0, kA, kName]
  · have hk1 : k < 1 := hk
    obtain rfl : k = 0 := by omega
    show edgeOk ⟨0, 0, 1, 0⟩
    unfold edgeOk
    decide
  · have hk1 : k < 1 := hk
    obtain rfl : k = 0 := by omega
    simp [World.cell?, h2, kA]
theorem k_dfa {Z : Nat} {w : World} {vp vn vl : Value} {us : List Value} (h : BuiltAt Z w vp vn vl us [kName] kR kB) : DfaAt w vp vn vl kD :=
  dfa_of_built h (by decide) (fun k hk => by
    have hk1 : k < 1 := hk
    obtain rfl : k = 0 := by omega
    show 1 ≤ maxLen
    unfold maxLen
    decide) (by decide) (fun i hi => by
    have hi2 : i < 2 := hi
    match i, hi2 with
    | 0, _ => decide
    | 1, _ => decide) (by decide)
end Go.Proofs.Ytcdepblajobemaa
