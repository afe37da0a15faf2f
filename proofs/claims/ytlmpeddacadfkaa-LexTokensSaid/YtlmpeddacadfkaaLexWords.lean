/- Lex: the words. -/
import Derived.Test.YtlmpeddacadfkaaLexBytes
namespace Go.Proofs.Ytlmpeddacadfkaa
open Go.RowKit

/-- Texts that lie in memory. -/
def TextsAt (w : World) (v : Value) (L : List ByteArray) : Prop :=
  ∃ a cap, v = .slice a L.length cap ∧ L.length ≤ cap ∧ L.length ≤ 17592186043904 ∧ (∀ k, k < L.length → (L.getD k ⟨#[]⟩).size ≤ maxLen) ∧
    (L = [] ∨ ∃ b off, a = some ⟨b, off, none⟩ ∧ ∀ k, k < L.length → w.cell? ⟨b, off + k, none⟩ = some (.string (L.getD k ⟨#[]⟩)))

theorem TextsAt.take {w : World} {a : Option Addr} {len cap : Nat} {L : List ByteArray} (h : TextsAt w (.slice a len cap) L) (k : Nat) (hk : k ≤ L.length) : TextsAt w (.slice a k cap) (L.take k) := by
  obtain ⟨a', cap', he, h0, h1, h2, h3⟩ := h
  cases he
  have hl : (L.take k).length = k := by simp; omega
  have hg : ∀ j, j < k → (L.take k).getD j ⟨#[]⟩ = L.getD j ⟨#[]⟩ := fun j hj => by simp [List.getD_eq_getElem?_getD, hj]
  refine ⟨a, cap, by rw [hl], by omega, by omega, fun j hj => by rw [hl] at hj; rw [hg j hj]; exact h2 j (by omega), ?_⟩
  rcases h3 with rfl | ⟨b, off, rfl, h3⟩
  · exact Or.inl (by simp)
  · exact Or.inr ⟨b, off, rfl, fun j hj => by rw [hl] at hj; rw [hg j hj]; exact h3 j (by omega)⟩

def sameB (x y : ByteArray) : Bool := x.toList == y.toList
def hasF (L : List ByteArray) (s : ByteArray) : Bool := L.any fun x => s.toList == x.toList
theorem hasF_yes {L : List ByteArray} {s : ByteArray} (k : Nat) (hk : k < L.length) (h : (s.toList == (L.getD k ⟨#[]⟩).toList) = true) : hasF L s = true := by
  unfold hasF
  rw [List.any_eq_true]
  exact ⟨_, by rw [List.getD_eq_getElem?_getD, List.getElem?_eq_getElem hk]; exact List.getElem_mem _, h⟩
theorem hasF_no {L : List ByteArray} {s : ByteArray} (h : ∀ k, k < L.length → (s.toList == (L.getD k ⟨#[]⟩).toList) = false) : hasF L s = false := by
  unfold hasF
  rw [List.any_eq_false]
  intro x hx
  obtain ⟨k, hk, rfl⟩ := List.mem_iff_getElem.1 hx
  have := h k hk
  rw [List.getD_eq_getElem?_getD, List.getElem?_eq_getElem hk] at this
  simpa using this

set_option maxHeartbeats 1000000 in
theorem index_any (v : Value) (L : List ByteArray) (s : ByteArray) (w : World) (hL : TextsAt w v L) :
    Calls Try.prog 61 #[v, .string s] w fun e w' => (∃ r : Int, e = .returned (.int .i64 r) ∧ decide (0 ≤ r) = hasF L s ∧ -1 ≤ r ∧ r ≤ 17592186043904) ∧ w = w' := by
  obtain ⟨a, cap, rfl, hcap, hlen, hsz, hc⟩ := hL
  have HC := Lib.hid hc
  have HS := Lib.hid hsz
  clear hc hsz
  go_enter Try.func61, Try.ntmps61
  go_wp2
  go_loop [8] (fun i => ∃ k : Nat, k ≤ L.length ∧ i = .int .i64 (k : Int) ∧ Hid (∀ j, j < k → (s.toList == (L.getD j ⟨#[]⟩).toList) = false)) (fun i => L.length - (intOf i).toNat)
  case atStart => exact ⟨0, by omega, rfl, fun j h => absurd h (by omega)⟩
  case round =>
    obtain ⟨k, hk, rfl, HO⟩ := hrel
    by_cases hlt : k < L.length
    · rcases HC.out with rfl | ⟨b, off, rfl, hcc⟩
      · exact absurd hlt (by simp)
      · have hcell := hcc k hlt
        clear hcc
        have HB := Lib.hid (hasF_yes (s := s) k hlt)
        have HG : Hid ((s.toList == (L.getD k ⟨#[]⟩).toList) = false → ∀ j, j < k + 1 → (s.toList == (L.getD j ⟨#[]⟩).toList) = false) := Lib.hid fun h j hj => by
          rcases Nat.lt_or_ge j k with h1 | h1
          · exact HO.out j h1
          · obtain rfl : j = k := by omega
            exact h
        generalize L.getD k ⟨#[]⟩ = x at hcell HB HG
        cases hb : (s.toList == x.toList)
        · have HG2 := Lib.hid (HG.out hb)
          go_wp2
          go_round
          case rel => exact ⟨k + 1, by omega, by go_num, HG2⟩
          case measure => simp [intOf]; omega
        · have HB2 := Lib.hid (HB.out hb)
          go_wp2
          go_ret
          exact ⟨⟨_, rfl, by rw [HB2.out]; simp, by omega, by omega⟩, rfl⟩
    · obtain rfl : k = L.length := by omega
      have HB2 := Lib.hid (hasF_no HO.out)
      go_wp2
      go_ret
      exact ⟨⟨_, rfl, by rw [HB2.out]; rfl, by omega, by omega⟩, rfl⟩

theorem contains_any (v : Value) (L : List ByteArray) (s : ByteArray) (w : World) (hL : TextsAt w v L) :
    Calls Try.prog 45 #[v, .string s] w fun e w' => e = .returned (.bool (hasF L s)) ∧ w = w' := by
  go_enter Try.func45, Try.ntmps45
  go_wp2_with (go_at_call 61; refine (index_any _ L s _ hL).mono ?_; rintro e w' ⟨⟨r, rfl, hr, h1, h2⟩, rfl⟩)
  go_ret
  exact ⟨by rw [← hr]; rfl, rfl⟩

def wordsL : List ByteArray := [⟨#[116, 114, 117, 101]⟩, ⟨#[102, 97, 108, 115, 101]⟩, ⟨#[88]⟩, ⟨#[70]⟩, ⟨#[71]⟩, ⟨#[85]⟩, ⟨#[82]⟩, ⟨#[87]⟩, ⟨#[77]⟩, ⟨#[89]⟩, ⟨#[90]⟩, ⟨#[79]⟩, ⟨#[72]⟩, ⟨#[83]⟩, ⟨#[84]⟩]
theorem gb_trans {a b c : World} {r s : Option Nat} (h : a.grownBy b r) (k : b.grownBy c s) (hr : s = none ∨ s = r ∨ ∃ x, s = some x ∧ a.heap.size ≤ x) : a.grownBy c r :=
  ⟨k.os.trans h.os, k.tape.trans h.tape, k.output.trans h.output, Nat.le_trans h.size k.size, fun i hi hne => by
    rw [k.block i (Nat.lt_of_lt_of_le hi h.size) (by
      rcases hr with rfl | rfl | ⟨x, rfl, hx⟩
      · simp
      · exact hne
      · intro e; have := Option.some.inj e; omega)]
    exact h.block i hi hne⟩
theorem gb_refl (w : World) (r : Option Nat) : w.grownBy w r := ⟨rfl, rfl, rfl, Nat.le_refl _, fun _ _ _ => rfl⟩
theorem gb_drew (w : World) (r : Option Nat) : w.grownBy w.drew r := ⟨rfl, rfl, rfl, Nat.le_refl _, fun _ _ _ => rfl⟩
theorem gb_drewN (w : World) (k : Nat) (r : Option Nat) : w.grownBy (w.drewN k) r := ⟨rfl, rfl, rfl, Nat.le_refl _, fun _ _ _ => rfl⟩
theorem gb_any {a b : World} (h : a.grownBy b none) (r : Option Nat) : a.grownBy b r := ⟨h.os, h.tape, h.output, h.size, fun k hk _ => h.block k hk (by simp)⟩

theorem texts_new (w : World) (L : List ByteArray) (cs : Array Value) (h : cs = (L.map Value.string).toArray) (hl : L.length ≤ 1000) (hs : ∀ k, k < L.length → (L.getD k ⟨#[]⟩).size ≤ maxLen) : TextsAt (w.alloc (.cells cs 9)) (.slice (some ⟨w.heap.size, 0, none⟩) L.length L.length) L := by
  refine ⟨_, _, rfl, Nat.le_refl _, by omega, hs, Or.inr ⟨w.heap.size, 0, rfl, fun k hk => ?_⟩⟩
  subst h
  have e : (w.alloc (.cells (L.map Value.string).toArray 9)).heap[w.heap.size]? = _ := heap_alloc_new w _
  simp only [World.cell?, e, Nat.zero_add]
  simp [List.getD_eq_getElem?_getD, hk]
def isWordF (s : ByteArray) : Bool := hasF wordsL s
theorem words_any (w : World) : Calls Try.prog 46 #[] w fun e w' => ∃ v, e = .returned v ∧ TextsAt w' v wordsL ∧ w.grownBy w' none := by
  go_enter Try.func46, Try.ntmps46
  go_wp2
  go_ret
  exact ⟨_, rfl, texts_new w wordsL _ rfl (by decide) (by decide), World.grownBy_alloc w _ none⟩

/-- A token's box. -/
theorem tok_box {w w2 : World} (h : (w.alloc (.cells #[.int .u8 0, .string ⟨#[]⟩, .int .i64 0] 50)).grownBy w2 none) : w2.cell? ⟨w.heap.size, 0, none⟩ = some (.int .u8 0) ∧ w2.cell? ⟨w.heap.size, 1, none⟩ = some (.string ⟨#[]⟩) ∧ w2.cell? ⟨w.heap.size, 2, none⟩ = some (.int .i64 0)
    ∧ w2.frozen? ⟨w.heap.size, 0, none⟩ = false ∧ w2.frozen? ⟨w.heap.size, 1, none⟩ = false ∧ w2.frozen? ⟨w.heap.size, 2, none⟩ = false := by
  have e := heap_alloc_new w (.cells #[.int .u8 0, .string ⟨#[]⟩, .int .i64 0] 50)
  have e2 : w2.heap[w.heap.size]? = _ := (h.block _ (Array.getElem?_eq_some_iff.1 e).1 (by simp)).trans e
  refine ⟨?_, ?_, ?_, ?_, ?_, ?_⟩ <;> first | (simp [World.cell?, e2]; done) | (simp [World.frozen?, e2]; done)
theorem gb_set {w : World} {a : Addr} {v : Value} : w.grownBy (w.setCell a v) (some a.block) :=
  ⟨rfl, rfl, rfl, by simp [World.setCell], fun _ _ hk => Below.heap_setCell _ _ _ _ (fun e => hk (by rw [e]))⟩
theorem tok_end {w w2 : World} (h : (w.alloc (.cells #[.int .u8 0, .string ⟨#[]⟩, .int .i64 0] 50)).grownBy w2 none) (x y z : Value) :
    (((w2.setCell ⟨w.heap.size, 0, none⟩ x).setCell ⟨w.heap.size, 1, none⟩ y).setCell ⟨w.heap.size, 2, none⟩ z).heap[w.heap.size]? = some (.cells #[x, y, z] 50 (0, 0)) ∧ w.grownBy (((w2.setCell ⟨w.heap.size, 0, none⟩ x).setCell ⟨w.heap.size, 1, none⟩ y).setCell ⟨w.heap.size, 2, none⟩ z) none := by
  have e := heap_alloc_new w (.cells #[.int .u8 0, .string ⟨#[]⟩, .int .i64 0] 50)
  have e2 : w2.heap[w.heap.size]? = _ := (h.block _ (Array.getElem?_eq_some_iff.1 e).1 (by simp)).trans e
  have hg := gb_trans (World.grownBy_alloc w (.cells #[.int .u8 0, .string ⟨#[]⟩, .int .i64 0] 50) none) h (Or.inl rfl)
  refine ⟨?_, gb_trans (gb_trans (gb_trans hg gb_set (Or.inr (Or.inr ⟨_, rfl, Nat.le_refl _⟩))) gb_set (Or.inr (Or.inr ⟨_, rfl, Nat.le_refl _⟩))) gb_set (Or.inr (Or.inr ⟨_, rfl, Nat.le_refl _⟩))⟩
  simp only [World.setCell, Array.getElem?_modify, e2]
  simp
theorem results_tok {fn : Func} {p u v : Tmp} (h : fn.results = #[.cell p 50, .tmp u, .tmp v]) (tmps : Array Value) (w : World) (g : Nat) (cs : Array Value) (hp : tmps.getD p undef = .pointer (some ⟨g, 0, none⟩)) (hg : w.heap[g]? = some (.cells cs 50 (0, 0))) (hc : cs.size = 3) :
    (results fn tmps).run Try.prog w = .ok (.tuple #[.agg cs, tmps.getD u undef, tmps.getD v undef]) w := by
  have hp' : tmps[p]?.getD undef = .pointer (some ⟨g, 0, none⟩) := by simpa using hp
  have hi : (Try.prog.info? 50).map (·.size) = some cs.size := by rw [hc]; kernel_rfl
  simp [results, h, hp', asAddr, run_loadVar_row w g 50 50 cs (0, 0) _ hg Try.underlying50 rfl hi, Result.andThen]
/-- What a scanner's function says: the kind, the text, how many bytes, the error. -/
structure Res where
  kind : Nat
  text : ByteArray
  n : Nat
  err : Nat
def resV (r : Res) : Value := .tuple #[.agg #[.int .u8 (r.kind : Int), .string r.text, .int .i64 0], .int .i64 (r.n : Int), .int .i64 (r.err : Int)]
def wordR (s : ByteArray) : Res := if hasF wordsL (s.extract 0 (runF s)) = true then ⟨3, s.extract 0 (runF s), runF s, 0⟩ else if 32 < runF s then ⟨0, ⟨#[]⟩, 0, 22⟩ else ⟨2, s.extract 0 (runF s), runF s, 0⟩
def tokV (k : Nat) (t : ByteArray) (at' : Nat) : Value := .agg #[.int .u8 (k : Int), .string t, .int .i64 (at' : Int)]
set_option maxHeartbeats 1000000 in
theorem word_any (v : Value) (s : ByteArray) (w : World) (hs : s.size ≤ maxLen) :
    Calls Try.prog 52 #[v, .string s] w fun e w' => e = .returned (resV (wordR s)) ∧ w.grownBy w' none := by
  have HW : Hid (∀ n, n = runF s → wordR s = if hasF wordsL (s.extract 0 n) = true then ⟨3, s.extract 0 n, n, 0⟩ else if 32 < n then ⟨0, ⟨#[]⟩, 0, 22⟩ else ⟨2, s.extract 0 n, n, 0⟩) := Lib.hid fun n e => by subst e; rfl
  obtain ⟨n0, hn0⟩ : ∃ n, Hid (n = runF s) := ⟨_, rfl⟩
  have HW2 := Lib.hid (HW.out n0 hn0.out)
  clear HW
  have HR := Lib.hid (fun w => run_any s w hs)
  have hn := runF_le s
  rw [← hn0.out] at HR hn
  generalize n0 = n at HR hn HW2
  have hnI : (n : Int) ≤ (s.size : Int) := by omega
  unfold maxLen at hs
  go_enter Try.func52, Try.ntmps52
  go_wp2_with (go_at_call 44; refine (HR.out _).mono ?_; rintro e w1 ⟨rfl, rfl⟩)
  have HWd := Lib.hid words_any
  have HC := Lib.hid (fun (w : World) (v : Value) (t : ByteArray) (h : TextsAt w v wordsL) => contains_any v wordsL t w h)
  go_wp2_with fail
  go_region_with (first
    | (go_at_call 46; refine (HWd.out _).mono ?_; rintro e w2 ⟨v2, rfl, hT, hg2⟩)
    | (go_at_call 45; refine (HC.out _ _ _ hT).mono ?_; rintro e w3 ⟨rfl, rfl⟩))
  replace hg2 := gb_trans (gb_drew _ none) hg2 (Or.inl rfl)
  obtain ⟨k0, k1, k2, f0, f1, f2⟩ := tok_box hg2
  have HEnd := Lib.hid (fun x y z => tok_end hg2 x y z)
  clear hg2
  cases hw : hasF wordsL (s.extract 0 n)
  · by_cases h32 : 32 < n
    · have hI : (32 : Int) < (n : Int) := by omega
      have HW3 : Hid (wordR s = ⟨0, ⟨#[]⟩, 0, 22⟩) := Lib.hid (by rw [HW2.out, hw, if_neg (by simp), if_pos h32])
      go_wp2
      refine bodyPost_ret (results_tok rfl _ _ _ _ rfl (HEnd.out _ _ _).1 rfl) rfl ?_
      rw [HW3.out]
      exact ⟨rfl, (HEnd.out _ _ _).2⟩
    · have hI : ¬ (32 : Int) < (n : Int) := by omega
      have HW3 : Hid (wordR s = ⟨2, s.extract 0 n, n, 0⟩) := Lib.hid (by rw [HW2.out, hw, if_neg (by simp), if_neg h32])
      go_wp2
      refine bodyPost_ret (results_tok rfl _ _ _ _ rfl (HEnd.out _ _ _).1 rfl) rfl ?_
      rw [HW3.out]
      exact ⟨rfl, (HEnd.out _ _ _).2⟩
  · have HW3 : Hid (wordR s = ⟨3, s.extract 0 n, n, 0⟩) := Lib.hid (by rw [HW2.out, hw, if_pos rfl])
    go_wp2
    refine bodyPost_ret (results_tok rfl _ _ _ _ rfl (HEnd.out _ _ _).1 rfl) rfl ?_
    rw [HW3.out]
    exact ⟨rfl, (HEnd.out _ _ _).2⟩
end Go.Proofs.Ytlmpeddacadfkaa
