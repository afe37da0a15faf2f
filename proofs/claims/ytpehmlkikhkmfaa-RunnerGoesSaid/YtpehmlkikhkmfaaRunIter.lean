/- Runner: what All hands back, as an iterator, whatever the body: its contract. -/
import Derived.Test.YtpehmlkikhkmfaaRunAllM
namespace Go.Proofs.Ytpehmlkikhkmfaa
open Go.RowKit


/-- What All handed back goes through L, wherever it is called: what lay in W stands but for the count in Ba. -/
def IterOK (W : World) (Ba B6 Be Bl Br : Nat) (L : List Int) : Prop :=
  ∀ (Bs : List Nat) (wx : World), KpL [Ba, B6] W wx → (∃ a : Int, Boxed wx Ba 3 (.int .i64 a)) → (∀ k, k ∈ Bs → (k = B6 ∨ W.heap.size ≤ k) ∧ k < wx.heap.size + 2) →
    SeqTick Fence.wide 7 Try.prog 71 #[.pointer (some ⟨Be, 0, none⟩), .pointer (some ⟨Bl, 0, none⟩), .pointer (some ⟨Br, 0, none⟩)] (fun x : Int => #[.int .u8 x]) (KpL Bs) (Tick Ba) (fun xs => xs = L) (fun pre => pre <+: L) L.length wx
theorem iter_yes {W : World} {Ba B6 Be Bl Br Bu p mb lo hi : Nat} {vu vn vo vf : Value} {vs : List Value} {U : List Nat} {n : Nat} {R : List (List Int)} {O : List Int} {F : List Bool} (hn8 : n ≤ 8) (hpow : ∀ k, k < R.length → (R.getD k []).length = 2 ^ n)
    (hU : LetsAt W [Ba, B6] vu U) (hBu : Boxed W Bu 85 vu) (hBe : Boxed W Be 33 (.int .i64 0)) (hBl : Boxed W Bl 125 (.func (.func 33) #[] #[.pointer (some ⟨Bu, 0, none⟩), .pointer (some ⟨Ba, 0, none⟩)])) (hBr : Boxed W Br 32 (.pointer (some ⟨p, 0, none⟩)))
    (hR : RunAt W p mb vn vo vf vs R O F 0) (hrows : RowsIn lo hi vn vo vf vs) (hhi : hi ≤ W.heap.size) (hlo : Ba < lo) (hlo6 : B6 < lo) (h1 : Bu ≠ Ba) (h2 : Bu ≠ B6) (h3 : Ba ≠ B6) (h4 : lo ≤ p) (h5 : lo ≤ Be) (h6 : lo ≤ Bl) (h7 : lo ≤ Br) : IterOK W Ba B6 Be Bl Br (verdsOf n R O U) := by
  intro Bs wx hk hA hBs l J J1 Jx W' hW' hz hJ hJ1 hJx hT hY h0
  have hk' : KpL [Ba, B6] W W' := hk.trans (KpL.of_below hW')
  obtain ⟨a, hA⟩ := hA
  have hlt : ∀ {b : Nat} {t : TypeId} {v : Value}, Boxed W b t v → b ≠ Ba → b ≠ B6 → b ∉ Bs := fun hb h1 h2 h => by
    have := (hBs _ h).1
    have := Boxed.lt hb
    omega
  have hba : Ba ∉ Bs := fun h => by
    have h8 := (hBs _ h).1
    have h9 : Ba < W.heap.size := by have := hBl.lt; omega
    omega
  have hUm : LetsAt W (Ba :: Bs) vu U := hU.more fun b hb hn h => by
    simp at hn h
    rcases h with h | h
    · exact hn.1 h
    · have := (hBs _ h).1; omega
  have hU' : LetsAt W' (Ba :: Bs) vu U := by
    obtain ⟨au, cu, rfl, u1, u2, u3⟩ := hUm
    obtain ⟨a2, c2, e2, _, _, v3⟩ := hU
    cases e2
    refine ⟨au, cu, rfl, u1, u2, ?_⟩
    rcases u3 with u3 | ⟨b, off, rfl, hn, u3⟩
    · exact Or.inl u3
    · rcases v3 with v3 | ⟨b2, off2, e2, hn2, v3⟩
      · exact Or.inl v3
      · cases e2
        exact Or.inr ⟨b, off, rfl, hn, fun k hk2 => hk'.cell (u3 k hk2) hn2⟩
  have keep : ∀ {b : Nat} {t : TypeId} {v : Value}, Boxed W b t v → b ≠ Ba → b ≠ B6 → Boxed W' b t v := fun hb h1 h2 => hk'.boxed hb (by simp; exact ⟨h1, h2⟩)
  refine runall_in 7 (by omega) l Be Bl Br Bu Ba p mb lo hi Bs vu vn vo vf vs U n R O F hn8 hpow J J1 Jx W' hJ hJ1 hJx hT (fun pre x W hj hl => hY pre x W hj (by rw [verds_len]; exact hl)) (fun k h => by have := (hBs k h).2; omega) hU' (hlt hBu h1 h2) h1 hba (keep hBu h1 h2) ⟨a, (hW'.block Ba hA.lt).trans hA⟩
    (keep hBe (by omega) (by omega)) (keep hBl (by omega) (by omega)) (keep hBr (by omega) (by omega)) (hR.move hrows (fun o ho => hk'.same p o ho (by simp; omega)) (fun k o hk1 hk2 ho => hk'.same k o ho (by simp; omega))) hrows (by have := hk'.size; omega) hlo (fun k h => by have := (hBs k h).1; omega) h0
theorem iter_no {W : World} {Ba B6 Be Bl Br : Nat} (hBe : Boxed W Be 33 (.int .i64 170)) (h1 : Be ≠ Ba) (h2 : Be ≠ B6) : IterOK W Ba B6 Be Bl Br [] := by
  intro Bs wx hk hA hBs l J J1 Jx W' hW' hz hJ hJ1 hJx hT hY h0
  have hk' : KpL [Ba, B6] W W' := hk.trans (KpL.of_below hW')
  exact runall_no 7 l Be Bl Br 170 (by decide) J Jx W' hJ (hk'.boxed hBe (by simp; exact ⟨h1, h2⟩)) h0
end Go.Proofs.Ytpehmlkikhkmfaa
