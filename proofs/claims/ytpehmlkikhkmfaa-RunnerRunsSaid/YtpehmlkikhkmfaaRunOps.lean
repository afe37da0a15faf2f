/- Runner: scripts. -/
import Derived.Test.YtpehmlkikhkmfaaRefPick
namespace Go.Proofs.Ytpehmlkikhkmfaa
open Go.RowKit

structure OpD where
  kind : Int
  who : Int
  n : Int
  names : List ByteArray
instance : Inhabited OpD := ⟨⟨0, 0, 0, []⟩⟩

def i64F (x : Int) : Prop := -9223372036854775808 ≤ x ∧ x ≤ 9223372036854775807
/-- A step as it lies in memory: its four cells. -/
def OpAt (w : World) (a b c v : Value) (d : OpD) : Prop := a = .int .i64 d.kind ∧ b = .int .i64 d.who ∧ c = .int .i64 d.n ∧ i64F d.kind ∧ i64F d.who ∧ i64F d.n ∧ TextsAt w v d.names ∧ Short d.names
/-- Steps that lie in memory. -/
def OpsAt (w : World) (v : Value) (S : List OpD) : Prop :=
  ∃ a cap, v = .slice a S.length cap ∧ S.length ≤ cap ∧ S.length ≤ 17592186043904 ∧
    (S = [] ∨ ∃ b off, a = some ⟨b, off, none⟩ ∧ ∀ k, k < S.length → ∃ x y z u, w.cell? ⟨b, off + k * 4, none⟩ = some x ∧ w.cell? ⟨b, off + k * 4 + 1, none⟩ = some y ∧ w.cell? ⟨b, off + k * 4 + 2, none⟩ = some z ∧ w.cell? ⟨b, off + k * 4 + 3, none⟩ = some u ∧ OpAt w x y z u (S.getD k default))
theorem OpAt.kept {w w' : World} {a b c v : Value} {d : OpD} (h : OpAt w a b c v d) (hg : w.grownBy w' none) : OpAt w' a b c v d := by
  obtain ⟨h1, h2, h3, h4, h5, h6, h7, h8⟩ := h
  exact ⟨h1, h2, h3, h4, h5, h6, h7.kept hg, h8⟩
theorem OpsAt.kept {w w' : World} {v : Value} {S : List OpD} (h : OpsAt w v S) (hg : w.grownBy w' none) : OpsAt w' v S := by
  obtain ⟨a, cap, rfl, h0, h1, h3⟩ := h
  refine ⟨a, cap, rfl, h0, h1, ?_⟩
  rcases h3 with h3 | ⟨b, off, rfl, h3⟩
  · exact Or.inl h3
  · refine Or.inr ⟨b, off, rfl, fun k hk => ?_⟩
    obtain ⟨x, y, z, u, c1, c2, c3, c4, ho⟩ := h3 k hk
    exact ⟨x, y, z, u, hg.cell c1 (by simp), hg.cell c2 (by simp), hg.cell c3 (by simp), hg.cell c4 (by simp), ho.kept hg⟩

/-- How much a script is; counted no further than the bound. -/
def muchF (S : List OpD) : Nat := S.foldl (fun n d => if n ≤ 100000 then n + 16 + capN (sizes d.names) else n) 0
theorem muchF_take (S : List OpD) (k : Nat) (hk : k < S.length) : muchF (S.take (k + 1)) = if muchF (S.take k) ≤ 100000 then muchF (S.take k) + 16 + capN (sizes (S.getD k default).names) else muchF (S.take k) := by
  unfold muchF
  rw [List.take_add_one, List.foldl_append]
  have e : S[k]?.toList = [S.getD k default] := by rw [List.getD_eq_getElem?_getD, List.getElem?_eq_getElem hk]; rfl
  rw [e]
  rfl
theorem much_stop (m : List OpD) : ∀ n, 100000 < n → m.foldl (fun n d => if n ≤ 100000 then n + 16 + capN (sizes d.names) else n) n = n := by
  induction m with
  | nil => intros; rfl
  | cons x m ih =>
    intro n hn
    rw [List.foldl_cons, if_neg (by omega)]
    exact ih n hn
theorem muchF_stop (S : List OpD) (k : Nat) (h : 100000 < muchF (S.take k)) : muchF S = muchF (S.take k) := by
  have e : S = S.take k ++ S.drop k := (List.take_append_drop k S).symm
  rw [congrArg muchF e]
  unfold muchF at h ⊢
  rw [List.foldl_append]
  exact much_stop _ _ h
theorem much_small {S : List OpD} (h : muchF S ≤ 100000) {k : Nat} (hk : k < S.length) : capN (sizes (S.getD k default).names) ≤ 100000 := by
  have h1 : muchF (S.take (k + 1)) ≤ 100000 := by
    apply Nat.le_of_not_lt
    intro h2
    rw [muchF_stop S (k + 1) h2] at h
    omega
  have h2 : muchF (S.take k) ≤ 100000 := by
    apply Nat.le_of_not_lt
    intro h2
    rw [muchF_stop S k h2] at h
    omega
  rw [muchF_take S k hk, if_pos h2] at h1
  omega
theorem names_small {S : List OpD} (h : muchF S ≤ 100000) {k : Nat} (hk : k < S.length) : (S.getD k default).names.length ≤ 100000 := by
  have h1 := much_small h hk
  have h2 := capN_sum (l := sizes (S.getD k default).names) (by omega)
  have h3 := sumN_len (sizes (S.getD k default).names)
  rw [show (sizes (S.getD k default).names).length = (S.getD k default).names.length by unfold sizes; rw [List.length_map]] at h3
  omega

set_option maxRecDepth 100000 in
set_option maxHeartbeats 1000000 in
theorem much_any {w : World} {v : Value} {S : List OpD} (hl : OpsAt w v S) :
    Calls Try.prog 11 #[v] w fun e w' => e = .returned (.int .i64 (muchF S : Int)) ∧ muchF S ≤ 200000000000000 ∧ w = w' := by
  obtain ⟨a, cap, rfl, hcap, hlen, hc⟩ := hl
  have HC := Lib.hid hc
  clear hc
  go_enter Try.func11, Try.ntmps11
  go_wp2
  go_loop [4, 3] (fun i c => ∃ (k n : Nat), k ≤ S.length ∧ i = .int .i64 (k : Int) ∧ c = .int .i64 (n : Int) ∧ n ≤ 200000000000000 ∧ Hid (n = muchF (S.take k))) (fun i _ => S.length - (intOf i).toNat)
  case atStart => exact ⟨0, 0, by omega, rfl, rfl, by omega, rfl⟩
  case round =>
    obtain ⟨k, n, hk, rfl, rfl, hn, HX⟩ := hrel
    by_cases hlt : k < S.length
    · by_cases hb : n ≤ 100000
      · rcases HC.out with rfl | ⟨b, off, rfl, hcc⟩
        · exact absurd hlt (by simp)
        obtain ⟨_, _, _, u, _, _, _, hu, _, _, _, _, _, _, hTx, hSh⟩ := hcc k hlt
        have HT := Lib.hid (muchF_take S k hlt)
        rw [← HX.out, if_pos hb] at HT
        have HOT := Lib.hid (oftexts_any hTx hSh)
        have hxl := short_le hSh
        obtain ⟨au, cu, nu, rfl⟩ : ∃ au cu nu, u = .slice au nu cu := by obtain ⟨au, cu, e, _⟩ := hTx; exact ⟨au, cu, _, e⟩
        clear hcc hTx hSh
        generalize capN (sizes (S.getD k default).names) = x at HT HOT hxl
        have hnI : (n : Int) ≤ 100000 := by omega
        have hkI : (k : Int) < (S.length : Int) := by omega
        have e1 : wrap64 ((n : Int) + 16) = (n : Int) + 16 := IntWalk.wrap64_in _ ⟨by omega, by omega⟩
        have e2 : wrap64 ((n : Int) + 16 + (x : Int)) = (n : Int) + 16 + (x : Int) := IntWalk.wrap64_in _ ⟨by omega, by omega⟩
        go_wp2_with (go_at_call 19; refine HOT.out.mono ?_; rintro e w3 ⟨rfl, _, rfl⟩)
        go_round
        case rel => exact ⟨k + 1, n + 16 + x, by omega, by go_num, by go_num, by omega, Lib.hid HT.out.symm⟩
        case measure => simp [intOf]; omega
      · have hkI : (k : Int) < (S.length : Int) := by omega
        have hnI : ¬ (n : Int) ≤ 100000 := by omega
        have HS := Lib.hid (muchF_stop S k (by rw [← HX.out]; omega))
        go_wp2_with fail
        go_ret
        rw [HS.out, ← HX.out]
        exact ⟨rfl, hn, rfl⟩
    · obtain rfl : k = S.length := by omega
      rw [List.take_length] at HX
      go_wp2_with fail
      go_ret
      rw [← HX.out]
      exact ⟨rfl, hn, rfl⟩
end Go.Proofs.Ytpehmlkikhkmfaa
