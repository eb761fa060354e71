/- What was proved otherwise, said of abstract values. -/
import Derived.Test.YtlmdmmikocbmlaaVk0
namespace Go.Proofs.Ytlmdmmikocbmlaa.Vm
open Go.RowKit
set_option linter.unusedSimpArgs false
set_option linter.unusedVariables false
theorem typeF_rng (t : Nd) : 0 ≤ typeF t ∧ typeF t ≤ 2 := by
  have sig : ∀ b s, 0 ≤ (sigF b s).2 ∧ (sigF b s).2 ≤ 2 := fun b s => by
    unfold sigF
    cases h : (pairs b).find? (fun p => s == p.1) with
    | none => simp
    | some p =>
      have hm := List.mem_of_find?_eq_some h
      have : (pairs b).all (fun p => decide (0 ≤ p.2.2 ∧ p.2.2 ≤ 2)) = true := by cases b <;> decide +kernel
      have := List.all_eq_true.1 this p hm
      simpa using this
  cases t with
  | mk k n s kids =>
    unfold typeF
    split
    · omega
    · split
      · omega
      · split
        · split
          · omega
          · exact sig _ _
        · split
          · split <;> omega
          · omega
theorem rtypeF_rng (t : Nd) : 0 ≤ rtypeF t ∧ rtypeF t ≤ 2 := by
  cases t with
  | mk k n s kids =>
    unfold rtypeF
    repeat' split
    all_goals omega
theorem ok_small {n : Int} (h : -1000000000000 ≤ n ∧ n ≤ 1000000000000) : okV (.int .i64 n) := okV_int.2 (by show (-9223372036854775808 : Int) ≤ n ∧ n ≤ 9223372036854775807; omega)
theorem typeOf_spec (t : Nd) (hs : smallN t) : Spec Try.prog 12 [] [.agg (ndL t)] fun _ r => r = intA (typeF t) := by
  refine spec_ext (call_of Try.func12 rfl (by kernel_rfl)) (ok_small (by have := typeF_rng t; omega)) fun w C vals h1 h2 => ?_
  unfold A.repL at h2
  obtain ⟨v, us, rfl, h2, h3⟩ := h2
  unfold A.repL at h3
  subst h3
  exact (typeOf_any t).use (Nd.At.mono h1 _ _ (rep_at t hs h2))
theorem rtypeOf_spec (t : Nd) (hs : smallN t) : Spec Try.prog 13 [] [.agg (ndL t)] fun _ r => r = intA (rtypeF t) := by
  refine spec_ext (call_of Try.func13 rfl (by kernel_rfl)) (ok_small (by have := rtypeF_rng t; omega)) fun w C vals h1 h2 => ?_
  unfold A.repL at h2
  obtain ⟨v, us, rfl, h2, h3⟩ := h2
  unfold A.repL at h3
  subst h3
  exact (rtypeOf_any t).use (Nd.At.mono h1 _ _ (rep_at t hs h2))
theorem check_spec (u : Un) (hs : smallU u) : Spec Try.prog 16 [] [.agg (unL' u)] fun _ r => r = intA (checkF u) := by
  refine spec_ext (call_of Try.func16 rfl (by kernel_rfl)) (ok_small (by unfold checkF; split <;> omega)) fun w C vals h1 h2 => ?_
  unfold A.repL at h2
  obtain ⟨v, us, rfl, h2, h3⟩ := h2
  unfold A.repL at h3
  subst h3
  exact check_any u v w ((rep_un hs h2).mono h1)
theorem index_spec (u : Un) (s : ByteArray) (hs : smallU u) : Spec Try.prog 24 [] [.agg (unL' u), .v (.string s)] fun _ r => r = intA (indexF u.d u.v s) := by
  have hr : -1 ≤ indexF u.d u.v s ∧ indexF u.d u.v s ≤ 2000000001 := by
    have h1 := posF_le u.d s
    have h2 := posF_le u.v s
    have h3 := hs.1
    have h4 := hs.2.1
    unfold indexF
    split
    · omega
    · split <;> omega
  refine spec_ext (call_of Try.func24 rfl (by kernel_rfl)) (ok_small (by omega)) fun w C vals h1 h2 => ?_
  unfold A.repL at h2
  obtain ⟨v, us, rfl, h2, h3⟩ := h2
  unfold A.repL at h3
  obtain ⟨v2, us2, rfl, h3, h4⟩ := h3
  unfold A.repL at h4
  subst h4
  obtain ⟨rfl, -⟩ := rep_vs.1 h3
  obtain ⟨dv, vv, ov, rfl, g1, g2, g3⟩ := (rep_un hs h2).mono h1
  exact index_any dv vv ov u.d u.v s w g1 g2
theorem in_spec (l : List ByteArray) (s : ByteArray) (hl : l.length ≤ 1000000000) : Spec Try.prog 34 [] [.sl 1 l.length (strsA l), .v (.string s)] fun _ r => r = boolA (inF l s) := by
  refine spec_ext (call_of Try.func34 rfl (by kernel_rfl)) trivial fun w C vals h1 h2 => ?_
  unfold A.repL at h2
  obtain ⟨v, us, rfl, h2, h3⟩ := h2
  unfold A.repL at h3
  obtain ⟨v2, us2, rfl, h3, h4⟩ := h3
  unfold A.repL at h4
  subst h4
  obtain ⟨rfl, -⟩ := rep_vs.1 h3
  refine (in_any v l s w ((rep_strs hl h2).mono h1)).mono ?_
  rintro e w' ⟨rfl, rfl⟩
  exact ⟨rfl, Ext.refl _⟩
theorem lives_spec : Spec Try.prog 14 [] [] fun _ r => r = boolA true := by
  refine spec_ext (call_of Try.func14 rfl (by kernel_rfl)) trivial fun w C vals h1 h2 => ?_
  unfold A.repL at h2
  subst h2
  exact lives_any w
theorem around_spec (n m : Int) (hn : -9223372036854775808 ≤ n ∧ n ≤ 9223372036854775807) (hm : 1 ≤ m ∧ m ≤ 9223372036854775807) : Spec Try.prog 18 [] [intA n, intA m] fun _ r => r = intA (aroundF n m) := by
  have hr := aroundF_rng n m hm.1
  refine spec_pure (vs := [.int .i64 n, .int .i64 m]) (call_of Try.func18 rfl (by kernel_rfl)) (fun E us h => ?_) (okV_int.2 (by show (-9223372036854775808 : Int) ≤ _ ∧ _ ≤ (9223372036854775807 : Int); omega)) fun w => around_any n m w hn.1 hn.2 hm.1 hm.2
  unfold A.repL at h
  obtain ⟨v, us, rfl, h2, h3⟩ := h
  unfold A.repL at h3
  obtain ⟨v2, us2, rfl, h3, h4⟩ := h3
  unfold A.repL at h4
  subst h4
  rw [(rep_vi.1 h2).1, (rep_vi.1 h3).1]
theorem name_spec (n : Int) (hn : -9223372036854775808 ≤ n ∧ n ≤ 9223372036854775807) : Spec Try.prog 25 [] [intA n] fun _ r => r = .v (.string (nameF (aroundF n 10))) := by
  refine spec_pure (vs := [.int .i64 n]) (call_of Try.func25 rfl (by kernel_rfl)) (fun E us h => ?_) (nameF_short n) fun w => name_any n w hn.1 hn.2
  unfold A.repL at h
  obtain ⟨v, us, rfl, h2, h3⟩ := h
  unfold A.repL at h3
  subst h3
  rw [(rep_vi.1 h2).1]
end Go.Proofs.Ytlmdmmikocbmlaa.Vm
