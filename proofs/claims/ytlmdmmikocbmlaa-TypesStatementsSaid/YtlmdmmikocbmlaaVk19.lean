/- Expr, and TypesSubstitution. -/
import Derived.Test.YtlmdmmikocbmlaaVk18
namespace Go.Proofs.Ytlmdmmikocbmlaa.Vm
open Go.RowKit
set_option linter.unusedSimpArgs false
set_option linter.unusedVariables false
set_option maxRecDepth 100000
theorem expr_spec (l : List Int) (i : Nat) (want : Int) (hw : 1 ≤ want ∧ want ≤ 2) (hl : l.length ≤ 1000000000) (hi : i ≤ 1000000) :
    Spec Try.prog 30 [srcC l i] [.box 0 0, intA want, intA 4] fun outs r => ∃ i', outs = [srcC l i'] ∧ i ≤ i' ∧ i' ≤ i + 124 ∧ ∃ t, r = .agg (ndL t) ∧ GenE 4 t := by
  refine (spec_src (c := 124) (post := fun r => ∃ t, r = .agg (ndL t) ∧ GenE 4 t) (Φ := fun N v w' => ∃ t, GenE 4 t ∧ t.At (fromC N w') v) (vs := [.int .i64 want, .int .i64 4]) Try.func30 rfl (by kernel_rfl) hl (by omega) (fun E us h => ?_) (fun N w' E v h hsub => ?_) (fun L b w hL hs => expr_any 4 (by omega) L b i want w hs (by show i + costE 4 ≤ _; simp [costE]; omega) hw.1 hw.2))
  · unfold A.repL at h
    obtain ⟨v, us, rfl, h2, h3⟩ := h
    unfold A.repL at h3
    obtain ⟨v2, us2, rfl, h3, h4⟩ := h3
    unfold A.repL at h4
    subst h4
    rw [(rep_vi.1 h2).1, (rep_vi.1 h3).1]
  · obtain ⟨t, h1, h2⟩ := h
    exact ⟨_, ⟨t, rfl, h1⟩, at_rep t (E := E) (Nd.At.mono hsub _ _ h2)⟩
theorem expr_law_spec (l : List Int) : Spec Try.prog 11 [] [.sl 1 l.length (intsA l)] fun _ r => ∃ t, GenE 4 t ∧ r = .agg (ndL t) := by
  refine spec_of (cx_ok ord0 xs0 0) Try.func11 rfl (by kernel_rfl) rfl (by kernel_rfl) ?_
  intro hok
  conv => whnf
  refine call0 [] rfl (fun _ => ints_spec l 40 (by omega)) ?_
  rintro r ⟨l1, hl1, rfl⟩
  conv => whnf
  refine call1 1 [] rfl rfl rfl rfl (fun _ => next_spec l1 0 2 (by omega) (by omega) (by omega)) ?_
  rintro o r ⟨i1, ho, h1, h2, z, rfl, h3, h4⟩
  obtain rfl : o = srcC l1 i1 := by simpa using ho
  conv => whnf
  refine ⟨i64r (by omega), ?_⟩
  conv => whnf
  refine call1 1 [] rfl rfl rfl rfl (fun _ => expr_spec l1 i1 (1 + z) (by omega) (by omega) (by omega)) ?_
  rintro o r ⟨i2, ho, h5, h6, t, rfl, ht⟩
  obtain rfl : o = srcC l1 i2 := by simpa using ho
  rw [ndL_eq]
  conv => whnf
  exact ⟨t, ht, by rw [ndL_eq]⟩
theorem substitution_spec (l m : List Int) (pos : Int) : Spec Try.prog 6 [] [.sl 1 l.length (intsA l), .sl 1 m.length (intsA m), .v (.int .i64 pos)] fun _ r => r = boolA true := by
  refine spec_of (cx_ok ord6 xs0 0) Try.func6 rfl (by kernel_rfl) rfl (by kernel_rfl) ?_
  intro hok
  have hwb : -9223372036854775808 ≤ pos ∧ pos ≤ 9223372036854775807 := okA_int.1 (okL_mem hok (by simp))
  conv => whnf
  refine call0 [] rfl (fun _ => expr_law_spec l) ?_
  rintro r ⟨t, ht, rfl⟩
  rw [ndL_eq]
  conv => whnf
  refine call0 [] rfl (fun _ => expr_law_spec m) ?_
  rintro r ⟨y, hy, rfl⟩
  rw [ndL_eq]
  conv => whnf
  have hgt := genE_good ht
  have hgy := genE_good hy
  have hct : cntN t + 1 ≤ 32 := hgt.2
  have hst := good_small t hgt.1
  have hsy := good_small y hgy.1
  have hty := typeOf_spec y hsy
  have htt := typeOf_spec t hst
  have hlaw := fun p => rep_type (y := y) rfl ht p
  have hcnt := fun p => repF_cnt (typeF y) y t p
  have hrep := fun (p : Int) (h1 : -1000 ≤ p) (h2 : p ≤ 1000) => rep_all (typeF y) y t p (by omega) (by omega) hgt.1 (by omega)
  have htk := fun p => typeOf_spec (repF (typeF y) y t p).1 (repF_small (typeF y) y hsy t p hst)
  simp only [hlaw] at htk
  generalize typeF y = ty at *
  generalize typeF t = tt at *
  simp only [ndL_eq] at hty htt hrep htk
  refine call0 [] rfl (fun _ => hty) ?_
  rintro r rfl
  conv => whnf
  cases h0 : decide (ty = 0)
  · conv => whnf
    refine call0 [] rfl (fun _ => hrep (-1) (by omega) (by omega)) ?_
    rintro r rfl
    have hc1 := hcnt (-1)
    generalize repF ty y t (-1) = k1 at *
    conv => whnf
    cases h2 : decide (k1.2 = 0)
    · have q2 : ¬ k1.2 = 0 := by simpa using h2
      have har := aroundF_rng pos k1.2 (by omega)
      have hsp := around_spec pos k1.2 hwb (by omega)
      generalize aroundF pos k1.2 = p at *
      have hrp := hrep p (by omega) (by omega)
      conv => whnf
      apply join_eq
      · conv => whnf
        refine ⟨?_, ?_⟩
        · conv => whnf
          refine call0 [] rfl (fun _ => hsp) ?_
          rintro r rfl
          conv => whnf
          refine ⟨?_, ?_⟩
          · conv => whnf
            refine call0 [] rfl (fun _ => hrp) ?_
            rintro r rfl
            conv => whnf
          · conv => whnf
            refine call0 [] rfl (fun _ => hrp) ?_
            rintro r rfl
            conv => whnf
        · conv => whnf
          refine call0 [] rfl (fun _ => hsp) ?_
          rintro r rfl
          conv => whnf
          refine call0 [] rfl (fun _ => hrp) ?_
          rintro r rfl
          conv => whnf
      · conv => whnf
        refine call0 [] rfl (fun _ => htk p) ?_
        rintro r rfl
        conv => whnf
        refine call0 [] rfl (fun _ => htt) ?_
        rintro r rfl
        conv => whnf
        rw [show decide (tt = tt) = true from decide_eq_true rfl]
        conv => whnf
        refine call0 [] rfl (fun _ => lives_spec) ?_
        rintro r rfl
        conv => whnf
        rfl
    · conv => whnf
      refine call0 [] rfl (fun _ => lives_spec) ?_
      rintro r rfl
      conv => whnf
      rfl
  · conv => whnf
    refine call0 [] rfl (fun _ => lives_spec) ?_
    rintro r rfl
    conv => whnf
    rfl
end Go.Proofs.Ytlmdmmikocbmlaa.Vm
