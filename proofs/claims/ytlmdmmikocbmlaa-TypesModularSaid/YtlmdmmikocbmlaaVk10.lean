/- TypesModular. -/
import Derived.Test.YtlmdmmikocbmlaaVk9
namespace Go.Proofs.Ytlmdmmikocbmlaa.Vm
open Go.RowKit
set_option linter.unusedSimpArgs false
set_option linter.unusedVariables false
set_option maxRecDepth 100000
/-- The check of the program with these handlers alone. -/
def goodAll (d v : List ByteArray) (l : List (Int × Nd)) : Bool := l.all fun x => decide (checkF ⟨d, v, [x]⟩ = 0)
theorem checkF_zero {u : Un} : checkF u = 0 ↔ ∀ x ∈ u.on, badF u x.2 = false := by
  unfold checkF
  constructor
  · intro h x hx
    split at h
    · cases h
    · rename_i hn
      cases hb : badF u x.2
      · rfl
      · exact absurd (List.any_eq_true.2 ⟨x, hx, hb⟩) hn
  · intro h
    rw [if_neg]
    intro hn
    obtain ⟨x, hx, hb⟩ := List.any_eq_true.1 hn
    rw [h x hx] at hb
    cases hb
theorem modular_law (d v : List ByteArray) (on : List (Int × Nd)) : decide (checkF ⟨d, v, on⟩ = 0) = goodAll d v on := by
  have h : checkF ⟨d, v, on⟩ = 0 ↔ goodAll d v on = true := by
    rw [checkF_zero]
    unfold goodAll
    rw [List.all_eq_true]
    simp only [decide_eq_true_eq, checkF_zero, List.mem_singleton, forall_eq]
    rfl
  cases hg : goodAll d v on
  · rw [hg] at h; simpa using h
  · rw [hg] at h; simpa using h
theorem goodAll_take {d v : List ByteArray} {on : List (Int × Nd)} {k : Nat} (hk : k < on.length) : goodAll d v (on.take (k + 1)) = (goodAll d v (on.take k) && decide (checkF ⟨d, v, [on[k]]⟩ = 0)) := by
  unfold goodAll
  rw [List.take_succ_eq_append_getElem hk, List.all_append]
  simp
theorem modular_spec (l : List Int) : Spec Try.prog 7 [] [.sl 1 l.length (intsA l)] fun _ r => r = boolA true := by
  refine spec_of (cx_ok ord7 xs0 0) Try.func7 rfl (by kernel_rfl) rfl (by kernel_rfl) ?_
  intro hok
  conv => whnf
  refine call0 [] rfl (fun _ => unit_spec l) ?_
  rintro r ⟨u, hu, rfl⟩
  have hsm := unitG_small hu
  have hcs := check_spec u hsm
  obtain ⟨d, v, on⟩ := u
  obtain ⟨h1, h2, h3, h4⟩ := hsm
  have hc1 : ∀ x ∈ on, Spec Try.prog 16 [] [.agg (unL' ⟨d, v, [x]⟩)] fun _ r => r = intA (checkF ⟨d, v, [x]⟩) := fun x hx =>
    check_spec ⟨d, v, [x]⟩ ⟨h1, h2, by simp, fun y hy => by obtain rfl := List.mem_singleton.1 hy; exact h4 y hx⟩
  have hl := hu.len
  simp only at h1 h2 h3 h4 hl
  unfold unL' at hcs hc1 ⊢
  simp only [hsL, List.flatMap_cons, List.flatMap_nil, List.append_nil, ndL_eq, List.length_cons, List.length_nil] at hc1
  simp only at hcs
  conv => whnf
  refine loop_keep [2, 3] ?_
  conv => whnf
  refine loop_go (fun k : Nat => [(4, .v (.bool (goodAll d v (on.take k)))), (5, .v (.int .i64 k))]) (fun _ => [[.sl 1 d.length (strsA d), .sl 1 v.length (strsA v), .sl 5 on.length (hsL on)]]) (fun _ => []) (fun k => k ≤ on.length) (fun k => on.length - k) 0 ?_ (Nat.zero_le _) ?_
  · repeat' constructor
  · intro k hk
    conv => whnf
    by_cases hlt : k < on.length
    · refine br_true (by simp; omega) ?_
      conv => whnf
      apply join_eq
      · conv => whnf
        refine ⟨⟨by omega, by omega⟩, ?_⟩
        conv => whnf
        rw [show rowOf 5 (Int.toNat (k : Int)) (hsL on) = _ from rowOf_hs' on k hlt]
        conv => whnf
        refine ⟨?_, ?_⟩
        · conv => whnf
        · conv => whnf
      · have ht := goodAll_take (d := d) (v := v) hlt
        generalize hg : goodAll d v (on.take k) = g at *
        conv => whnf
        cases g
        · conv => whnf
          refine ⟨i64r (by omega), ?_⟩
          conv => whnf
          refine ⟨k + 1, le_head ?_, hlt, by omega⟩
          repeat' constructor
          rw [ht]; rfl
        · conv => whnf
          refine call0 [0] rfl (fun _ => hc1 on[k] (List.getElem_mem hlt)) ?_
          rintro r rfl
          conv => whnf
          refine ⟨i64r (by omega), ?_⟩
          conv => whnf
          refine ⟨k + 1, le_head ?_, hlt, by omega⟩
          repeat' constructor
          rw [ht]; rfl
    · refine br_false (by simp; omega) ?_
      obtain rfl : k = on.length := by omega
      have hlaw := modular_law d v on
      rw [List.take_length]
      rw [← hlaw]
      conv => whnf
      refine call0 [] rfl (fun _ => hcs) ?_
      rintro r rfl
      conv => whnf
      rw [beq_self_eq_true]
      conv => whnf
      refine call0 [] rfl (fun _ => lives_spec) ?_
      rintro r rfl
      conv => whnf
      rfl
end Go.Proofs.Ytlmdmmikocbmlaa.Vm
