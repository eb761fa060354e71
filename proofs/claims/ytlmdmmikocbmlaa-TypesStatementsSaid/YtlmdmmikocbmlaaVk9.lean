/- The walks of the laws. -/
import Derived.Test.YtlmdmmikocbmlaaVk8
namespace Go.Proofs.Ytlmdmmikocbmlaa.Vm
open Go.RowKit
set_option linter.unusedSimpArgs false
set_option linter.unusedVariables false
set_option maxRecDepth 100000
theorem ints_rep' {E : Env} {v : Value} {l : List Int} {p : Option Addr} {b off cap : Nat} (h1 : l.length ≤ maxLen) (h2 : ∀ n ∈ l, -9223372036854775808 ≤ n ∧ n ≤ 9223372036854775807) (hv : v = .slice p l.length cap) (hc : l.length ≤ cap) (hp : l = [] ∨ p = some ⟨b, off, none⟩) (hn : p = none → cap = 0)
    (hh : ∀ i, i < l.length → E.C ⟨b, off + i, none⟩ = some (.int .i64 (l.getD i 0))) : (A.sl 1 l.length (intsA l)).rep E v := by
  subst hv
  unfold A.rep
  refine ⟨by simp [intsA], h1, p, b, off, cap, rfl, hc, ?_, hn, ?_⟩
  · rcases hp with rfl | hp
    · exact .inl rfl
    · exact .inr hp
  · refine (repAt_map (E := E.per) (Value.int .i64) (fun _ => rfl)).2 fun i hi => ⟨?_, okV_int.2 (h2 _ (List.getElem_mem hi))⟩
    have := hh i hi
    simp [List.getD_eq_getElem?_getD, hi] at this
    exact this
/-- What is said of a law is what its row asks. -/
theorem walk_of {f : Nat} {args : List A} {vals : List Value} {w : World} (h : Spec Try.prog f [] args fun _ r => r = boolA true) (ha : A.repL args ⟨w.cell?, [], []⟩ vals) :
    Calls Try.prog f vals.toArray w fun e w' => e = .returned (.bool true) ∧ Below w.heap.size w w' :=
  (h.2 w w.cell? [] vals (Sub.refl _) List.nodup_nil (by simp) rfl (fun i b cs hb => by simp at hb) ha).mono fun e w' ⟨outs, r, v, he, hr, hk, _, _, hv⟩ => by
    subst hr
    rw [he, (A.rep_v_iff.1 hv).1]
    exact ⟨rfl, hk.ext⟩
theorem programs_spec (l : List Int) : Spec Try.prog 4 [] [.sl 1 l.length (intsA l)] fun _ r => r = boolA true := by
  refine spec_of (cx_ok ord4 xs0 0) Try.func4 rfl (by kernel_rfl) rfl (by kernel_rfl) ?_
  intro hok
  conv => whnf
  refine call0 [] rfl (fun _ => unit_spec l) ?_
  rintro r ⟨u, hu, rfl⟩
  have hcs := check_spec u (unitG_small hu)
  have hrs := rcheck_spec u (unitG_small hu) (unitG_good hu)
  have hlaw := check_law hu
  unfold unL' at hcs hrs
  conv => whnf
  refine call0 [] rfl (fun _ => hcs) ?_
  rintro r rfl
  conv => whnf
  refine call0 [] rfl (fun _ => hrs) ?_
  rintro r rfl
  rw [hlaw]
  conv => whnf
  rw [show decide (rcheckF u = rcheckF u) = true from decide_eq_true rfl]
  conv => whnf
  refine call0 [] rfl (fun _ => lives_spec) ?_
  rintro r rfl
  conv => whnf
  rfl
end Go.Proofs.Ytlmdmmikocbmlaa.Vm
