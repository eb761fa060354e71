/- The plain law: the reference and the types agree on every generated expression. -/
import Derived.Test.YtlmdmmikocbmlaaFn7
import Derived.Test.YtlmdmmikocbmlaaGen1
namespace Go.Proofs.Ytlmdmmikocbmlaa
open Go.RowKit
set_option linter.unusedSimpArgs false
set_option linter.unusedVariables false
def andOr (s : ByteArray) : Bool := inF [⟨#[38, 38]⟩, ⟨#[124, 124]⟩] s
theorem bin_sig : (ops2 ++ ops6 ++ ops4).all (fun s => (sigF true s).1 == (if andOr s then 2 else 1) && (sigF true s).2 == (if andOr s then 2 else if inF opsC s then 2 else 1)) = true := by decide +kernel
theorem gen_type {d : Nat} {t : Nd} (h : GenE d t) : typeF t = rtypeF t := by
  induction h with
  | int => simp [typeF, rtypeF]
  | bool => simp [typeF, rtypeF]
  | var => simp [typeF, rtypeF]
  | name => simp [typeF, rtypeF]
  | draw d t _ ih => simp [typeF, rtypeF, notAll, rnotAll, ih]
  | un d s t hs _ ih =>
    simp only [List.mem_cons, List.not_mem_nil, or_false] at hs
    rcases hs with rfl | rfl
    · have e : sigF false ⟨#[45]⟩ = (1, 1) := by decide +kernel
      simp [typeF, rtypeF, notAll, rnotAll, ih, e]
    · have e : sigF false ⟨#[33]⟩ = (2, 2) := by decide +kernel
      simp [typeF, rtypeF, notAll, rnotAll, ih, e]
  | bin d s t u hs _ _ ih1 ih2 =>
    have e := List.all_eq_true.1 bin_sig s hs
    simp only [Bool.and_eq_true, beq_iff_eq] at e
    have e1 : (sigF ((18 : Int) == 18) s).1 = if andOr s then 2 else 1 := e.1
    have e2 : (sigF ((18 : Int) == 18) s).2 = if andOr s then 2 else if inF opsC s then 2 else 1 := e.2
    simp only [typeF, rtypeF, notAll, rnotAll, ih1, ih2, e1, e2]
    cases h : andOr s <;> simp [andOr] at h <;> simp [h]
theorem stmt_type (n : Nd) : typeF (.mk 9 0 ⟨#[]⟩ [n]) = 0 := by simp [typeF]
end Go.Proofs.Ytlmdmmikocbmlaa
