/- What a row's frame tells of its arguments, said of abstract values. -/
import Derived.Test.YtlmdmmikocbmlaaVk9
namespace Go.Proofs.Ytlmdmmikocbmlaa.Vm
open Go.RowKit
set_option linter.unusedSimpArgs false
set_option linter.unusedVariables false
theorem row_rep {w : World} {a : Option Addr} {len cap : Nat} {zs : List Int} (h : (a = none ∧ len = 0 ∧ cap = 0 ∧ zs = []) ∨ ∃ x, a = some x ∧ len ≤ cap ∧ cap ≤ maxLen ∧ zs.length = cap ∧ (∀ i, i < zs.length → w.cell? (x.add i) = some (.int .i64 (zs.getD i 0))) ∧ ∀ n ∈ zs, (Lit.int .i64 n).wf = true) :
    (A.sl 1 (zs.take len).length (intsA (zs.take len))).rep ⟨w.cell?, [], []⟩ (.slice a len cap) := by
  rcases h with ⟨rfl, rfl, rfl, rfl⟩ | ⟨x, rfl, hl, hm, hz, hc, hw⟩
  · exact ints_rep' (p := none) (b := 0) (off := 0) (cap := 0) (by simp) (by simp) rfl (by simp) (.inl rfl) (fun _ => rfl) (fun i hi => absurd hi (by simp))
  · have hlen : (zs.take len).length = len := by simp; omega
    refine ints_rep' (p := some x) (b := x.block) (off := x.off) (cap := cap) (by omega) (fun n hn => ?_) (by rw [hlen]) (by omega) ?_ (by simp) (fun i hi => ?_)
    · have := hw n (List.mem_of_mem_take hn)
      simp [Lit.wf] at this
      exact this
    · by_cases h0 : len = 0
      · left; subst h0; simp
      · right
        have := hc 0 (by omega)
        obtain ⟨b, o, sp⟩ := x
        cases sp with
        | none => rfl
        | some k => simp [Addr.add, World.cell?] at this; split at this <;> simp at this
    · have hi' : i < len := by omega
      have e := hc i (by omega)
      have h0 := hc 0 (by omega)
      obtain ⟨b, o, sp⟩ := x
      cases sp with
      | none => rw [add_at] at e; show w.cell? ⟨b, o + i, none⟩ = _; rw [e]; simp [List.getD_eq_getElem?_getD, hi']
      | some k => simp [Addr.add, World.cell?] at h0; split at h0 <;> simp at h0
theorem str_rep {E : Env} {s : ByteArray} (h : s.size ≤ maxLen) : (A.v (.string s)).rep E (.string s) := rep_vs.2 ⟨rfl, h⟩
theorem int_rep {E : Env} {n : Int} (h : (Lit.int .i64 n).wf = true) : (A.v (.int .i64 n)).rep E (.int .i64 n) := by
  refine rep_vi.2 ⟨rfl, ?_⟩
  simp [Lit.wf] at h
  exact h
theorem args_nil {E : Env} : A.repL [] E [] := by unfold A.repL; rfl
end Go.Proofs.Ytlmdmmikocbmlaa.Vm
