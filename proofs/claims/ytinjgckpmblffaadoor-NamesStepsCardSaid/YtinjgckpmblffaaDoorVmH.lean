/- A contract whose result is an own row, told as one whose row is given up. -/
import Derived.Test.YtinjgckpmblffaaDoorVm7
namespace Go.Proofs.YtinjgckpmblffaaDoor.Vm
open Go.RowKit
set_option linter.unusedSimpArgs false
set_option linter.unusedVariables false
mutual
def pubA (k n : Nat) (cs : List A) : A → A
  | .own _ => .sl k n cs
  | .orow _ _ => .dead
  | .clo f caps => .clo f (pubL k n cs caps)
  | .agg l => .agg (pubL k n cs l)
  | .tup l => .tup (pubL k n cs l)
  | .box _ _ => .dead
  | .gp g o => .gp g o
  | .err => .err
  | .dead => .dead
  | .v x => .v x
  | .sl k n cs => .sl k n cs
  | .pp cs => .pp cs
def pubL (k n : Nat) (cs : List A) : List A → List A
  | [] => []
  | a :: r => pubA k n cs a :: pubL k n cs r
end
section
variable {C D : Rd} {y : Value} {k n : Nat} {cs : List A}
mutual
theorem pubA_rep (hs : Sub C D) (hy : (A.sl k n cs).rep ⟨D, [], []⟩ y) : ∀ (a : A) {v : Value}, a.rep ⟨C, [], [y]⟩ v → (pubA k n cs a).rep ⟨D, [], []⟩ v
  | .dead, v, h => by unfold pubA; exact A.rep_dead _ _
  | .v x, v, h => by unfold pubA; unfold A.rep at h ⊢; exact h
  | .sl k n cs, v, h => by
    unfold pubA
    have h2 : (A.sl k n cs).rep ⟨C, [], []⟩ v := by unfold A.rep at h ⊢; exact h
    exact A.rep.mono _ (E := ⟨C, [], []⟩) (F := ⟨D, [], []⟩) ⟨hs, fun _ _ h => h, fun _ _ h => h⟩ h2
  | .pp cs, v, h => by
    unfold pubA
    have h2 : (A.pp cs).rep ⟨C, [], []⟩ v := by unfold A.rep at h ⊢; exact h
    exact A.rep.mono _ (E := ⟨C, [], []⟩) (F := ⟨D, [], []⟩) ⟨hs, fun _ _ h => h, fun _ _ h => h⟩ h2
  | .own j, v, h => by
    unfold pubA
    unfold A.rep at h
    cases j with
    | zero => simp at h; subst h; exact hy
    | succ j => simp at h
  | .orow j o, v, h => by unfold pubA; exact A.rep_dead _ _
  | .box j o, v, h => by unfold pubA; exact A.rep_dead _ _
  | .gp _ _, v, h => by unfold pubA; unfold A.rep at h ⊢; exact h
  | .err, v, h => by unfold pubA; unfold A.rep at h ⊢; exact h
  | .clo f caps, v, h => by
    unfold pubA; unfold A.rep at h ⊢
    obtain ⟨us, h1, h2⟩ := h
    exact ⟨us, h1, pubL_rep hs hy caps h2⟩
  | .agg l, v, h => by
    unfold pubA; unfold A.rep at h ⊢
    obtain ⟨us, h1, h2⟩ := h
    exact ⟨us, h1, A.repC_mk (pubL_rep hs hy l (A.repC_L h2)) (A.repC_one h2)⟩
  | .tup l, v, h => by
    unfold pubA; unfold A.rep at h ⊢
    obtain ⟨us, h1, h2⟩ := h
    exact ⟨us, h1, pubL_rep hs hy l h2⟩
theorem pubL_rep (hs : Sub C D) (hy : (A.sl k n cs).rep ⟨D, [], []⟩ y) : ∀ (l : List A) {us : List Value}, A.repL l ⟨C, [], [y]⟩ us → A.repL (pubL k n cs l) ⟨D, [], []⟩ us
  | [], us, h => by unfold pubL; unfold A.repL at h ⊢; exact h
  | a :: r, us, h => by
    unfold pubL; unfold A.repL at h ⊢
    obtain ⟨u, us', rfl, h1, h2⟩ := h
    exact ⟨u, us', rfl, pubA_rep hs hy a h1, pubL_rep hs hy r h2⟩
end
end
theorem own_sl {w : World} {base e k n : Nat} {y : Value} {xs : List Value} {cs : List A} {D : Rd} (h : w.ownsRow base e k y n xs) (hr : A.repC cs ⟨D, [], []⟩ xs) (hD : ∀ b, y.ownBlock = some b → ∀ o u, w.cell? ⟨b, o, none⟩ = some u → D ⟨b, o, none⟩ = some u) : (A.sl k n cs).rep ⟨D, [], []⟩ y := by
  have hlen : cs.length = n * k := by rw [← A.repC_len hr, h.1]
  rcases h.2 with ⟨rfl, rfl⟩ | ⟨b, cap, cur, rfl, hb, hbb, hn, hcm, hcs, htake⟩
  · unfold A.rep
    have hcs : cs = [] := List.eq_nil_of_length_eq_zero (by simpa using hlen)
    subst hcs
    exact ⟨by simp, by simp, none, 0, 0, 0, rfl, Nat.le_refl _, .inl rfl, fun _ => rfl, by simp [A.repAt]⟩
  · unfold A.rep
    refine ⟨hlen, Nat.le_trans hn hcm, _, b, 0, cap, rfl, hn, .inr rfl, by simp, ?_⟩
    refine A.repAt_mk (E := ⟨D, [], []⟩) hr (fun j' u hu => ?_)
    have := h.cells (g := b) rfl j' u hu
    rw [add_at] at this
    exact hD b rfl _ u this
theorem SpecF.pub {P : Program} {f : Nat} {args : List A} {post : Nat → Nat → Nat → List A → A → Prop} (h : SpecF P f args post) : Spec P f [] args fun _ r => ∃ e k n cs r0, post e k n cs r0 ∧ r = pubA k n cs r0 := by
  refine ⟨h.1, fun w C β vals h0 h1 h2 h3 h4 h5 h6 => ?_⟩
  have hβ : β = [] := List.eq_nil_of_length_eq_zero (by simpa using h4.symm)
  subst hβ
  refine (h.2 w C vals h0 h1 h6).mono ?_
  rintro e w' ⟨et, k, n, cs, r, v, y, xs, C', rfl, hpost, kp, hC, hC', hnew, hnone, hown, hrep, hr⟩
  have hs : Sub C' (plus C w w') := fun ad u hc => by
    unfold plus
    split
    · rename_i hlt
      rcases hnew ad u hc with h7 | h7
      · exact h7
      · omega
    · exact hC' ad u hc
  refine ⟨[], _, v, rfl, ⟨et, k, n, cs, r, hpost, rfl⟩, kp, rfl, fun i b cs hb => by simp at hb, pubA_rep hs ?_ r hr⟩
  refine own_sl hown (A.repC.mono cs (E := ⟨C', [], []⟩) (F := ⟨plus C w w', [], []⟩) ⟨hs, fun _ _ h => h, fun _ _ h => h⟩ hrep) fun b hb o u hc => ?_
  have hlt := (hown.lt b hb).1
  show plus C w w' ⟨b, o, none⟩ = some u
  unfold plus
  rw [if_neg (by simp only; omega)]
  exact hc
end Go.Proofs.YtinjgckpmblffaaDoor.Vm
