/- What a function is said to do; the operations that make memory, write it, or call. -/
import Derived.Test.YtinjgckpmblffaaDoorVm5
namespace Go.Proofs.YtinjgckpmblffaaDoor.Vm
open Go.RowKit
set_option linter.unusedSimpArgs false
set_option linter.unusedVariables false
mutual
/-- What fits in a value that reads so. -/
def okA : A → Prop
  | .v x => okV x
  | .sl k n cs => cs.length = n * k ∧ n ≤ maxLen ∧ okL cs
  | .pp cs => okL cs
  | .agg l => okL l
  | .tup l => okL l
  | _ => True
def okL : List A → Prop
  | [] => True
  | a :: r => okA a ∧ okL r
end
mutual
theorem okA_rep : ∀ (a : A) {E : Env} {y : Value}, a.rep E y → okA a
  | .dead, _, _, _ => by unfold okA; trivial
  | .v x, _, _, h => by unfold okA; exact (A.rep_v_iff.1 h).2
  | .sl k n cs, _, _, h => by
    obtain ⟨h1, h2, p, b, off, cap, _, _, _, _, h3⟩ := sl_parts h
    unfold okA; exact ⟨h1, h2, okAt cs h3⟩
  | .own g, _, _, _ => by unfold okA; trivial
  | .orow g o, _, _, _ => by unfold okA; trivial
  | .box b o, _, _, _ => by unfold okA; trivial
  | .pp cs, _, _, h => by
    unfold A.rep at h
    obtain ⟨b, off, _, h⟩ := h
    unfold okA; exact okAt cs h
  | .gp _ _, _, _, _ => by unfold okA; trivial
  | .err, _, _, _ => by unfold okA; trivial
  | .clo f l, _, _, _ => by unfold okA; trivial
  | .agg l, _, _, h => by
    unfold A.rep at h
    obtain ⟨us, _, h⟩ := h
    unfold okA; exact okL_rep l (A.repC_L h)
  | .tup l, _, _, h => by
    unfold A.rep at h
    obtain ⟨us, _, h⟩ := h
    unfold okA; exact okL_rep l h
theorem okL_rep : ∀ (l : List A) {E : Env} {us : List Value}, A.repL l E us → okL l
  | [], _, _, _ => by unfold okL; trivial
  | a :: r, _, us, h => by
    unfold A.repL at h
    obtain ⟨u, us', _, h1, h2⟩ := h
    unfold okL; exact ⟨okA_rep a h1, okL_rep r h2⟩
theorem okAt : ∀ (l : List A) {E : Env} {b off : Nat}, A.repAt l E b off → okL l
  | [], _, _, _, _ => by unfold okL; trivial
  | a :: r, _, _, _, h => by
    unfold A.repAt at h
    obtain ⟨⟨u, _, _, h1⟩, h2⟩ := h
    unfold okL; exact ⟨okA_rep a h1, okAt r h2⟩
end
theorem okL_mem : ∀ {l : List A} {a : A}, okL l → a ∈ l → okA a
  | b :: r, a, h, ha => by
    unfold okL at h
    rcases List.mem_cons.1 ha with rfl | ha
    · exact h.1
    · exact okL_mem h.2 ha
theorem okA_int {n : Int} : okA (.v (.int .i64 n)) ↔ -9223372036854775808 ≤ n ∧ n ≤ 9223372036854775807 := by unfold okA; exact okV_int
theorem okA_str {s : ByteArray} : okA (.v (.string s)) ↔ s.size ≤ maxLen := by unfold okA; exact Iff.rfl
/-- The memory that was read, and what is new. -/
def plus (C : Rd) (w w' : World) : Rd := fun ad => if ad.block < w.heap.size then C ad else w'.cell? ad
/-- What a function does: boxes and arguments in; boxes and a result out. -/
def Spec (P : Program) (f : Nat) (ins : List (List A)) (args : List A) (post : List (List A) → A → Prop) : Prop :=
  (∀ vs w, (callFunc f vs).run P w = .ok (.enter f vs) w) ∧
  ∀ (w : World) (C : Rd) (β : List Nat) (vals : List Value), Gok C w → Sub C w.cell? → β.Nodup → (∀ b ∈ β, ∀ o sp, C ⟨b, o, sp⟩ = none) → ins.length = β.length →
    (∀ (i b : Nat) (cs : List A), β[i]? = some b → ins[i]? = some cs → boxAt w ⟨C, β, []⟩ b cs) → A.repL args ⟨C, β, []⟩ vals →
    Calls P f vals.toArray w (fun e w' => ∃ outs r v, e = .returned v ∧ post outs r ∧ Keeps β w w' ∧ outs.length = β.length ∧
      (∀ (i b : Nat) (cs : List A), β[i]? = some b → outs[i]? = some cs → boxAt w' ⟨plus C w w', β, []⟩ b cs) ∧ r.rep ⟨plus C w w', β, []⟩ v)
theorem Spec.mono {P : Program} {f : Nat} {ins : List (List A)} {args : List A} {post post' : List (List A) → A → Prop} (h : Spec P f ins args post) (hp : ∀ o r, post o r → post' o r) : Spec P f ins args post' :=
  ⟨h.1, fun w C β vals h0 h1 h2 h3 h4 h5 h6 => (h.2 w C β vals h0 h1 h2 h3 h4 h5 h6).mono fun e w' ⟨outs, r, v, k1, k2, k3⟩ => ⟨outs, r, v, k1, hp _ _ k2, k3⟩⟩
/-! ### What a callee is handed -/
def idx (X : List Nat) (b : Nat) : Option Nat := match X with
  | [] => none
  | x :: r => match Nat.beq x b with | true => some 0 | false => match idx r b with | some j => some (j + 1) | none => none
mutual
def ren (X : List Nat) (rw : List Row) : A → Option A
  | .dead => some .dead
  | .v x => some (.v x)
  | .sl k n cs => some (.sl k n cs)
  | .pp cs => some (.pp cs)
  | .gp g o => some (.gp g o)
  | .err => some .err
  | .own g => match rw[g]? with
    | some (.pub k n cs) => some (.sl k n cs)
    | _ => none
  | .orow _ _ => none
  | .box b off => match idx X b with
    | some j => some (.box j off)
    | none => none
  | .clo f caps => match renL X rw caps with
    | some l => some (.clo f l)
    | none => none
  | .agg l => match renL X rw l with
    | some l => some (.agg l)
    | none => none
  | .tup l => match renL X rw l with
    | some l => some (.tup l)
    | none => none
def renL (X : List Nat) (rw : List Row) : List A → Option (List A)
  | [] => some []
  | a :: r => match ren X rw a with
    | some a => match renL X rw r with
      | some r => some (a :: r)
      | none => none
    | none => none
end
def renLL (X : List Nat) (rw : List Row) : List (List A) → Option (List (List A))
  | [] => some []
  | a :: r => match renL X rw a with
    | some a => match renLL X rw r with
      | some r => some (a :: r)
      | none => none
    | none => none
mutual
def back (X : List Nat) : A → A
  | .box j off => .box (X.getD j 0) off
  | .clo f caps => .clo f (backL X caps)
  | .agg l => .agg (backL X l)
  | .tup l => .tup (backL X l)
  | .own g => .own g
  | .gp g o => .gp g o
  | .err => .err
  | .orow g o => .orow g o
  | .dead => .dead
  | .v x => .v x
  | .sl k n cs => .sl k n cs
  | .pp cs => .pp cs
def backL (X : List Nat) : List A → List A
  | [] => []
  | a :: r => back X a :: backL X r
end
/-- Some rows are appended to no more. -/
def Pubs (rw rw' : List Row) : Prop := rw'.length = rw.length ∧ ∀ g : Nat, rw'[g]? = rw[g]? ∨ ∃ e k n cs, rw[g]? = some (.live e k n cs) ∧ rw'[g]? = some (.pub k n cs)
theorem Pubs.refl (rw : List Row) : Pubs rw rw := ⟨rfl, fun _ => .inl rfl⟩
def pubRow : Row → Row
  | .live e k n cs => .pub k n cs
  | r => r
def pubRows : List Row → List Nat → List Row
  | rw, [] => rw
  | rw, g :: r => pubRows (rw.modify g pubRow) r
theorem Pubs.trans {a b c : List Row} (h : Pubs a b) (k : Pubs b c) : Pubs a c := by
  refine ⟨k.1.trans h.1, fun g => ?_⟩
  rcases k.2 g with h1 | ⟨e, k', n, cs, h1, h2⟩
  · rcases h.2 g with h2 | ⟨e, k', n, cs, h3, h4⟩
    · exact .inl (h1.trans h2)
    · exact .inr ⟨e, k', n, cs, h3, h1.trans h4⟩
  · rcases h.2 g with h3 | ⟨e', k'', n', cs', h3, h4⟩
    · exact .inr ⟨e, k', n, cs, h3.symm.trans h1, h2⟩
    · rw [h1] at h4; cases h4
theorem pubs_modify (rw : List Row) (g : Nat) : Pubs rw (rw.modify g pubRow) := by
  refine ⟨by simp, fun j => ?_⟩
  rw [List.getElem?_modify]
  by_cases h : g = j
  · subst h
    cases hr : rw[g]? with
    | none => left; simp
    | some r =>
      cases r with
      | live e k n cs => right; exact ⟨e, k, n, cs, rfl, by simp [pubRow]⟩
      | pub k n cs => left; simp [pubRow]
      | gone => left; simp [pubRow]
  · left; simp [h]
theorem pubs_rows : ∀ (ids : List Nat) (rw : List Row), Pubs rw (pubRows rw ids)
  | [], rw => Pubs.refl rw
  | g :: r, rw => (pubs_modify rw g).trans (pubs_rows r _)
section
variable {w0 : World} {C0 : Rd} {β0 : List Nat} {bx : List (List A)} {rw rw' : List Row} {w w' : World} {E : Env}
theorem Hp.pub1 (h : Hp w0 C0 β0 bx rw w E) (g : Nat) : ∃ C', Hp w0 C0 β0 bx (rw.modify g pubRow) w ⟨C', E.β, E.ρ⟩ ∧ E.le ⟨C', E.β, E.ρ⟩ := by
  cases hr : rw[g]? with
  | none =>
    refine ⟨E.C, ?_, Env.le.refl E⟩
    rw [List.modify_eq_self (by simpa using hr)]; exact h
  | some r =>
    have hm : ∀ r', pubRow r = r' → rw.modify g pubRow = rw.set g r' := fun r' e => by
      rw [← e]
      apply List.ext_getElem?
      intro j
      rw [List.getElem?_modify, List.getElem?_set]
      by_cases hj : g = j
      · subst hj
        have e2 := List.getElem?_eq_some_iff.1 hr
        simp [e2.1, e2.2]
      · simp [hj]
    have hs : pubRow r = r → rw.modify g pubRow = rw := fun e => by
      rw [hm r e]
      apply List.ext_getElem?
      intro j
      rw [List.getElem?_set]
      by_cases hj : g = j
      · subst hj
        have e2 := List.getElem?_eq_some_iff.1 hr
        simp [e2.1, e2.2]
      · simp [hj]
    cases r with
    | live e k n cs => rw [hm _ rfl]; exact h.pub hr
    | pub k n cs => rw [hs rfl]; exact ⟨E.C, h, Env.le.refl E⟩
    | gone => rw [hs rfl]; exact ⟨E.C, h, Env.le.refl E⟩
theorem Hp.pubs : ∀ (ids : List Nat) {rw : List Row} {E : Env}, Hp w0 C0 β0 bx rw w E → ∃ C', Hp w0 C0 β0 bx (pubRows rw ids) w ⟨C', E.β, E.ρ⟩ ∧ E.le ⟨C', E.β, E.ρ⟩
  | [], rw, E, h => ⟨E.C, h, Env.le.refl E⟩
  | g :: r, rw, E, h => by
    obtain ⟨C1, h1, l1⟩ := h.pub1 g
    obtain ⟨C2, h2, l2⟩ := Hp.pubs r h1
    exact ⟨C2, h2, l1.trans l2⟩
theorem idx_get : ∀ {X : List Nat} {b j : Nat}, idx X b = some j → X[j]? = some b
  | [], _, _, h => by simp [idx] at h
  | x :: r, b, j, h => by
    unfold idx at h
    split at h
    · rename_i hb
      cases h
      simpa using Nat.eq_of_beq_eq_true hb
    · split at h
      · rename_i j' hj
        cases h
        simpa using idx_get hj
      · cases h
/-- The callee's boxes, out of the caller's. -/
def Picks (E : Env) (X Y : List Nat) : Prop := ∀ j i : Nat, X[j]? = some i → ∃ b, Y[j]? = some b ∧ E.β[i]? = some b
variable {X Y : List Nat}
mutual
theorem ren_rep (hp : Hp w0 C0 β0 bx rw w E) (hY : Picks E X Y) : ∀ (a : A) {a' : A} {y : Value}, ren X rw a = some a' → a.rep E y → a'.rep ⟨E.C, Y, []⟩ y
  | .dead, a', y, h, _ => by simp [ren] at h; subst h; exact A.rep_dead _ _
  | .v x, a', y, h, hr => by simp [ren] at h; subst h; unfold A.rep at hr ⊢; exact hr
  | .sl k n cs, a', y, h, hr => by simp [ren] at h; subst h; unfold A.rep at hr ⊢; exact hr
  | .pp cs, a', y, h, hr => by simp [ren] at h; subst h; unfold A.rep at hr ⊢; exact hr
  | .own g, a', y, h, hr => by
    unfold ren at h
    split at h
    · rename_i k n cs hg
      cases h
      unfold A.rep at hr
      have := hp.rws g _ y hg hr
      have h2 : (A.sl k n cs).rep E y := this
      unfold A.rep at h2 ⊢
      exact h2
    · cases h
  | .orow _ _, a', y, h, _ => by simp [ren] at h
  | .box b off, a', y, h, hr => by
    unfold ren at h
    split at h
    · rename_i j hj
      cases h
      unfold A.rep at hr ⊢
      obtain ⟨bb, h1, h2⟩ := hr
      obtain ⟨b2, h3, h4⟩ := hY j b (idx_get hj)
      have : b2 = bb := Option.some.inj (h4.symm.trans h1)
      subst this
      exact ⟨b2, h3, h2⟩
    · cases h
  | .gp _ _, a', y, h, hr => by unfold ren at h; cases h; unfold A.rep at hr ⊢; exact hr
  | .err, a', y, h, hr => by unfold ren at h; cases h; unfold A.rep at hr ⊢; exact hr
  | .clo f caps, a', y, h, hr => by
    unfold ren at h
    split at h
    · rename_i l hl
      cases h
      unfold A.rep at hr ⊢
      obtain ⟨us, h1, h2⟩ := hr
      exact ⟨us, h1, renL_rep hp hY caps hl h2⟩
    · cases h
  | .agg l, a', y, h, hr => by
    unfold ren at h
    split at h
    · rename_i l' hl
      cases h
      unfold A.rep at hr ⊢
      obtain ⟨us, h1, h2⟩ := hr
      exact ⟨us, h1, A.repC_mk (renL_rep hp hY l hl (A.repC_L h2)) (A.repC_one h2)⟩
    · cases h
  | .tup l, a', y, h, hr => by
    unfold ren at h
    split at h
    · rename_i l' hl
      cases h
      unfold A.rep at hr ⊢
      obtain ⟨us, h1, h2⟩ := hr
      exact ⟨us, h1, renL_rep hp hY l hl h2⟩
    · cases h
theorem renL_rep (hp : Hp w0 C0 β0 bx rw w E) (hY : Picks E X Y) : ∀ (l : List A) {l' : List A} {us : List Value}, renL X rw l = some l' → A.repL l E us → A.repL l' ⟨E.C, Y, []⟩ us
  | [], l', us, h, hr => by simp [renL] at h; subst h; unfold A.repL at hr ⊢; exact hr
  | a :: r, l', us, h, hr => by
    unfold renL at h
    split at h
    · rename_i a1 ha
      split at h
      · rename_i r1 hr1
        cases h
        unfold A.repL at hr ⊢
        obtain ⟨u, us', rfl, h1, h2⟩ := hr
        exact ⟨u, us', rfl, ren_rep hp hY a ha h1, renL_rep hp hY r hr1 h2⟩
      · cases h
    · cases h
end
theorem renLL_get : ∀ {l l' : List (List A)}, renLL X rw l = some l' → l'.length = l.length ∧ ∀ (j : Nat) (c : List A), l'[j]? = some c → ∃ c0, l[j]? = some c0 ∧ renL X rw c0 = some c
  | [], l', h => by simp [renLL] at h; subst h; simp
  | a :: r, l', h => by
    unfold renLL at h
    split at h
    · rename_i a1 ha
      split at h
      · rename_i r1 hr1
        cases h
        obtain ⟨h1, h2⟩ := renLL_get hr1
        refine ⟨by simp [h1], fun j c hj => ?_⟩
        cases j with
        | zero => simp at hj; subst hj; exact ⟨a, rfl, ha⟩
        | succ j => simpa using h2 j c (by simpa using hj)
      · cases h
    · cases h
mutual
theorem back_rep {C' : Rd} {ρ' : List Value} (hY : Picks E X Y) (hl : Y.length = X.length) : ∀ (a : A) {y : Value}, a.rep ⟨C', Y, []⟩ y → (back X a).rep ⟨C', E.β, ρ'⟩ y
  | .dead, y, _ => by unfold back; exact A.rep_dead _ _
  | .v x, y, h => by unfold back; unfold A.rep at h ⊢; exact h
  | .sl k n cs, y, h => by unfold back; unfold A.rep at h ⊢; exact h
  | .pp cs, y, h => by unfold back; unfold A.rep at h ⊢; exact h
  | .own g, y, h => by unfold A.rep at h; simp at h
  | .orow g o, y, h => by unfold A.rep at h; obtain ⟨_, _, _, h, _⟩ := h; simp at h
  | .box j off, y, h => by
    unfold back
    unfold A.rep at h ⊢
    obtain ⟨b, h1, h2⟩ := h
    have hj : j < X.length := by rw [← hl]; exact (List.getElem?_eq_some_iff.1 h1).1
    obtain ⟨b2, h3, h4⟩ := hY j X[j] (by simp [hj])
    have : b2 = b := Option.some.inj (h3.symm.trans h1)
    subst this
    exact ⟨b2, by simpa [List.getD_eq_getElem?_getD, hj] using h4, h2⟩
  | .gp _ _, y, h => by unfold back; unfold A.rep at h ⊢; exact h
  | .err, y, h => by unfold back; unfold A.rep at h ⊢; exact h
  | .clo f caps, y, h => by
    unfold back
    unfold A.rep at h ⊢
    obtain ⟨us, h1, h2⟩ := h
    exact ⟨us, h1, backL_rep hY hl caps h2⟩
  | .agg l, y, h => by
    unfold back
    unfold A.rep at h ⊢
    obtain ⟨us, h1, h2⟩ := h
    exact ⟨us, h1, A.repC_mk (backL_rep hY hl l (A.repC_L h2)) (A.repC_one h2)⟩
  | .tup l, y, h => by
    unfold back
    unfold A.rep at h ⊢
    obtain ⟨us, h1, h2⟩ := h
    exact ⟨us, h1, backL_rep hY hl l h2⟩
theorem backL_rep {C' : Rd} {ρ' : List Value} (hY : Picks E X Y) (hl : Y.length = X.length) : ∀ (l : List A) {us : List Value}, A.repL l ⟨C', Y, []⟩ us → A.repL (backL X l) ⟨C', E.β, ρ'⟩ us
  | [], us, h => by unfold backL; unfold A.repL at h ⊢; exact h
  | a :: r, us, h => by
    unfold backL
    unfold A.repL at h ⊢
    obtain ⟨u, us', h1, h2, h3⟩ := h
    exact ⟨u, us', h1, back_rep hY hl a h2, backL_rep hY hl r h3⟩
end
end
end Go.Proofs.YtinjgckpmblffaaDoor.Vm
