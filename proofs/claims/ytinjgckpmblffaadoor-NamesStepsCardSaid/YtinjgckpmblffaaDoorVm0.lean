/- Abstract values: what a value reads as, in a reading of memory; monotone in all that grows. No program is named here. -/
import Derived.Test.YtinjgckpmblffaaDoorBase
import Derived.Test.YtinjgckpmblffaaDoorSer
namespace Go.Proofs.YtinjgckpmblffaaDoor.Vm
open Go.RowKit
set_option linter.unusedSimpArgs false
set_option linter.unusedVariables false
/-- A value that fits: no int out of its kind's range, no string that is too long. -/
def okV : Value → Prop
  | .int k n => k.min ≤ n ∧ n ≤ k.max
  | .string s => s.size ≤ maxLen
  | .agg _ => False
  | .tuple _ => False
  | _ => True
/-- Abstract values. dead: whatever; v: this very value; sl: a slice of n elements of k cells that nobody writes to; own: the own row g as it is now; orow: a pointer into an own row; box: a pointer into an own box; pp: a pointer to cells that nobody writes to; gp: a pointer into a package's variable; err: an interface value that is not nil; clo: a function value; agg: a struct; tup: some results. -/
inductive A where
  | dead
  | v (x : Value)
  | sl (k n : Nat) (cs : List A)
  | own (g : Nat)
  | orow (g off : Nat)
  | box (b off : Nat)
  | pp (cs : List A)
  | gp (g off : Nat)
  | err
  | clo (f : Nat) (caps : List A)
  | agg (l : List A)
  | tup (l : List A)
structure Env where
  C : Rd
  β : List Nat
  ρ : List Value
def Env.per (E : Env) : Env := ⟨E.C, [], []⟩
mutual
def A.rep : A → Env → Value → Prop
  | .dead, _, _ => True
  | .v x, _, y => y = x ∧ okV x
  | .sl k n cs, E, y => cs.length = n * k ∧ n ≤ maxLen ∧ ∃ p b off cap, y = .slice p n cap ∧ n ≤ cap ∧ (n = 0 ∨ p = some ⟨b, off, none⟩) ∧ (p = none → cap = 0) ∧ A.repAt cs E.per b off
  | .own g, E, y => E.ρ[g]? = some y
  | .orow g off, E, y => ∃ b n cap, E.ρ[g]? = some (.slice (some ⟨b, 0, none⟩) n cap) ∧ y = .pointer (some ⟨b, off, none⟩)
  | .box i off, E, y => ∃ b, E.β[i]? = some b ∧ y = .pointer (some ⟨b, off, none⟩)
  | .pp cs, E, y => ∃ b off, y = .pointer (some ⟨b, off, none⟩) ∧ A.repAt cs E.per b off
  | .gp g off, _, y => y = .pointer (some ⟨g, off, none⟩)
  | .err, _, y => ∃ t v, y = .iface t v
  | .clo f caps, E, y => ∃ us : Array Value, y = .func (.func f) #[] us ∧ A.repL caps E us.toList
  | .agg l, E, y => ∃ us : Array Value, y = .agg us ∧ A.repC l E us.toList
  | .tup l, E, y => ∃ us : Array Value, y = .tuple us ∧ A.repL l E us.toList
/-- The cells from there on. -/
def A.repAt : List A → Env → Nat → Nat → Prop
  | [], _, _, _ => True
  | a :: as, E, b, off => (∃ u, E.C ⟨b, off, none⟩ = some u ∧ u.oneCell' = true ∧ a.rep E u) ∧ A.repAt as E b (off + 1)
def A.repL : List A → Env → List Value → Prop
  | [], _, us => us = []
  | a :: as, E, us => ∃ u us', us = u :: us' ∧ a.rep E u ∧ A.repL as E us'
def A.repC : List A → Env → List Value → Prop
  | [], _, us => us = []
  | a :: as, E, us => ∃ u us', us = u :: us' ∧ u.oneCell' = true ∧ a.rep E u ∧ A.repC as E us'
end
structure Env.le (E F : Env) : Prop where
  C : Sub E.C F.C
  β : ∀ (i : Nat) (b : Nat), E.β[i]? = some b → F.β[i]? = some b
  ρ : ∀ (i : Nat) (b : Value), E.ρ[i]? = some b → F.ρ[i]? = some b
theorem Env.le.refl (E : Env) : E.le E := ⟨Sub.refl _, fun _ _ h => h, fun _ _ h => h⟩
theorem Env.le.trans {E F G : Env} (h : E.le F) (k : F.le G) : E.le G := ⟨h.C.trans k.C, fun i b e => k.β i b (h.β i b e), fun i b e => k.ρ i b (h.ρ i b e)⟩
theorem Env.le.per {E F : Env} (h : E.le F) : E.per.le F.per := ⟨h.C, fun _ _ h => h, fun _ _ h => h⟩
theorem Env.per_le (E : Env) : E.per.le E := ⟨Sub.refl _, fun _ _ h => by simp [Env.per] at h, fun _ _ h => by simp [Env.per] at h⟩
mutual
theorem A.rep.mono : ∀ (a : A) {E F : Env} {y : Value}, E.le F → a.rep E y → a.rep F y
  | .dead, _, _, _, _, _ => by unfold A.rep; trivial
  | .v x, _, _, _, _, h => by unfold A.rep at h ⊢; exact h
  | .sl k n cs, _, _, _, le, h => by
    unfold A.rep at h ⊢
    obtain ⟨h1, h2, p, b, off, cap, h3, h4, h6, h7, h8⟩ := h
    exact ⟨h1, h2, p, b, off, cap, h3, h4, h6, h7, A.repAt.mono cs le.per h8⟩
  | .own g, _, _, _, le, h => by unfold A.rep at h ⊢; exact le.ρ _ _ h
  | .orow g off, _, _, _, le, h => by
    unfold A.rep at h ⊢
    obtain ⟨b, n, cap, h1, h2⟩ := h
    exact ⟨b, n, cap, le.ρ _ _ h1, h2⟩
  | .box i off, _, _, _, le, h => by
    unfold A.rep at h ⊢
    obtain ⟨b, h1, h2⟩ := h
    exact ⟨b, le.β _ _ h1, h2⟩
  | .pp cs, _, _, _, le, h => by
    unfold A.rep at h ⊢
    obtain ⟨b, off, h1, h2⟩ := h
    exact ⟨b, off, h1, A.repAt.mono cs le.per h2⟩
  | .gp _ _, _, _, _, _, h => by unfold A.rep at h ⊢; exact h
  | .err, _, _, _, _, h => by unfold A.rep at h ⊢; exact h
  | .clo f caps, _, _, _, le, h => by
    unfold A.rep at h ⊢
    obtain ⟨us, h1, h2⟩ := h
    exact ⟨us, h1, A.repL.mono caps le h2⟩
  | .agg l, _, _, _, le, h => by
    unfold A.rep at h ⊢
    obtain ⟨us, h1, h2⟩ := h
    exact ⟨us, h1, A.repC.mono l le h2⟩
  | .tup l, _, _, _, le, h => by
    unfold A.rep at h ⊢
    obtain ⟨us, h1, h2⟩ := h
    exact ⟨us, h1, A.repL.mono l le h2⟩
theorem A.repAt.mono : ∀ (l : List A) {E F : Env} {b off : Nat}, E.le F → A.repAt l E b off → A.repAt l F b off
  | [], _, _, _, _, _, _ => by unfold A.repAt; trivial
  | a :: as, _, _, _, _, le, h => by
    unfold A.repAt at h ⊢
    obtain ⟨⟨u, h1, h2, h3⟩, h4⟩ := h
    exact ⟨⟨u, le.C _ _ h1, h2, A.rep.mono a le h3⟩, A.repAt.mono as le h4⟩
theorem A.repL.mono : ∀ (l : List A) {E F : Env} {us : List Value}, E.le F → A.repL l E us → A.repL l F us
  | [], _, _, _, _, h => by unfold A.repL at h ⊢; exact h
  | a :: as, _, _, _, le, h => by
    unfold A.repL at h ⊢
    obtain ⟨u, us', h1, h2, h3⟩ := h
    exact ⟨u, us', h1, A.rep.mono a le h2, A.repL.mono as le h3⟩
theorem A.repC.mono : ∀ (l : List A) {E F : Env} {us : List Value}, E.le F → A.repC l E us → A.repC l F us
  | [], _, _, _, _, h => by unfold A.repC at h ⊢; exact h
  | a :: as, _, _, _, le, h => by
    unfold A.repC at h ⊢
    obtain ⟨u, us', h1, h2, h3, h4⟩ := h
    exact ⟨u, us', h1, h2, A.rep.mono a le h3, A.repC.mono as le h4⟩
end
theorem A.rep_dead (E : Env) (y : Value) : A.dead.rep E y := by unfold A.rep; trivial
theorem A.rep_v {x : Value} {E : Env} (h : okV x) : (A.v x).rep E x := by unfold A.rep; exact ⟨rfl, h⟩
theorem A.rep_v_iff {x y : Value} {E : Env} : (A.v x).rep E y ↔ y = x ∧ okV x := by unfold A.rep; rfl
theorem oneCell_of {x : Value} (h : okV x) : x.oneCell' = true := by cases x <;> simp [okV, Value.oneCell'] at h ⊢
/-! ### Lists -/
section
variable {E : Env}
theorem A.repL_len : ∀ {l : List A} {us : List Value}, A.repL l E us → us.length = l.length
  | [], _, h => by unfold A.repL at h; simp [h]
  | a :: as, us, h => by
    unfold A.repL at h
    obtain ⟨u, us', rfl, _, h3⟩ := h
    simp [A.repL_len h3]
theorem A.repL_get : ∀ {l : List A} {us : List Value}, A.repL l E us → ∀ {i : Nat} {a : A}, l[i]? = some a → ∃ u, us[i]? = some u ∧ a.rep E u
  | [], _, _, i, a, ha => by simp at ha
  | x :: as, us, h, i, a, ha => by
    unfold A.repL at h
    obtain ⟨u, us', rfl, h2, h3⟩ := h
    cases i with
    | zero => simp at ha; subst ha; exact ⟨u, rfl, h2⟩
    | succ i => simpa using A.repL_get h3 (by simpa using ha)
theorem A.repL_getD {l : List A} {us : List Value} (h : A.repL l E us) (i : Nat) (d : Value) : (l.getD i .dead).rep E (us.getD i d) := by
  cases hi : l[i]? with
  | none => simp [List.getD_eq_getElem?_getD, hi]; exact A.rep_dead _ _
  | some a =>
    obtain ⟨u, hu, ha⟩ := A.repL_get h hi
    simp [List.getD_eq_getElem?_getD, hi, hu, ha]
theorem A.repL_set : ∀ {l : List A} {us : List Value}, A.repL l E us → ∀ (i : Nat) {a : A} {u : Value}, a.rep E u → A.repL (l.set i a) E (us.set i u)
  | [], _, h, i, a, u, _ => by unfold A.repL at h; subst h; simp [A.repL]
  | x :: as, us, h, i, a, u, ha => by
    unfold A.repL at h
    obtain ⟨v, us', rfl, h2, h3⟩ := h
    cases i with
    | zero => simp only [List.set_cons_zero]; unfold A.repL; exact ⟨_, _, rfl, ha, h3⟩
    | succ i => simp only [List.set_cons_succ]; unfold A.repL; exact ⟨_, _, rfl, h2, A.repL_set h3 i ha⟩
theorem A.repL_append : ∀ {l m : List A} {us vs : List Value}, A.repL l E us → A.repL m E vs → A.repL (l ++ m) E (us ++ vs)
  | [], m, us, vs, h, k => by unfold A.repL at h; subst h; simpa using k
  | a :: as, m, us, vs, h, k => by
    unfold A.repL at h
    obtain ⟨u, us', rfl, h2, h3⟩ := h
    simp only [List.cons_append, A.repL]
    exact ⟨_, _, rfl, h2, A.repL_append h3 k⟩
theorem A.repL_map {α : Type} (x : List α) (f : α → A) (g : α → Value) (h : ∀ a ∈ x, (f a).rep E (g a)) : A.repL (x.map f) E (x.map g) := by
  induction x with
  | nil => simp [A.repL]
  | cons a as ih =>
    simp only [List.map_cons, A.repL]
    exact ⟨_, _, rfl, h a (by simp), ih (fun b hb => h b (by simp [hb]))⟩
theorem A.repC_L : ∀ {l : List A} {us : List Value}, A.repC l E us → A.repL l E us
  | [], _, h => by unfold A.repC at h; unfold A.repL; exact h
  | a :: as, us, h => by
    unfold A.repC at h; unfold A.repL
    obtain ⟨u, us', e, _, h2, h3⟩ := h
    exact ⟨u, us', e, h2, A.repC_L h3⟩
theorem A.repC_one : ∀ {l : List A} {us : List Value}, A.repC l E us → ∀ u ∈ us, u.oneCell' = true
  | [], _, h, u, hu => by unfold A.repC at h; subst h; cases hu
  | a :: as, us, h, u, hu => by
    unfold A.repC at h
    obtain ⟨v, us', rfl, h1, h2, h3⟩ := h
    rcases List.mem_cons.1 hu with rfl | hu
    · exact h1
    · exact A.repC_one h3 u hu
theorem A.repC_mk : ∀ {l : List A} {us : List Value}, A.repL l E us → (∀ u ∈ us, u.oneCell' = true) → A.repC l E us
  | [], _, h, _ => by unfold A.repL at h; unfold A.repC; exact h
  | a :: as, us, h, k => by
    unfold A.repL at h; unfold A.repC
    obtain ⟨u, us', rfl, h2, h3⟩ := h
    exact ⟨u, us', rfl, k u (by simp), h2, A.repC_mk h3 (fun v hv => k v (by simp [hv]))⟩
theorem A.repC_len {l : List A} {us : List Value} (h : A.repC l E us) : us.length = l.length := A.repL_len (A.repC_L h)
theorem A.repC_set {l : List A} {us : List Value} (h : A.repC l E us) (i : Nat) {a : A} {u : Value} (ha : a.rep E u) (h1 : u.oneCell' = true) : A.repC (l.set i a) E (us.set i u) :=
  A.repC_mk (A.repL_set (A.repC_L h) i ha) (fun v hv => by
    rcases List.mem_or_eq_of_mem_set hv with h2 | rfl
    · exact A.repC_one h v h2
    · exact h1)
theorem A.repC_append {l m : List A} {us vs : List Value} (h : A.repC l E us) (k : A.repC m E vs) : A.repC (l ++ m) E (us ++ vs) :=
  A.repC_mk (A.repL_append (A.repC_L h) (A.repC_L k)) (fun u hu => by
    rcases List.mem_append.1 hu with h2 | h2
    · exact A.repC_one h u h2
    · exact A.repC_one k u h2)
theorem A.repL_drop : ∀ {l : List A} {us : List Value} (n : Nat), A.repL l E us → A.repL (l.drop n) E (us.drop n)
  | _, _, 0, h => by simpa using h
  | [], us, n + 1, h => by unfold A.repL at h; subst h; simp [A.repL]
  | a :: as, us, n + 1, h => by
    unfold A.repL at h
    obtain ⟨u, us', rfl, _, h3⟩ := h
    simpa using A.repL_drop n h3
theorem A.repL_take : ∀ {l : List A} {us : List Value} (n : Nat), A.repL l E us → A.repL (l.take n) E (us.take n)
  | _, _, 0, h => by simp [A.repL]
  | [], us, n + 1, h => by unfold A.repL at h; subst h; simp [A.repL]
  | a :: as, us, n + 1, h => by
    unfold A.repL at h
    obtain ⟨u, us', rfl, h2, h3⟩ := h
    simp only [List.take_succ_cons, A.repL]
    exact ⟨_, _, rfl, h2, A.repL_take n h3⟩
theorem A.repC_drop {l : List A} {us : List Value} (n : Nat) (h : A.repC l E us) : A.repC (l.drop n) E (us.drop n) :=
  A.repC_mk (A.repL_drop n (A.repC_L h)) (fun u hu => A.repC_one h u (List.mem_of_mem_drop hu))
theorem A.repC_take {l : List A} {us : List Value} (n : Nat) (h : A.repC l E us) : A.repC (l.take n) E (us.take n) :=
  A.repC_mk (A.repL_take n (A.repC_L h)) (fun u hu => A.repC_one h u (List.mem_of_mem_take hu))
/-! ### Cells in memory -/
theorem A.repAt_drop : ∀ {l : List A} {b off : Nat} (n : Nat), A.repAt l E b off → A.repAt (l.drop n) E b (off + n)
  | _, _, _, 0, h => by simpa using h
  | [], _, _, n + 1, h => by simp [A.repAt]
  | a :: as, b, off, n + 1, h => by
    unfold A.repAt at h
    have := A.repAt_drop n h.2
    rw [show off + (n + 1) = off + 1 + n by omega]
    simpa using this
theorem A.repAt_take : ∀ {l : List A} {b off : Nat} (n : Nat), A.repAt l E b off → A.repAt (l.take n) E b off
  | _, _, _, 0, h => by simp [A.repAt]
  | [], _, _, n + 1, h => by simp [A.repAt]
  | a :: as, b, off, n + 1, h => by
    simp only [List.take_succ_cons]
    unfold A.repAt at h ⊢
    exact ⟨h.1, A.repAt_take n h.2⟩
/-- The cells of a row in memory, as a list of values. -/
theorem A.repAt_vals : ∀ {l : List A} {b off : Nat}, A.repAt l E b off → ∃ us : List Value, A.repC l E us ∧ ∀ j u, us[j]? = some u → E.C ⟨b, off + j, none⟩ = some u
  | [], _, _, _ => ⟨[], by simp [A.repC], by simp⟩
  | a :: as, b, off, h => by
    unfold A.repAt at h
    obtain ⟨⟨u, h1, h2, h3⟩, h4⟩ := h
    obtain ⟨us, k1, k2⟩ := A.repAt_vals h4
    refine ⟨u :: us, by unfold A.repC; exact ⟨u, us, rfl, h2, h3, k1⟩, fun j x hj => ?_⟩
    cases j with
    | zero => simp at hj; subst hj; exact h1
    | succ j =>
      have := k2 j x (by simpa using hj)
      rw [show off + (j + 1) = off + 1 + j by omega]; exact this
theorem A.repAt_mk : ∀ {l : List A} {us : List Value} {b off : Nat}, A.repC l E us → (∀ j u, us[j]? = some u → E.C ⟨b, off + j, none⟩ = some u) → A.repAt l E b off
  | [], us, _, _, _, _ => by simp [A.repAt]
  | a :: as, us, b, off, h, hc => by
    unfold A.repC at h
    obtain ⟨u, us', rfl, h1, h2, h3⟩ := h
    unfold A.repAt
    refine ⟨⟨u, by simpa using hc 0 u (by simp), h1, h2⟩, A.repAt_mk h3 fun j x hj => ?_⟩
    have := hc (j + 1) x (by simpa using hj)
    rw [show off + 1 + j = off + (j + 1) by omega]; exact this
end
/-! ### The packages' variables that are read -/
def globs : List (Nat × List A) := [(0, (List.range 20).map fun i => .v (.int .u64 ((10 ^ i : Nat) : Int))), (2, [.err]), (3, [.err])]
def globAt : List (Nat × List A) → Nat → Option (List A)
  | [], _ => none
  | (i, cs) :: r, g => match Nat.beq i g with | true => some cs | false => globAt r g
/-- The blocks of these variables are as long as is said of them. -/
def Gsz (w : World) : Prop := ∀ x ∈ globs, ∃ cs T sp, w.heap[x.1]? = some (.cells cs T sp) ∧ cs.size = x.2.length
structure Gok (C : Rd) (w : World) : Prop where
  cs : ∀ x ∈ globs, x.2 ≠ [] ∧ A.repAt x.2 ⟨C, [], []⟩ x.1 0
  sz : Gsz w
theorem Gok.mono {C D : Rd} {w : World} (h : Gok C w) (k : Sub C D) : Gok D w := ⟨fun x hx => ⟨(h.cs x hx).1, A.repAt.mono x.2 (E := ⟨C, [], []⟩) (F := ⟨D, [], []⟩) ⟨k, fun _ _ h => h, fun _ _ h => h⟩ (h.cs x hx).2⟩, h.sz⟩
theorem globAt_mem : ∀ {l : List (Nat × List A)} {g : Nat} {cs : List A}, globAt l g = some cs → (g, cs) ∈ l
  | [], _, _, h => by simp [globAt] at h
  | (i, ds) :: r, g, cs, h => by
    unfold globAt at h
    split at h
    · rename_i hb
      cases h
      rw [Nat.eq_of_beq_eq_true hb]; simp
    · exact List.mem_cons_of_mem _ (globAt_mem h)
theorem Gok.at {C : Rd} {w : World} (h : Gok C w) {g : Nat} {cs : List A} (hg : globAt globs g = some cs) : A.repAt cs ⟨C, [], []⟩ g 0 := (h.cs _ (globAt_mem hg)).2
end Go.Proofs.YtinjgckpmblffaaDoor.Vm
