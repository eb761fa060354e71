/- Trees, strings, ints and programs as abstract values; contracts that were proved otherwise. -/
import Derived.Test.YtlmdmmikocbmlaaVmTab
import Derived.Test.YtlmdmmikocbmlaaFn9
import Derived.Test.YtlmdmmikocbmlaaFn10
import Derived.Test.YtlmdmmikocbmlaaFn4
namespace Go.Proofs.Ytlmdmmikocbmlaa.Vm
open Go.RowKit
set_option linter.unusedSimpArgs false
set_option linter.unusedVariables false
def strsA (l : List ByteArray) : List A := l.map fun x => .v (.string x)
def intsA (l : List Int) : List A := l.map fun x => .v (.int .i64 x)
def boolA (b : Bool) : A := .v (.bool b)
def intA (n : Int) : A := .v (.int .i64 n)
mutual
def ndL : Nd → List A
  | .mk k n s kids => [.v (.int .i64 k), .v (.int .i64 n), .v (.string s), .sl 4 kids.length (ndsL kids)]
def ndsL : List Nd → List A
  | [] => []
  | t :: ts => ndL t ++ ndsL ts
end
theorem ndL_eq (t : Nd) : ndL t = [.v (.int .i64 t.k), .v (.int .i64 t.n), .v (.string t.s), .sl 4 t.kids.length (ndsL t.kids)] := by cases t; simp [ndL, Nd.k, Nd.n, Nd.s, Nd.kids]
theorem ndL_len (t : Nd) : (ndL t).length = 4 := by rw [ndL_eq]; rfl
theorem ndsL_flat : ∀ l : List Nd, ndsL l = l.flatMap ndL
  | [] => by simp [ndsL]
  | t :: ts => by simp [ndsL, ndsL_flat ts]
theorem rowOf_nds (l : List Nd) (i : Nat) (hi : i < l.length) : rowOf 4 i (ndsL l) = ndL l[i] := by rw [ndsL_flat]; exact rowOf_flat ndL ndL_len l i hi
theorem rowOf_nds' (l : List Nd) (i : Nat) (hi : i < l.length) : rowOf 4 i (ndsL l) = [.v (.int .i64 l[i].k), .v (.int .i64 l[i].n), .v (.string l[i].s), .sl 4 l[i].kids.length (ndsL l[i].kids)] := by rw [rowOf_nds l i hi, ndL_eq]
theorem rowOf_strs (l : List ByteArray) (i : Nat) (hi : i < l.length) : rowOf 1 i (strsA l) = [.v (.string l[i])] := rowOf_map _ l i hi
theorem rowOf_ints (l : List Int) (i : Nat) (hi : i < l.length) : rowOf 1 i (intsA l) = [.v (.int .i64 l[i])] := rowOf_map _ l i hi
mutual
/-- No node has very many kids. -/
def smallN : Nd → Prop
  | .mk _ _ _ kids => kids.length ≤ 1000000000 ∧ smallNs kids
def smallNs : List Nd → Prop
  | [] => True
  | t :: ts => smallN t ∧ smallNs ts
end
theorem smallNs_mem : ∀ {l : List Nd} {t : Nd}, smallNs l → t ∈ l → smallN t
  | x :: r, t, h, ht => by
    unfold smallNs at h
    rcases List.mem_cons.1 ht with rfl | ht
    · exact h.1
    · exact smallNs_mem h.2 ht
theorem smallNs_of : ∀ {l : List Nd}, (∀ t ∈ l, smallN t) → smallNs l
  | [], _ => by unfold smallNs; trivial
  | x :: r, h => by unfold smallNs; exact ⟨h x (by simp), smallNs_of (fun t ht => h t (by simp [ht]))⟩
theorem repAt_append {E : Env} {b : Nat} : ∀ {l m : List A} {off : Nat}, A.repAt (l ++ m) E b off ↔ A.repAt l E b off ∧ A.repAt m E b (off + l.length)
  | [], m, off => by simp [A.repAt]
  | a :: r, m, off => by
    simp only [List.cons_append, A.repAt]
    rw [repAt_append (l := r)]
    simp only [List.length_cons, Nat.add_assoc, Nat.add_comm 1]
    constructor
    · rintro ⟨h1, h2, h3⟩; exact ⟨⟨h1, h2⟩, h3⟩
    · rintro ⟨⟨h1, h2⟩, h3⟩; exact ⟨h1, h2, h3⟩
theorem rep_vi {E : Env} {n : Int} {u : Value} : (A.v (.int .i64 n)).rep E u ↔ u = .int .i64 n ∧ (-9223372036854775808 ≤ n ∧ n ≤ 9223372036854775807) := by
  rw [A.rep_v_iff]
  constructor
  · rintro ⟨h1, h2⟩; exact ⟨h1, okV_int.1 h2⟩
  · rintro ⟨h1, h2⟩; exact ⟨h1, okV_int.2 h2⟩
theorem rep_vs {E : Env} {n : ByteArray} {u : Value} : (A.v (.string n)).rep E u ↔ u = .string n ∧ n.size ≤ maxLen := by
  rw [A.rep_v_iff]; exact Iff.rfl
theorem bbeq (x y : ByteArray) : (x == y) = decide (x = y) := (beq_toListBytes x y).trans (beq_toList' x y)
theorem le_max {n : Nat} (h : n ≤ 1000000000) : n ≤ maxLen := by unfold maxLen; omega
mutual
theorem at_rep : ∀ (t : Nd) {E : Env} {v : Value}, t.At E.C v → (A.agg (ndL t)).rep E v
  | .mk k n s kids, E, v, h => by
    unfold Nd.At at h
    obtain ⟨h1, h2, h3, h4, p, b, off, cap, rfl, h6, h7, h8, h9⟩ := h
    unfold A.rep ndL
    refine ⟨_, rfl, ?_⟩
    simp only [A.repC]
    refine ⟨_, _, rfl, rfl, rep_vi.2 ⟨rfl, h1⟩, _, _, rfl, rfl, rep_vi.2 ⟨rfl, h2⟩, _, _, rfl, rfl, rep_vs.2 ⟨rfl, h3⟩, _, _, rfl, rfl, ?_, rfl⟩
    unfold A.rep
    refine ⟨?_, le_max h4, p, b, off, cap, rfl, h6, ?_, h8, in_rep kids (E := E.per) h9⟩
    · rw [ndsL_flat]
      clear h1 h2 h3 h4 h6 h7 h8 h9
      induction kids with
      | nil => rfl
      | cons a r ih => rw [List.flatMap_cons, List.length_append, ndL_len, ih, List.length_cons]; omega
    · rcases h7 with rfl | h7
      · exact .inl rfl
      · exact .inr h7
theorem in_rep : ∀ (l : List Nd) {E : Env} {b off : Nat}, Nd.In E.C b l off → A.repAt (ndsL l) E b off
  | [], _, _, _, _ => by unfold ndsL A.repAt; trivial
  | t :: ts, E, b, off, h => by
    unfold Nd.In at h
    obtain ⟨⟨v0, v1, v2, v3, c0, c1, c2, c3, ha⟩, hr⟩ := h
    have ha' := at_rep t (E := E) ha
    unfold ndsL
    rw [repAt_append]
    refine ⟨?_, by rw [ndL_len]; exact in_rep ts hr⟩
    unfold A.rep at ha'
    obtain ⟨us, hus, hc⟩ := ha'
    cases hus
    refine A.repAt_mk hc fun j u hu => ?_
    match j, hu with
    | 0, hu => cases hu; exact c0
    | 1, hu => cases hu; exact c1
    | 2, hu => cases hu; exact c2
    | 3, hu => cases hu; exact c3
    | j + 4, hu => simp at hu
end
mutual
theorem rep_at : ∀ (t : Nd) {E : Env} {v : Value}, smallN t → (A.agg (ndL t)).rep E v → t.At E.C v
  | .mk k n s kids, E, v, hs, h => by
    unfold smallN at hs
    unfold A.rep ndL at h
    obtain ⟨us, rfl, h⟩ := h
    obtain ⟨us⟩ := us
    simp only [A.repC] at h
    obtain ⟨_, _, rfl, -, g1, _, _, rfl, -, g2, _, _, rfl, -, g3, _, _, rfl, -, g4, rfl⟩ := h
    rw [rep_vi] at g1 g2
    rw [rep_vs] at g3
    obtain ⟨rfl, g1⟩ := g1
    obtain ⟨rfl, g2⟩ := g2
    obtain ⟨rfl, g3⟩ := g3
    unfold A.rep at g4
    obtain ⟨_, _, p, b, off, cap, rfl, h6, h7, h8, h9⟩ := g4
    unfold Nd.At
    refine ⟨g1, g2, g3, hs.1, p, b, off, cap, rfl, h6, ?_, h8, rep_in kids (E := E.per) hs.2 h9⟩
    rcases h7 with h7 | h7
    · exact .inl (List.eq_nil_of_length_eq_zero h7)
    · exact .inr h7
theorem rep_in : ∀ (l : List Nd) {E : Env} {b off : Nat}, smallNs l → A.repAt (ndsL l) E b off → Nd.In E.C b l off
  | [], _, _, _, _, _ => by unfold Nd.In; trivial
  | t :: ts, E, b, off, hs, h => by
    unfold smallNs at hs
    unfold ndsL at h
    rw [repAt_append, ndL_len] at h
    obtain ⟨h1, h2⟩ := h
    unfold Nd.In
    refine ⟨?_, rep_in ts hs.2 h2⟩
    obtain ⟨us, k1, k2⟩ := A.repAt_vals h1
    have hl := A.repC_len k1
    rw [ndL_len] at hl
    match us, hl, k1, k2 with
    | [v0, v1, v2, v3], _, k1, k2 =>
      refine ⟨v0, v1, v2, v3, k2 0 v0 rfl, k2 1 v1 rfl, k2 2 v2 rfl, k2 3 v3 rfl, rep_at t (E := E) hs.1 ?_⟩
      unfold A.rep
      exact ⟨_, rfl, k1⟩
end
theorem repAt_map {α : Type} {E : Env} {b : Nat} (f : α → Value) (hf : ∀ x, (f x).oneCell' = true) : ∀ {l : List α} {off : Nat}, A.repAt (l.map fun x => .v (f x)) E b off ↔ ∀ i (hi : i < l.length), E.C ⟨b, off + i, none⟩ = some (f l[i]) ∧ okV (f l[i])
  | [], off => by simp [A.repAt]
  | x :: l, off => by
    simp only [List.map_cons, A.repAt]
    rw [repAt_map f hf (l := l)]
    constructor
    · rintro ⟨⟨u, h1, -, h3⟩, h4⟩ i hi
      rw [A.rep_v_iff] at h3
      cases i with
      | zero => rw [Nat.add_zero, h1, h3.1]; exact ⟨rfl, h3.2⟩
      | succ i =>
        have := h4 i (by simpa using hi)
        rw [show off + (i + 1) = off + 1 + i by omega]; exact this
    · intro h
      refine ⟨⟨f x, by have := (h 0 (by simp)).1; simpa using this, hf x, A.rep_v_iff.2 ⟨rfl, (h 0 (by simp)).2⟩⟩, fun i hi => ?_⟩
      have := h (i + 1) (by simpa using hi)
      rw [show off + 1 + i = off + (i + 1) by omega]; exact this
theorem strs_rep {E : Env} {v : Value} {l : List ByteArray} (h : StrsAt E.C v l) : (A.sl 1 l.length (strsA l)).rep E v := by
  obtain ⟨h1, h2, p, b, off, cap, rfl, hc, hp, hn, hh⟩ := h
  unfold A.rep
  refine ⟨by simp [strsA], le_max h1, p, b, off, cap, rfl, hc, ?_, hn, ?_⟩
  · rcases hp with rfl | hp
    · exact .inl rfl
    · exact .inr hp
  · refine (repAt_map (E := E.per) Value.string (fun _ => rfl)).2 fun i hi => ⟨?_, h2 _ (List.getElem_mem hi)⟩
    have := hh i hi
    simp [List.getD_eq_getElem?_getD, hi] at this
    exact this
theorem rep_strs {E : Env} {v : Value} {l : List ByteArray} (hl : l.length ≤ 1000000000) (h : (A.sl 1 l.length (strsA l)).rep E v) : StrsAt E.C v l := by
  unfold A.rep at h
  obtain ⟨_, _, p, b, off, cap, rfl, h6, h7, h8, h9⟩ := h
  have h9 := (repAt_map (E := E.per) Value.string (fun _ => rfl)).1 h9
  refine ⟨hl, fun s hs => ?_, p, b, off, cap, rfl, h6, ?_, h8, fun i hi => ?_⟩
  · obtain ⟨i, hi, rfl⟩ := List.mem_iff_getElem.1 hs
    exact (h9 i hi).2
  · rcases h7 with h7 | h7
    · exact .inl (List.eq_nil_of_length_eq_zero h7)
    · exact .inr h7
  · have := (h9 i hi).1
    simp [List.getD_eq_getElem?_getD, hi]
    exact this
/-! ### Programs -/
def hsL (l : List (Int × Nd)) : List A := l.flatMap fun h => .v (.int .i64 h.1) :: ndL h.2
def unL' (u : Un) : List A := [.sl 1 u.d.length (strsA u.d), .sl 1 u.v.length (strsA u.v), .sl 5 u.on.length (hsL u.on)]
theorem hs_len (h : Int × Nd) : ((.v (.int .i64 h.1) : A) :: ndL h.2).length = 5 := by simp [ndL_len]
theorem rowOf_hs (l : List (Int × Nd)) (i : Nat) (hi : i < l.length) : rowOf 5 i (hsL l) = .v (.int .i64 l[i].1) :: ndL l[i].2 := rowOf_flat (fun h => .v (.int .i64 h.1) :: ndL h.2) hs_len l i hi
theorem flat_len {α : Type} {k : Nat} (f : α → List A) (hf : ∀ x, (f x).length = k) (l : List α) : (l.flatMap f).length = l.length * k := by
  induction l with
  | nil => simp
  | cons a r ih => rw [List.flatMap_cons, List.length_append, hf, ih, List.length_cons, Nat.add_mul]; omega
def smallU (u : Un) : Prop := u.d.length ≤ 1000000000 ∧ u.v.length ≤ 1000000000 ∧ u.on.length ≤ 1000000000 ∧ ∀ h ∈ u.on, smallN h.2
theorem repAt_flat {α : Type} {E : Env} {b k : Nat} (f : α → List A) (hf : ∀ x, (f x).length = k) : ∀ {l : List α} {off : Nat}, A.repAt (l.flatMap f) E b off ↔ ∀ i (hi : i < l.length), A.repAt (f l[i]) E b (off + i * k)
  | [], off => by simp [A.repAt]
  | x :: l, off => by
    rw [List.flatMap_cons, repAt_append, repAt_flat f hf (l := l), hf]
    constructor
    · rintro ⟨h1, h2⟩ i hi
      cases i with
      | zero => simpa using h1
      | succ i =>
        have := h2 i (by simpa using hi)
        rw [show off + (i + 1) * k = off + k + i * k by rw [Nat.add_mul]; omega]; exact this
    · intro h
      refine ⟨by have := h 0 (by simp); rw [Nat.zero_mul, Nat.add_zero] at this; exact this, fun i hi => ?_⟩
      have := h (i + 1) (by simpa using hi)
      rw [show off + k + i * k = off + (i + 1) * k by rw [Nat.add_mul]; omega]; exact this
theorem rep_un {E : Env} {v : Value} {u : Un} (hs : smallU u) (h : (A.agg (unL' u)).rep E v) : UnAt E.C v u := by
  unfold A.rep unL' at h
  obtain ⟨us, rfl, h⟩ := h
  obtain ⟨us⟩ := us
  simp only [A.repC] at h
  obtain ⟨dv, _, rfl, -, g1, vv, _, rfl, -, g2, ov, _, rfl, -, g3, rfl⟩ := h
  refine ⟨dv, vv, ov, rfl, rep_strs hs.1 g1, rep_strs hs.2.1 g2, ?_⟩
  unfold A.rep at g3
  obtain ⟨_, _, p, b, off, cap, rfl, h6, h7, h8, h9⟩ := g3
  refine ⟨hs.2.2.1, p, b, off, cap, rfl, h6, ?_, h8, fun i hi => ?_⟩
  · rcases h7 with h7 | h7
    · exact .inl (List.eq_nil_of_length_eq_zero h7)
    · exact .inr h7
  · have h10 := (repAt_flat (E := E.per) (fun h : Int × Nd => .v (.int .i64 h.1) :: ndL h.2) hs_len).1 h9 i hi
    obtain ⟨us, k1, k2⟩ := A.repAt_vals h10
    have hl := A.repC_len k1
    rw [hs_len] at hl
    match us, hl, k1, k2 with
    | [v0, v1, v2, v3, v4], _, k1, k2 =>
      unfold A.repC at k1
      obtain ⟨_, _, e, -, g1, k3⟩ := k1
      cases e
      rw [rep_vi] at g1
      obtain ⟨rfl, g4, g5⟩ := g1
      refine ⟨g4, g5, v1, v2, v3, v4, k2 0 _ rfl, k2 1 v1 rfl, k2 2 v2 rfl, k2 3 v3 rfl, k2 4 v4 rfl, rep_at u.on[i].2 (E := E) (hs.2.2.2 _ (List.getElem_mem hi)) ?_⟩
      unfold A.rep
      exact ⟨_, rfl, A.repC.mono _ E.per_le k3⟩
/-! ### Contracts that were proved otherwise -/
theorem spec_pure {P : Program} {f : Nat} {args : List A} {vs : List Value} {y : Value} (hcall : ∀ vs w, (callFunc f vs).run P w = .ok (.enter f vs) w) (hv : ∀ E us, A.repL args E us → us = vs) (hy : okV y) (h : ∀ w, Calls P f vs.toArray w fun e w' => e = .returned y ∧ w = w') : Spec P f [] args fun _ r => r = .v y := by
  refine ⟨hcall, fun w C β vals h1 h2 h3 h4 h5 h6 => ?_⟩
  rw [hv _ _ h6]
  refine (h w).mono ?_
  rintro e w' ⟨rfl, rfl⟩
  have hβ : β = [] := List.eq_nil_of_length_eq_zero (by simpa using h4.symm)
  subst hβ
  exact ⟨[], .v y, y, rfl, rfl, Keeps.refl _ _, rfl, fun i b cs hb => by simp at hb, A.rep_v hy⟩
theorem spec_ext {P : Program} {f : Nat} {args : List A} {y : Value} (hcall : ∀ vs w, (callFunc f vs).run P w = .ok (.enter f vs) w) (hy : okV y)
    (h : ∀ w C vals, Sub C w.cell? → A.repL args ⟨C, [], []⟩ vals → Calls P f vals.toArray w (RetV w y)) : Spec P f [] args fun _ r => r = .v y := by
  refine ⟨hcall, fun w C β vals h1 h2 h3 h4 h5 h6 => ?_⟩
  have hβ : β = [] := List.eq_nil_of_length_eq_zero (by simpa using h4.symm)
  subst hβ
  refine (h w C vals h1 h6).mono ?_
  rintro e w' ⟨rfl, x⟩
  exact ⟨[], .v y, y, rfl, rfl, Keeps.of_ext x, rfl, fun i b cs hb => by simp at hb, A.rep_v hy⟩
theorem call_of {f : Nat} {fn : Func} {x : Code} (hf : Try.prog.funcs[f]? = some fn) (hb : fn.body = some x) (hname : (fn.name == "runtime.NumGoroutine") = false) : ∀ vs w, (callFunc f vs).run Try.prog w = .ok (.enter f vs) w := fun vs w => callable hf hb hname vs w
end Go.Proofs.Ytlmdmmikocbmlaa.Vm
