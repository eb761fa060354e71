/- Structs and arrays of ints, strings and bools: whether two are equal. -/
import Derived.Test.YtinjgckpmblffaaDoorVmP
import Derived.DeepKeys
import Derived.Laws.StructEq
namespace Go.Proofs.YtinjgckpmblffaaDoor.Vm
open Go.RowKit
set_option linter.unusedSimpArgs false
set_option linter.unusedVariables false
def flatF (g : TypeId → Option (List Nat)) (P : Program) : Nat → List Field → Option (List Nat)
  | _, [] => some []
  | off, f :: fs => if f.offset = off then match g f.type with
      | some ks => if ks.length = P.cellsOf f.type then match flatF g P (off + ks.length) fs with
        | some r => some (ks ++ r)
        | none => none
        else none
      | none => none
    else none
/-- The kinds of a type's cells. -/
def flatT (P : Program) : Nat → TypeId → Option (List Nat)
  | 0, _ => none
  | d + 1, t => match P.underlying t with
    | some .bool => some [1]
    | some .string => some [0]
    | some (.int q) => some [ikN q + 2]
    | some (.array n e) => match flatT P d e with
      | some ks => if ks.length = P.cellsOf e ∧ P.cellsOf t = n * P.cellsOf e then some (List.replicate n ks).flatten else none
      | none => none
    | some (.struct fs) => match flatF (flatT P d) P 0 fs.toList with
      | some ks => if ks.length = P.cellsOf t ∧ fs.all (·.name != "_") = true then some ks else none
      | none => none
    | _ => none
def litOf : Value → Lit
  | .bool b => .bool b
  | .int k n => .int k n
  | .string s => .string s.data.toList
  | _ => .bool false
def codeV : Value → Option Nat
  | .bool _ => some 1
  | .int k _ => some (ikN k + 2)
  | .string _ => some 0
  | _ => none
def HasK : List Value → List Nat → Prop
  | [], [] => True
  | u :: us, k :: ks => okV u ∧ codeV u = some k ∧ HasK us ks
  | _, _ => False
theorem HasK.len : ∀ {us : List Value} {ks : List Nat}, HasK us ks → us.length = ks.length
  | [], [], _ => rfl
  | _ :: _, _ :: _, h => by simp [HasK.len h.2.2]
  | [], _ :: _, h => h.elim
  | _ :: _, [], h => h.elim
theorem HasK.split : ∀ {us : List Value} {ks rs : List Nat}, HasK us (ks ++ rs) → HasK (us.take ks.length) ks ∧ HasK (us.drop ks.length) rs
  | us, [], rs, h => by simpa [HasK] using h
  | [], k :: ks, rs, h => h.elim
  | u :: us, k :: ks, rs, h => by
    have := HasK.split (us := us) (ks := ks) (rs := rs) h.2.2
    exact ⟨⟨h.1, h.2.1, this.1⟩, this.2⟩
theorem ikN_inj' {k k' : IntKind} (h : ikN k = ikN k') : k = k' := ikN_inj (by rw [h]; exact Nat.beq_refl _)
theorem wf_of {k : IntKind} {n : Int} (h : okV (.int k n)) : (Lit.int k n).wf = true := by
  have h' : k.min ≤ n ∧ n ≤ k.max := h
  simp [Lit.wf, h'.1, h'.2]
theorem lits_fields {P : Program} {d : Nat} (IH : ∀ (t : TypeId) (ks : List Nat) (us : List Value), flatT P d t = some ks → HasK us ks → P.keyLits d t us = some (us.map litOf)) (us : List Value) : ∀ (fs : List Field) (off : Nat) (ks : List Nat), flatF (flatT P d) P off fs = some ks → HasK (us.drop off) ks →
    ∃ lss : List (List Lit), fs.mapM (fun f => P.keyLits d f.type ((us.drop f.offset).take (P.cellsOf f.type))) = some lss ∧ lss.flatten = (us.drop off).map litOf
  | [], off, ks, h, hk => by
    simp [flatF] at h
    subst h
    have : us.drop off = [] := by
      cases hd : us.drop off with
      | nil => rfl
      | cons x r => rw [hd] at hk; exact hk.elim
    exact ⟨[], by simp, by simp [this]⟩
  | f :: fs, off, ks, h, hk => by
    unfold flatF at h
    split at h
    · rename_i ho
      split at h
      · rename_i k1 h1
        split at h
        · rename_i hl
          split at h
          · rename_i r hr
            cases h
            obtain ⟨a, b⟩ := hk.split
            rw [List.drop_drop] at b
            obtain ⟨lss, e1, e2⟩ := lits_fields IH us fs (off + k1.length) r hr b
            have e3 := IH f.type k1 _ h1 a
            refine ⟨((us.drop off).take k1.length).map litOf :: lss, ?_, ?_⟩
            · rw [List.mapM_cons, ho, ← hl, e3]
              simp only [Option.bind_eq_bind, Option.bind_some]
              rw [e1]; rfl
            · rw [List.flatten_cons, e2, ← List.map_append, ← List.drop_drop, List.take_append_drop]
          · cases h
        · cases h
      · cases h
    · cases h
theorem lits_items {P : Program} {d e : Nat} {ks : List Nat} (IH : ∀ (us : List Value), HasK us ks → P.keyLits d e us = some (us.map litOf)) (hl : ks.length = P.cellsOf e) (us : List Value) : ∀ (m j : Nat), HasK (us.drop (j * P.cellsOf e)) (List.replicate m ks).flatten →
    ∃ lss : List (List Lit), (List.range' j m).mapM (fun i => P.keyLits d e ((us.drop (i * P.cellsOf e)).take (P.cellsOf e))) = some lss ∧ lss.flatten = (us.drop (j * P.cellsOf e)).map litOf
  | 0, j, hk => by
    have : us.drop (j * P.cellsOf e) = [] := by
      cases hd : us.drop (j * P.cellsOf e) with
      | nil => rfl
      | cons x r => rw [hd] at hk; simp [HasK] at hk
    exact ⟨[], by simp, by rw [this]; rfl⟩
  | m + 1, j, hk => by
    rw [List.replicate_succ, List.flatten_cons] at hk
    obtain ⟨a, b⟩ := hk.split
    rw [List.drop_drop, hl, show j * P.cellsOf e + P.cellsOf e = (j + 1) * P.cellsOf e by rw [Nat.add_mul]; omega] at b
    obtain ⟨lss, e1, e2⟩ := lits_items IH hl us m (j + 1) b
    have e3 := IH _ a
    refine ⟨((us.drop (j * P.cellsOf e)).take ks.length).map litOf :: lss, ?_, ?_⟩
    · rw [List.range'_succ, List.mapM_cons, ← hl] at *
      rw [e3]
      simp only [Option.bind_eq_bind, Option.bind_some]
      rw [e1]; rfl
    · rw [List.flatten_cons, e2, ← List.map_append, show (j + 1) * P.cellsOf e = j * P.cellsOf e + ks.length by rw [hl, Nat.add_mul]; omega, ← List.drop_drop, List.take_append_drop]
theorem lits_of {P : Program} : ∀ (d : Nat) (t : TypeId) (ks : List Nat) (us : List Value), flatT P d t = some ks → HasK us ks → P.keyLits d t us = some (us.map litOf)
  | 0, t, ks, us, h, hk => by simp [flatT] at h
  | d + 1, t, ks, us, h, hk => by
    have one : ∀ {k : Nat}, HasK us [k] → ∃ u, us = [u] ∧ okV u ∧ codeV u = some k := fun {k} hk => by
      match us, hk with
      | [u], hk => exact ⟨u, rfl, hk.1, hk.2.1⟩
      | [], hk => exact hk.elim
      | _ :: _ :: _, hk => exact hk.2.2.elim
    unfold flatT at h
    split at h
    · rename_i hu
      cases h
      obtain ⟨u, rfl, h1, h2⟩ := one hk
      cases u <;> simp [codeV] at h2
      simp [Program.keyLits, hu, litOf]
    · rename_i hu
      cases h
      obtain ⟨u, rfl, h1, h2⟩ := one hk
      cases u <;> simp [codeV] at h2
      have h1 : _ ≤ maxLen := h1
      simp [Program.keyLits, hu, litOf, h1]
    · rename_i q hu
      cases h
      obtain ⟨u, rfl, h1, h2⟩ := one hk
      cases u <;> simp [codeV] at h2
      obtain rfl := ikN_inj' h2
      simp [Program.keyLits, hu, litOf, wf_of h1]
    · rename_i n e hu
      split at h
      · rename_i ke he
        split at h
        · rename_i hc
          cases h
          obtain ⟨lss, e1, e2⟩ := lits_items (fun us hk => lits_of d e ke us he hk) hc.1 us n 0 (by simpa using hk)
          have hlen := hk.len
          have : us.length = P.cellsOf t := by rw [hlen, hc.2, ← hc.1, List.length_flatten]; simp
          simp only [Program.keyLits, hu, this, if_true]
          rw [List.range_eq_range', e1]
          simp only [Option.map_some, e2]
          simp
        · cases h
      · cases h
    · rename_i fs hu
      split at h
      · rename_i kf hf
        split at h
        · rename_i hc
          cases h
          obtain ⟨lss, e1, e2⟩ := lits_fields (fun t ks us h hk => lits_of d t ks us h hk) us fs.toList 0 ks hf (by simpa using hk)
          have hlen := hk.len
          have : us.length = P.cellsOf t := by rw [hlen, hc.1]
          simp only [Program.keyLits, hu, this, hc.2, and_self, if_true]
          rw [e1]
          simp only [Option.map_some, e2]
          simp
        · cases h
      · cases h
    · cases h
/-! ### On abstract values -/
def eq1 (x y : Value) : Option Bool := match x with
  | .int k m => match y with
    | .int k' n => match Nat.beq (ikN k) (ikN k') with
      | true => some (decide (m = n))
      | false => none
    | _ => none
  | .string a => match y with
    | .string b => some (decide (a = b))
    | _ => none
  | .bool a => match y with
    | .bool b => some (a == b)
    | _ => none
  | _ => none
def eqCs : List A → List A → Option Bool
  | [], [] => some true
  | .v x :: xs, .v y :: ys => match eq1 x y with
    | some c => match eqCs xs ys with
      | some r => some (c && r)
      | none => none
    | none => none
  | _, _ => none
def kindsA : List A → List Nat
  | .v x :: xs => match codeV x with
    | some k => k :: kindsA xs
    | none => []
  | _ => []
theorem eq1_ok {x y : Value} {c : Bool} (h : eq1 x y = some c) : (∃ k, codeV x = some k ∧ codeV y = some k) ∧ (c = true ↔ litOf x = litOf y) := by
  unfold eq1 at h
  split at h
  · split at h
    · split at h
      · rename_i hk
        obtain rfl := ikN_inj hk
        cases h
        exact ⟨⟨_, rfl, rfl⟩, by simp [litOf]⟩
      · cases h
    · cases h
  · split at h
    · cases h
      refine ⟨⟨_, rfl, rfl⟩, ?_⟩
      simp only [decide_eq_true_eq, litOf, Lit.string.injEq]
      exact ⟨fun h => by rw [h], fun h => ByteArray.ext (Array.toList_inj.1 h)⟩
    · cases h
  · split at h
    · cases h
      exact ⟨⟨_, rfl, rfl⟩, by simp [litOf]⟩
    · cases h
  · cases h
theorem eqCs_ok {E : Env} : ∀ {xs ys : List A} {b : Bool} {us vs : List Value}, eqCs xs ys = some b → A.repC xs E us → A.repC ys E vs → HasK us (kindsA xs) ∧ HasK vs (kindsA xs) ∧ (b = true ↔ us.map litOf = vs.map litOf)
  | [], [], b, us, vs, h, h1, h2 => by
    unfold A.repC at h1 h2
    subst h1; subst h2
    simp [eqCs] at h
    subst h
    simp [HasK, kindsA]
  | .v x :: xs, .v y :: ys, b, us, vs, h, h1, h2 => by
    unfold A.repC at h1 h2
    obtain ⟨u, us', rfl, _, h3, h4⟩ := h1
    obtain ⟨v, vs', rfl, _, h5, h6⟩ := h2
    obtain ⟨rfl, ox⟩ := A.rep_v_iff.1 h3
    obtain ⟨rfl, oy⟩ := A.rep_v_iff.1 h5
    unfold eqCs at h
    split at h
    · rename_i c hc
      split at h
      · rename_i r hr
        cases h
        obtain ⟨⟨k, k1, k2⟩, k3⟩ := eq1_ok hc
        obtain ⟨g1, g2, g3⟩ := eqCs_ok hr h4 h6
        have e : kindsA (.v u :: xs) = k :: kindsA xs := by simp only [kindsA, k1]
        rw [e]
        refine ⟨⟨ox, k1, g1⟩, ⟨oy, k2, g2⟩, ?_⟩
        simp only [Bool.and_eq_true, List.map_cons, List.cons.injEq, k3, g3]
      · cases h
    · cases h
def eqTy (P : Program) (t : Nat) (ks : List Nat) : Bool :=
  (match flatT P 64 t with | some ls => ls == ks | none => false) && P.keyTypeAt 64 t && !P.eqGuardType P.depth t && (match P.underlying t with | some (.struct _) | some (.array _ _) => true | _ => false)
def apure3 (P : Program) (T : List (Nat × Te)) (s : S) (o : Op) (K : A → Prop) : Prop :=
  match o with
  | .binOp op t x y u => match ev s x with
    | .agg xs => match ev s y with
      | .agg ys => match eqCs xs ys with
        | some b => match op with
          | .eql => eqTy P t (kindsA xs) = true ∧ K (.v (.bool b))
          | .neq => eqTy P t (kindsA xs) = true ∧ K (.v (.bool (!b)))
          | _ => False
        | none => False
      | _ => False
    | _ => apure2 T s (.binOp op t x y u) K
  | o => apure2 T s o K
section
variable {P : Program} {T : List (Nat × Te)} {w0 w : World} {C0 : Rd} {β0 : List Nat} {s : S} {a : Act} {E : Env} {o : Oper} {K : A → Prop}
theorem equal_aggs {t : Nat} {xs ys : List A} {b : Bool} {us vs : Array Value} (h : eqCs xs ys = some b) (ht : eqTy P t (kindsA xs) = true) (h1 : A.repC xs E us.toList) (h2 : A.repC ys E vs.toList) :
    (∀ (op : BinOp) (x y : Operand) (w : World), (eqGuard op t x y (.agg us) (.agg vs)).run P w = .ok () w) ∧ ∀ w : World, (Op.equalIn 10000 t (.agg us) (.agg vs)).run P w = .ok b w := by
  unfold eqTy at ht
  simp only [Bool.and_eq_true, Bool.not_eq_true'] at ht
  obtain ⟨⟨⟨t1, t2⟩, t3⟩, t4⟩ := ht
  obtain ⟨k1, k2, k3⟩ := eqCs_ok h h1 h2
  have hf : flatT P 64 t = some (kindsA xs) := by
    cases hx : flatT P 64 t with
    | none => rw [hx] at t1; cases t1
    | some ls => rw [hx] at t1; rw [eq_of_beq t1]
  have l1 := lits_of 64 t _ us.toList hf k1
  have l2 := lits_of 64 t _ vs.toList hf k2
  have hc : (kindsA xs).length = P.cellsOf t := by
    have hf' := hf
    unfold flatT at hf'
    split at hf' <;> simp_all
    · split at hf'
      · rename_i hc
        rw [Option.ite_none_right_eq_some] at hf'
        obtain ⟨q1, q2⟩ := hf'
        simp only [Option.some.injEq] at q2
        rw [← q2, List.length_flatten, q1.2]; simp [q1.1]
      · cases hf'
    · split at hf'
      · rw [Option.ite_none_right_eq_some] at hf'
        obtain ⟨q1, q2⟩ := hf'
        simp only [Option.some.injEq] at q2
        rw [← q2]; exact q1.1
      · cases hf'
  have fm : ∀ us : Array Value, us.toList.length = (kindsA xs).length → (Value.agg us).formed P t = true := fun us hl => by
    unfold Value.formed
    rw [hc] at hl
    split at t4
    · rename_i hu; simp only [hu]; simpa using hl
    · rename_i hu; simp only [hu]; simpa using hl
    · cases t4
  refine ⟨fun op x y w => run_eqGuard_agg w op t x y us vs t3, fun w => ?_⟩
  obtain ⟨r, hr, hiff⟩ := run_equalIn_deep (P := P) 9936 64 t t2 w 64 64 (.agg us) (.agg vs) _ _ (fm us k1.len) (fm vs k2.len) l1 l2
  have : r = b := by
    cases r <;> cases b <;> simp_all
  rw [← this]
  exact hr
theorem apure3_ok (hT : Tab.ok P T) (hp : Hp w0 C0 β0 s.bx s.rw w E) (ht : A.repL s.t E a.tmps.toList) (h : apure3 P T s o.op K) : Gives P a o E K := by
  unfold apure3 at h
  split at h
  · rename_i op t x y u ho
    split at h
    · rename_i xs hx
      split at h
      · rename_i ys hy
        split at h
        · rename_i b hb
          have rx := ev_rep ht x
          have ry := ev_rep ht y
          rw [hx] at rx
          rw [hy] at ry
          unfold A.rep at rx ry
          obtain ⟨us, ex, rx⟩ := rx
          obtain ⟨vs, ey, ry⟩ := ry
          split at h
          · obtain ⟨g, e⟩ := equal_aggs (P := P) hb h.1 rx ry
            exact ⟨_, _, h.2, rep_bool, fun w' => by simp only [execOp, ho, ex, ey]; simp [g, run_eql_struct, e, Result.andThen]⟩
          · obtain ⟨g, e⟩ := equal_aggs (P := P) hb h.1 rx ry
            exact ⟨_, _, h.2, rep_bool, fun w' => by simp only [execOp, ho, ex, ey]; simp [g, run_neq_struct, e, Result.andThen]⟩
          · exact h.elim
        · exact h.elim
      · exact h.elim
    · exact apure2_ok hT hp ht (by rw [ho]; exact h)
  · exact apure2_ok hT hp ht h
end
end Go.Proofs.YtinjgckpmblffaaDoor.Vm
