/- Texts 2 of the proof: Vm12, VmF, VmC, Vm13, Vm14. -/
import Derived.Test.YtpjcbadnpknncaaGreatDoorM1
import Derived.Scope
/- Regions, code, functions: what the abstract run says holds of the real one. -/
namespace Go.Proofs.YtpjcbadnpknncaaGreatDoor.Vm
open Go.RowKit
set_option linter.unusedSimpArgs false
set_option linter.unusedVariables false
/-- A program, its types; how a region that draws its order is walked, and which boxes it may turn; how many boxes are the caller's. -/
structure Cx where
  P : Program
  T : List (Nat × Te)
  ord : Nat → Tr
  xs : Nat → List Nat
  np : Nat
  pan : List PanicEntry → S → Prop
structure Cx.ok (c : Cx) : Prop where
  T : Tab.ok c.P c.T
  z : zeroOk c.T
  m : c.P.follows .mixedOrders = true
def putK (s : S) (dst : Option Nat) (r : A) (K : S → Prop) : Prop :=
  match dst with
  | none => K s
  | some d => force r fun r => setK s.t d r fun t => withT s t K
def wantK (ops : List Oper) (o : Oper) (s : S) (Ky Kn : Prop) : Prop :=
  match o.guard with
  | none => Ky
  | some (j, b) => match ops[j]? with
    | some oj => match oj.dst with
      | some d => match s.t.getD d .dead with
        | .v (.bool c) => match b with
          | true => ifK c Ky Kn
          | false => ifK c Kn Ky
        | .tup [] => Kn
        | _ => False
      | none => False
    | none => False
def subO (rw : List Row) : A → A
  | .own g => match rw[g]? with
    | some (.pub k n cs) => .sl k n cs
    | _ => .own g
  | a => a
/-- A part of a slice; an own row is given up first. -/
def aslice (c : Cx) (s : S) (t : Nat) (x : Operand) (l h m : Option Operand) (K : A → S → Prop) : Prop :=
  match ev s x with
  | .own g => forceR (pubRows s.rw [g]) fun rw' => mapK (subO rw') s.t fun t' => apure3 c.P c.T ⟨t', s.bx, rw'⟩ (.slice t x l h m) fun r => K r ⟨s.t, s.bx, rw'⟩
  | _ => apure3 c.P c.T s (.slice t x l h m) fun r => K r s
/-- One operation. -/
def ado (c : Cx) (Xr : Nat → Bool) (s : S) (o : Oper) (K : S → Prop) : Prop :=
  match o.op with
  | .load t x => aload c.T (fun _ => false) s t x fun r => putK s o.dst r K
  | .store t x y => astore2 c.T s t x y fun r s' => putK s' o.dst r K
  | .alloc t => acalm c.P c.T c.pan Xr s (.alloc t) fun r s' => putK s' o.dst r K
  | .box t x => acalm c.P c.T c.pan Xr s (.box t x) fun r s' => putK s' o.dst r K
  | .buildSlice t n ps => acalm c.P c.T c.pan Xr s (.buildSlice t n ps) fun r s' => putK s' o.dst r K
  | .makeSlice t l k => acalm c.P c.T c.pan Xr s (.makeSlice t l k) fun r s' => putK s' o.dst r K
  | .build t ps => abuild c.T s t ps.toList fun r => putK s o.dst r K
  | .call ⟨.value f, args, ts⟩ => acalm c.P c.T c.pan Xr s (.call ⟨.value f, args, ts⟩) fun r s' => putK s' o.dst r K
  | .call ⟨.builtin .append, args, ts⟩ => match args.toList with
    | [x, y] => match ts.toList with
      | [t, t'] => aappend c.T s t t' (ev s x) (ev s y) fun r s' => putK s' o.dst r K
      | _ => False
    | _ => False
  | .convert src dst x => match isMark c.T src dst with
    | true => amark c.T s src dst x fun r s' => putK s' o.dst r K
    | false => aconv c.T s src dst x fun r s' => putK s' o.dst r K
  | .panic x => match ev s x with
    | .v (.iface t y) => c.pan [⟨.iface t y, false, false⟩] s
    | _ => False
  | .lookup t x k ok => alook c.T s t (ev s x) (ev s k) ok fun r => putK s o.dst r K
  | .slice t x l h m => aslice c s t x l h m fun r s' => putK s' o.dst r K
  | op => apure3 c.P c.T s op fun r => putK s o.dst r K
/-- An operation that asks no memory. -/
def aquiet (c : Cx) (s : S) (o : Oper) (K : A → Prop) : Prop :=
  match o.op with
  | .build t ps => abuild c.T s t ps.toList K
  | op => apure3 c.P c.T s op K
/-- One that turns nothing but the boxes of X. -/
def acalm' (c : Cx) (Xr : Nat → Bool) (s : S) (o : Oper) (K : A → S → Prop) : Prop :=
  match o.op with
  | .load t x => aload c.T (fun _ => false) s t x fun r => K r s
  | .alloc t => acalm c.P c.T c.pan Xr s (.alloc t) K
  | .box t x => acalm c.P c.T c.pan Xr s (.box t x) K
  | .buildSlice t n ps => acalm c.P c.T c.pan Xr s (.buildSlice t n ps) K
  | .makeSlice t l k => acalm c.P c.T c.pan Xr s (.makeSlice t l k) K
  | .call ⟨.value f, args, ts⟩ => acalm c.P c.T c.pan Xr s (.call ⟨.value f, args, ts⟩) K
  | .build t ps => abuild c.T s t ps.toList fun r => K r s
  | .convert src dst x => aconv c.T s src dst x K
  | .lookup t x k ok => alook c.T s t (ev s x) (ev s k) ok fun r => K r s
  | .slice t x l h m => aslice c s t x l h m K
  | op => apure3 c.P c.T s op fun r => K r s
section
variable {c : Cx} {dr : List (Nat × List A)} {w0 : World} {C0 : Rd} {β0 : List Nat} {s : S} {a : Act} {w : World} {E : Env} {o : Oper}
theorem rep_undef (E : Env) : (A.tup []).rep E undef := by
  unfold A.rep
  exact ⟨#[], rfl, by simp [A.repL]⟩
theorem put_ok {dst : Option Nat} {r : A} {y : Value} {K : S → Prop} (hp : Hp w0 C0 β0 s.bx s.rw w E) (ht : A.repL s.t E a.tmps.toList) (hd : repD dr E a.defers) (hr : r.rep E y) (h : putK s dst r K) :
    ∃ s', K s' ∧ s'.bx = s.bx ∧ s'.rw = s.rw ∧ A.repL s'.t E (a.put dst y).tmps.toList ∧ repD dr E (a.put dst y).defers := by
  cases dst with
  | none => exact ⟨s, h, rfl, rfl, ht, hd⟩
  | some d =>
    unfold putK at h
    simp only at h
    rw [force_iff] at h
    obtain ⟨_, h⟩ := setK_iff h
    rw [withT_iff] at h
    refine ⟨_, h, rfl, rfl, ?_, hd⟩
    show A.repL (s.t.set d r) E (a.tmps.setIfInBounds d y).toList
    rw [Array.toList_setIfInBounds]
    exact A.repL_set ht d hr
theorem want_ok {ops : List Oper} {Ky Kn : Prop} (ht : A.repL s.t E a.tmps.toList) (h : wantK ops o s Ky Kn) :
    (Region.wanted o (yielded ops.toArray a.tmps) = true ∧ Ky) ∨ (Region.wanted o (yielded ops.toArray a.tmps) = false ∧ Kn) := by
  unfold wantK at h
  split at h
  · rename_i hg
    exact .inl ⟨by simp [Region.wanted, hg], h⟩
  · rename_i j b hg
    split at h
    · rename_i oj hoj
      split at h
      · rename_i d hdst
        split at h
        · rename_i c' hc
          have hr := A.repL_getD ht d undef
          rw [hc] at hr
          have hv := (A.rep_v_iff.1 hr).1
          have hdl : a.tmps[d]? = some (.bool c') := by
            cases ha : a.tmps[d]? with
            | none =>
              have : a.tmps.toList.getD d undef = undef := by simp [List.getD_eq_getElem?_getD, ha]
              rw [this] at hv
              simp [undef] at hv
            | some v =>
              have : a.tmps.toList.getD d undef = v := by simp [List.getD_eq_getElem?_getD, ha]
              rw [this] at hv
              rw [hv]
          have hw : Region.wanted o (yielded ops.toArray a.tmps) = (some c' == some b) := by
            simp [Region.wanted, hg, yielded, hoj, hdst, hdl]
          rw [hw]
          cases c' <;> cases b <;> first
            | exact .inl ⟨rfl, h⟩
            | exact .inr ⟨rfl, h⟩
        · rename_i hc
          have hr := A.repL_getD ht d undef
          rw [hc] at hr
          unfold A.rep A.repL at hr
          obtain ⟨us, hv, hus⟩ := hr
          have hw : Region.wanted o (yielded ops.toArray a.tmps) = (none == some b) := by
            cases ha : a.tmps[d]? with
            | none => simp [Region.wanted, hg, yielded, hoj, hdst, ha]
            | some v =>
              have e : a.tmps.toList.getD d undef = v := by simp [List.getD_eq_getElem?_getD, ha]
              rw [e] at hv
              simp [Region.wanted, hg, yielded, hoj, hdst, ha, hv]
          rw [hw]
          exact .inr ⟨by cases b <;> rfl, h⟩
        · exact h.elim
      · exact h.elim
    · exact h.elim
theorem quiet_ok {K : A → Prop} (hc : c.ok) (hp : Hp w0 C0 β0 s.bx s.rw w E) (ht : A.repL s.t E a.tmps.toList) (h : aquiet c s o K) : Gives c.P a o E K := by
  unfold aquiet at h
  split at h
  · rename_i t ps ho; exact build_ok hc.T hc.z hp ht ho h
  · exact apure3_ok hc.T hp ht h
theorem subO_rep {bx : List (List A)} {rw : List Row} (hp : Hp w0 C0 β0 bx rw w E) {x : A} {y : Value} (h : x.rep E y) : (subO rw x).rep E y := by
  cases x with
  | own g =>
    unfold subO
    simp only
    split
    · rename_i k n cs hg
      unfold A.rep at h
      exact hp.rws g _ y hg h
    · exact h
  | _ => exact h
theorem subO_repL {bx : List (List A)} {rw : List Row} (hp : Hp w0 C0 β0 bx rw w E) : ∀ {l : List A} {us : List Value}, A.repL l E us → A.repL (l.map (subO rw)) E us
  | [], us, h => h
  | a :: l, us, h => by
    unfold A.repL at h
    obtain ⟨u, us', rfl, h1, h2⟩ := h
    rw [List.map_cons]
    unfold A.repL
    exact ⟨u, us', rfl, subO_rep hp h1, subO_repL hp h2⟩
theorem slice_okR {Xr : Nat → Bool} {K : A → S → Prop} {t : Nat} {x : Operand} {l h m : Option Operand} (hc : c.ok) (hp : Hp w0 C0 β0 s.bx s.rw w E) (ht : A.repL s.t E a.tmps.toList) (ho : o.op = .slice t x l h m) (hh : aslice c s t x l h m K) :
    ∃ y, (execOp a.eval o).run c.P w = .ok (.value y) w ∧ Left w0 C0 β0 Xr s E w K y w := by
  unfold aslice at hh
  split at hh
  · rename_i g hg
    rw [forceR_iff, mapK_iff] at hh
    obtain ⟨C1, hp1, le1⟩ := hp.pubs [g]
    have ht1 := subO_repL (E := ⟨C1, E.β, E.ρ⟩) hp1 (A.repL.mono _ le1 ht)
    obtain ⟨r, y, h1, h2, h3⟩ := apure3_ok (s := ⟨s.t.map (subO (pubRows s.rw [g])), s.bx, pubRows s.rw [g]⟩) hc.T hp1 ht1 (by rw [ho]; exact hh)
    exact ⟨y, h3 w, ⟨r, _, _, h1, rfl, le1, hp1, h2, Same.refl _ _ _, Nat.le_refl _⟩⟩
  · obtain ⟨r, y, h1, h2, h3⟩ := apure3_ok hc.T hp ht (by rw [ho]; exact hh)
    exact ⟨y, h3 w, ⟨r, s, E, h1, rfl, Env.le.refl E, hp, h2, Same.refl _ _ _, Nat.le_refl _⟩⟩
theorem calm'_ok {Xr : Nat → Bool} {K : A → S → Prop} {Kc : Act → World → Prop} {Q : Exit → Act → World → Prop} (hc : c.ok) (hp : Hp w0 C0 β0 s.bx s.rw w E) (ht : A.repL s.t E a.tmps.toList) (h : acalm' c Xr s o K)
    (hx : ∀ ch s' E' w', c.pan ch s' → s'.t = s.t → E.le E' → Hp w0 C0 β0 s'.bx s'.rw w' E' → Q (.panic ch) a w')
    (hk : ∀ y w', Left w0 C0 β0 Xr s E w K y w' → Kc (a.put o.dst y) w') : o.wp c.P a w Kc Q := by
  have pure' : Gives c.P a o E (fun r => K r s) → o.wp c.P a w Kc Q := fun ⟨r, y, h1, h2, h3⟩ => by
    unfold Oper.wp
    rw [h3]
    exact hk y w ⟨r, s, E, h1, rfl, Env.le.refl E, hp, h2, Same.refl _ _ _, Nat.le_refl _⟩
  unfold acalm' at h
  split at h
  · rename_i t x ho
    obtain ⟨r, y, h1, h2, h3⟩ := load_ok hc.T hp ht ho h
    unfold Oper.wp
    rw [h3 w (Same.refl _ _ _)]
    exact hk y w ⟨r, s, E, h1, rfl, Env.le.refl E, hp, h2, Same.refl _ _ _, Nat.le_refl _⟩
  · rename_i t ho; exact calm_ok hc.T hc.z hp ht (by rw [ho]; exact h) hx hk
  · rename_i t x ho; exact calm_ok hc.T hc.z hp ht (by rw [ho]; exact h) hx hk
  · rename_i t n ps ho; exact calm_ok hc.T hc.z hp ht (by rw [ho]; exact h) hx hk
  · rename_i t n ps ho; exact calm_ok hc.T hc.z hp ht (by rw [ho]; exact h) hx hk
  · rename_i f args ts ho; exact calm_ok hc.T hc.z hp ht (by rw [ho]; exact h) hx hk
  · rename_i t ps ho; exact pure' (build_ok hc.T hc.z hp ht ho h)
  · rename_i src dst x ho; exact conv_ok hc.T hp ht ho h hk
  · rename_i t x k ok ho
    obtain ⟨r, y, h1, h2, h3⟩ := look_ok hc.T hp ht ho h
    unfold Oper.wp
    rw [h3]
    exact hk y w ⟨r, s, E, h1, rfl, Env.le.refl E, hp, h2, Same.refl _ _ _, Nat.le_refl _⟩
  · rename_i t x l hh m ho
    obtain ⟨y, h1, h2⟩ := slice_okR (Xr := Xr) hc hp ht ho h
    unfold Oper.wp
    rw [h1]
    exact hk y w h2
  · exact pure' (apure3_ok hc.T hp ht h)
theorem do_ok {Xr : Nat → Bool} {K : S → Prop} {Kc : Act → World → Prop} {Q : Exit → Act → World → Prop} (hc : c.ok) (hdr : ∃ n, refsD n dr = true) (hi : Inv dr w0 C0 β0 s a w) (h : ado c Xr s o K) (hx : ∀ ch s' a' w', c.pan ch s' → Inv dr w0 C0 β0 s' a' w' → Q (.panic ch) a' w') (hk : ∀ s' a' w', K s' → Inv dr w0 C0 β0 s' a' w' → Kc a' w') : o.wp c.P a w Kc Q := by
  obtain ⟨E, hp, ht, hd⟩ := hi
  obtain ⟨nd, hdr⟩ := hdr
  have hx' : ∀ ch s' E' w', c.pan ch s' → s'.t = s.t → E.le E' → Hp w0 C0 β0 s'.bx s'.rw w' E' → Q (.panic ch) a w' := fun ch s' E' w' h1 h2 h3 h4 => hx ch s' a w' h1 ⟨E', h4, by rw [h2]; exact A.repL.mono _ h3 ht, hd.mono h3⟩
  have calm : acalm' c Xr s o (fun r s' => putK s' o.dst r K) → o.wp c.P a w Kc Q := fun h => calm'_ok hc hp ht h hx' fun y w' ⟨⟨r, s', E', h1, h2, h3, h4, h5, _⟩⟩ => by
    obtain ⟨s2, k1, k2, k3, k4, k5⟩ := put_ok (a := a) h4 (by rw [h2]; exact A.repL.mono _ h3 ht) (hd.mono h3) h5 h1
    exact hk s2 _ _ k1 ⟨E', by rw [k2, k3]; exact h4, k4, k5⟩
  have pure' : Gives c.P a o E (fun r => putK s o.dst r K) → o.wp c.P a w Kc Q := fun ⟨r, y, h1, h2, h3⟩ => by
    unfold Oper.wp
    rw [h3]
    obtain ⟨s2, k1, k2, k3, k4, k5⟩ := put_ok (a := a) hp ht hd h2 h1
    exact hk s2 _ _ k1 ⟨E, by rw [k2, k3]; exact hp, k4, k5⟩
  unfold ado at h
  split at h
  · rename_i t x ho; exact calm (by unfold acalm'; rw [ho]; exact h)
  · rename_i t x y ho
    unfold astore2 at h
    split at h
    · rename_i g off hx
      obtain ⟨w', rw', h1, h2, h3⟩ := rstore_ok hc.T hp ht ho hx h
      unfold Oper.wp
      rw [h1]
      obtain ⟨s2, k1, k2, k3, k4, k5⟩ := put_ok (a := a) (s := ⟨s.t, s.bx, rw'⟩) h3 ht hd (A.rep_dead _ undef) h2
      exact hk s2 _ _ k1 ⟨E, by rw [k2, k3]; exact h3, k4, k5⟩
    · obtain ⟨w', bx', h1, h2, h3, -⟩ := store_ok hc.T hp ht ho h
      unfold Oper.wp
      rw [h1]
      obtain ⟨s2, k1, k2, k3, k4, k5⟩ := put_ok (a := a) (s := ⟨s.t, bx', s.rw⟩) h3 ht hd (A.rep_dead _ undef) h2
      exact hk s2 _ _ k1 ⟨E, by rw [k2, k3]; exact h3, k4, k5⟩
  · rename_i t ho; exact calm (by unfold acalm'; rw [ho]; exact h)
  · rename_i t x ho; exact calm (by unfold acalm'; rw [ho]; exact h)
  · rename_i t n ps ho; exact calm (by unfold acalm'; rw [ho]; exact h)
  · rename_i t n ps ho; exact calm (by unfold acalm'; rw [ho]; exact h)
  · rename_i t ps ho; exact pure' (build_ok hc.T hc.z hp ht ho h)
  · rename_i f args ts ho; exact calm (by unfold acalm'; rw [ho]; exact h)
  · rename_i args ts ho
    split at h
    · rename_i x y hx
      split at h
      · rename_i t t' hts
        refine append_ok hc.T hp ht hx hts ho h fun y w' r s' E' h1 h2 h3 h4 h5 h6 _ _ => ?_
        obtain ⟨s2, k1, k2, k3, k4, k5⟩ := put_ok (a := a) h3 h2 (hd.keep h5 h6 hdr) h4 h1
        exact hk s2 _ _ k1 ⟨E', by rw [k2, k3]; exact h3, k4, k5⟩
      · exact h.elim
    · exact h.elim
  · rename_i src dst x ho
    split at h
    · obtain ⟨y, w', r, s', E', h1, h2, h3, h4, h5, h6⟩ := mark_ok hc.T hp ht ho h
      unfold Oper.wp
      rw [h1]
      obtain ⟨s2, k1, k2, k3, k4, k5⟩ := put_ok (a := a) h5 (by rw [h3]; exact A.repL.mono _ h4 ht) (hd.mono h4) h6 h2
      exact hk s2 _ _ k1 ⟨E', by rw [k2, k3]; exact h5, k4, k5⟩
    · exact calm (by unfold acalm'; rw [ho]; exact h)
  · rename_i x ho
    split at h
    · rename_i t y hev
      have hv := (of_v ht hev).1
      unfold Oper.wp
      have hrun : (execOp a.eval o).run c.P w = .halt (.panic (.iface t y)) w := by simp [execOp, ho, hv, Instr.panic, goPanic, Sem.run, Result.andThen]
      rw [hrun, Oper.upon_panic]
      exact hx _ s a w h ⟨E, hp, ht, hd⟩
    · exact h.elim
  · rename_i t x k ok ho
    obtain ⟨r, y, h1, h2, h3⟩ := look_ok hc.T hp ht ho h
    unfold Oper.wp
    rw [h3]
    obtain ⟨s2, k1, k2, k3, k4, k5⟩ := put_ok (a := a) hp ht hd h2 h1
    exact hk s2 _ _ k1 ⟨E, by rw [k2, k3]; exact hp, k4, k5⟩
  · rename_i t x l hh m ho; exact calm (by unfold acalm'; rw [ho]; exact h)
  · exact pure' (apure3_ok hc.T hp ht h)
def aseq0 (s : S) (K : S → Prop) : Prop := K s
def aseq1 (c : Cx) (ops : List Oper) (o : Oper) (ih : S → (S → Prop) → Prop) (s : S) (K : S → Prop) : Prop :=
  wantK ops o s (ado c (fun _ => true) s o fun s' => ih s' K) (putK s o.dst (.tup []) fun s' => ih s' K)
/-- One operation behind the other. (By the recursor itself: so the kernel meets the very terms that the walk shows.) -/
noncomputable def aseq (c : Cx) (ops : List Oper) (l : List Oper) : S → (S → Prop) → Prop :=
  List.rec aseq0 (fun o _ ih => aseq1 c ops o ih) l
theorem seq_ok {ops : List Oper} {Q : Exit → Act → World → Prop} (hc : c.ok) (hdr : ∃ n, refsD n dr = true) (hx : ∀ ch s' a' w', c.pan ch s' → Inv dr w0 C0 β0 s' a' w' → Q (.panic ch) a' w') : ∀ {l : List Oper} {s : S} {a : Act} {w : World} {K : S → Prop}, Inv dr w0 C0 β0 s a w → aseq c ops l s K → (∀ s' a' w', K s' → Inv dr w0 C0 β0 s' a' w' → Q .normal a' w') → wpList c.P ops.toArray Q l a w
  | [], s, a, w, K, hi, h, hk => hk s a w h hi
  | o :: r, s, a, w, K, hi, h, hk => by
    obtain ⟨E, hp, ht, hd⟩ := hi
    change wantK ops o s (ado c (fun _ => true) s o fun s' => aseq c ops r s' K) (putK s o.dst (.tup []) fun s' => aseq c ops r s' K) at h
    refine wpList_step fun Kc hKc => ?_
    rcases want_ok ht h with ⟨h1, h2⟩ | ⟨h1, h2⟩
    · rw [if_pos h1]
      exact do_ok hc hdr ⟨E, hp, ht, hd⟩ h2 hx fun s' a' w' h3 h4 => hKc _ _ (seq_ok hc hdr hx h4 h3 hk)
    · rw [if_neg (by rw [h1]; simp)]
      obtain ⟨s2, k1, k2, k3, k4, k5⟩ := put_ok (a := a) hp ht hd (rep_undef _) h2
      exact hKc _ _ (seq_ok hc hdr hx ⟨E, by rw [k2, k3]; exact hp, k4, k5⟩ k1 hk)
/-- A region that draws its order, walked as its tree says. So long as nothing has turned (0), any read; while nothing that was there has turned (1), a read of a box that was there. -/
def aser0 (_ : Nat) (s : S) (K : S → Prop) : Prop := K s
/-- What may be read when other things have come up: a box that was there; so long as nothing has come up, whatever is read. -/
def oldOk (q n0 : Nat) (x : A) (p : Prop) : Prop := match x with
  | .box i _ => match Nat.blt i n0 with
    | true => p
    | false => False
  | .pp _ => match q with
    | 0 => p
    | _ + 1 => False
  | _ => False
def aserQ (c : Cx) (Xr : Nat → Bool) (n0 : Nat) (ops : List Oper) (k m : Nat) (ih : Nat → S → (S → Prop) → Prop) (q : Nat) (s : S) (K : S → Prop) : Prop :=
  match ops[k]? with
    | some o => match m with
      | 0 => match o.op with
        | .load t x => match Nat.ble q 1 with
          | true => wantK ops o s (oldOk q n0 (ev s x) (aload c.T Xr s t x fun r => putK s o.dst r fun s' => ih q s' K)) (putK s o.dst (.tup []) fun s' => ih q s' K)
          | false => False
        | _ => False
      | _ + 1 => wantK ops o s (aquiet c s o fun r => putK s o.dst r fun s' => ih q s' K) (putK s o.dst (.tup []) fun s' => ih q s' K)
    | none => False
/-- One that turns no box but those of X. -/
def acalm2 (c : Cx) (Xr : Nat → Bool) (s : S) (o : Oper) (K : A → S → Prop) : Prop :=
  match o.op with
  | .call ⟨.builtin .append, args, ts⟩ => match args.toList with
    | [x, y] => match ts.toList with
      | [t, t'] => aappend c.T s t t' (ev s x) (ev s y) K
      | _ => False
    | _ => False
  | .store t x y => match ev s x with
    | .box i _ => match Xr i with
      | true => astore c.T s t x y K
      | false => False
    | _ => False
  | _ => acalm' c Xr s o K
def aserL (c : Cx) (Xr : Nat → Bool) (ops : List Oper) (k m : Nat) (ih : Nat → S → (S → Prop) → Prop) (q : Nat) (s : S) (K : S → Prop) : Prop :=
  match ops[k]? with
    | some o => match Nat.beq m 1 with
      | true => match Nat.ble q 1 with
        | true => wantK ops o s (acalm2 c Xr s o fun r s' => putK s' o.dst r fun s' => ih 1 s' K) (putK s o.dst (.tup []) fun s' => ih 1 s' K)
        | false => False
      | false => wantK ops o s (ado c (fun _ => true) s o fun s' => ih 2 s' K) (putK s o.dst (.tup []) fun s' => ih 2 s' K)
    | none => False
def aserA (c : Cx) (Xr : Nat → Bool) (ops : List Oper) (k m : Nat) (alt : Bool) (ih iho : Nat → S → (S → Prop) → Prop) (q : Nat) (s : S) (K : S → Prop) : Prop :=
  match alt with
  | true => aserL c Xr ops k m ih q s K ∧ iho q s K
  | false => aserL c Xr ops k m ih q s K
noncomputable def aser (c : Cx) (Xr : Nat → Bool) (n0 : Nat) (ops : List Oper) (t : Tr) : Nat → S → (S → Prop) → Prop :=
  Tr.rec aser0 (fun k m _ ih => aserQ c Xr n0 ops k m ih) (fun k m _ o ih iho => aserA c Xr ops k m o.isAlt ih iho) t
/-- What reads ask: the boxes that were there, but for those of X, and whatever else was told. -/
def Kept (Xr : Nat → Bool) (E0 : Env) (ws w : World) : Prop := (∀ (i b : Nat), E0.β[i]? = some b → Xr i = false → w.heap[b]? = ws.heap[b]?) ∧ Sub E0.C (see w)
/-- The call's state at the region's beginning, and now. -/
structure Since (Xr : Nat → Bool) (E0 : Env) (ws : World) (E : Env) (w : World) : Prop where
  C : Sub E0.C E.C
  β : ∀ (i b : Nat), E0.β[i]? = some b → E.β[i]? = some b
  kept : Kept Xr E0 ws w
theorem load_old_ok {Xr : Nat → Bool} {E0 : Env} {ws : World} {q t : Nat} {x : Operand} {K : A → Prop} (hT : Tab.ok c.P c.T) (hp : Hp w0 C0 β0 s.bx s.rw w E) (ht : A.repL s.t E a.tmps.toList) (hs : Since Xr E0 ws E w) (hq : q = 0 → E = E0) (ho : o.op = .load t x) (h : oldOk q E0.β.length (ev s x) (aload c.T Xr s t x K)) :
    ∃ r y, K r ∧ r.rep E y ∧ ∀ w', Kept Xr E0 ws w' → (execOp a.eval o).run c.P w' = .ok (.value y) w' := by
  unfold oldOk at h
  split at h
  · rename_i i off0 hev
    split at h
    · rename_i hlt
      have hi : i < E0.β.length := by simpa using hlt
      have hxi : Xr i = false := by
        unfold aload at h
        split at h
        · split at h
          · rename_i hb
            rw [hev] at hb
            simpa [okBox] using hb
          · exact h.elim
        · exact h.elim
      obtain ⟨r, y, k1, k2, k3⟩ := load_box_ok hT hp ht ho h hev
      refine ⟨r, y, k1, k2, fun w' hw => k3 w' fun b hb => ?_⟩
      have e0 : E0.β[i]? = some E0.β[i] := List.getElem?_eq_getElem hi
      have e1 := hs.β i _ e0
      rw [e1] at hb
      cases hb
      exact (hw.1 i _ e0 hxi).trans (hs.kept.1 i _ e0 hxi).symm
    · exact h.elim
  · rename_i cs hev
    split at h
    · obtain rfl := hq rfl
      refine load_gen (Kept Xr E ws) hT (ev_rep ht x) ho h fun cs' hX hcs => ?_
      have hx := ev_rep ht x
      rw [hev] at hx hcs
      unfold A.rep at hx
      obtain ⟨b, off, hy, hr⟩ := hx
      simp only [cellsAt] at hcs
      cases hcs
      obtain ⟨us, h1, h2⟩ := A.repAt_vals hr
      exact ⟨b, off, us, hy, A.repC.mono _ E.per_le h1, fun w' hw j u hu => hw.2 _ _ (h2 j u hu)⟩
    · exact h.elim
  · exact h.elim
theorem nodup_get {l : List Nat} (h : l.Nodup) {i j b : Nat} (hi : l[i]? = some b) (hj : l[j]? = some b) : i = j := by
  obtain ⟨h1, h2⟩ := List.getElem?_eq_some_iff.1 hi
  obtain ⟨h3, h4⟩ := List.getElem?_eq_some_iff.1 hj
  exact nodup_inj h (h2.trans h4.symm)
theorem calm2_ok {Xr : Nat → Bool} {K : A → S → Prop} {Kc : Act → World → Prop} {Q : Exit → Act → World → Prop} (hc : c.ok) (hp : Hp w0 C0 β0 s.bx s.rw w E) (ht : A.repL s.t E a.tmps.toList) (h : acalm2 c Xr s o K)
    (hx : ∀ ch s' E' w', c.pan ch s' → s'.t = s.t → E.le E' → Hp w0 C0 β0 s'.bx s'.rw w' E' → Q (.panic ch) a w')
    (hk : ∀ y w' r s' E', K r s' → A.repL s'.t E' a.tmps.toList → Hp w0 C0 β0 s'.bx s'.rw w' E' → r.rep E' y → Sub E.C E'.C → (∀ (i b : Nat), E.β[i]? = some b → E'.β[i]? = some b) → (∀ (i b : Nat), E.β[i]? = some b → Xr i = false → w'.heap[b]? = w.heap[b]?) → Kc (a.put o.dst y) w') : o.wp c.P a w Kc Q := by
  unfold acalm2 at h
  split at h
  · rename_i args ts ho
    split at h
    · rename_i x y hx
      split at h
      · rename_i t t' hts
        exact append_ok hc.T hp ht hx hts ho h fun y w' r s' E' h1 h2 h3 h4 h5 h6 h7 _ => hk y w' r s' E' h1 h2 h3 h4 h5 h6 fun i b hb _ => h7 b (List.mem_iff_getElem?.2 ⟨i, hb⟩)
      · exact h.elim
    · exact h.elim
  · rename_i t x y ho
    split at h
    · rename_i i0 off0 hev0
      split at h
      · rename_i hX
        obtain ⟨w', bx', h1, h2, h3, i, off, b, hev, hb, hoth⟩ := store_ok hc.T hp ht ho h
        rw [hev0] at hev
        cases hev
        unfold Oper.wp
        rw [h1]
        refine hk undef w' .dead ⟨s.t, bx', s.rw⟩ E h2 ht h3 (A.rep_dead _ _) (Sub.refl _) (fun _ _ h => h) fun j b' hj hxj => hoth b' ?_
        rintro rfl
        have e := nodup_get hp.bnd hj hb
        subst e
        rw [hX] at hxj
        cases hxj
      · exact h.elim
    · exact h.elim
  · exact calm'_ok hc hp ht h hx fun y w' ⟨⟨r, s', E', g1, g2, g3, g4, g5, g6, g7⟩⟩ => hk y w' r s' E' g1 (by rw [g2]; exact A.repL.mono _ g3 ht) g4 g5 g3.C g3.β fun i b hb hx => Same.box hp g6 hb hx
/-- Panics in a region that draws its order: what the temporaries hold is not told. -/
def deadT (s : S) : S := ⟨s.t.map fun _ => .dead, s.bx, s.rw⟩
def PanQ (c : Cx) (dr : List (Nat × List A)) (w0 : World) (C0 : Rd) (β0 : List Nat) (Q : Exit → Act → World → Prop) : Exit → Act → World → Prop
  | .panic ch, a, w => ∃ s', c.pan ch s' ∧ Inv dr w0 C0 β0 (deadT s') a w
  | e, a, w => Q e a w
theorem dead_rep {E : Env} : ∀ {l : List A} {us : List Value}, us.length = l.length → A.repL (l.map fun _ => A.dead) E us
  | [], us, h => by obtain rfl := List.eq_nil_of_length_eq_zero h; simp [A.repL]
  | a :: r, [], h => by simp at h
  | a :: r, u :: us, h => by
    simp only [List.map_cons]
    unfold A.repL
    exact ⟨u, us, rfl, A.rep_dead _ _, dead_rep (by simpa using h)⟩
theorem inv_dead {E : Env} {s' : S} {us : List Value} (hp : Hp w0 C0 β0 s'.bx s'.rw w E) (ht : A.repL s'.t E us) (hl : us.length = a.tmps.size) (hd : repD dr E a.defers) : Inv dr w0 C0 β0 (deadT s') a w :=
  ⟨E, hp, dead_rep (by have := A.repL_len ht; simp; omega), hd⟩
theorem panQ_put {Q : Exit → Act → World → Prop} : ∀ c' a d v w, PanQ c dr w0 C0 β0 Q (.panic c') (Act.put a d v) w → PanQ c dr w0 C0 β0 Q (.panic c') a w := by
  rintro ch a d v w ⟨s', h1, E, h2, h3, h4⟩
  refine ⟨s', h1, E, h2, ?_, ?_⟩
  · have hl := A.repL_len h3
    refine dead_rep ?_
    cases d with
    | none => simpa [deadT, Act.put] using hl
    | some d => simpa [deadT, Act.put] using hl
  · cases d <;> exact h4
theorem ser_ok' {ops : List Oper} {Q : Exit → Act → World → Prop} {Xr : Nat → Bool} {E0 : Env} {ws : World} (hc : c.ok) (hdr : ∃ n, refsD n dr = true) :
    ∀ {l : Tr} {q : Nat} {s : S} {a : Act} {w : World} {E : Env} {K : S → Prop}, Hp w0 C0 β0 s.bx s.rw w E → A.repL s.t E a.tmps.toList → repD dr E a.defers → (q ≤ 1 → Since Xr E0 ws E w) → (q = 0 → E = E0) →
      aser c Xr E0.β.length ops l q s K → (∀ s' a' w', K s' → Inv dr w0 C0 β0 s' a' w' → Q .normal a' w') → wpT c.P ops.toArray (PanQ c dr w0 C0 β0 Q) (Kept Xr E0 ws) l a w
  | .nil, q, s, a, w, E, K, hp, ht, hd, hs, hq, h, hk => hk s a w h ⟨E, hp, ht, hd⟩
  | .q k m rest, q, s, a, w, E, K, hp, ht, hd, hs, hq, h, hk => by
    change aserQ c Xr E0.β.length ops k m (aser c Xr E0.β.length ops rest) q s K at h
    unfold aserQ at h
    split at h
    · rename_i o hok
      have hok' : ops.toArray[k]? = some o := by simpa using hok
      match m, h with
      | 0, h =>
        simp only at h
        split at h
        · rename_i t x ho
          split at h
          · rename_i hq1
            have hs1 := hs (Nat.le_of_ble_eq_true hq1)
            rcases want_ok ht h with ⟨h1, h2⟩ | ⟨h1, h2⟩
            · obtain ⟨r, y, k1, k2, k3⟩ := load_old_ok hc.T hp ht hs1 hq ho h2
              obtain ⟨s2, p1, p2, p3, p4, p5⟩ := put_ok (a := a) hp ht hd k2 k1
              exact tr_load hok' hs1.kept h1 ⟨y, k3, ser_ok' hc hdr (by rw [p2, p3]; exact hp) p4 p5 hs hq p1 hk⟩
            · obtain ⟨s2, p1, p2, p3, p4, p5⟩ := put_ok (a := a) hp ht hd (rep_undef _) h2
              exact tr_skip0 hok' hs1.kept h1 (ser_ok' hc hdr (by rw [p2, p3]; exact hp) p4 p5 hs hq p1 hk)
          · exact h.elim
        · exact h.elim
      | n + 1, h =>
        simp only at h
        rcases want_ok ht h with ⟨h1, h2⟩ | ⟨h1, h2⟩
        · obtain ⟨r, y, k1, k2, k3⟩ := quiet_ok hc hp ht h2
          obtain ⟨s2, p1, p2, p3, p4, p5⟩ := put_ok (a := a) hp ht hd k2 k1
          exact tr_pure hok' h1 ⟨y, k3, ser_ok' hc hdr (by rw [p2, p3]; exact hp) p4 p5 hs hq p1 hk⟩
        · obtain ⟨s2, p1, p2, p3, p4, p5⟩ := put_ok (a := a) hp ht hd (rep_undef _) h2
          exact tr_skip hok' h1 (ser_ok' hc hdr (by rw [p2, p3]; exact hp) p4 p5 hs hq p1 hk)
    · exact h.elim
  | .alt k m rest other, q, s, a, w, E, K, hp, ht, hd, hs, hq, h, hk => by
    change aserA c Xr ops k m other.isAlt (aser c Xr E0.β.length ops rest) (aser c Xr E0.β.length ops other) q s K at h
    have hL2 : aserL c Xr ops k m (aser c Xr E0.β.length ops rest) q s K ∧ (other.isAlt = true → aser c Xr E0.β.length ops other q s K) := by
      unfold aserA at h
      split at h
      · exact ⟨h.1, fun _ => h.2⟩
      · rename_i e
        exact ⟨h, fun e' => by rw [e] at e'; cases e'⟩
    have hO : other.isAlt = true → wpT c.P ops.toArray (PanQ c dr w0 C0 β0 Q) (Kept Xr E0 ws) other a w := fun e => ser_ok' hc hdr hp ht hd hs hq (hL2.2 e) hk
    have hL := hL2.1
    clear hL2 h
    unfold aserL at hL
    split at hL
    · rename_i o hok
      have hok' : ops.toArray[k]? = some o := by simpa using hok
      split at hL
      · rename_i hm
        obtain rfl := Nat.eq_of_beq_eq_true hm
        split at hL
        · rename_i hq1
          have hs1 := hs (Nat.le_of_ble_eq_true hq1)
          refine tr_loud1 hok' (fun Kc hKc => ?_) hO
          rcases want_ok ht hL with ⟨h1, h2⟩ | ⟨h1, h2⟩
          · rw [if_pos h1]
            refine calm2_ok hc hp ht h2 (fun ch s' E' w' q1 q2 q3 q4 => ⟨s', q1, inv_dead q4 (by rw [q2]; exact A.repL.mono _ q3 ht) (by simp) (hd.mono q3)⟩) fun y w' r s' E' g1 g2 g3 g4 g5 g6 g7 => ?_
            obtain ⟨nd, hdn⟩ := hdr
            obtain ⟨s2, p1, p2, p3, p4, p5⟩ := put_ok (a := a) g3 g2 (hd.keep g5 g6 hdn) g4 g1
            have hsin : Since Xr E0 ws E' w' := ⟨hs1.C.trans g5, fun i b hb => g6 i b (hs1.β i b hb), fun i b hb hx => (g7 i b (hs1.β i b hb) hx).trans (hs1.kept.1 i b hb hx), (hs1.C.trans g5).trans g3.sub⟩
            exact hKc _ _ ⟨hsin.kept, ser_ok' hc ⟨nd, hdn⟩ (by rw [p2, p3]; exact g3) p4 p5 (fun _ => hsin) (fun e => by cases e) p1 hk⟩
          · rw [if_neg (by rw [h1]; simp)]
            obtain ⟨s2, p1, p2, p3, p4, p5⟩ := put_ok (a := a) hp ht hd (rep_undef _) h2
            exact hKc _ _ ⟨hs1.kept, ser_ok' hc hdr (by rw [p2, p3]; exact hp) p4 p5 (fun _ => hs1) (fun e => by cases e) p1 hk⟩
        · exact hL.elim
      · rename_i hm
        refine tr_loud2 (fun e => by rw [e] at hm; simp at hm) hok' (fun Kc hKc => ?_) hO
        rcases want_ok ht hL with ⟨h1, h2⟩ | ⟨h1, h2⟩
        · rw [if_pos h1]
          refine do_ok hc hdr ⟨E, hp, ht, hd⟩ h2 (fun ch s' a' w' q1 ⟨E', q2, q3, q4⟩ => ⟨s', q1, inv_dead q2 q3 (by simp) q4⟩) fun s' a' w' h3 ⟨E', g1, g2, g3⟩ => ?_
          exact hKc _ _ (ser_ok' hc hdr g1 g2 g3 (fun e => by omega) (fun e => by cases e) h3 hk)
        · rw [if_neg (by rw [h1]; simp)]
          obtain ⟨s2, p1, p2, p3, p4, p5⟩ := put_ok (a := a) hp ht hd (rep_undef _) h2
          exact hKc _ _ (ser_ok' hc hdr (by rw [p2, p3]; exact hp) p4 p5 (fun e => by omega) (fun e => by cases e) p1 hk)
    · exact hL.elim
def allLt : List Nat → Nat → Bool
  | [], _ => true
  | x :: r, n => match Nat.blt x n with
    | true => allLt r n
    | false => false
theorem allLt_get {n : Nat} : ∀ {l : List Nat}, allLt l n = true → ∀ x ∈ l, x < n
  | [], _, x, hx => by cases hx
  | y :: r, h, x, hx => by
    unfold allLt at h
    split at h
    · rename_i hy
      rcases List.mem_cons.1 hx with rfl | hx
      · simpa using hy
      · exact allLt_get h x hx
    · cases h
theorem drew_inv (h : Hp w0 C0 β0 s.bx s.rw w E) : Hp w0 C0 β0 s.bx s.rw w.drew E := h.ext (Ext.refl w).drew
/-- A region. -/
theorem ser_ok {id : Nat} {ops : List Oper} {Q : Exit → Act → World → Prop} {X : List Nat} {l : Tr} {K : S → Prop} (hc : c.ok) (hdr : ∃ n, refsD n dr = true) (hx : ∀ ch s' a' w', c.pan ch s' → Inv dr w0 C0 β0 (deadT s') a' w' → Q (.panic ch) a' w') (hi : Inv dr w0 C0 β0 s a w) (hX : allLt X s.bx.length = true) (hB : serOkT ops.toArray l = true)
    (h : aser c (fun i => memB i X) s.bx.length ops l 0 s K) (hk : ∀ s' a' w', K s' → Inv dr w0 C0 β0 s' a' w' → Q .normal a' w') : (Code.region id ops.toArray true).wp c.P Q a w := by
  obtain ⟨E, hp, ht, hd⟩ := hi
  rw [hp.bl] at h
  have hk0 : Kept (fun i => memB i X) E w.drew w.drew := ⟨fun _ _ _ _ => rfl, (drew_inv hp).sub⟩
  refine wp_mono (Q := PanQ c dr w0 C0 β0 Q) (wp_region_TQ (Kept (fun i => memB i X) E w.drew) l hc.m hB panQ_put hk0 fun _ => ?_) (fun e a w h => by
    cases e with
    | panic ch => obtain ⟨s', h1, h2⟩ := h; exact hx ch s' a w h1 h2
    | _ => exact h)
  exact ser_ok' hc hdr (drew_inv hp) ht hd (fun _ => ⟨Sub.refl _, fun _ _ h => h, hk0⟩) (fun _ => rfl) h hk
/-- Where several ways lead through a region: what holds behind each of them is told. -/
@[irreducible] def JoinW (f : (S → Prop) → Prop) (K : S → Prop) : Prop := ∃ φ : S → Prop, f φ ∧ ∀ x, φ x → K x
theorem join_go {f : (S → Prop) → Prop} {K : S → Prop} (φ : S → Prop) (h : f φ) (k : ∀ x, φ x → K x) : JoinW f K := by
  unfold JoinW
  exact ⟨φ, h, k⟩
theorem join_eq {f : (S → Prop) → Prop} {K : S → Prop} (s' : S) (h : f fun x => x = s') (k : K s') : JoinW f K := by
  unfold JoinW
  exact ⟨fun x => x = s', h, fun x e => e ▸ k⟩
theorem exists_min {p : Nat → Prop} : ∀ n, p n → ∃ m, p m ∧ ∀ k, p k → m ≤ k := fun n => by
  induction n using Nat.strongRecOn with
  | _ n ih =>
    intro hn
    by_cases h : ∃ k, k < n ∧ p k
    · obtain ⟨k, h1, h2⟩ := h
      exact ih k h1 h2
    · exact ⟨n, hn, fun k hk => Nat.le_of_not_lt fun h1 => h ⟨k, h1, hk⟩⟩
theorem least {α : Type} {p : α → Nat → Prop} : ∃ M : α → Nat, ∀ z, (∃ n, p z n) → p z (M z) ∧ ∀ m, p z m → M z ≤ m := by
  have h : ∀ z, ∃ m, (∃ n, p z n) → p z m ∧ ∀ k, p z k → m ≤ k := fun z => by
    by_cases hz : ∃ n, p z n
    · obtain ⟨n, hn⟩ := hz
      obtain ⟨m, h1, h2⟩ := exists_min n hn
      exact ⟨m, fun _ => ⟨h1, h2⟩⟩
    · exact ⟨0, fun h => absurd h hz⟩
  exact ⟨fun z => Classical.choose (h z), fun z => Classical.choose_spec (h z)⟩
end
end Go.Proofs.YtpjcbadnpknncaaGreatDoor.Vm
/- A drawn region in which all is calm: no order matters. -/
namespace Go.Proofs.YtpjcbadnpknncaaGreatDoor.Vm
open Go.RowKit
set_option linter.unusedSimpArgs false
set_option linter.unusedVariables false
theorem pre_get {α : Type} {l l' : List α} {i : Nat} {x : α} (h : l[i]? = some x) : (l ++ l')[i]? = some x := by
  have hi := (List.getElem?_eq_some_iff.1 h).1
  rw [List.getElem?_append_left hi]; exact h
/-- Boxes and rows behind the first ones are given up. -/
theorem Hp.drop {w0 w : World} {C0 C : Rd} {β0 β β' : List Nat} {ρ ρ' : List Value} {bx bx' : List (List A)} {rw rw' : List Row} (h : Hp w0 C0 β0 (bx ++ bx') (rw ++ rw') w ⟨C, β ++ β', ρ ++ ρ'⟩) (hb : bx.length = β.length) (hr : rw.length = ρ.length) (hβ : ∃ β1, β = β0 ++ β1 ∧ ∀ b ∈ β1, w0.heap.size ≤ b)
    (hbx : ∀ (i b : Nat) (cs : List A), β[i]? = some b → bx[i]? = some cs → boxAt w ⟨C, β, ρ⟩ b cs) (hrw : ∀ (g : Nat) (r : Row) (y : Value), rw[g]? = some r → ρ[g]? = some y → rowRep w w0.heap.size ⟨C, β, ρ⟩ r y) : Hp w0 C0 β0 bx rw w ⟨C, β, ρ⟩ :=
  ⟨h.sub, h.base, h.fresh, hβ, (List.nodup_append.1 h.bnd).1, fun b hb => h.bC b (List.mem_append_left _ hb), hb, hbx, hr, hrw,
    fun g e k n cs y b h1 h2 h3 => by
      have := h.rC g e k n cs y b (pre_get h1) (pre_get h2) h3
      exact ⟨fun hm => this.1 (List.mem_append_left _ hm), this.2⟩,
    fun g e k n cs y g' e' k' n' cs' z b hne h1 h2 h3 h4 h5 => h.rd g e k n cs y g' e' k' n' cs' z b hne (pre_get h1) (pre_get h2) (pre_get h3) (pre_get h4) h5,
    fun g y h1 => h.rs g y (pre_get h1), h.keep, h.gk⟩
def takeF {α : Type} : Nat → List α → List α
  | 0, _ => []
  | _ + 1, [] => []
  | n + 1, a :: r => a :: takeF n r
theorem takeF_eq {α : Type} : ∀ (n : Nat) (l : List α), takeF n l = l.take n
  | 0, _ => by simp [takeF]
  | _ + 1, [] => by simp [takeF]
  | n + 1, a :: r => by simp [takeF, takeF_eq n r]
/-- What is told of a result, once what is new is given up. -/
def told (bx : List (List A)) (rw : List Row) (s' : S) (r R : A) : Prop :=
  match r with
  | .own g => match Nat.blt g rw.length with
    | true => R = .own g
    | false => match s'.rw[g]? with
      | some (.live _ k n cs) => R = .sl k n cs
      | some (.pub k n cs) => R = .sl k n cs
      | _ => False
  | r => match refs bx.length rw.length r with
    | true => R = r
    | false => False
def Told (bx : List (List A)) (rw : List Row) (s' : S) (r R : A) : Prop := takeF bx.length s'.bx = bx ∧ takeF rw.length s'.rw = rw ∧ told bx rw s' r R
section
variable {c : Cx} {dr : List (Nat × List A)} {w0 : World} {C0 : Rd} {β0 : List Nat} {s : S} {a : Act} {w : World} {E : Env} {o : Oper}
theorem rowRep_pub {base : Nat} {rw : List Row} {g e k n : Nat} {cs : List A} {bx : List (List A)} {y : Value} (hp : Hp w0 C0 β0 bx rw w E) (hg : rw[g]? = some (.live e k n cs)) (hy : E.ρ[g]? = some y) :
    ∃ C', Sub E.C C' ∧ Hp w0 C0 β0 bx (rw.set g (.pub k n cs)) w ⟨C', E.β, E.ρ⟩ ∧ (A.sl k n cs).rep ⟨C', E.β, E.ρ⟩ y := by
  obtain ⟨C', h1, h2⟩ := hp.pub hg
  refine ⟨C', h2.C, h1, ?_⟩
  have hgl := (List.getElem?_eq_some_iff.1 hg).1
  exact h1.rws g (.pub k n cs) y (by rw [List.getElem?_set_self hgl]) hy
/-- The result of an operation, and the state with what is new given up. -/
theorem told_ok {bx : List (List A)} {rw : List Row} {s' : S} {r R : A} {E' : Env} {w' : World} {y : Value} (hp : Hp w0 C0 β0 bx rw w E) (h : Told bx rw s' r R) (le : E.le E') (hp' : Hp w0 C0 β0 s'.bx s'.rw w' E') (hr : r.rep E' y)
    (hsame : Same (fun _ => false) E w w') :
    ∃ C', Sub E.C C' ∧ Hp w0 C0 β0 bx rw w' ⟨C', E.β, E.ρ⟩ ∧ R.rep ⟨C', E.β, E.ρ⟩ y := by
  obtain ⟨h1, h2, h3⟩ := h
  rw [takeF_eq] at h1 h2
  obtain ⟨β', hβ'⟩ : ∃ β', E'.β = E.β ++ β' := by
    refine ⟨E'.β.drop E.β.length, ?_⟩
    have : E'.β.take E.β.length = E.β := by
      apply List.ext_getElem?
      intro i
      by_cases hi : i < E.β.length
      · rw [List.getElem?_take, if_pos hi, List.getElem?_eq_getElem hi]
        exact le.β i _ (List.getElem?_eq_getElem hi)
      · rw [List.getElem?_take, if_neg hi, List.getElem?_eq_none (by omega)]
    rw [← this]; simp [List.take_append_drop]
    have hl : E.β.length ≤ E'.β.length := by
      have := congrArg List.length this
      simp at this; omega
    rw [Nat.min_eq_left hl, List.take_append_drop]
  obtain ⟨ρ', hρ'⟩ : ∃ ρ', E'.ρ = E.ρ ++ ρ' := by
    refine ⟨E'.ρ.drop E.ρ.length, ?_⟩
    have : E'.ρ.take E.ρ.length = E.ρ := by
      apply List.ext_getElem?
      intro i
      by_cases hi : i < E.ρ.length
      · rw [List.getElem?_take, if_pos hi, List.getElem?_eq_getElem hi]
        exact le.ρ i _ (List.getElem?_eq_getElem hi)
      · rw [List.getElem?_take, if_neg hi, List.getElem?_eq_none (by omega)]
    rw [← this]; simp [List.take_append_drop]
    have hl : E.ρ.length ≤ E'.ρ.length := by
      have := congrArg List.length this
      simp at this; omega
    rw [Nat.min_eq_left hl, List.take_append_drop]
  have hbx' : s'.bx = bx ++ s'.bx.drop bx.length := by
    have := (List.take_append_drop bx.length s'.bx).symm
    rwa [h1] at this
  have hrw' : s'.rw = rw ++ s'.rw.drop rw.length := by
    have := (List.take_append_drop rw.length s'.rw).symm
    rwa [h2] at this
  -- the old state, in the new world, in any reading that is greater
  have back : ∀ (C' : Rd) (rwx : List Row), Sub E.C C' → Hp w0 C0 β0 s'.bx rwx w' ⟨C', E'.β, E'.ρ⟩ → rwx.take rw.length = rw → Hp w0 C0 β0 bx rw w' ⟨C', E.β, E.ρ⟩ := fun C' rwx hC hx hrx => by
    have e : rwx = rw ++ rwx.drop rw.length := by
      have := (List.take_append_drop rw.length rwx).symm
      rwa [hrx] at this
    rw [hbx', e, hβ', hρ'] at hx
    have le2 : E.le ⟨C', E.β, E.ρ⟩ := ⟨hC, fun _ _ h => h, fun _ _ h => h⟩
    refine hx.drop hp.bl hp.rl hp.bp (fun i b cs g1 g2 => ?_) (fun g r y g1 g2 => ?_)
    · exact ((hp.bxs i b cs g1 g2).same (Same.box (s := ⟨[], bx, rw⟩) hp hsame g1 rfl)).mono le2
    · exact (hp.rws g r y g1 g2).mono le2 fun e k n cs hr b hb => Same.row (s := ⟨[], bx, rw⟩) hp hsame (by rw [← hr]; exact g1) g2 hb
  have plain : refs bx.length rw.length r = true → ∃ C', Sub E.C C' ∧ Hp w0 C0 β0 bx rw w' ⟨C', E.β, E.ρ⟩ ∧ r.rep ⟨C', E.β, E.ρ⟩ y := fun hrf => by
    refine ⟨E'.C, le.C, back E'.C s'.rw le.C hp' h2, ?_⟩
    have := refs_rep (nb := bx.length) (nr := rw.length) r hrf hr
    rw [hβ', hρ', hp.bl, hp.rl] at this
    simpa using this
  unfold told at h3
  split at h3
  · rename_i g
    split at h3
    · rename_i hlt
      rw [h3]
      exact plain (by unfold refs; exact hlt)
    · rename_i hlt
      split at h3
      · rename_i k n cs hg
        obtain ⟨C', k1, k2, k3⟩ := rowRep_pub (base := 0) hp' hg (by unfold A.rep at hr; exact hr)
        have hge : rw.length ≤ g := by
          rcases Nat.lt_or_ge g rw.length with h4 | h4
          · have h5 : Nat.blt g rw.length = true := by simpa using h4
            rw [hlt] at h5; cases h5
          · exact h4
        refine ⟨C', le.C.trans k1, back C' _ (le.C.trans k1) k2 ?_, ?_⟩
        · rw [List.take_set_of_le hge]; exact h2
        · rw [h3]
          unfold A.rep at k3 ⊢
          exact k3
      · rename_i k n cs hg
        have hy : E'.ρ[g]? = some y := by unfold A.rep at hr; exact hr
        have k3 : (A.sl k n cs).rep E' y := hp'.rws g _ y hg hy
        refine ⟨E'.C, le.C, back E'.C s'.rw le.C hp' h2, ?_⟩
        rw [h3]
        unfold A.rep at k3 ⊢
        exact k3
      · exact h3.elim
  · split at h3
    · rename_i hrf
      rw [h3]
      exact plain hrf
    · exact h3.elim
end
/-! ### Slots -/
def pick0 : List (Nat × A) → A → A
  | [], a => a
  | (j, b) :: r, a => match j with
    | 0 => b
    | _ + 1 => pick0 r a
def dec {α : Type} : List (Nat × α) → List (Nat × α)
  | [] => []
  | (j, b) :: r => match j with
    | 0 => dec r
    | n + 1 => (n, b) :: dec r
def decK {α : Type} : List (Nat × α) → (List (Nat × α) → Prop) → Prop
  | [], K => K []
  | (j, b) :: r, K => match j with
    | 0 => decK r K
    | n + 1 => decK r fun g => K ((n, b) :: g)
theorem decK_iff {α : Type} : ∀ {g : List (Nat × α)} {K : List (Nat × α) → Prop}, decK g K ↔ K (dec g)
  | [], K => by simp [decK, dec]
  | (0, b) :: r, K => by simp [decK, dec, decK_iff (g := r)]
  | (n + 1, b) :: r, K => by simp [decK, dec, decK_iff (g := r)]
/-- The slots that are told. -/
def setAll : List (Nat × A) → List A → List A
  | _, [] => []
  | g, a :: l => pick0 g a :: setAll (dec g) l
def setAllK : List (Nat × A) → List A → (List A → Prop) → Prop
  | _, [], K => K []
  | g, a :: l, K => force (pick0 g a) fun a' => decK g fun g' => setAllK g' l fun r => K (a' :: r)
theorem setAllK_iff : ∀ {l : List A} {g : List (Nat × A)} {K : List A → Prop}, setAllK g l K ↔ K (setAll g l)
  | [], g, K => by simp [setAllK, setAll]
  | a :: l, g, K => by simp [setAllK, setAll, force_iff, decK_iff, setAllK_iff (l := l)]
def lookG : List (Nat × A) → Nat → A → A
  | [], _, a => a
  | (j, b) :: r, x, a => if j = x then b else lookG r x a
theorem pick0_look : ∀ (g : List (Nat × A)) (a : A), pick0 g a = lookG g 0 a
  | [], a => rfl
  | (0, b) :: r, a => by simp [pick0, lookG]
  | (n + 1, b) :: r, a => by simp [pick0, lookG, pick0_look r a]
theorem dec_look : ∀ (g : List (Nat × A)) (x : Nat) (a : A), lookG (dec g) x a = lookG g (x + 1) a
  | [], x, a => rfl
  | (0, b) :: r, x, a => by simp [dec, lookG, dec_look r x a]
  | (n + 1, b) :: r, x, a => by simp [dec, lookG, dec_look r x a]
theorem setAll_get : ∀ (l : List A) (g : List (Nat × A)) (x : Nat), (setAll g l)[x]? = (l[x]?).map (lookG g x)
  | [], g, x => by simp [setAll]
  | a :: l, g, 0 => by simp [setAll, pick0_look]
  | a :: l, g, x + 1 => by
    simp only [setAll, List.getElem?_cons_succ]
    rw [setAll_get l (dec g) x]
    congr 1
    funext b
    exact dec_look g x b
theorem setAll_len : ∀ (l : List A) (g : List (Nat × A)), (setAll g l).length = l.length
  | [], g => by simp [setAll]
  | a :: l, g => by simp [setAll, setAll_len l]
theorem repL_of {E : Env} : ∀ {l : List A} {us : List Value}, us.length = l.length → (∀ (x : Nat) (a : A) (u : Value), l[x]? = some a → us[x]? = some u → a.rep E u) → A.repL l E us
  | [], us, hl, h => by unfold A.repL; exact List.eq_nil_of_length_eq_zero (by simpa using hl)
  | a :: l, [], hl, h => by simp at hl
  | a :: l, u :: us, hl, h => by
    unfold A.repL
    exact ⟨u, us, rfl, h 0 a u rfl rfl, repL_of (by simpa using hl) fun x b v h1 h2 => h (x + 1) b v (by simpa using h1) (by simpa using h2)⟩
/-! ### The flow -/
def onsOf : List Edge → List Nat
  | [] => []
  | e :: r => match Region.binds .any e with
    | true => e.on :: onsOf r
    | false => onsOf r
theorem onsOf_mem : ∀ {l : List Edge} {j : Nat}, j ∈ onsOf l ↔ ∃ e ∈ l, Region.binds .any e = true ∧ e.on = j
  | [], j => by simp [onsOf]
  | e :: r, j => by
    unfold onsOf
    split
    · rename_i h
      rw [List.mem_cons, onsOf_mem (l := r)]
      constructor
      · rintro (rfl | ⟨e', h1, h2⟩)
        · exact ⟨e, by simp, h, rfl⟩
        · exact ⟨e', by simp [h1], h2⟩
      · rintro ⟨e', h1, h2, h3⟩
        rcases List.mem_cons.1 h1 with rfl | h1
        · exact .inl h3.symm
        · exact .inr ⟨e', h1, h2, h3⟩
    · rename_i h
      rw [onsOf_mem (l := r)]
      constructor
      · rintro ⟨e', h1, h2⟩
        exact ⟨e', by simp [h1], h2⟩
      · rintro ⟨e', h1, h2, h3⟩
        rcases List.mem_cons.1 h1 with rfl | h1
        · rw [h] at h2; cases h2
        · exact ⟨e', h1, h2, h3⟩
/-- What is told of the slots when operation i comes up: what it waits for is there; what waits for it has not come up; of the others nothing is said. -/
def flowG (i : Nat) (o : Oper) (rs : List A) : List Oper → Nat → List (Nat × A)
  | [], _ => []
  | oj :: r, j => match oj.dst with
    | none => flowG i o rs r (j + 1)
    | some d => match memB j (onsOf o.after.toList) with
      | true => (d, rs.getD j .dead) :: flowG i o rs r (j + 1)
      | false => match memB i (onsOf oj.after.toList) with
        | true => flowG i o rs r (j + 1)
        | false => (d, .dead) :: flowG i o rs r (j + 1)
def endG (rs : List A) : List Oper → Nat → List (Nat × A)
  | [], _ => []
  | oj :: r, j => match oj.dst with
    | none => endG rs r (j + 1)
    | some d => (d, rs.getD j .dead) :: endG rs r (j + 1)
def GoodAt (c : Cx) (ops : List Oper) (s : S) (rs : List A) (i : Nat) (o : Oper) : Prop :=
  wantK ops o ⟨setAll (flowG i o rs ops 0) s.t, s.bx, s.rw⟩ (acalm' c (fun _ => false) ⟨setAll (flowG i o rs ops 0) s.t, s.bx, s.rw⟩ o fun r s' => Told s.bx s.rw s' r (rs.getD i .dead)) (rs.getD i .dead = .tup [])
def aflow0 (_ : Nat) (rs : List A) (K : List A → Prop) : Prop := K rs
def aflow1 (c : Cx) (ops : List Oper) (s : S) (o : Oper) (ih : Nat → List A → (List A → Prop) → Prop) (i : Nat) (rs : List A) (K : List A → Prop) : Prop :=
  ∃ R : A, (setAllK (flowG i o rs ops 0) s.t fun t => wantK ops o ⟨t, s.bx, s.rw⟩ (acalm' c (fun _ => false) ⟨t, s.bx, s.rw⟩ o fun r s' => Told s.bx s.rw s' r R) (R = .tup [])) ∧ force R fun R => snocK rs R 0 fun _ rs' => ih (i + 1) rs' K
noncomputable def aflow (c : Cx) (ops : List Oper) (s : S) (l : List Oper) : Nat → List A → (List A → Prop) → Prop :=
  List.rec aflow0 (fun o _ ih => aflow1 c ops s o ih) l
def aflowR (c : Cx) (ops : List Oper) (s : S) (K : S → Prop) : Prop := aflow c ops s ops 0 [] fun rs => setAllK (endG rs ops 0) s.t fun t => withT s t K
theorem flow_go {p q : A → Prop} (R : A) (h : p R) (k : q R) : ∃ R, p R ∧ q R := ⟨R, h, k⟩
def dstOf (ops : List Oper) (j : Nat) : Option Nat := (ops[j]?).bind (·.dst)
def flowOk (ops : Array Oper) : Bool :=
  Region.noSelect ops && ops.toList.zipIdx.all (fun x => x.1.after.toList.all fun e => !Region.binds .any e || decide (e.on < x.2)) &&
  (List.range ops.size).all fun i => (List.range ops.size).all fun j => i == j || (dstOf ops.toList i).isNone || dstOf ops.toList i != dstOf ops.toList j
structure FlowOk (ops : List Oper) : Prop where
  sel : Region.noSelect ops.toArray = true
  topo : ∀ (i : Nat) (o : Oper), ops[i]? = some o → ∀ e ∈ o.after, Region.binds .any e = true → e.on < i
  dist : ∀ (i j : Nat) (oi oj : Oper) (d : Nat), ops[i]? = some oi → ops[j]? = some oj → oi.dst = some d → oj.dst = some d → i = j
theorem flowOk_iff {ops : List Oper} (h : flowOk ops.toArray = true) : FlowOk ops := by
  unfold flowOk at h
  simp only [Bool.and_eq_true] at h
  refine ⟨h.1.1, fun i o ho e he hb => ?_, fun i j oi oj d hi hj di dj => ?_⟩
  · have := List.all_eq_true.1 h.1.2 (o, i) (by rw [List.mem_zipIdx_iff_getElem?]; simpa using ho)
    have := List.all_eq_true.1 this e (by simpa using he)
    simpa [hb] using this
  · have hi' := (List.getElem?_eq_some_iff.1 hi).1
    have hj' := (List.getElem?_eq_some_iff.1 hj).1
    have h1 := List.all_eq_true.1 h.2 i (List.mem_range.2 (by simpa using hi'))
    have h2 := List.all_eq_true.1 h1 j (List.mem_range.2 (by simpa using hj'))
    simp [dstOf, hi, hj, di, dj] at h2
    exact h2
section
variable {c : Cx} {dr : List (Nat × List A)} {w0 : World} {C0 : Rd} {β0 : List Nat} {s : S} {a : Act} {w : World} {E : Env} {ops : List Oper}
theorem flowG_app {i : Nat} {o : Oper} {rs ms : List A} (h : ∀ j ∈ onsOf o.after.toList, j < rs.length) : ∀ (l : List Oper) (j : Nat), flowG i o (rs ++ ms) l j = flowG i o rs l j
  | [], j => rfl
  | oj :: r, j => by
    unfold flowG
    rw [flowG_app h r (j + 1)]
    split
    · rfl
    · split
      · rename_i hm
        rw [memB_iff] at hm
        have := h j hm
        simp [List.getD_eq_getElem?_getD, List.getElem?_append_left this]
      · rfl
theorem aflow_all (hf : FlowOk ops) : ∀ {l : List Oper} {i : Nat} {rs : List A} {K : List A → Prop}, l = ops.drop i → rs.length = i → aflow c ops s l i rs K →
    ∃ ms, K (rs ++ ms) ∧ ∀ (j : Nat) (o : Oper), i ≤ j → ops[j]? = some o → GoodAt c ops s (rs ++ ms) j o
  | [], i, rs, K, hl, hr, h => ⟨[], by rw [List.append_nil]; exact h, fun j o hj ho => by
      have := (List.getElem?_eq_some_iff.1 ho).1
      have h2 : (ops.drop i).length = 0 := by rw [← hl]; rfl
      simp at h2; omega⟩
  | o :: l, i, rs, K, hl, hr, h => by
    change aflow1 c ops s o (aflow c ops s l) i rs K at h
    unfold aflow1 at h
    obtain ⟨R, h1, h2⟩ := h
    rw [setAllK_iff] at h1
    rw [force_iff, snocK_iff] at h2
    have hil : i < ops.length := by
      have : (ops.drop i).length = l.length + 1 := by rw [← hl]; rfl
      simp at this; omega
    have ho : ops[i]? = some o := by
      have := congrArg (·[0]?) hl
      simp at this
      exact this.symm
    have hl' : l = ops.drop (i + 1) := by
      have := congrArg List.tail hl
      simpa using this
    obtain ⟨ms, k1, k2⟩ := aflow_all hf hl' (by simp [hr]) h2
    refine ⟨R :: ms, by simpa using k1, fun j oj hj hoj => ?_⟩
    by_cases hji : j = i
    · subst hji
      rw [ho] at hoj
      cases hoj
      unfold GoodAt
      rw [flowG_app (fun j' hj' => by
        obtain ⟨e, he, hb, rfl⟩ := onsOf_mem.1 hj'
        have := hf.topo j o ho e (by simpa using he) hb
        rw [hr]; exact this)]
      have e : (rs ++ R :: ms).getD j .dead = R := by
        rw [List.getD_eq_getElem?_getD, List.getElem?_append_right (by omega), hr]; simp
      rw [e]
      exact h1
    · have := k2 j oj (by omega) hoj
      simpa using this
/-- The slots, when those of D have come up. -/
structure FlowI (dr : List (Nat × List A)) (w0 : World) (C0 : Rd) (β0 : List Nat) (s : S) (E : Env) (ops : List Oper) (rs : List A) (D : Array Bool) (a : Act) (w : World) : Prop where
  ex : ∃ C', Sub E.C C' ∧ Hp w0 C0 β0 s.bx s.rw w ⟨C', E.β, E.ρ⟩ ∧ ∀ (x : Nat) (a' : A) (v : Value), s.t[x]? = some a' → a.tmps.toList[x]? = some v →
    (∀ (j : Nat) (oj : Oper), ops[j]? = some oj → oj.dst = some x → D.getD j false = true → (rs.getD j .dead).rep ⟨C', E.β, E.ρ⟩ v) ∧ ((∀ (j : Nat) (oj : Oper), ops[j]? = some oj → oj.dst = some x → D.getD j false = false) → a'.rep ⟨C', E.β, E.ρ⟩ v)
  size : a.tmps.size = s.t.length
  defers : repD dr E a.defers
  dsize : D.size = ops.length
  closed : ∀ (j : Nat) (o : Oper), ops[j]? = some o → D.getD j false = true → ∀ e ∈ o.after, Region.binds .any e = true → D.getD e.on false = true
theorem lookG_cases : ∀ {g : List (Nat × A)} {x : Nat} {a : A}, (∃ b, (x, b) ∈ g ∧ lookG g x a = b) ∨ ((∀ b, (x, b) ∉ g) ∧ lookG g x a = a)
  | [], x, a => .inr ⟨by simp, rfl⟩
  | (j, b) :: r, x, a => by
    unfold lookG
    by_cases hj : j = x
    · subst hj
      rw [if_pos rfl]
      exact .inl ⟨b, by simp, rfl⟩
    · rw [if_neg hj]
      rcases lookG_cases (g := r) (x := x) (a := a) with ⟨b', h1, h2⟩ | ⟨h1, h2⟩
      · exact .inl ⟨b', by simp [h1], h2⟩
      · refine .inr ⟨fun b' hb => ?_, h2⟩
        rcases List.mem_cons.1 hb with h3 | h3
        · exact hj (Prod.mk.inj h3).1.symm
        · exact h1 b' h3
theorem flowG_mem {i : Nat} {o : Oper} {rs : List A} : ∀ {l : List Oper} {n : Nat}, (∀ x b, (x, b) ∈ flowG i o rs l n → ∃ (j : Nat) (oj : Oper), l[j]? = some oj ∧ oj.dst = some x ∧ ((n + j ∈ onsOf o.after.toList ∧ b = rs.getD (n + j) .dead) ∨ b = .dead)) ∧
    (∀ (j : Nat) (oj : Oper) (x : Nat), l[j]? = some oj → oj.dst = some x → (∀ b, (x, b) ∉ flowG i o rs l n) → i ∈ onsOf oj.after.toList)
  | [], n => ⟨by simp [flowG], by simp⟩
  | oj :: r, n => by
    obtain ⟨ih1, ih2⟩ := flowG_mem (i := i) (o := o) (rs := rs) (l := r) (n := n + 1)
    have up : ∀ x b, (x, b) ∈ flowG i o rs r (n + 1) → ∃ (j : Nat) (oj' : Oper), (oj :: r)[j]? = some oj' ∧ oj'.dst = some x ∧ ((n + j ∈ onsOf o.after.toList ∧ b = rs.getD (n + j) .dead) ∨ b = .dead) := fun x b hx => by
      obtain ⟨j, oj', h1, h2, h3⟩ := ih1 x b hx
      exact ⟨j + 1, oj', by simpa using h1, h2, by rw [show n + (j + 1) = n + 1 + j by omega]; exact h3⟩
    unfold flowG
    cases hd : oj.dst with
    | none =>
      simp only
      refine ⟨up, fun j oj' x h1 h2 h3 => ?_⟩
      cases j with
      | zero => simp at h1; subst h1; rw [hd] at h2; cases h2
      | succ j => exact ih2 j oj' x (by simpa using h1) h2 h3
    | some d =>
      simp only
      cases hm : memB n (onsOf o.after.toList) with
      | true =>
        simp only
        refine ⟨fun x b hx => ?_, fun j oj' x h1 h2 h3 => ?_⟩
        · rcases List.mem_cons.1 hx with h4 | h4
          · cases h4
            exact ⟨0, oj, rfl, hd, .inl ⟨by rw [memB_iff] at hm; simpa using hm, by simp⟩⟩
          · exact up x b h4
        · cases j with
          | zero => simp at h1; subst h1; rw [hd] at h2; cases h2; exact absurd (List.mem_cons_self ..) (h3 _)
          | succ j => exact ih2 j oj' x (by simpa using h1) h2 fun b hb => h3 b (List.mem_cons_of_mem _ hb)
      | false =>
        simp only
        cases hm2 : memB i (onsOf oj.after.toList) with
        | true =>
          simp only
          refine ⟨up, fun j oj' x h1 h2 h3 => ?_⟩
          cases j with
          | zero => simp at h1; subst h1; exact memB_iff.1 hm2
          | succ j => exact ih2 j oj' x (by simpa using h1) h2 h3
        | false =>
          simp only
          refine ⟨fun x b hx => ?_, fun j oj' x h1 h2 h3 => ?_⟩
          · rcases List.mem_cons.1 hx with h4 | h4
            · cases h4
              exact ⟨0, oj, rfl, hd, .inr rfl⟩
            · exact up x b h4
          · cases j with
            | zero => simp at h1; subst h1; rw [hd] at h2; cases h2; exact absurd (List.mem_cons_self ..) (h3 _)
            | succ j => exact ih2 j oj' x (by simpa using h1) h2 fun b hb => h3 b (List.mem_cons_of_mem _ hb)
theorem endG_mem {rs : List A} : ∀ {l : List Oper} {n : Nat}, (∀ x b, (x, b) ∈ endG rs l n → ∃ (j : Nat) (oj : Oper), l[j]? = some oj ∧ oj.dst = some x ∧ b = rs.getD (n + j) .dead) ∧
    (∀ (j : Nat) (oj : Oper) (x : Nat), l[j]? = some oj → oj.dst = some x → ∃ b, (x, b) ∈ endG rs l n)
  | [], n => ⟨by simp [endG], by simp⟩
  | oj :: r, n => by
    obtain ⟨ih1, ih2⟩ := endG_mem (rs := rs) (l := r) (n := n + 1)
    have up : ∀ x b, (x, b) ∈ endG rs r (n + 1) → ∃ (j : Nat) (oj' : Oper), (oj :: r)[j]? = some oj' ∧ oj'.dst = some x ∧ b = rs.getD (n + j) .dead := fun x b hx => by
      obtain ⟨j, oj', h1, h2, h3⟩ := ih1 x b hx
      exact ⟨j + 1, oj', by simpa using h1, h2, by rw [show n + (j + 1) = n + 1 + j by omega]; exact h3⟩
    unfold endG
    cases hd : oj.dst with
    | none =>
      simp only
      refine ⟨up, fun j oj' x h1 h2 => ?_⟩
      cases j with
      | zero => simp at h1; subst h1; rw [hd] at h2; cases h2
      | succ j => exact ih2 j oj' x (by simpa using h1) h2
    | some d =>
      simp only
      refine ⟨fun x b hx => ?_, fun j oj' x h1 h2 => ?_⟩
      · rcases List.mem_cons.1 hx with h4 | h4
        · cases h4
          exact ⟨0, oj, rfl, hd, by simp⟩
        · exact up x b h4
      · cases j with
        | zero => simp at h1; subst h1; rw [hd] at h2; cases h2; exact ⟨_, List.mem_cons_self ..⟩
        | succ j =>
          obtain ⟨b, hb⟩ := ih2 j oj' x (by simpa using h1) h2
          exact ⟨b, List.mem_cons_of_mem _ hb⟩
theorem flow_state (hf : FlowOk ops) {rs : List A} {D : Array Bool} (h : FlowI dr w0 C0 β0 s E ops rs D a w) {i : Nat} {o : Oper} (ho : ops[i]? = some o) (hu : D.getD i false = false) (hd : ∀ e ∈ o.after, Region.binds .any e = true → D.getD e.on false = true) {C' : Rd}
    (hx : ∀ (x : Nat) (a' : A) (v : Value), s.t[x]? = some a' → a.tmps.toList[x]? = some v →
      (∀ (j : Nat) (oj : Oper), ops[j]? = some oj → oj.dst = some x → D.getD j false = true → (rs.getD j .dead).rep ⟨C', E.β, E.ρ⟩ v) ∧ ((∀ (j : Nat) (oj : Oper), ops[j]? = some oj → oj.dst = some x → D.getD j false = false) → a'.rep ⟨C', E.β, E.ρ⟩ v)) :
    A.repL (setAll (flowG i o rs ops 0) s.t) ⟨C', E.β, E.ρ⟩ a.tmps.toList := by
  refine repL_of (by rw [setAll_len]; simpa using h.size) fun x b u h1 h2 => ?_
  rw [setAll_get, Option.map_eq_some_iff] at h1
  obtain ⟨a', h1, rfl⟩ := h1
  obtain ⟨g1, g2⟩ := hx x a' u h1 h2
  obtain ⟨m1, m2⟩ := flowG_mem (i := i) (o := o) (rs := rs) (l := ops) (n := 0)
  rcases lookG_cases (g := flowG i o rs ops 0) (x := x) (a := a') with ⟨b, k1, k2⟩ | ⟨k1, k2⟩
  · rw [k2]
    obtain ⟨j, oj, q1, q2, q3⟩ := m1 x b k1
    rcases q3 with ⟨q3, rfl⟩ | rfl
    · rw [Nat.zero_add] at q3 ⊢
      obtain ⟨e, he, hb, rfl⟩ := onsOf_mem.1 q3
      exact g1 e.on oj q1 q2 (hd e (by simpa using he) hb)
    · exact A.rep_dead _ _
  · rw [k2]
    refine g2 fun j oj q1 q2 => ?_
    have := m2 j oj x q1 q2 k1
    obtain ⟨e, he, hb, he2⟩ := onsOf_mem.1 this
    cases hD : D.getD j false with
    | false => rfl
    | true =>
      have := h.closed j oj q1 hD e (by simpa using he) hb
      rw [he2, hu] at this; cases this
theorem flow_put (hf : FlowOk ops) {rs : List A} {D : Array Bool} (h : FlowI dr w0 C0 β0 s E ops rs D a w) {i : Nat} {o : Oper} (ho : ops[i]? = some o) (hu : D.getD i false = false) (hd : ∀ e ∈ o.after, Region.binds .any e = true → D.getD e.on false = true) {C' C'' : Rd} (hC : Sub E.C C'') (hCC : Sub C' C'') {w' : World} {y : Value}
    (hp : Hp w0 C0 β0 s.bx s.rw w' ⟨C'', E.β, E.ρ⟩) (hy : (rs.getD i .dead).rep ⟨C'', E.β, E.ρ⟩ y)
    (hx : ∀ (x : Nat) (a' : A) (v : Value), s.t[x]? = some a' → a.tmps.toList[x]? = some v →
      (∀ (j : Nat) (oj : Oper), ops[j]? = some oj → oj.dst = some x → D.getD j false = true → (rs.getD j .dead).rep ⟨C', E.β, E.ρ⟩ v) ∧ ((∀ (j : Nat) (oj : Oper), ops[j]? = some oj → oj.dst = some x → D.getD j false = false) → a'.rep ⟨C', E.β, E.ρ⟩ v)) :
    FlowI dr w0 C0 β0 s E ops rs (D.setIfInBounds i true) (a.put o.dst y) w' := by
  have hil := (List.getElem?_eq_some_iff.1 ho).1
  have hD : ∀ j, (D.setIfInBounds i true).getD j false = if j = i then true else D.getD j false := fun j => by
    by_cases hj : j = i
    · subst hj
      rw [if_pos rfl]
      simp [Array.getD_eq_getD_getElem?, h.dsize, hil]
    · rw [if_neg hj]
      simp only [Array.getD_eq_getD_getElem?]
      rw [Array.getElem?_setIfInBounds_ne (fun e => hj e.symm)]
  have le : (⟨C', E.β, E.ρ⟩ : Env).le ⟨C'', E.β, E.ρ⟩ := ⟨hCC, fun _ _ h => h, fun _ _ h => h⟩
  refine ⟨⟨C'', hC, hp, fun x a' v h1 h2 => ?_⟩, ?_, ?_, by simp [h.dsize], fun j oj hj hDj e he hb => ?_⟩
  · by_cases hdx : o.dst = some x
    · refine ⟨fun j oj q1 q2 q3 => ?_, fun hn => ?_⟩
      · obtain rfl : i = j := hf.dist i j o oj x ho q1 hdx q2
        have hv : v = y := by
          rw [hdx] at h2
          have : (a.tmps.setIfInBounds x y).toList[x]? = some v := h2
          rw [Array.toList_setIfInBounds] at this
          have hxl : x < a.tmps.toList.length := by
            have := (List.getElem?_eq_some_iff.1 h1).1
            have := h.size
            simp; omega
          rw [List.getElem?_set_self hxl] at this
          exact (Option.some.inj this).symm
        rw [hv]; exact hy
      · have := hn i o ho hdx
        rw [hD, if_pos rfl] at this; cases this
    · have h2' : a.tmps.toList[x]? = some v := by
        cases hod : o.dst with
        | none => rw [hod] at h2; exact h2
        | some d =>
          rw [hod] at h2 hdx
          have : (a.tmps.setIfInBounds d y).toList[x]? = some v := h2
          rw [Array.toList_setIfInBounds] at this
          rw [List.getElem?_set_ne (fun e => hdx (by rw [e]))] at this
          exact this
      obtain ⟨g1, g2⟩ := hx x a' v h1 h2'
      refine ⟨fun j oj q1 q2 q3 => ?_, fun hn => ?_⟩
      · have hji : j ≠ i := fun e => by
          subst e
          rw [ho] at q1; cases q1
          exact hdx q2
        rw [hD, if_neg hji] at q3
        exact (g1 j oj q1 q2 q3).mono _ le
      · refine (g2 fun j oj q1 q2 => ?_).mono _ le
        have := hn j oj q1 q2
        have hji : j ≠ i := fun e => by
          subst e
          rw [ho] at q1; cases q1
          exact hdx q2
        rwa [hD, if_neg hji] at this
  · cases hod : o.dst with
    | none => exact h.size
    | some d =>
      show (a.tmps.setIfInBounds d y).size = _
      simpa using h.size
  · cases hod : o.dst <;> exact h.defers
  · rw [hD]
    split
    · rfl
    · rw [hD] at hDj
      split at hDj
      · rename_i hji
        subst hji
        rw [ho] at hj; cases hj
        exact hd e he hb
      · exact h.closed j oj hj hDj e he hb
def unlisted (n : Nat) (D : Array Bool) : List Nat := (List.range n).filter fun i => !D.getD i false
theorem unlisted_set {n i : Nat} {D : Array Bool} (hi : i < n) (hs : D.size = n) (hu : D.getD i false = false) : (unlisted n (D.setIfInBounds i true)).length < (unlisted n D).length := by
  have : unlisted n (D.setIfInBounds i true) = (unlisted n D).filter fun j => decide (j ≠ i) := by
    unfold unlisted
    rw [List.filter_filter]
    refine List.filter_congr fun j _ => ?_
    by_cases hj : j = i
    · subst hj; simp [Array.getD_eq_getD_getElem?, hs, hi]
    · simp only [Array.getD_eq_getD_getElem?]
      rw [Array.getElem?_setIfInBounds_ne (fun e => hj e.symm)]
      simp [hj]
  rw [this]
  refine List.length_filter_lt_length_iff_exists.2 ⟨i, ?_, by simp⟩
  unfold unlisted
  rw [List.mem_filter]
  exact ⟨List.mem_range.2 hi, by simp [hu]⟩
theorem getD_eq {D : Array Bool} {i : Nat} (h : i < D.size) (b b' : Bool) : D.getD i b = D.getD i b' := by simp [Array.getD_eq_getD_getElem?, h]
theorem ready_flow {D : Array Bool} (hs : D.size = ops.length) {i : Nat} (h : i ∈ Region.ready .any ops.toArray D) : i < ops.length ∧ D.getD i false = false ∧ ∃ o, ops[i]? = some o ∧ ∀ e ∈ o.after, Region.binds .any e = true → D.getD e.on false = true := by
  obtain ⟨h1, o, h2, h3⟩ := mem_ready.1 h
  have h2' : ops[i]? = some o := by simpa using h2
  have hi := (List.getElem?_eq_some_iff.1 h2').1
  exact ⟨hi, by rw [getD_eq (by omega) false true]; exact h1, o, h2', h3⟩
theorem none_ready (hf : FlowOk ops) {D : Array Bool} (hs : D.size = ops.length) (h : Region.ready .any ops.toArray D = []) : ∀ i, i < ops.length → D.getD i false = true := fun i => by
  induction i using Nat.strongRecOn with
  | _ i ih =>
    intro hi
    cases hD : D.getD i false with
    | true => rfl
    | false =>
      have : i ∈ Region.ready .any ops.toArray D := mem_ready.2 ⟨by rw [getD_eq (by omega) true false]; exact hD, ops[i], by simp [hi], fun e he hb => by
        have := hf.topo i ops[i] (List.getElem?_eq_getElem hi) e he hb
        exact ih e.on this (by omega)⟩
      rw [h] at this; cases this
theorem flow_end {rs : List A} {D : Array Bool} (h : FlowI dr w0 C0 β0 s E ops rs D a w) (hall : ∀ i, i < ops.length → D.getD i false = true) : Inv dr w0 C0 β0 ⟨setAll (endG rs ops 0) s.t, s.bx, s.rw⟩ a w := by
  obtain ⟨C', h1, h2, h3⟩ := h.ex
  refine ⟨⟨C', E.β, E.ρ⟩, h2, ?_, repD.mono (E := E) (F := ⟨C', E.β, E.ρ⟩) ⟨h1, fun _ _ h => h, fun _ _ h => h⟩ h.defers⟩
  refine repL_of (by rw [setAll_len]; simpa using h.size) fun x b u g1 g2 => ?_
  rw [setAll_get, Option.map_eq_some_iff] at g1
  obtain ⟨a', g1, rfl⟩ := g1
  obtain ⟨k1, k2⟩ := h3 x a' u g1 g2
  obtain ⟨m1, m2⟩ := endG_mem (rs := rs) (l := ops) (n := 0)
  rcases lookG_cases (g := endG rs ops 0) (x := x) (a := a') with ⟨b, q1, q2⟩ | ⟨q1, q2⟩
  · rw [q2]
    obtain ⟨j, oj, p1, p2, rfl⟩ := m1 x b q1
    rw [Nat.zero_add]
    exact k1 j oj p1 p2 (hall j (List.getElem?_eq_some_iff.1 p1).1)
  · rw [q2]
    refine k2 fun j oj p1 p2 => ?_
    obtain ⟨b, hb⟩ := m2 j oj x p1 p2
    exact absurd hb (q1 b)
theorem flow_any {Q : Exit → Act → World → Prop} (hc : c.ok) (hn : ∀ ch s, ¬ c.pan ch s) (hf : FlowOk ops) {rs : List A} (hg : ∀ (j : Nat) (o : Oper), ops[j]? = some o → GoodAt c ops s rs j o) (hk : ∀ a' w', Inv dr w0 C0 β0 ⟨setAll (endG rs ops 0) s.t, s.bx, s.rw⟩ a' w' → Q .normal a' w') :
    ∀ (f : Nat) (D : Array Bool) (a : Act) (w : World), (unlisted ops.length D).length ≤ f → FlowI dr w0 C0 β0 s E ops rs D a w → wpAny c.P .any ops.toArray Q f D a w
  | 0, D, a, w, hl, h => by
    have hn : Region.ready .any ops.toArray D = [] := by
      rw [List.eq_nil_iff_forall_not_mem]
      intro i hi
      obtain ⟨h1, h2, -⟩ := ready_flow h.dsize hi
      have : i ∈ unlisted ops.length D := by unfold unlisted; rw [List.mem_filter]; exact ⟨List.mem_range.2 h1, by simp [h2]⟩
      have h3 : unlisted ops.length D = [] := List.eq_nil_of_length_eq_zero (by omega)
      rw [h3] at this; cases this
    exact ⟨hn, hk a w (flow_end h (none_ready hf h.dsize hn))⟩
  | f + 1, D, a, w, hl, h => by
    refine ⟨fun hn => hk a w (flow_end h (none_ready hf h.dsize hn)), fun i hi => ?_⟩
    obtain ⟨h1, h2, o, ho, hd⟩ := ready_flow h.dsize hi
    obtain ⟨C', q1, q2, q3⟩ := h.ex
    have hst := flow_state hf h ho h2 hd q3
    have hG := hg i o ho
    unfold GoodAt at hG
    unfold wpOp
    have ho' : ops.toArray[i]? = some o := by simpa using ho
    rw [ho']
    simp only
    have hlt := unlisted_set h1 h.dsize h2
    rcases want_ok hst hG with ⟨k1, k2⟩ | ⟨k1, k2⟩
    · rw [if_pos k1]
      left
      refine calm'_ok hc (s := ⟨setAll (flowG i o rs ops 0) s.t, s.bx, s.rw⟩) q2 hst k2 (fun ch s' _ _ h1 _ _ _ => absurd h1 (hn ch s')) fun y w' ⟨⟨r, s', E', g1, g2, g3, g4, g5, g6, g7⟩⟩ => ?_
      obtain ⟨C'', p1, p2, p3⟩ := told_ok q2 g1 g3 g4 g5 g6
      exact flow_any hc hn hf hg hk f _ _ _ (by omega) (flow_put hf h ho h2 hd (q1.trans p1) p1 p2 p3 q3)
    · rw [if_neg (by rw [k1]; simp)]
      exact flow_any hc hn hf hg hk f _ _ _ (by omega) (flow_put hf h ho h2 hd q1 (Sub.refl _) q2 (by rw [k2]; exact rep_undef _) q3)
theorem flow_ok {id : Nat} {Q : Exit → Act → World → Prop} {K : S → Prop} (hc : c.ok) (hn : ∀ ch s, ¬ c.pan ch s) (hi : Inv dr w0 C0 β0 s a w) (hB : flowOk ops.toArray = true) (h : aflowR c ops s K) (hk : ∀ s' a' w', K s' → Inv dr w0 C0 β0 s' a' w' → Q .normal a' w') : (Code.region id ops.toArray true).wp c.P Q a w := by
  obtain ⟨E, hp, ht, hd⟩ := hi
  have hf := flowOk_iff hB
  obtain ⟨rs, k1, k2⟩ := aflow_all (c := c) (s := s) (ops := ops) hf (l := ops) (i := 0) (rs := []) (K := fun rs => setAllK (endG rs ops 0) s.t fun t => withT s t K) (by rw [List.drop_zero]) rfl h
  rw [List.nil_append, setAllK_iff, withT_iff] at k1
  rw [List.nil_append] at k2
  refine wp_region_noPanic (wp_region_any hc.m ?_)
  refine flow_any (Q := NoPanic Q) hc hn hf (fun j o ho => k2 j o (Nat.zero_le _) ho) (fun a' w' h' => hk _ a' w' k1 h') _ (Array.replicate ops.toArray.size false) _ _ ?_ (E := E) ⟨⟨E.C, Sub.refl _, drew_inv hp, fun x a' v h1 h2 => ⟨fun j oj _ _ hj => ?_, fun _ => ?_⟩⟩, by have := A.repL_len ht; simpa using this, hd, by simp, fun j oj _ hj => ?_⟩
  · unfold unlisted
    refine Nat.le_trans (List.length_filter_le _ _) (by simp)
  · exfalso
    simp only [Array.getD_eq_getD_getElem?, Array.getElem?_replicate] at hj
    split at hj <;> simp at hj
  · obtain ⟨u, hu, hr⟩ := A.repL_get ht h1
    rw [h2] at hu; cases hu
    exact hr
  · exfalso
    simp only [Array.getD_eq_getD_getElem?, Array.getElem?_replicate] at hj
    split at hj <;> simp at hj
end
/-- A region is walked as a flow. -/
def Tr.isFlow : Tr → Bool
  | .q _ m _ => Nat.beq m 7
  | _ => false
end Go.Proofs.YtpjcbadnpknncaaGreatDoor.Vm
/- Code: what the abstract run says holds of the real one. -/
namespace Go.Proofs.YtpjcbadnpknncaaGreatDoor.Vm
open Go.RowKit
set_option linter.unusedSimpArgs false
set_option linter.unusedVariables false
section
variable {c : Cx} {dr : List (Nat × List A)} {w0 : World} {C0 : Rd} {β0 : List Nat} {s : S} {a : Act} {w : World} {E : Env} {o : Oper}
/-! ### Code -/
@[irreducible] def LoopW (np : Nat) (f : S → (Exit → S → Prop) → Prop) (s : S) (Q : Exit → S → Prop) : Prop :=
  ∃ (X : Type) (F : X → S) (φ : X → Prop) (μ : X → Nat), (∃ x, Le np s (F x) ∧ φ x) ∧ ∀ x, φ x → f (F x) fun e s' => match e with
    | .normal => ∃ x', Le np s' (F x') ∧ φ x' ∧ μ x' < μ x
    | e => Q e s'
/-- No call of a flow may panic; a panic in a region that draws its order says nothing of the temporaries. -/
def Cx.mute (c : Cx) : Cx := ⟨c.P, c.T, c.ord, c.xs, c.np, fun _ _ => False⟩
def Cx.kill (c : Cx) : Cx := ⟨c.P, c.T, c.ord, c.xs, c.np, fun ch s => c.pan ch (deadT s)⟩
theorem Cx.ok.mute (h : c.ok) : c.mute.ok := ⟨h.T, h.z, h.m⟩
theorem Cx.ok.kill (h : c.ok) : c.kill.ok := ⟨h.T, h.z, h.m⟩
/-- Nothing that is called may panic. -/
structure Cx.okN (c : Cx) : Prop where
  ok : c.ok
  no : ∀ ch s, ¬ c.pan ch s
def noLoop : Code → Bool
  | .seq x y => noLoop x && noLoop y
  | .cond _ x y => noLoop x && noLoop y
  | .block _ x => noLoop x
  | .loop _ => false
  | .scope x => noLoop x
  | _ => true
abbrev AW := S → (Exit → S → Prop) → Prop
def awpEnd (e : Exit) (s : S) (Q : Exit → S → Prop) : Prop := Q e s
def awpNo (_ : S) (_ : Exit → S → Prop) : Prop := False
def awpRegion (c : Cx) (id : Nat) (ops : Array Oper) (dr : Bool) (s : S) (Q : Exit → S → Prop) : Prop :=
  match dr with
    | false => aseq c ops.toList ops.toList s fun s' => Q .normal s'
    | true => match allLt (c.xs id) s.bx.length with
      | true => match Tr.isFlow (c.ord id) with
        | true => aflowR c.mute ops.toList s fun s' => Q .normal s'
        | false => match (c.ord id).many with
        | false => aser c.kill (fun i => memB i (c.xs id)) s.bx.length ops.toList (c.ord id) 0 s fun s' => Q .normal s'
        | true => JoinW (fun K => aser c.kill (fun i => memB i (c.xs id)) s.bx.length ops.toList (c.ord id) 0 s K) fun s' => Q .normal s'
      | false => False
def seqQ (y : AW) (Q : Exit → S → Prop) (e : Exit) (s' : S) : Prop := match e with
  | .normal => y s' Q
  | e => Q e s'
def awpSeq (x y : AW) (s : S) (Q : Exit → S → Prop) : Prop := x s (seqQ y Q)
def awpCond (b : Operand) (x y : AW) (s : S) (Q : Exit → S → Prop) : Prop := match ev s b with
  | .v (.bool b) => ifK b (x s Q) (y s Q)
  | _ => False
def blockQ (id : Nat) (Q : Exit → S → Prop) (e : Exit) (s' : S) : Prop := match e with
  | .exit i => match Nat.beq i id with
    | true => Q .normal s'
    | false => Q (.exit i) s'
  | e => Q e s'
def awpBlock (id : Nat) (x : AW) (s : S) (Q : Exit → S → Prop) : Prop := x s (blockQ id Q)
def scopeQ (Q : Exit → S → Prop) (e : Exit) (s' : S) : Prop := match e with
  | .goto _ => False
  | e => Q e s'
def awpScope (x : AW) (s : S) (Q : Exit → S → Prop) : Prop := x s (scopeQ Q)
noncomputable def awp (c : Cx) (x : Code) : AW :=
  Code.rec (motive := fun _ => AW) (awpEnd .normal) (fun id ops dr => awpRegion c id ops dr) (fun _ _ x y => awpSeq x y) (fun b _ _ x y => awpCond b x y) (fun id _ x => awpBlock id x) (fun _ x => LoopW c.np x)
    (fun _ _ _ _ _ _ => awpNo) (fun id => awpEnd (.exit id)) (fun _ x => awpScope x) (fun _ => awpEnd .normal) (fun _ => awpNo) (awpEnd .ret) (fun _ => awpNo) x
/-- Every region that draws its order is walked in an order that serves. -/
def ordOk (ord : Nat → Tr) : Code → Bool
  | .region id ops true => match Tr.isFlow (ord id) with
    | true => flowOk ops
    | false => serOkT ops (ord id)
  | .seq x y => ordOk ord x && ordOk ord y
  | .cond _ x y => ordOk ord x && ordOk ord y
  | .block _ x => ordOk ord x
  | .loop x => ordOk ord x
  | .scope x => ordOk ord x
  | _ => true
theorem nl_left {p : Prop} {x y : Code} (h : p ∨ (noLoop x && noLoop y) = true) : p ∨ noLoop x = true := h.imp id fun h => by simp only [Bool.and_eq_true] at h; exact h.1
theorem nl_right {p : Prop} {x y : Code} (h : p ∨ (noLoop x && noLoop y) = true) : p ∨ noLoop y = true := h.imp id fun h => by simp only [Bool.and_eq_true] at h; exact h.2
theorem awp_ok (hc : c.ok) (hn : β0.length = c.np) (hdr : ∃ n, refsD n dr = true) : ∀ (x : Code) {s : S} {a : Act} {w : World} {q : Exit → S → Prop} {Q : Exit → Act → World → Prop}, (refsD c.np dr = true ∨ noLoop x = true) → (∀ ch s' a' w', c.pan ch s' → Inv dr w0 C0 β0 s' a' w' → Q (.panic ch) a' w') → ordOk c.ord x = true → Inv dr w0 C0 β0 s a w → awp c x s q → (∀ e s' a' w', q e s' → Inv dr w0 C0 β0 s' a' w' → Q e a' w') → x.wp c.P Q a w
  | .skip, s, a, w, q, Q, hl, hx, _, hi, h, hk => wp_skip (hk _ _ _ _ h hi)
  | .region id ops drw, s, a, w, q, Q, hl, hx, ho, hi, h, hk => by
    obtain ⟨l⟩ := ops
    change awpRegion c id l.toArray drw s q at h
    unfold awpRegion at h
    cases drw with
    | false => exact wp_region_lit (seq_ok hc hdr hx hi h fun s' a' w' h1 h2 => hk _ _ _ _ h1 h2)
    | true =>
      simp only at h
      split at h
      · rename_i hxs
        unfold ordOk at ho
        split at h
        · rename_i hfl
          rw [hfl] at ho
          exact flow_ok (c := c.mute) hc.mute (fun _ _ h => h) hi ho h fun s' a' w' h1 h2 => hk _ _ _ _ h1 h2
        · rename_i hfl
          rw [hfl] at ho
          split at h
          · exact ser_ok (c := c.kill) hc.kill hdr (fun ch s' a' w' h1 h2 => hx _ _ _ _ h1 h2) hi hxs ho h fun s' a' w' h1 h2 => hk _ _ _ _ h1 h2
          · unfold JoinW at h
            obtain ⟨φ, h, h'⟩ := h
            exact ser_ok (c := c.kill) hc.kill hdr (fun ch s' a' w' h1 h2 => hx _ _ _ _ h1 h2) hi hxs ho h fun s' a' w' h1 h2 => hk _ _ _ _ (h' _ h1) h2
      · exact h.elim
  | .seq x y, s, a, w, q, Q, hl, hx, ho, hi, h, hk => by
    unfold ordOk at ho
    simp only [Bool.and_eq_true] at ho
    change awp c x s (seqQ (awp c y) q) at h
    refine wp_seq (awp_ok hc hn hdr x (nl_left hl) (fun ch s' a' w' h1 h2 => hx ch s' a' w' h1 h2) ho.1 hi h fun e s' a' w' h1 h2 => ?_)
    cases e with
    | normal => exact awp_ok hc hn hdr y (nl_right hl) hx ho.2 h2 h1 hk
    | _ => exact hk _ _ _ _ h1 h2
  | .cond b x y, s, a, w, q, Q, hl, hx, ho, hi, h, hk => by
    unfold ordOk at ho
    simp only [Bool.and_eq_true] at ho
    change awpCond b (awp c x) (awp c y) s q at h
    unfold awpCond at h
    split at h
    · rename_i t hb
      obtain ⟨E, hp, ht, hd⟩ := hi
      obtain ⟨hv, -⟩ := of_v ht hb
      rw [ifK_iff] at h
      exact wp_cond_split hv (fun e => awp_ok hc hn hdr x (nl_left hl) hx ho.1 ⟨E, hp, ht, hd⟩ (h.1 e) hk) (fun e => awp_ok hc hn hdr y (nl_right hl) hx ho.2 ⟨E, hp, ht, hd⟩ (h.2 e) hk)
    · exact h.elim
  | .block id x, s, a, w, q, Q, hl, hx, ho, hi, h, hk => by
    unfold ordOk at ho
    change awp c x s (blockQ id q) at h
    refine wp_block (awp_ok hc hn hdr x hl (fun ch s' a' w' h1 h2 => hx ch s' a' w' h1 h2) ho hi h fun e s' a' w' h1 h2 => ?_)
    cases e with
    | exit i =>
      unfold blockQ at h1
      simp only at h1
      split at h1
      · rename_i hb
        have := Nat.eq_of_beq_eq_true hb
        show (if i = id then _ else _)
        rw [if_pos this]; exact hk _ _ _ _ h1 h2
      · rename_i hb
        show (if i = id then _ else _)
        rw [if_neg (fun e => by rw [e] at hb; simp at hb)]; exact hk _ _ _ _ h1 h2
    | _ => exact hk _ _ _ _ h1 h2
  | .loop x, s, a, w, q, Q, hl, hx, ho, hi, h, hk => by
    unfold ordOk at ho
    change LoopW c.np (awp c x) s q at h
    unfold LoopW at h
    obtain ⟨X, F, φ, μ, ⟨x0, h1, h2⟩, hround⟩ := h
    have hr : refsD c.np dr = true := hl.elim id (fun e => by cases e)
    obtain ⟨M, hM⟩ := least (p := fun (z : Act × World) n => ∃ x, φ x ∧ Inv dr w0 C0 β0 (F x) z.1 z.2 ∧ μ x = n)
    refine wp_loop (fun a' w' => ∃ x, φ x ∧ Inv dr w0 C0 β0 (F x) a' w') (fun a' w' => M (a', w')) ⟨x0, h2, h1 dr w0 C0 β0 a w hr hn hi⟩ fun a' w' ⟨x1, h3, h4⟩ => ?_
    obtain ⟨⟨x2, h5, h6, h7⟩, -⟩ := hM (a', w') ⟨_, x1, h3, h4, rfl⟩
    refine awp_ok hc hn hdr x (.inl hr) (fun ch s' a' w' h1 h2 => hx ch s' a' w' h1 h2) ho h6 (hround x2 h5) fun e s' a2 w2 h8 h9 => ?_
    cases e with
    | normal =>
      obtain ⟨x3, g1, g2, g3⟩ := h8
      have g4 := g1 dr w0 C0 β0 a2 w2 hr hn h9
      refine ⟨⟨x3, g2, g4⟩, ?_⟩
      have := (hM (a2, w2) ⟨_, x3, g2, g4, rfl⟩).2 (μ x3) ⟨x3, g2, g4, rfl⟩
      show M (a2, w2) < M (a', w')
      omega
    | _ => exact hk _ _ _ _ h8 h9
  | .exit id, s, a, w, q, Q, hl, hx, _, hi, h, hk => wp_exit (hk _ _ _ _ h hi)
  | .ret, s, a, w, q, Q, hl, hx, _, hi, h, hk => wp_ret (hk _ _ _ _ h hi)
  | .label _, s, a, w, q, Q, hl, hx, _, hi, h, hk => wp_label (hk _ _ _ _ h hi)
  | .rangeFunc .., _, _, _, _, _, _, _, _, _, h, _ => h.elim
  | .scope x, s, a, w, q, Q, hl, hx, ho, hi, h, hk => by
    unfold ordOk at ho
    change awp c x s (scopeQ q) at h
    refine wp_scope_straight (awp_ok hc hn hdr x hl (fun ch s' a' w' h1 h2 => hx ch s' a' w' h1 h2) ho hi h fun e s' a' w' h1 h2 => ?_)
    cases e with
    | goto l => exact h1.elim
    | _ => exact hk _ _ _ _ h1 h2
  | .goto _, _, _, _, _, _, _, _, _, _, h, _ => h.elim
  | .refuse _, _, _, _, _, _, _, _, _, _, h, _ => h.elim
end
end Go.Proofs.YtpjcbadnpknncaaGreatDoor.Vm
/- A function: from its abstract run to what it is said to do. -/
namespace Go.Proofs.YtpjcbadnpknncaaGreatDoor.Vm
open Go.RowKit
set_option linter.unusedSimpArgs false
set_option linter.unusedVariables false
def deadK : Nat → (List A → Prop) → Prop
  | 0, K => K []
  | n + 1, K => deadK n fun r => K (.dead :: r)
theorem deadK_iff : ∀ {n : Nat} {K : List A → Prop}, deadK n K ↔ K (List.replicate n .dead)
  | 0, K => by simp [deadK]
  | n + 1, K => by simp [deadK, deadK_iff (n := n), List.replicate_succ]
def initK : List A → Nat → (List A → Prop) → Prop
  | [], n, K => deadK n K
  | a :: as, n, K => initK as n fun r => K (a :: r)
theorem initK_iff : ∀ {as : List A} {n : Nat} {K : List A → Prop}, initK as n K ↔ K (as ++ List.replicate n .dead)
  | [], n, K => by simp [initK, deadK_iff]
  | a :: as, n, K => by simp [initK, initK_iff (as := as)]
theorem rep_deads {E : Env} : ∀ (n : Nat) (v : Value), A.repL (List.replicate n .dead) E (List.replicate n v)
  | 0, v => by simp [A.repL]
  | n + 1, v => by
    rw [List.replicate_succ, List.replicate_succ]
    unfold A.repL
    exact ⟨_, _, rfl, A.rep_dead _ _, rep_deads n v⟩
def upto : Nat → List Nat
  | 0 => []
  | n + 1 => upto n ++ [n]
theorem upto_len : ∀ n, (upto n).length = n
  | 0 => rfl
  | n + 1 => by simp [upto, upto_len n]
theorem upto_get : ∀ {n j i : Nat}, (upto n)[j]? = some i → i = j ∧ j < n
  | 0, j, i, h => by simp [upto] at h
  | n + 1, j, i, h => by
    unfold upto at h
    by_cases hj : j < n
    · rw [List.getElem?_append_left (by rw [upto_len]; exact hj)] at h
      have := upto_get h
      omega
    · rw [List.getElem?_append_right (by rw [upto_len]; omega), upto_len] at h
      have h1 := (List.getElem?_eq_some_iff.1 h).1
      have e : j - n = 0 := by simp at h1; omega
      rw [e] at h
      simp at h
      omega
/-- A result. -/
def resA (T : List (Nat × Te)) (s : S) (r : ResultVar) (K : A → Prop) : Prop :=
  match r with
  | .tmp t => K (s.t.getD t .dead)
  | .cell t ty => aload T (fun _ => false) s ty (.tmp t) K
def resK (T : List (Nat × Te)) (s : S) (rv : List ResultVar) (K : A → Prop) : Prop :=
  match rv with
  | [] => K (.tup [])
  | [r] => resA T s r K
  | [r1, r2] => resA T s r1 fun x => resA T s r2 fun y => K (.tup [x, y])
  | [r1, r2, r3] => resA T s r1 fun x => resA T s r2 fun y => resA T s r3 fun z => K (.tup [x, y, z])
  | _ => False
def idsLL : List (List A) → List Nat
  | [] => []
  | a :: r => idsL a ++ idsLL r
def takeL {α : Type} : Nat → List α → List α
  | 0, _ => []
  | _ + 1, [] => []
  | n + 1, a :: r => a :: takeL n r
theorem takeL_eq {α : Type} : ∀ (n : Nat) (l : List α), takeL n l = l.take n
  | 0, _ => by simp [takeL]
  | _ + 1, [] => by simp [takeL]
  | n + 1, a :: r => by simp [takeL, takeL_eq n r]
/-- What the function hands back. -/
def retK (c : Cx) (rv : List ResultVar) (post : List (List A) → A → Prop) (s : S) : Prop :=
  resK c.T s rv fun r => match renLL (upto c.np) (pubRows s.rw (idsA r ++ idsLL (takeL c.np s.bx))) (takeL c.np s.bx) with
    | some outs => match ren (upto c.np) (pubRows s.rw (idsA r ++ idsLL (takeL c.np s.bx))) r with
      | some r' => post outs r'
      | none => False
    | none => False
def endK (c : Cx) (rv : List ResultVar) (post : List (List A) → A → Prop) (e : Exit) (s : S) : Prop :=
  match e with
  | .ret => retK c rv post s
  | .normal => retK c rv post s
  | _ => False
section
variable {c : Cx} {w0 : World} {C0 : Rd} {β0 : List Nat} {s : S} {a : Act} {w : World} {E : Env}
def rrun (tmps : Array Value) (r : ResultVar) : Sem Value := match r with
  | .tmp t => pure (tmps.getD t undef)
  | .cell a t => do loadVar t (← asAddr (tmps.getD a undef))
theorem repL_cons {x : A} {y : Value} {l : List A} {us : List Value} (h : x.rep E y) (k : A.repL l E us) : A.repL (x :: l) E (y :: us) := by
  unfold A.repL
  exact ⟨y, us, rfl, h, k⟩
theorem resA_ok {r : ResultVar} {K : A → Prop} (hc : c.ok) (hp : Hp w0 C0 β0 s.bx s.rw w E) (ht : A.repL s.t E a.tmps.toList) (h : resA c.T s r K) : ∃ x y, K x ∧ x.rep E y ∧ (rrun a.tmps r).run c.P w = .ok y w := by
  cases r with
  | tmp t =>
    refine ⟨_, a.tmps.getD t undef, h, ?_, by simp [rrun]⟩
    have := A.repL_getD ht t undef
    simpa using this
  | cell t ty =>
    obtain ⟨x, y, h1, h2, h3⟩ := load_ok (o := ⟨none, .load ty (.tmp t), ty, "", #[], none⟩) hc.T hp ht rfl h
    refine ⟨x, y, h1, h2, ?_⟩
    have e := h3 w (Same.refl _ _ _)
    have hx := ev_rep ht (.tmp t)
    simp only [execOp, Act.eval, Instr.loadAt] at e
    cases hv : a.tmps.getD t undef with
    | pointer p =>
      rw [hv] at e
      cases p with
      | none => simp [Instr.sureAddr, stuck, Sem.run, Result.andThen] at e
      | some ad =>
        simp only [rrun, hv, asAddr]
        simp [Instr.sureAddr, Result.andThen] at e ⊢
        split at e
        · rename_i v w' hrun
          cases e
          exact hrun
        · cases e
    | _ => rw [hv] at e; simp [Instr.sureAddr, stuck, Sem.run, Result.andThen] at e
theorem resK_ok {fn : Func} {K : A → Prop} (hc : c.ok) (hp : Hp w0 C0 β0 s.bx s.rw w E) (ht : A.repL s.t E a.tmps.toList) (h : resK c.T s fn.results.toList K) : ∃ x y, K x ∧ x.rep E y ∧ (results fn a.tmps).run c.P w = .ok y w := by
  have he : results fn a.tmps = (do let vs ← fn.results.mapM (rrun a.tmps); pure (if h : vs.size = 1 then vs[0] else .tuple vs)) := by
    unfold results
    congr 1
  unfold resK at h
  split at h
  · rename_i hr
    have hr' : fn.results = #[] := Array.toList_eq_nil_iff.1 hr
    exact ⟨_, .tuple #[], h, by unfold A.rep; exact ⟨#[], rfl, by simp [A.repL]⟩, by rw [he, hr']; simp⟩
  · rename_i r hr
    have hr' : fn.results = #[r] := by rw [← hr]
    obtain ⟨x, y, h1, h2, h3⟩ := resA_ok hc hp ht h
    exact ⟨x, y, h1, h2, by rw [he, hr']; simp [h3, Result.andThen]⟩
  · rename_i r1 r2 hr
    have hr' : fn.results = #[r1, r2] := by rw [← hr]
    obtain ⟨x, y, h1, h2, h3⟩ := resA_ok hc hp ht h
    obtain ⟨x2, y2, k1, k2, k3⟩ := resA_ok hc hp ht h1
    refine ⟨_, .tuple #[y, y2], k1, ?_, by rw [he, hr']; simp [h3, k3, Result.andThen]⟩
    unfold A.rep
    exact ⟨_, rfl, repL_cons h2 (repL_cons k2 (by simp [A.repL]))⟩
  · rename_i r1 r2 r3 hr
    have hr' : fn.results = #[r1, r2, r3] := by rw [← hr]
    obtain ⟨x, y, h1, h2, h3⟩ := resA_ok hc hp ht h
    obtain ⟨x2, y2, k1, k2, k3⟩ := resA_ok hc hp ht h1
    obtain ⟨x3, y3, g1, g2, g3⟩ := resA_ok hc hp ht k1
    refine ⟨_, .tuple #[y, y2, y3], g1, ?_, by rw [he, hr']; simp [h3, k3, g3, Result.andThen]⟩
    unfold A.rep
    exact ⟨_, rfl, repL_cons h2 (repL_cons k2 (repL_cons g2 (by simp [A.repL])))⟩
  · exact h.elim
theorem callable {P : Program} {f : Nat} {fn : Func} {x : Code} (hf : P.funcs[f]? = some fn) (hb : fn.body = some x) (hname : (fn.name == "runtime.NumGoroutine") = false) (vs : Array Value) (w : World) : (callFunc f vs).run P w = .ok (.enter f vs) w := by
  have h3 : ¬ fn.name = "runtime.NumGoroutine" := by simpa using hname
  simp [callFunc, program, Sem.run, hf, h3, hb, Result.andThen]
/-! A result whose row g stays a row. -/
mutual
def resRow (g : Nat) (rw : List Row) : A → Option A
  | .dead => some .dead
  | .v x => some (.v x)
  | .sl k n cs => some (.sl k n cs)
  | .pp cs => some (.pp cs)
  | .gp g o => some (.gp g o)
  | .err => some .err
  | .own h => match Nat.beq g h with
    | true => some (.own 0)
    | false => match rw[h]? with
      | some (.pub k n cs) => some (.sl k n cs)
      | _ => none
  | .orow _ _ => none
  | .box _ _ => none
  | .clo f caps => match resRowL g rw caps with
    | some l => some (.clo f l)
    | none => none
  | .bm f caps => match resRowL g rw caps with
    | some l => some (.bm f l)
    | none => none
  | .mp ks vs => some (.mp ks vs)
  | .agg l => match resRowL g rw l with
    | some l => some (.agg l)
    | none => none
  | .tup l => match resRowL g rw l with
    | some l => some (.tup l)
    | none => none
def resRowL (g : Nat) (rw : List Row) : List A → Option (List A)
  | [] => some []
  | a :: r => match resRow g rw a with
    | some a => match resRowL g rw r with
      | some r => some (a :: r)
      | none => none
    | none => none
end
mutual
theorem resRow_rep {bx : List (List A)} {rw : List Row} {g : Nat} {z : Value} (hp : Hp w0 C0 β0 bx rw w E) (hg : E.ρ[g]? = some z) : ∀ (a : A) {a' : A} {y : Value}, resRow g rw a = some a' → a.rep E y → a'.rep ⟨E.C, [], [z]⟩ y
  | .dead, a', y, h, _ => by simp [resRow] at h; subst h; exact A.rep_dead _ _
  | .v x, a', y, h, hr => by simp [resRow] at h; subst h; unfold A.rep at hr ⊢; exact hr
  | .sl k n cs, a', y, h, hr => by simp [resRow] at h; subst h; unfold A.rep at hr ⊢; exact hr
  | .pp cs, a', y, h, hr => by simp [resRow] at h; subst h; unfold A.rep at hr ⊢; exact hr
  | .own j, a', y, h, hr => by
    unfold resRow at h
    split at h
    · rename_i hb
      cases h
      have := Nat.eq_of_beq_eq_true hb
      subst this
      unfold A.rep at hr ⊢
      rw [hg] at hr
      simpa using hr
    · split at h
      · rename_i k n cs hj
        cases h
        unfold A.rep at hr
        have := hp.rws j _ y hj hr
        have h2 : (A.sl k n cs).rep E y := this
        unfold A.rep at h2 ⊢
        exact h2
      · cases h
  | .orow _ _, a', y, h, _ => by simp [resRow] at h
  | .box _ _, a', y, h, _ => by simp [resRow] at h
  | .gp _ _, a', y, h, hr => by unfold resRow at h; cases h; unfold A.rep at hr ⊢; exact hr
  | .err, a', y, h, hr => by unfold resRow at h; cases h; unfold A.rep at hr ⊢; exact hr
  | .clo f caps, a', y, h, hr => by
    unfold resRow at h
    split at h
    · rename_i l hl
      cases h
      unfold A.rep at hr ⊢
      obtain ⟨us, h1, h2⟩ := hr
      exact ⟨us, h1, resRowL_rep hp hg caps hl h2⟩
    · cases h
  | .bm f caps, a', y, h, hr => by
    unfold resRow at h
    split at h
    · rename_i l hl
      cases h
      unfold A.rep at hr ⊢
      obtain ⟨us, h1, h2⟩ := hr
      exact ⟨us, h1, resRowL_rep hp hg caps hl h2⟩
    · cases h
  | .mp _ _, a', y, h, hr => by unfold resRow at h; cases h; unfold A.rep at hr ⊢; exact hr
  | .agg l, a', y, h, hr => by
    unfold resRow at h
    split at h
    · rename_i l' hl
      cases h
      unfold A.rep at hr ⊢
      obtain ⟨us, h1, h2⟩ := hr
      exact ⟨us, h1, A.repC_mk (resRowL_rep hp hg l hl (A.repC_L h2)) (A.repC_one h2)⟩
    · cases h
  | .tup l, a', y, h, hr => by
    unfold resRow at h
    split at h
    · rename_i l' hl
      cases h
      unfold A.rep at hr ⊢
      obtain ⟨us, h1, h2⟩ := hr
      exact ⟨us, h1, resRowL_rep hp hg l hl h2⟩
    · cases h
theorem resRowL_rep {bx : List (List A)} {rw : List Row} {g : Nat} {z : Value} (hp : Hp w0 C0 β0 bx rw w E) (hg : E.ρ[g]? = some z) : ∀ (l : List A) {l' : List A} {us : List Value}, resRowL g rw l = some l' → A.repL l E us → A.repL l' ⟨E.C, [], [z]⟩ us
  | [], l', us, h, hr => by simp [resRowL] at h; subst h; unfold A.repL at hr ⊢; exact hr
  | a :: r, l', us, h, hr => by
    unfold resRowL at h
    split at h
    · rename_i a1 ha
      split at h
      · rename_i r1 hr1
        cases h
        unfold A.repL at hr ⊢
        obtain ⟨u, us', rfl, h1, h2⟩ := hr
        exact ⟨u, us', rfl, resRow_rep hp hg a ha h1, resRowL_rep hp hg r hr1 h2⟩
      · cases h
    · cases h
end
def notG (g : Nat) : List Nat → List Nat
  | [] => []
  | i :: r => match Nat.beq g i with | true => notG g r | false => i :: notG g r
/-- What a function hands back that hands back row g. -/
def retF (c : Cx) (g : Nat) (rv : List ResultVar) (post : Nat → Nat → Nat → List A → A → Prop) (s : S) : Prop :=
  resK c.T s rv fun r => match (pubRows s.rw (notG g (idsA r)))[g]? with
    | some (.live e k n cs) => match resRow g (pubRows s.rw (notG g (idsA r))) r with
      | some r' => post e k n cs r'
      | none => False
    | _ => False
def endF (c : Cx) (rv : List ResultVar) (post : Nat → Nat → Nat → List A → A → Prop) (e : Exit) (s : S) : Prop :=
  match e with
  | .ret => ∃ g, retF c g rv post s
  | .normal => ∃ g, retF c g rv post s
  | _ => False
/-- What holds of a piece of code, from a state on, where these calls are deferred. -/
@[irreducible] def OkD (dr : List (Nat × List A)) (c : Cx) (x : Code) (s : S) (q : Exit → S → Prop) : Prop := ∀ (w0 : World) (C0 : Rd) (β0 : List Nat) (a : Act) (w : World) (Q : Exit → Act → World → Prop), β0.length = c.np → Inv dr w0 C0 β0 s a w →
  (∀ ch s' a' w', c.pan ch s' → Inv dr w0 C0 β0 s' a' w' → Q (.panic ch) a' w') → (∀ e s' a' w', q e s' → Inv dr w0 C0 β0 s' a' w' → Q e a' w') → x.wp c.P Q a w
abbrev Ok := OkD []
theorem okD_of_awp {dr : List (Nat × List A)} {x : Code} {q : Exit → S → Prop} (hc : c.ok) (hdr : ∃ n, refsD n dr = true) (hl : refsD c.np dr = true ∨ noLoop x = true) (ho : ordOk c.ord x = true) (h : awp c x s q) : OkD dr c x s q := by
  unfold OkD
  exact fun w0 C0 β0 a w Q hn hi hx hk => awp_ok hc hn hdr x hl hx ho hi h hk
theorem ok_of_awp {x : Code} {q : Exit → S → Prop} (hc : c.ok) (ho : ordOk c.ord x = true) (h : awp c x s q) : Ok c x s q := okD_of_awp hc ⟨0, rfl⟩ (.inl rfl) ho h
theorem ok_le {x : Code} {s' : S} {q : Exit → S → Prop} (h : Le c.np s s') (k : Ok c x s' q) : Ok c x s q := by
  unfold Ok OkD at k ⊢
  exact fun w0 C0 β0 a w Q hn hi hx hk => k w0 C0 β0 a w Q hn (h _ w0 C0 β0 a w rfl hn hi) hx hk
def okQ (c : Cx) (y : Code) (q : Exit → S → Prop) (e : Exit) (s' : S) : Prop := match e with
  | .normal => Ok c y s' q
  | e => q e s'
def okDQ (dr : List (Nat × List A)) (c : Cx) (y : Code) (q : Exit → S → Prop) (e : Exit) (s' : S) : Prop := match e with
  | .normal => OkD dr c y s' q
  | e => q e s'
theorem okD_seq {dr : List (Nat × List A)} {x y : Code} {q : Exit → S → Prop} (h : OkD dr c x s (okDQ dr c y q)) : OkD dr c (.seq x y) s q := by
  unfold OkD at h ⊢
  intro w0 C0 β0 a w Q hn hi hx hk
  refine wp_seq (h w0 C0 β0 a w _ hn hi (fun ch s' a' w' h1 h2 => hx ch s' a' w' h1 h2) fun e s' a' w' h1 h2 => ?_)
  cases e with
  | normal =>
    have h1 : OkD dr c y s' q := h1
    unfold OkD at h1
    exact h1 w0 C0 β0 a' w' Q hn h2 hx hk
  | _ => exact hk _ _ _ _ h1 h2
theorem ok_seq {x y : Code} {q : Exit → S → Prop} (h : Ok c x s (okQ c y q)) : Ok c (.seq x y) s q := okD_seq (by
  have e : okQ c y q = okDQ [] c y q := by
    funext e s'
    cases e <;> rfl
  rw [← e]; exact h)
/-- One step of code by the abstract run, and what comes behind it. -/
theorem ok_step {x y : Code} {q : Exit → S → Prop} (hc : c.ok) (ho : ordOk c.ord x = true) (h : awp c x s (okQ c y q)) : Ok c (.seq x y) s q := ok_seq (ok_of_awp hc ho h)
theorem okD_step {dr : List (Nat × List A)} {x y : Code} {q : Exit → S → Prop} (hc : c.ok) (hdr : ∃ n, refsD n dr = true) (hl : refsD c.np dr = true ∨ noLoop x = true) (ho : ordOk c.ord x = true) (h : awp c x s (okDQ dr c y q)) : OkD dr c (.seq x y) s q := okD_seq (okD_of_awp hc hdr hl ho h)
/-- What is handed back. -/
theorem fin_ok {fn : Func} {post : List (List A) → A → Prop} {w w' : World} {C : Rd} {β : List Nat} {s' : S} {a' : Act} (hc : c.ok) (h1 : Sub C (see w)) (hnp : β.length = c.np) (hr : retK c fn.results.toList post s') (hi : Inv [] w C β s' a' w') :
    a'.defers = [] ∧ ∃ v, (results fn a'.tmps).run c.P w' = .ok v w' ∧ ∃ outs r v', Ending.returned v = .returned v' ∧ post outs r ∧ Keeps β w w' ∧ outs.length = β.length ∧
      (∀ (i b : Nat) (cs : List A), β[i]? = some b → outs[i]? = some cs → boxAt w' ⟨plus C w w', β, []⟩ b cs) ∧ r.rep ⟨plus C w w', β, []⟩ v' := by
  obtain ⟨E, hp, ht, hd⟩ := hi
  obtain ⟨r, v, g1, g2, g3⟩ := resK_ok (fn := fn) hc hp ht hr
  refine ⟨hd, v, g3, ?_⟩
  split at g1
  · rename_i outs houts
    split at g1
    · rename_i r' hr'
      obtain ⟨C1, hp1, le1⟩ := hp.pubs (idsA r ++ idsLL (takeL c.np s'.bx))
      obtain ⟨β', hβ, hβ'⟩ := hp.bp
      have hβl : β.length ≤ E.β.length := by rw [hβ]; simp
      have hget : ∀ i : Nat, i < β.length → E.β[i]? = β[i]? := fun i hi => by rw [hβ, List.getElem?_append_left hi]
      have hY : Picks ⟨C1, E.β, E.ρ⟩ (upto c.np) β := fun j i hj => by
        obtain ⟨rfl, hi⟩ := upto_get hj
        have : i < β.length := by rw [hnp]; exact hi
        exact ⟨β[i], by simp [this], by rw [hget i this]; simp [this]⟩
      have lep : (⟨C1, β, []⟩ : Env).le ⟨plus C w w', β, []⟩ := ⟨fun ad u hc => by
        show plus C w w' ad = some u
        unfold plus
        rcases hp1.fresh ad u hc with h7 | h7
        · rw [if_pos (block_lt_of_see w ad (h1 ad u h7))]; exact h7
        · rw [if_neg (by omega)]; exact hp1.sub ad u hc, fun _ _ h => h, fun _ _ h => h⟩
      obtain ⟨k1, k2⟩ := renLL_get houts
      have hbl := hp.bl
      refine ⟨outs, r', v, rfl, g1, hp.keep, by rw [k1, takeL_eq, List.length_take]; omega, fun i b cs h7 h8 => ?_, A.rep.mono _ lep (ren_rep hp1 hY r hr' (A.rep.mono _ le1 g2))⟩
      obtain ⟨c0, h9, h10⟩ := k2 i cs h8
      have hi := (List.getElem?_eq_some_iff.1 h7).1
      rw [takeL_eq, List.getElem?_take, if_pos (by omega)] at h9
      obtain ⟨T', arr, q1, q2⟩ := hp1.bxs i b c0 (by rw [← h7]; exact hget i hi) h9
      exact ⟨T', arr, q1, A.repC.mono _ lep (A.repC_mk (renL_rep hp1 hY c0 h10 (A.repC_L q2)) (A.repC_one q2))⟩
    · exact g1.elim
  · exact g1.elim
/-- What the abstract run says holds. -/
theorem specP_of_ok {f : Nat} {fn : Func} {x : Code} {ins : List (List A)} {args : List A} {post : List (List A) → A → Prop} {pn : List PanicEntry → Prop} (hc : c.ok) (hq : ∀ ch s, c.pan ch s → pn ch) (hf : c.P.funcs[f]? = some fn) (hb : fn.body = some x) (hname : (fn.name == "runtime.NumGoroutine") = false)
    (hn : ins.length = c.np) (h : okL args → initK args (fn.ntmps - args.length) fun t => Ok c x ⟨t, ins, []⟩ (endK c fn.results.toList post)) : SpecP c.P f ins args post pn := by
  refine ⟨callable hf hb hname, fun w C β vals h0 h1 h2 h3 h4 h5 h6 => ?_⟩
  have hl := A.repL_len h6
  refine calls_of_wp hf hb ?_
  have hinit := initK_iff.1 (h (okL_rep _ h6))
  have hb0 : ∀ b ∈ β, b < w.heap.size := fun b hb => by
    obtain ⟨i, hi⟩ := List.mem_iff_getElem?.1 hb
    have hi' : i < ins.length := by rw [h4]; exact (List.getElem?_eq_some_iff.1 hi).1
    exact (h5 i b ins[i] hi (by simp [hi'])).lt
  have hinv : Inv [] w C β ⟨args ++ List.replicate (fn.ntmps - args.length) .dead, ins, []⟩ { tmps := vals.toArray ++ Array.replicate (fn.ntmps - vals.toArray.size) undef, defers := [] } w := by
    refine ⟨⟨C, β, []⟩, ⟨h1, Sub.refl _, fun _ _ hc => .inl hc, ⟨[], by simp, by simp⟩, h2, h3, h4, h5, rfl, fun g r y hg => by simp at hg, fun g e k n cs y b hg => by simp at hg, fun g e k n cs y h' e' k' n' cs' z b _ hg => by simp at hg, fun g y hg => by simp at hg, Keeps.refl _ _, h0⟩, ?_, rfl⟩
    have : (vals.toArray ++ Array.replicate (fn.ntmps - vals.toArray.size) undef).toList = vals ++ List.replicate (fn.ntmps - args.length) undef := by simp [hl]
    rw [this]
    exact A.repL_append h6 (rep_deads _ _)
  unfold Ok OkD at hinit
  refine hinit w C β _ w _ (by rw [← h4, hn]) hinv (fun ch s' a' w' hpan ⟨E, hp, ht, hd⟩ => ⟨hd, .inr ⟨ch, (List.range β.length).map fun i => (s'.bx.getD i []).length, rfl, hq ch s' hpan, hp.keep, by simp, fun i b n h7 h8 => ?_⟩⟩) ?_
  · obtain ⟨β', hβ, hβ'⟩ := hp.bp
    have hi := (List.getElem?_eq_some_iff.1 h7).1
    have hbl := hp.bl
    have hβl : β.length ≤ E.β.length := by rw [hβ]; simp
    have hib : i < s'.bx.length := by omega
    rw [List.getElem?_map, List.getElem?_range hi] at h8
    simp only [Option.map_some, Option.some.injEq] at h8
    subst h8
    have e1 : E.β[i]? = some b := by rw [hβ, List.getElem?_append_left hi]; exact h7
    obtain ⟨T', arr, q1, q2⟩ := hp.bxs i b _ e1 (List.getElem?_eq_getElem hib)
    have e2 : (s'.bx.getD i []).length = s'.bx[i].length := by simp [List.getD_eq_getElem?_getD, hib]
    refine ⟨T', arr, q1, ?_⟩
    rw [e2]
    have hl2 := A.repC_len q2
    refine A.repC_mk ?_ (A.repC_one q2)
    have := dead_rep (E := ⟨C, β, []⟩) (l := s'.bx[i]) hl2
    rw [List.map_const'] at this
    exact this
  have fin := fun s' a' w' hr hi => fin_ok (w := w) (C := C) (β := β) (s' := s') (a' := a') (w' := w') (fn := fn) (post := post) hc h1 (by rw [← h4, hn]) hr hi
  intro e s' a' w' hq hi
  cases e with
  | normal => obtain ⟨k1, v, k2, k3⟩ := fin s' a' w' hq hi; exact ⟨k1, v, k2, .inl k3⟩
  | ret => obtain ⟨k1, v, k2, k3⟩ := fin s' a' w' hq hi; exact ⟨k1, v, k2, .inl k3⟩
  | _ => exact hq.elim
theorem SpecP.toS {P : Program} {f : Nat} {ins : List (List A)} {args : List A} {post : List (List A) → A → Prop} (h : SpecP P f ins args post fun _ => False) : Spec P f ins args post :=
  ⟨h.1, fun w C β vals h0 h1 h2 h3 h4 h5 h6 => (h.2 w C β vals h0 h1 h2 h3 h4 h5 h6).mono fun e w' hh => hh.elim id fun ⟨_, _, _, h, _⟩ => h.elim⟩
theorem spec_of_ok {f : Nat} {fn : Func} {x : Code} {ins : List (List A)} {args : List A} {post : List (List A) → A → Prop} (hc : c.ok) (hq : ∀ ch s, ¬ c.pan ch s) (hf : c.P.funcs[f]? = some fn) (hb : fn.body = some x) (hname : (fn.name == "runtime.NumGoroutine") = false)
    (hn : ins.length = c.np) (h : okL args → initK args (fn.ntmps - args.length) fun t => Ok c x ⟨t, ins, []⟩ (endK c fn.results.toList post)) : Spec c.P f ins args post :=
  (specP_of_ok hc (fun ch s k => hq ch s k) hf hb hname hn h).toS
theorem specF_of_ok {f : Nat} {fn : Func} {x : Code} {args : List A} {post : Nat → Nat → Nat → List A → A → Prop} (hc : c.ok) (hq : ∀ ch s, ¬ c.pan ch s) (hf : c.P.funcs[f]? = some fn) (hb : fn.body = some x) (hname : (fn.name == "runtime.NumGoroutine") = false)
    (hn : c.np = 0) (h : okL args → initK args (fn.ntmps - args.length) fun t => Ok c x ⟨t, [], []⟩ (endF c fn.results.toList post)) : SpecF c.P f args post := by
  refine ⟨callable hf hb hname, fun w C vals h0 h1 h6 => ?_⟩
  have hl := A.repL_len h6
  refine calls_of_wp hf hb ?_
  have hinit := initK_iff.1 (h (okL_rep _ h6))
  have hinv : Inv [] w C [] ⟨args ++ List.replicate (fn.ntmps - args.length) .dead, [], []⟩ { tmps := vals.toArray ++ Array.replicate (fn.ntmps - vals.toArray.size) undef, defers := [] } w := by
    refine ⟨⟨C, [], []⟩, ⟨h1, Sub.refl _, fun _ _ hc => .inl hc, ⟨[], by simp, by simp⟩, List.nodup_nil, by simp, rfl, fun i b cs hi => by simp at hi, rfl, fun g r y hg => by simp at hg, fun g e k n cs y b hg => by simp at hg, fun g e k n cs y h' e' k' n' cs' z b _ hg => by simp at hg, fun g y hg => by simp at hg, Keeps.refl _ _, h0⟩, ?_, rfl⟩
    have : (vals.toArray ++ Array.replicate (fn.ntmps - vals.toArray.size) undef).toList = vals ++ List.replicate (fn.ntmps - args.length) undef := by simp [hl]
    rw [this]
    exact A.repL_append h6 (rep_deads _ _)
  unfold Ok OkD at hinit
  refine hinit w C [] _ w _ (by rw [hn]; rfl) hinv (fun ch s' _ _ h _ => absurd h (hq ch s')) ?_
  have fin : ∀ (s' : S) (a' : Act) (w' : World), (∃ g, retF c g fn.results.toList post s') → Inv [] w C [] s' a' w' → a'.defers = [] ∧ ∃ v, (results fn a'.tmps).run c.P w' = .ok v w' ∧ ∃ (et k n : Nat) (cs : List A) (r : A) (v' y : Value) (xs : List Value) (C' : Rd), Ending.returned v = .returned v' ∧ post et k n cs r ∧ Keeps [] w w' ∧ Sub C C' ∧ Sub C' (see w') ∧
      (∀ ad u, C' ad = some u → C ad = some u ∨ w.heap.size ≤ ad.block) ∧ (∀ b, y.ownBlock = some b → ∀ o sp, C' ⟨b, o, sp⟩ = none) ∧ w'.ownsRow w.heap.size et k y n xs ∧ A.repC cs ⟨C', [], []⟩ xs ∧ r.rep ⟨C', [], [y]⟩ v' := fun s' a' w' ⟨g, hr⟩ ⟨E, hp, ht, hd⟩ => by
    unfold retF at hr
    obtain ⟨r, v, g1, g2, g3⟩ := resK_ok (fn := fn) hc hp ht hr
    refine ⟨hd, v, g3, ?_⟩
    obtain ⟨C1, hp1, le1⟩ := hp.pubs (notG g (idsA r))
    split at g1
    · rename_i e k n cs hg
      split at g1
      · rename_i r' hr'
        have hgl := (List.getElem?_eq_some_iff.1 hg).1
        obtain ⟨y, hy⟩ : ∃ y, E.ρ[g]? = some y := ⟨_, List.getElem?_eq_getElem (by rw [show E.ρ.length = (pubRows s'.rw (notG g (idsA r))).length from hp1.rl.symm]; exact hgl)⟩
        obtain ⟨xs, k1, k2⟩ := hp1.rws g _ y hg hy
        exact ⟨e, k, n, cs, r', v, y, xs, C1, rfl, g1, hp1.keep, hp1.base, hp1.sub, hp1.fresh, fun b hb => (hp1.rC g e k n cs y b hg hy hb).2, k1, k2, resRow_rep (E := ⟨C1, E.β, E.ρ⟩) hp1 hy r hr' (A.rep.mono _ le1 g2)⟩
      · exact g1.elim
    · exact g1.elim
  intro e s' a' w' hq hi
  cases e with
  | normal => exact fin s' a' w' hq hi
  | ret => exact fin s' a' w' hq hi
  | _ => exact hq.elim
theorem specF_of {f : Nat} {fn : Func} {x : Code} {args : List A} {post : Nat → Nat → Nat → List A → A → Prop} (hc : c.ok) (hq : ∀ ch s, ¬ c.pan ch s) (hf : c.P.funcs[f]? = some fn) (hb : fn.body = some x) (hname : (fn.name == "runtime.NumGoroutine") = false)
    (hn : c.np = 0) (hord : ordOk c.ord x = true) (h : okL args → initK args (fn.ntmps - args.length) fun t => awp c x ⟨t, [], []⟩ (endF c fn.results.toList post)) : SpecF c.P f args post :=
  specF_of_ok hc hq hf hb hname hn fun ho => initK_iff.2 (ok_of_awp hc hord (initK_iff.1 (h ho)))
theorem specP_of {f : Nat} {fn : Func} {x : Code} {ins : List (List A)} {args : List A} {post : List (List A) → A → Prop} {pn : List PanicEntry → Prop} (hc : c.ok) (hq : ∀ ch s, c.pan ch s → pn ch) (hf : c.P.funcs[f]? = some fn) (hb : fn.body = some x) (hname : (fn.name == "runtime.NumGoroutine") = false)
    (hn : ins.length = c.np) (hord : ordOk c.ord x = true) (h : okL args → initK args (fn.ntmps - args.length) fun t => awp c x ⟨t, ins, []⟩ (endK c fn.results.toList post)) : SpecP c.P f ins args post pn :=
  specP_of_ok hc hq hf hb hname hn fun ho => initK_iff.2 (ok_of_awp hc hord (initK_iff.1 (h ho)))
theorem spec_of {f : Nat} {fn : Func} {x : Code} {ins : List (List A)} {args : List A} {post : List (List A) → A → Prop} (hc : c.ok) (hq : ∀ ch s, ¬ c.pan ch s) (hf : c.P.funcs[f]? = some fn) (hb : fn.body = some x) (hname : (fn.name == "runtime.NumGoroutine") = false)
    (hn : ins.length = c.np) (hord : ordOk c.ord x = true) (h : okL args → initK args (fn.ntmps - args.length) fun t => awp c x ⟨t, ins, []⟩ (endK c fn.results.toList post)) : Spec c.P f ins args post :=
  spec_of_ok hc hq hf hb hname hn fun ho => initK_iff.2 (ok_of_awp hc hord (initK_iff.1 (h ho)))
end
end Go.Proofs.YtpjcbadnpknncaaGreatDoor.Vm
/- How abstract runs are led: calls, loops, weaker states. -/
namespace Go.Proofs.YtpjcbadnpknncaaGreatDoor.Vm
open Go.RowKit
set_option linter.unusedSimpArgs false
set_option linter.unusedVariables false
section
variable {P : Program} {pan : List PanicEntry → S → Prop} {Xr : Nat → Bool} {f : Nat} {args args' : List A} {s : S} {K : A → S → Prop} {post : List (List A) → A → Prop} {ins : List (List A)}
/-- A call to which no box is handed. -/
theorem call0 (ids : List Nat) (h2 : renL [] (pubRows s.rw ids) args = some args') (hs : okL args' → Spec P f [] args' post)
    (hk : ∀ r, post [] r → force (back [] r) fun r' => forceR (pubRows s.rw ids) fun rw' => withR s rw' (K r')) : CallW P pan Xr f args s K := by
  unfold CallW
  refine .inl ⟨[], ids, [], args', post, List.nodup_nil, by simp, by simp, rfl, h2, hs, fun outs r hp hl => ?_⟩
  obtain rfl : outs = [] := List.eq_nil_of_length_eq_zero (by simpa using hl)
  have := hk r hp
  rw [force_iff, forceR_iff, withR_iff] at this
  unfold outK
  show force (back [] r) _
  rw [force_iff, forceR_iff, withBR_iff]
  exact this
/-- A call whose result is a row of its own. -/
theorem callF (g : Nat) (ids : List Nat) {postF : Nat → Nat → Nat → List A → A → Prop} (hg : s.rw.length = g) (h2 : renL [] (pubRows s.rw ids) args = some args') (hs : okL args' → SpecF P f args' postF)
    (hk : ∀ e k n cs r, postF e k n cs r → force (atRow g r) fun r' => forceR (pubRows s.rw ids ++ [.live e k n cs]) fun rw' => withR s rw' (K r')) : CallW P pan Xr f args s K := by
  unfold CallW
  subst hg
  exact .inr (.inl ⟨ids, args', postF, h2, hs, hk⟩)
/-- A call that only reads the rows (ids) and boxes that it is handed. -/
theorem callL (ids : List Nat) (h2 : lendXL (pubRows s.rw ids) s.bx args = some args') (hs : okL args' → Spec P f [] args' post) (hk : ∀ r, post [] r → ∃ x, r = .v x ∧ K (.v x) s) : CallW P pan Xr f args s K := by
  unfold CallW
  exact .inr (.inr (.inl ⟨ids, args', post, h2, hs, hk⟩))
/-- A call to which one box is handed. -/
theorem call1 (i : Nat) (ids : List Nat) {c0 c1 : List A} (hX : Xr i = true) (hi : s.bx[i]? = some c0) (h1 : renL [i] (pubRows s.rw ids) c0 = some c1) (h2 : renL [i] (pubRows s.rw ids) args = some args') (hs : okL args' → Spec P f [c1] args' post)
    (hk : ∀ o r, post [o] r → outK [i] s.bx [i] [o] fun bx' => force (back [i] r) fun r' => forceR (pubRows s.rw ids) fun rw' => withBR s bx' rw' (K r')) : CallW P pan Xr f args s K := by
  unfold CallW
  left
  have hil := (List.getElem?_eq_some_iff.1 hi).1
  refine ⟨[i], ids, [c1], args', post, by simp, by simpa using hX, by simpa using hil, ?_, h2, hs, fun outs r hp hl => ?_⟩
  · have : s.bx.getD i [] = c0 := by simp [List.getD_eq_getElem?_getD, hi]
    simp only [List.map_cons, List.map_nil, this, renLL, h1]
  · obtain ⟨o, rfl⟩ : ∃ o, outs = [o] := List.length_eq_one_iff.1 (by simpa using hl)
    exact hk o r hp
/-- A call to which two boxes are handed. -/
theorem call2 (i j : Nat) (ids : List Nat) {a0 a1 b0 b1 : List A} (hij : Nat.beq i j = false) (hX : Xr i = true ∧ Xr j = true) (hi : s.bx[i]? = some a0) (hj : s.bx[j]? = some b0) (h0 : renL [i, j] (pubRows s.rw ids) a0 = some a1) (h1 : renL [i, j] (pubRows s.rw ids) b0 = some b1) (h2 : renL [i, j] (pubRows s.rw ids) args = some args') (hs : okL args' → Spec P f [a1, b1] args' post)
    (hk : ∀ o p r, post [o, p] r → outK [i, j] s.bx [i, j] [o, p] fun bx' => force (back [i, j] r) fun r' => forceR (pubRows s.rw ids) fun rw' => withBR s bx' rw' (K r')) : CallW P pan Xr f args s K := by
  unfold CallW
  left
  have hil := (List.getElem?_eq_some_iff.1 hi).1
  have hjl := (List.getElem?_eq_some_iff.1 hj).1
  have hne : i ≠ j := fun e => by subst e; simp at hij
  refine ⟨[i, j], ids, [a1, b1], args', post, by simpa using hne, by simpa using hX, by simpa using ⟨hil, hjl⟩, ?_, h2, hs, fun outs r hp hl => ?_⟩
  · have e1 : s.bx.getD i [] = a0 := by simp [List.getD_eq_getElem?_getD, hi]
    have e2 : s.bx.getD j [] = b0 := by simp [List.getD_eq_getElem?_getD, hj]
    simp only [List.map_cons, List.map_nil, e1, e2, renLL, h0, h1]
  · obtain ⟨o, p, rfl⟩ : ∃ o p, outs = [o, p] := by
      match outs, hl with
      | [o, p], _ => exact ⟨o, p, rfl⟩
    exact hk o p r hp
/-- A call that may panic, to which no box is handed. -/
theorem callP0 (ids : List Nat) {pn : List PanicEntry → Prop} (h2 : renL [] (pubRows s.rw ids) args = some args') (hs : okL args' → SpecP P f [] args' post pn)
    (hpn : ∀ ch bx', pn ch → pan ch ⟨s.t, bx', pubRows s.rw ids⟩)
    (hk : ∀ r, post [] r → force (back [] r) fun r' => forceR (pubRows s.rw ids) fun rw' => withR s rw' (K r')) : CallW P pan Xr f args s K := by
  unfold CallW
  refine .inr (.inr (.inr ⟨[], ids, [], args', post, pn, List.nodup_nil, by simp, by simp, rfl, h2, hs, fun outs r hp hl => ?_, fun ch bx' h _ _ => hpn ch bx' h⟩))
  obtain rfl : outs = [] := List.eq_nil_of_length_eq_zero (by simpa using hl)
  have := hk r hp
  rw [force_iff, forceR_iff, withR_iff] at this
  unfold outK
  show force (back [] r) _
  rw [force_iff, forceR_iff, withBR_iff]
  exact this
/-- A call that may panic, to which one box is handed. -/
theorem callP1 (i : Nat) (ids : List Nat) {c0 c1 : List A} {pn : List PanicEntry → Prop} (hX : Xr i = true) (hi : s.bx[i]? = some c0) (h1 : renL [i] (pubRows s.rw ids) c0 = some c1) (h2 : renL [i] (pubRows s.rw ids) args = some args') (hs : okL args' → SpecP P f [c1] args' post pn)
    (hpn : ∀ ch bx', pn ch → pan ch ⟨s.t, bx', pubRows s.rw ids⟩)
    (hk : ∀ o r, post [o] r → outK [i] s.bx [i] [o] fun bx' => force (back [i] r) fun r' => forceR (pubRows s.rw ids) fun rw' => withBR s bx' rw' (K r')) : CallW P pan Xr f args s K := by
  unfold CallW
  right; right; right
  have hil := (List.getElem?_eq_some_iff.1 hi).1
  refine ⟨[i], ids, [c1], args', post, pn, by simp, by simpa using hX, by simpa using hil, ?_, h2, hs, fun outs r hp hl => ?_, fun ch bx' h _ _ => hpn ch bx' h⟩
  · have : s.bx.getD i [] = c0 := by simp [List.getD_eq_getElem?_getD, hi]
    simp only [List.map_cons, List.map_nil, this, renLL, h1]
  · obtain ⟨o, rfl⟩ : ∃ o, outs = [o] := List.length_eq_one_iff.1 (by simpa using hl)
    exact hk o r hp
/-- The same; a panic leaves the other boxes. -/
theorem callP1x (i : Nat) (ids : List Nat) {c0 c1 : List A} {pn : List PanicEntry → Prop} (hX : Xr i = true) (hi : s.bx[i]? = some c0) (h1 : renL [i] (pubRows s.rw ids) c0 = some c1) (h2 : renL [i] (pubRows s.rw ids) args = some args') (hs : okL args' → SpecP P f [c1] args' post pn)
    (hpn : ∀ ch bx', pn ch → bx'.length = s.bx.length → (∀ j, j ≠ i → bx'[j]? = s.bx[j]?) → pan ch ⟨s.t, bx', pubRows s.rw ids⟩)
    (hk : ∀ o r, post [o] r → outK [i] s.bx [i] [o] fun bx' => force (back [i] r) fun r' => forceR (pubRows s.rw ids) fun rw' => withBR s bx' rw' (K r')) : CallW P pan Xr f args s K := by
  unfold CallW
  right; right; right
  have hil := (List.getElem?_eq_some_iff.1 hi).1
  refine ⟨[i], ids, [c1], args', post, pn, by simp, by simpa using hX, by simpa using hil, ?_, h2, hs, fun outs r hp hl => ?_, fun ch bx' h h1 h2 => hpn ch bx' h h1 fun j hj => h2 j (by simpa using hj)⟩
  · have : s.bx.getD i [] = c0 := by simp [List.getD_eq_getElem?_getD, hi]
    simp only [List.map_cons, List.map_nil, this, renLL, h1]
  · obtain ⟨o, rfl⟩ : ∃ o, outs = [o] := List.length_eq_one_iff.1 (by simpa using hl)
    exact hk o r hp
end
/-! ### Weaker states -/
def zeroIn : List Nat → Bool
  | [] => false
  | 0 :: _ => true
  | (_ + 1) :: r => zeroIn r
def decN : List Nat → List Nat
  | [] => []
  | 0 :: r => decN r
  | (n + 1) :: r => n :: decN r
def decNK : List Nat → (List Nat → Prop) → Prop
  | [], K => K []
  | 0 :: r, K => decNK r K
  | (n + 1) :: r, K => decNK r fun g => K (n :: g)
theorem decNK_iff : ∀ {g : List Nat} {K : List Nat → Prop}, decNK g K ↔ K (decN g)
  | [], K => by simp [decNK, decN]
  | 0 :: r, K => by simp [decNK, decN, decNK_iff (g := r)]
  | (n + 1) :: r, K => by simp [decNK, decN, decNK_iff (g := r)]
/-- The slots that are forgotten. -/
def deadAllK : List Nat → List A → (List A → Prop) → Prop
  | _, [], K => K []
  | W, a :: l, K => decNK W fun W' => match zeroIn W with
    | true => deadAllK W' l fun r => K (.dead :: r)
    | false => deadAllK W' l fun r => K (a :: r)
/-- The slots that are kept. -/
def keepAllK : List Nat → List A → (List A → Prop) → Prop
  | _, [], K => K []
  | W, a :: l, K => decNK W fun W' => match zeroIn W with
    | true => keepAllK W' l fun r => K (a :: r)
    | false => keepAllK W' l fun r => K (.dead :: r)
theorem deadAllK_ex : ∀ {l : List A} {W : List Nat} {K : List A → Prop}, deadAllK W l K → ∃ t, K t
  | [], W, K, h => ⟨_, h⟩
  | a :: l, W, K, h => by
    unfold deadAllK at h
    rw [decNK_iff] at h
    split at h
    · obtain ⟨t, h⟩ := deadAllK_ex h; exact ⟨_, h⟩
    · obtain ⟨t, h⟩ := deadAllK_ex h; exact ⟨_, h⟩
theorem keepAllK_ex : ∀ {l : List A} {W : List Nat} {K : List A → Prop}, keepAllK W l K → ∃ t, K t
  | [], W, K, h => ⟨_, h⟩
  | a :: l, W, K, h => by
    unfold keepAllK at h
    rw [decNK_iff] at h
    split at h
    · obtain ⟨t, h⟩ := keepAllK_ex h; exact ⟨_, h⟩
    · obtain ⟨t, h⟩ := keepAllK_ex h; exact ⟨_, h⟩
def eqL : List A → List A → Prop
  | [], [] => True
  | a :: as, b :: bs => force b fun b => match b with
    | .dead => eqL as bs
    | b => a = b ∧ eqL as bs
  | _, _ => False
def eqB : List (List A) → List (List A) → Prop
  | _, [] => True
  | a :: as, b :: bs => eqL a b ∧ eqB as bs
  | [], _ :: _ => False
def eqR : List Row → List Row → Prop
  | _, [] => True
  | a :: as, b :: bs => match b with
    | .gone => eqR as bs
    | b => a = b ∧ eqR as bs
  | [], _ :: _ => False
def LeS (np : Nat) (s s' : S) : Prop :=
  match Nat.ble np s'.bx.length with
  | true => match refsB s'.bx.length s'.rw.length s'.bx with
    | true => match refsL s'.bx.length s'.rw.length s'.t with
      | true => eqL s.t s'.t ∧ eqB s.bx s'.bx ∧ eqR s.rw s'.rw
      | false => False
    | false => False
  | false => False
theorem eqL_le : ∀ {l m : List A}, eqL l m → LeL l m
  | [], [], _ => trivial
  | a :: as, b :: bs, h => by
    unfold eqL at h
    rw [force_iff] at h
    unfold LeL
    split at h
    · exact ⟨.inl rfl, eqL_le h⟩
    · exact ⟨.inr h.1, eqL_le h.2⟩
  | [], _ :: _, h => h.elim
  | _ :: _, [], h => h.elim
theorem eqB_le : ∀ {l m : List (List A)}, eqB l m → LeB l m
  | _, [], _ => by unfold LeB; trivial
  | a :: as, b :: bs, h => ⟨eqL_le h.1, eqB_le h.2⟩
  | [], _ :: _, h => h.elim
theorem eqR_le : ∀ {l m : List Row}, eqR l m → LeR l m
  | _, [], _ => by unfold LeR; trivial
  | a :: as, b :: bs, h => by
    unfold eqR at h
    unfold LeR
    split at h
    · exact ⟨.inl rfl, eqR_le h⟩
    · exact ⟨.inr h.1, eqR_le h.2⟩
  | [], _ :: _, h => h.elim
theorem le_of {np : Nat} {s s' : S} (h : LeS np s s') : Le np s s' := by
  unfold LeS at h
  split at h
  · rename_i h1
    split at h
    · rename_i h2
      split at h
      · rename_i h3
        exact le_mk h1 h2 h3 (eqL_le h.1) (eqB_le h.2.1) (eqR_le h.2.2)
      · exact h.elim
    · exact h.elim
  · exact h.elim
/-- Nil slices, in these slots and these cells of boxes, become a row. -/
def isNil (a : A) : Prop := match a with
  | .v (.slice none 0 0) => True
  | _ => False
/-- Slices that are nil, at these places, become the row g. -/
def nilK (g : Nat) : List Nat → List A → (List A → Prop) → Prop
  | _, [], K => K []
  | W, a :: l, K => decNK W fun W' => match zeroIn W with
    | true => isNil a ∧ nilK g W' l fun r => K (.own g :: r)
    | false => nilK g W' l fun r => K (a :: r)
def boxes0 : List (Nat × Nat) → List Nat
  | [] => []
  | (x, o) :: r => match x with
    | 0 => o :: boxes0 r
    | _ + 1 => boxes0 r
def nilBK (g : Nat) : List (Nat × Nat) → List (List A) → (List (List A) → Prop) → Prop
  | _, [], K => K []
  | cs, c :: l, K => nilK g (boxes0 cs) c fun c' => decK cs fun cs' => nilBK g cs' l fun r => K (c' :: r)
theorem isNil_eq {a : A} (h : isNil a) : a = .v (.slice none 0 0) := by
  unfold isNil at h
  split at h
  · rfl
  · exact h.elim
theorem nilK_iff {g : Nat} : ∀ {l : List A} {W : List Nat} {K : List A → Prop}, nilK g W l K → ∃ m, NilL g l m ∧ K m
  | [], W, K, h => ⟨[], trivial, h⟩
  | a :: l, W, K, h => by
    unfold nilK at h
    rw [decNK_iff] at h
    split at h
    · obtain ⟨m, h1, h2⟩ := nilK_iff h.2
      exact ⟨.own g :: m, ⟨.inr ⟨isNil_eq h.1, rfl⟩, h1⟩, h2⟩
    · obtain ⟨m, h1, h2⟩ := nilK_iff h
      exact ⟨a :: m, ⟨.inl rfl, h1⟩, h2⟩
theorem nilBK_iff {g : Nat} : ∀ {l : List (List A)} {cs : List (Nat × Nat)} {K : List (List A) → Prop}, nilBK g cs l K → ∃ m, NilB g l m ∧ K m
  | [], b, K, h => ⟨[], trivial, h⟩
  | c :: l, b, K, h => by
    unfold nilBK at h
    obtain ⟨c', h1, h2⟩ := nilK_iff h
    rw [decK_iff] at h2
    obtain ⟨m, h3, h4⟩ := nilBK_iff h2
    exact ⟨c' :: m, ⟨h1, h3⟩, h4⟩
/-- Ahead of a loop: a nil slice is a row to which nothing has been appended. -/
theorem loop_row {np : Nat} {f : S → (Exit → S → Prop) → Prop} {t : List A} {bx : List (List A)} {rw : List Row} {Q : Exit → S → Prop} (e k : Nat) (ts : List Nat) (cs : List (Nat × Nat))
    (h : snocK rw (.live e k 0 []) 0 fun g rw' => nilK g ts t fun t' => nilBK g cs bx fun bx' => LoopW np f ⟨t', bx', rw'⟩ Q) : LoopW np f ⟨t, bx, rw⟩ Q := by
  rw [snocK_iff, Nat.zero_add] at h
  obtain ⟨t', h1, h⟩ := nilK_iff h
  obtain ⟨bx', h2, h⟩ := nilBK_iff h
  have hle : Le np ⟨t, bx, rw⟩ ⟨t', bx', rw ++ [.live e k 0 []]⟩ := le_nil (s := ⟨t, bx, rw⟩) e k h1 h2
  unfold LoopW at h ⊢
  obtain ⟨X, F, φ, μ, ⟨x, h3, h4⟩, h5⟩ := h
  exact ⟨X, F, φ, μ, ⟨x, hle.trans h3, h4⟩, h5⟩
/-- Rows that are appended to no more read as slices. -/
def subA (rw : List Row) (a : A) : A := match a with
  | .own g => match rw[g]? with
    | some (.pub k n cs) => .sl k n cs
    | _ => .own g
  | a => a
def subBK (rw : List Row) : List (List A) → (List (List A) → Prop) → Prop
  | [], K => K []
  | c :: l, K => mapK (subA rw) c fun c' => subBK rw l fun r => K (c' :: r)
theorem subBK_iff {rw : List Row} : ∀ {l : List (List A)} {K : List (List A) → Prop}, subBK rw l K ↔ K (l.map fun c => c.map (subA rw))
  | [], K => by simp [subBK]
  | c :: l, K => by simp [subBK, mapK_iff, subBK_iff (l := l)]
theorem subA_rep {w0 w : World} {C0 : Rd} {β0 : List Nat} {bx : List (List A)} {rw : List Row} {E : Env} (hp : Hp w0 C0 β0 bx rw w E) {a : A} {y : Value} (h : a.rep E y) : (subA rw a).rep E y := by
  cases a with
  | own g =>
    unfold subA
    simp only
    split
    · rename_i k n cs hg
      have h2 := h
      unfold A.rep at h2
      exact hp.rws g _ y hg h2
    · exact h
  | _ => exact h
theorem subL_rep {w0 w : World} {C0 : Rd} {β0 : List Nat} {bx : List (List A)} {rw : List Row} {E : Env} (hp : Hp w0 C0 β0 bx rw w E) : ∀ {l : List A} {us : List Value}, A.repL l E us → A.repL (l.map (subA rw)) E us
  | [], us, h => by simpa using h
  | a :: r, us, h => by
    unfold A.repL at h
    obtain ⟨u, us', rfl, h2, h3⟩ := h
    simp only [List.map_cons]
    unfold A.repL
    exact ⟨u, us', rfl, subA_rep hp h2, subL_rep hp h3⟩
theorem le_sub {np : Nat} {s : S} : Le np s ⟨s.t.map (subA s.rw), s.bx.map fun c => c.map (subA s.rw), s.rw⟩ := by
  rintro dr w0 C0 β0 a w _ _ ⟨E, hp, hrep, hd⟩
  refine ⟨E, ⟨hp.sub, hp.base, hp.fresh, hp.bp, hp.bnd, hp.bC, by simpa using hp.bl, fun i b cs h1 h2 => ?_, hp.rl, hp.rws, hp.rC, hp.rd, hp.rs, hp.keep, hp.gk⟩, subL_rep hp hrep, hd⟩
  rw [List.getElem?_map, Option.map_eq_some_iff] at h2
  obtain ⟨c0, h2, rfl⟩ := h2
  obtain ⟨T', arr, h3, h4⟩ := hp.bxs i b c0 h1 h2
  exact ⟨T', arr, h3, A.repC_mk (subL_rep hp (A.repC_L h4)) (A.repC_one h4)⟩
theorem loop_le {np : Nat} {f : S → (Exit → S → Prop) → Prop} {s s' : S} {Q : Exit → S → Prop} (hle : Le np s s') (h : LoopW np f s' Q) : LoopW np f s Q := by
  unfold LoopW at h ⊢
  obtain ⟨X, F, φ, μ, ⟨x, h3, h4⟩, h5⟩ := h
  exact ⟨X, F, φ, μ, ⟨x, hle.trans h3, h4⟩, h5⟩
theorem loop_pub {np : Nat} {f : S → (Exit → S → Prop) → Prop} {t : List A} {bx : List (List A)} {rw : List Row} {Q : Exit → S → Prop} (ids : List Nat)
    (h : forceR (pubRows rw ids) fun rw' => mapK (subA rw') t fun t' => subBK rw' bx fun bx' => LoopW np f ⟨t', bx', rw'⟩ Q) : LoopW np f ⟨t, bx, rw⟩ Q := by
  rw [forceR_iff, mapK_iff, subBK_iff] at h
  exact loop_le ((le_pub (s := ⟨t, bx, rw⟩) ids).trans le_sub) h
theorem ok_pub {c : Cx} {x : Code} {t : List A} {bx : List (List A)} {rw : List Row} {q : Exit → S → Prop} (ids : List Nat)
    (h : forceR (pubRows rw ids) fun rw' => mapK (subA rw') t fun t' => subBK rw' bx fun bx' => Ok c x ⟨t', bx', rw'⟩ q) : Ok c x ⟨t, bx, rw⟩ q := by
  rw [forceR_iff, mapK_iff, subBK_iff] at h
  exact ok_le ((le_pub (s := ⟨t, bx, rw⟩) ids).trans le_sub) h
/-! ### Loops -/
def forceL : List A → (List A → Prop) → Prop
  | [], K => K []
  | a :: l, K => force a fun a => forceL l fun r => K (a :: r)
theorem forceL_iff : ∀ {l : List A} {K : List A → Prop}, forceL l K ↔ K l
  | [], K => by simp [forceL]
  | a :: l, K => by simp [forceL, force_iff, forceL_iff (l := l)]
def forceB : List (List A) → (List (List A) → Prop) → Prop
  | [], K => K []
  | a :: l, K => forceL a fun a => forceB l fun r => K (a :: r)
theorem forceB_iff : ∀ {l : List (List A)} {K : List (List A) → Prop}, forceB l K ↔ K l
  | [], K => by simp [forceB]
  | a :: l, K => by simp [forceB, forceL_iff, forceB_iff (l := l)]
/-- A loop whose base is known: the slots of W have been forgotten. -/
@[irreducible] def LoopG (np : Nat) (f : S → (Exit → S → Prop) → Prop) (s : S) (_t0 : List A) (Q : Exit → S → Prop) : Prop :=
  LoopW np f s Q
theorem loop_at {np : Nat} {f : S → (Exit → S → Prop) → Prop} {s : S} {Q : Exit → S → Prop} (W : List Nat) (h : deadAllK W s.t fun t0 => LoopG np f s t0 Q) : LoopW np f s Q := by
  obtain ⟨t, h⟩ := deadAllK_ex h
  unfold LoopG at h
  exact h
theorem loop_keep {np : Nat} {f : S → (Exit → S → Prop) → Prop} {s : S} {Q : Exit → S → Prop} (W : List Nat) (h : keepAllK W s.t fun t0 => LoopG np f s t0 Q) : LoopW np f s Q := by
  obtain ⟨t, h⟩ := keepAllK_ex h
  unfold LoopG at h
  exact h
/-- The state at a loop's head. -/
def headS {X : Type} (t0 : List A) (g : X → List (Nat × A)) (bx : X → List (List A)) (rw : X → List Row) (x : X) : S := ⟨setAll (g x) t0, bx x, rw x⟩
def headK {X : Type} (t0 : List A) (g : X → List (Nat × A)) (bx : X → List (List A)) (rw : X → List Row) (x : X) (K : S → Prop) : Prop :=
  setAllK (g x) t0 fun t => forceB (bx x) fun b => forceR (rw x) fun r => K ⟨t, b, r⟩
theorem headK_iff {X : Type} {t0 : List A} {g : X → List (Nat × A)} {bx : X → List (List A)} {rw : X → List Row} {x : X} {K : S → Prop} : headK t0 g bx rw x K ↔ K (headS t0 g bx rw x) := by
  unfold headK headS
  rw [setAllK_iff, forceB_iff, forceR_iff]
theorem le_head {X : Type} {np : Nat} {s : S} {t0 : List A} {g : X → List (Nat × A)} {bx : X → List (List A)} {rw : X → List Row} {x : X} (h : headK t0 g bx rw x fun s' => LeS np s s') : Le np s (headS t0 g bx rw x) := le_of (headK_iff.1 h)
/-- What the boxes and rows hold is told, and some of the slots. -/
theorem loop_go {np : Nat} {f : S → (Exit → S → Prop) → Prop} {s : S} {t0 : List A} {Q : Exit → S → Prop} {X : Type} (g : X → List (Nat × A)) (bx : X → List (List A)) (rw : X → List Row) (φ : X → Prop) (μ : X → Nat) (x0 : X)
    (h0 : headK t0 g bx rw x0 fun s' => LeS np s s') (hφ : φ x0)
    (hr : ∀ x, φ x → headK t0 g bx rw x fun s1 => f s1 fun e s' => match e with
      | .normal => ∃ x', Le np s' (headS t0 g bx rw x') ∧ φ x' ∧ μ x' < μ x
      | e => Q e s') : LoopG np f s t0 Q := by
  unfold LoopG
  unfold LoopW
  exact ⟨X, headS t0 g bx rw, φ, μ, ⟨x0, le_head h0, hφ⟩, fun x hx => headK_iff.1 (hr x hx)⟩
theorem br_true {b : Bool} {p q : Prop} (hb : b = true) (h : p) : ifK b p q := ifK_iff.2 ⟨fun _ => h, fun e => by rw [hb] at e; cases e⟩
theorem br_false {b : Bool} {p q : Prop} (hb : b = false) (h : q) : ifK b p q := ifK_iff.2 ⟨fun e => (by rw [hb] at e; cases e), fun _ => h⟩
theorem br_both {b : Bool} {p q : Prop} (h : b = true → p) (k : b = false → q) : ifK b p q := ifK_iff.2 ⟨h, k⟩
theorem spec_args {P : Program} {f : Nat} {ins : List (List A)} {args args' : List A} {post : List (List A) → A → Prop} (h : ∀ E us, A.repL args' E us → A.repL args E us) (k : Spec P f ins args post) : Spec P f ins args' post :=
  ⟨k.1, fun w C β vals h0 h1 h2 h3 h4 h5 h6 => k.2 w C β vals h0 h1 h2 h3 h4 h5 (h _ _ h6)⟩
theorem nil_sl {E : Env} {y : Value} {k : Nat} (h : (A.v (.slice none 0 0)).rep E y) : (A.sl k 0 []).rep E y := by
  rw [(A.rep_v_iff.1 h).1]
  unfold A.rep
  exact ⟨by simp, by simp, none, 0, 0, 0, rfl, Nat.le_refl _, .inl rfl, fun _ => rfl, by simp [A.repAt]⟩
theorem i64r {n : Int} (h : -9223372036854775808 ≤ n ∧ n ≤ 9223372036854775807) : lo .i64 ≤ n ∧ n ≤ hi .i64 := h
theorem rowOf_flat {α : Type} {k : Nat} (f : α → List A) (hf : ∀ x, (f x).length = k) : ∀ (l : List α) (i : Nat) (hi : i < l.length), rowOf k i (l.flatMap f) = f l[i]
  | x :: l, 0, _ => by
    unfold rowOf
    simp only [List.flatMap_cons, Nat.zero_mul, List.drop_zero, List.getElem_cons_zero]
    rw [List.take_append, List.take_of_length_le (by rw [hf]; exact Nat.le_refl _), hf]; simp
  | x :: l, i + 1, hi => by
    have := rowOf_flat f hf l i (by simpa using hi)
    unfold rowOf at this ⊢
    simp only [List.flatMap_cons, List.getElem_cons_succ] at this ⊢
    rw [show (i + 1) * k = (f x).length + i * k by rw [hf, Nat.add_mul]; omega, List.drop_append, List.drop_of_length_le (by omega), List.nil_append]
    simpa using this
theorem map_flat {α : Type} (f : α → A) (l : List α) : l.map f = l.flatMap fun x => [f x] := by
  induction l with
  | nil => rfl
  | cons a r ih => simp [List.flatMap_cons, ih]
theorem rowOf_map {α : Type} (f : α → A) (l : List α) (i : Nat) (hi : i < l.length) : rowOf 1 i (l.map f) = [f l[i]] := by
  rw [map_flat]
  exact rowOf_flat (k := 1) (fun x => [f x]) (fun _ => rfl) l i hi
theorem len_row {l : List A} {n : Nat} (h : okA (.sl 1 n l)) : l.length = n := by unfold okA at h; simpa using h.1
end Go.Proofs.YtpjcbadnpknncaaGreatDoor.Vm
