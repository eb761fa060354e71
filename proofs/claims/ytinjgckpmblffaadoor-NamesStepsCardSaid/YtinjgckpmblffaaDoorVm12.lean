/- Regions, code, functions: what the abstract run says holds of the real one. -/
import Derived.Test.YtinjgckpmblffaaDoorVm11
import Derived.Test.YtinjgckpmblffaaDoorVmV
import Derived.Test.YtinjgckpmblffaaDoorVmE
import Derived.Test.YtinjgckpmblffaaDoorVmO
import Derived.Test.YtinjgckpmblffaaDoorVmT
namespace Go.Proofs.YtinjgckpmblffaaDoor.Vm
open Go.RowKit
set_option linter.unusedSimpArgs false
set_option linter.unusedVariables false
/-- A program, its types; how a region that draws its order is walked, and which boxes it may turn; how many boxes are the caller's. -/
structure Cx where
  P : Program
  T : List (Nat × Te)
  ord : Nat → Tr
  xs : Nat → List Nat
  np : Nat
structure Cx.ok (c : Cx) : Prop where
  T : Tab.ok c.P c.T
  z : zeroOk c.T
  m : c.P.follows .mixedOrders = true
def putK (s : S) (dst : Option Nat) (r : A) (K : S → Prop) : Prop :=
  match dst with
  | none => K s
  | some d => force r fun r => setK s.t d r fun t => withT s t K
def wantK (ops : List Oper) (o : Oper) (s : S) (Ky Kn : Prop) : Prop :=
  match o.guard with
  | none => Ky
  | some (j, b) => match ops[j]? with
    | some oj => match oj.dst with
      | some d => match s.t.getD d .dead with
        | .v (.bool c) => match b with
          | true => ifK c Ky Kn
          | false => ifK c Kn Ky
        | .tup [] => Kn
        | _ => False
      | none => False
    | none => False
/-- One operation. -/
def ado (c : Cx) (Xr : Nat → Bool) (s : S) (o : Oper) (K : S → Prop) : Prop :=
  match o.op with
  | .load t x => aload c.T (fun _ => false) s t x fun r => putK s o.dst r K
  | .store t x y => astore2 c.T s t x y fun r s' => putK s' o.dst r K
  | .alloc t => acalm c.P c.T Xr s (.alloc t) fun r s' => putK s' o.dst r K
  | .box t x => acalm c.P c.T Xr s (.box t x) fun r s' => putK s' o.dst r K
  | .buildSlice t n ps => acalm c.P c.T Xr s (.buildSlice t n ps) fun r s' => putK s' o.dst r K
  | .build t ps => abuild c.T s t ps.toList fun r => putK s o.dst r K
  | .call ⟨.value f, args, ts⟩ => acalm c.P c.T Xr s (.call ⟨.value f, args, ts⟩) fun r s' => putK s' o.dst r K
  | .call ⟨.builtin .append, args, ts⟩ => match args.toList with
    | [x, y] => match ts.toList with
      | [t, t'] => aappend c.T s t t' (ev s x) (ev s y) fun r s' => putK s' o.dst r K
      | _ => False
    | _ => False
  | .convert src dst x => match isMark c.T src dst with
    | true => amark c.T s src dst x fun r s' => putK s' o.dst r K
    | false => aconv c.T s src dst x fun r s' => putK s' o.dst r K
  | op => apure3 c.P c.T s op fun r => putK s o.dst r K
/-- An operation that asks no memory. -/
def aquiet (c : Cx) (s : S) (o : Oper) (K : A → Prop) : Prop :=
  match o.op with
  | .build t ps => abuild c.T s t ps.toList K
  | op => apure3 c.P c.T s op K
/-- One that turns nothing but the boxes of X. -/
def acalm' (c : Cx) (Xr : Nat → Bool) (s : S) (o : Oper) (K : A → S → Prop) : Prop :=
  match o.op with
  | .load t x => aload c.T (fun _ => false) s t x fun r => K r s
  | .alloc t => acalm c.P c.T Xr s (.alloc t) K
  | .box t x => acalm c.P c.T Xr s (.box t x) K
  | .buildSlice t n ps => acalm c.P c.T Xr s (.buildSlice t n ps) K
  | .call ⟨.value f, args, ts⟩ => acalm c.P c.T Xr s (.call ⟨.value f, args, ts⟩) K
  | .build t ps => abuild c.T s t ps.toList fun r => K r s
  | .convert src dst x => aconv c.T s src dst x K
  | op => apure3 c.P c.T s op fun r => K r s
section
variable {c : Cx} {w0 : World} {C0 : Rd} {β0 : List Nat} {s : S} {a : Act} {w : World} {E : Env} {o : Oper}
theorem rep_undef (E : Env) : (A.tup []).rep E undef := by
  unfold A.rep
  exact ⟨#[], rfl, by simp [A.repL]⟩
theorem put_ok {dst : Option Nat} {r : A} {y : Value} {K : S → Prop} (hp : Hp w0 C0 β0 s.bx s.rw w E) (ht : A.repL s.t E a.tmps.toList) (hd : a.defers = []) (hr : r.rep E y) (h : putK s dst r K) :
    ∃ s', K s' ∧ s'.bx = s.bx ∧ s'.rw = s.rw ∧ A.repL s'.t E (a.put dst y).tmps.toList ∧ (a.put dst y).defers = [] := by
  cases dst with
  | none => exact ⟨s, h, rfl, rfl, ht, hd⟩
  | some d =>
    unfold putK at h
    simp only at h
    rw [force_iff] at h
    obtain ⟨_, h⟩ := setK_iff h
    rw [withT_iff] at h
    refine ⟨_, h, rfl, rfl, ?_, hd⟩
    show A.repL (s.t.set d r) E (a.tmps.setIfInBounds d y).toList
    rw [Array.toList_setIfInBounds]
    exact A.repL_set ht d hr
theorem want_ok {ops : List Oper} {Ky Kn : Prop} (ht : A.repL s.t E a.tmps.toList) (h : wantK ops o s Ky Kn) :
    (Region.wanted o (yielded ops.toArray a.tmps) = true ∧ Ky) ∨ (Region.wanted o (yielded ops.toArray a.tmps) = false ∧ Kn) := by
  unfold wantK at h
  split at h
  · rename_i hg
    exact .inl ⟨by simp [Region.wanted, hg], h⟩
  · rename_i j b hg
    split at h
    · rename_i oj hoj
      split at h
      · rename_i d hdst
        split at h
        · rename_i c' hc
          have hr := A.repL_getD ht d undef
          rw [hc] at hr
          have hv := (A.rep_v_iff.1 hr).1
          have hdl : a.tmps[d]? = some (.bool c') := by
            cases ha : a.tmps[d]? with
            | none =>
              have : a.tmps.toList.getD d undef = undef := by simp [List.getD_eq_getElem?_getD, ha]
              rw [this] at hv
              simp [undef] at hv
            | some v =>
              have : a.tmps.toList.getD d undef = v := by simp [List.getD_eq_getElem?_getD, ha]
              rw [this] at hv
              rw [hv]
          have hw : Region.wanted o (yielded ops.toArray a.tmps) = (some c' == some b) := by
            simp [Region.wanted, hg, yielded, hoj, hdst, hdl]
          rw [hw]
          cases c' <;> cases b <;> first
            | exact .inl ⟨rfl, h⟩
            | exact .inr ⟨rfl, h⟩
        · rename_i hc
          have hr := A.repL_getD ht d undef
          rw [hc] at hr
          unfold A.rep A.repL at hr
          obtain ⟨us, hv, hus⟩ := hr
          have hw : Region.wanted o (yielded ops.toArray a.tmps) = (none == some b) := by
            cases ha : a.tmps[d]? with
            | none => simp [Region.wanted, hg, yielded, hoj, hdst, ha]
            | some v =>
              have e : a.tmps.toList.getD d undef = v := by simp [List.getD_eq_getElem?_getD, ha]
              rw [e] at hv
              simp [Region.wanted, hg, yielded, hoj, hdst, ha, hv]
          rw [hw]
          exact .inr ⟨by cases b <;> rfl, h⟩
        · exact h.elim
      · exact h.elim
    · exact h.elim
theorem quiet_ok {K : A → Prop} (hc : c.ok) (hp : Hp w0 C0 β0 s.bx s.rw w E) (ht : A.repL s.t E a.tmps.toList) (h : aquiet c s o K) : Gives c.P a o E K := by
  unfold aquiet at h
  split at h
  · rename_i t ps ho; exact build_ok hc.T hc.z hp ht ho h
  · exact apure3_ok hc.T hp ht h
theorem calm'_ok {Xr : Nat → Bool} {K : A → S → Prop} {Kc : Act → World → Prop} {Q : Exit → Act → World → Prop} (hc : c.ok) (hp : Hp w0 C0 β0 s.bx s.rw w E) (ht : A.repL s.t E a.tmps.toList) (h : acalm' c Xr s o K)
    (hk : ∀ y w', Left w0 C0 β0 Xr s E w K y w' → Kc (a.put o.dst y) w') : o.wp c.P a w Kc Q := by
  have pure' : Gives c.P a o E (fun r => K r s) → o.wp c.P a w Kc Q := fun ⟨r, y, h1, h2, h3⟩ => by
    unfold Oper.wp
    rw [h3]
    exact hk y w ⟨r, s, E, h1, rfl, Env.le.refl E, hp, h2, Same.refl _ _ _, Nat.le_refl _⟩
  unfold acalm' at h
  split at h
  · rename_i t x ho
    obtain ⟨r, y, h1, h2, h3⟩ := load_ok hc.T hp ht ho h
    unfold Oper.wp
    rw [h3 w (Same.refl _ _ _)]
    exact hk y w ⟨r, s, E, h1, rfl, Env.le.refl E, hp, h2, Same.refl _ _ _, Nat.le_refl _⟩
  · rename_i t ho; exact calm_ok hc.T hc.z hp ht (by rw [ho]; exact h) hk
  · rename_i t x ho; exact calm_ok hc.T hc.z hp ht (by rw [ho]; exact h) hk
  · rename_i t n ps ho; exact calm_ok hc.T hc.z hp ht (by rw [ho]; exact h) hk
  · rename_i f args ts ho; exact calm_ok hc.T hc.z hp ht (by rw [ho]; exact h) hk
  · rename_i t ps ho; exact pure' (build_ok hc.T hc.z hp ht ho h)
  · rename_i src dst x ho; exact conv_ok hc.T hp ht ho h hk
  · exact pure' (apure3_ok hc.T hp ht h)
theorem do_ok {Xr : Nat → Bool} {K : S → Prop} {Kc : Act → World → Prop} {Q : Exit → Act → World → Prop} (hc : c.ok) (hi : Inv w0 C0 β0 s a w) (h : ado c Xr s o K) (hk : ∀ s' a' w', K s' → Inv w0 C0 β0 s' a' w' → Kc a' w') : o.wp c.P a w Kc Q := by
  obtain ⟨E, hp, ht, hd⟩ := hi
  have calm : acalm' c Xr s o (fun r s' => putK s' o.dst r K) → o.wp c.P a w Kc Q := fun h => calm'_ok hc hp ht h fun y w' ⟨⟨r, s', E', h1, h2, h3, h4, h5, _⟩⟩ => by
    obtain ⟨s2, k1, k2, k3, k4, k5⟩ := put_ok (a := a) h4 (by rw [h2]; exact A.repL.mono _ h3 ht) hd h5 h1
    exact hk s2 _ _ k1 ⟨E', by rw [k2, k3]; exact h4, k4, k5⟩
  have pure' : Gives c.P a o E (fun r => putK s o.dst r K) → o.wp c.P a w Kc Q := fun ⟨r, y, h1, h2, h3⟩ => by
    unfold Oper.wp
    rw [h3]
    obtain ⟨s2, k1, k2, k3, k4, k5⟩ := put_ok (a := a) hp ht hd h2 h1
    exact hk s2 _ _ k1 ⟨E, by rw [k2, k3]; exact hp, k4, k5⟩
  unfold ado at h
  split at h
  · rename_i t x ho; exact calm (by unfold acalm'; rw [ho]; exact h)
  · rename_i t x y ho
    unfold astore2 at h
    split at h
    · rename_i g off hx
      obtain ⟨w', rw', h1, h2, h3⟩ := rstore_ok hc.T hp ht ho hx h
      unfold Oper.wp
      rw [h1]
      obtain ⟨s2, k1, k2, k3, k4, k5⟩ := put_ok (a := a) (s := ⟨s.t, s.bx, rw'⟩) h3 ht hd (A.rep_dead _ undef) h2
      exact hk s2 _ _ k1 ⟨E, by rw [k2, k3]; exact h3, k4, k5⟩
    · obtain ⟨w', bx', h1, h2, h3, -⟩ := store_ok hc.T hp ht ho h
      unfold Oper.wp
      rw [h1]
      obtain ⟨s2, k1, k2, k3, k4, k5⟩ := put_ok (a := a) (s := ⟨s.t, bx', s.rw⟩) h3 ht hd (A.rep_dead _ undef) h2
      exact hk s2 _ _ k1 ⟨E, by rw [k2, k3]; exact h3, k4, k5⟩
  · rename_i t ho; exact calm (by unfold acalm'; rw [ho]; exact h)
  · rename_i t x ho; exact calm (by unfold acalm'; rw [ho]; exact h)
  · rename_i t n ps ho; exact calm (by unfold acalm'; rw [ho]; exact h)
  · rename_i t ps ho; exact pure' (build_ok hc.T hc.z hp ht ho h)
  · rename_i f args ts ho; exact calm (by unfold acalm'; rw [ho]; exact h)
  · rename_i args ts ho
    split at h
    · rename_i x y hx
      split at h
      · rename_i t t' hts
        refine append_ok hc.T hp ht hx hts ho h fun y w' r s' E' h1 h2 h3 h4 _ _ _ _ => ?_
        obtain ⟨s2, k1, k2, k3, k4, k5⟩ := put_ok (a := a) h3 h2 hd h4 h1
        exact hk s2 _ _ k1 ⟨E', by rw [k2, k3]; exact h3, k4, k5⟩
      · exact h.elim
    · exact h.elim
  · rename_i src dst x ho
    split at h
    · obtain ⟨y, w', r, s', E', h1, h2, h3, h4, h5, h6⟩ := mark_ok hc.T hp ht ho h
      unfold Oper.wp
      rw [h1]
      obtain ⟨s2, k1, k2, k3, k4, k5⟩ := put_ok (a := a) h5 (by rw [h3]; exact A.repL.mono _ h4 ht) hd h6 h2
      exact hk s2 _ _ k1 ⟨E', by rw [k2, k3]; exact h5, k4, k5⟩
    · exact calm (by unfold acalm'; rw [ho]; exact h)
  · exact pure' (apure3_ok hc.T hp ht h)
def aseq0 (s : S) (K : S → Prop) : Prop := K s
def aseq1 (c : Cx) (ops : List Oper) (o : Oper) (ih : S → (S → Prop) → Prop) (s : S) (K : S → Prop) : Prop :=
  wantK ops o s (ado c (fun _ => true) s o fun s' => ih s' K) (putK s o.dst (.tup []) fun s' => ih s' K)
/-- One operation behind the other. (By the recursor itself: so the kernel meets the very terms that the walk shows.) -/
noncomputable def aseq (c : Cx) (ops : List Oper) (l : List Oper) : S → (S → Prop) → Prop :=
  List.rec aseq0 (fun o _ ih => aseq1 c ops o ih) l
theorem seq_ok {ops : List Oper} {Q : Exit → Act → World → Prop} (hc : c.ok) : ∀ {l : List Oper} {s : S} {a : Act} {w : World} {K : S → Prop}, Inv w0 C0 β0 s a w → aseq c ops l s K → (∀ s' a' w', K s' → Inv w0 C0 β0 s' a' w' → Q .normal a' w') → wpList c.P ops.toArray Q l a w
  | [], s, a, w, K, hi, h, hk => hk s a w h hi
  | o :: r, s, a, w, K, hi, h, hk => by
    obtain ⟨E, hp, ht, hd⟩ := hi
    change wantK ops o s (ado c (fun _ => true) s o fun s' => aseq c ops r s' K) (putK s o.dst (.tup []) fun s' => aseq c ops r s' K) at h
    refine wpList_step fun Kc hKc => ?_
    rcases want_ok ht h with ⟨h1, h2⟩ | ⟨h1, h2⟩
    · rw [if_pos h1]
      exact do_ok hc ⟨E, hp, ht, hd⟩ h2 fun s' a' w' h3 h4 => hKc _ _ (seq_ok hc h4 h3 hk)
    · rw [if_neg (by rw [h1]; simp)]
      obtain ⟨s2, k1, k2, k3, k4, k5⟩ := put_ok (a := a) hp ht hd (rep_undef _) h2
      exact hKc _ _ (seq_ok hc ⟨E, by rw [k2, k3]; exact hp, k4, k5⟩ k1 hk)
/-- A region that draws its order, walked as its tree says. So long as nothing has turned (0), any read; while nothing that was there has turned (1), a read of a box that was there. -/
def aser0 (_ : Nat) (s : S) (K : S → Prop) : Prop := K s
/-- What may be read when other things have come up: a box that was there; so long as nothing has come up, whatever is read. -/
def oldOk (q n0 : Nat) (x : A) (p : Prop) : Prop := match x with
  | .box i _ => match Nat.blt i n0 with
    | true => p
    | false => False
  | .pp _ => match q with
    | 0 => p
    | _ + 1 => False
  | _ => False
def aserQ (c : Cx) (Xr : Nat → Bool) (n0 : Nat) (ops : List Oper) (k m : Nat) (ih : Nat → S → (S → Prop) → Prop) (q : Nat) (s : S) (K : S → Prop) : Prop :=
  match ops[k]? with
    | some o => match m with
      | 0 => match o.op with
        | .load t x => match Nat.ble q 1 with
          | true => wantK ops o s (oldOk q n0 (ev s x) (aload c.T Xr s t x fun r => putK s o.dst r fun s' => ih q s' K)) (putK s o.dst (.tup []) fun s' => ih q s' K)
          | false => False
        | _ => False
      | _ + 1 => wantK ops o s (aquiet c s o fun r => putK s o.dst r fun s' => ih q s' K) (putK s o.dst (.tup []) fun s' => ih q s' K)
    | none => False
/-- One that turns no box but those of X. -/
def acalm2 (c : Cx) (Xr : Nat → Bool) (s : S) (o : Oper) (K : A → S → Prop) : Prop :=
  match o.op with
  | .call ⟨.builtin .append, args, ts⟩ => match args.toList with
    | [x, y] => match ts.toList with
      | [t, t'] => aappend c.T s t t' (ev s x) (ev s y) K
      | _ => False
    | _ => False
  | .store t x y => match ev s x with
    | .box i _ => match Xr i with
      | true => astore c.T s t x y K
      | false => False
    | _ => False
  | _ => acalm' c Xr s o K
def aserL (c : Cx) (Xr : Nat → Bool) (ops : List Oper) (k m : Nat) (ih : Nat → S → (S → Prop) → Prop) (q : Nat) (s : S) (K : S → Prop) : Prop :=
  match ops[k]? with
    | some o => match Nat.beq m 1 with
      | true => match Nat.ble q 1 with
        | true => wantK ops o s (acalm2 c Xr s o fun r s' => putK s' o.dst r fun s' => ih 1 s' K) (putK s o.dst (.tup []) fun s' => ih 1 s' K)
        | false => False
      | false => wantK ops o s (ado c (fun _ => true) s o fun s' => ih 2 s' K) (putK s o.dst (.tup []) fun s' => ih 2 s' K)
    | none => False
def aserA (c : Cx) (Xr : Nat → Bool) (ops : List Oper) (k m : Nat) (alt : Bool) (ih iho : Nat → S → (S → Prop) → Prop) (q : Nat) (s : S) (K : S → Prop) : Prop :=
  match alt with
  | true => aserL c Xr ops k m ih q s K ∧ iho q s K
  | false => aserL c Xr ops k m ih q s K
noncomputable def aser (c : Cx) (Xr : Nat → Bool) (n0 : Nat) (ops : List Oper) (t : Tr) : Nat → S → (S → Prop) → Prop :=
  Tr.rec aser0 (fun k m _ ih => aserQ c Xr n0 ops k m ih) (fun k m _ o ih iho => aserA c Xr ops k m o.isAlt ih iho) t
/-- What reads ask: the boxes that were there, but for those of X, and whatever else was told. -/
def Kept (Xr : Nat → Bool) (E0 : Env) (ws w : World) : Prop := (∀ (i b : Nat), E0.β[i]? = some b → Xr i = false → w.heap[b]? = ws.heap[b]?) ∧ Sub E0.C w.cell?
/-- The call's state at the region's beginning, and now. -/
structure Since (Xr : Nat → Bool) (E0 : Env) (ws : World) (E : Env) (w : World) : Prop where
  C : Sub E0.C E.C
  β : ∀ (i b : Nat), E0.β[i]? = some b → E.β[i]? = some b
  kept : Kept Xr E0 ws w
theorem load_old_ok {Xr : Nat → Bool} {E0 : Env} {ws : World} {q t : Nat} {x : Operand} {K : A → Prop} (hT : Tab.ok c.P c.T) (hp : Hp w0 C0 β0 s.bx s.rw w E) (ht : A.repL s.t E a.tmps.toList) (hs : Since Xr E0 ws E w) (hq : q = 0 → E = E0) (ho : o.op = .load t x) (h : oldOk q E0.β.length (ev s x) (aload c.T Xr s t x K)) :
    ∃ r y, K r ∧ r.rep E y ∧ ∀ w', Kept Xr E0 ws w' → (execOp a.eval o).run c.P w' = .ok (.value y) w' := by
  unfold oldOk at h
  split at h
  · rename_i i off0 hev
    split at h
    · rename_i hlt
      have hi : i < E0.β.length := by simpa using hlt
      have hxi : Xr i = false := by
        unfold aload at h
        split at h
        · split at h
          · rename_i hb
            rw [hev] at hb
            simpa [okBox] using hb
          · exact h.elim
        · exact h.elim
      obtain ⟨r, y, k1, k2, k3⟩ := load_box_ok hT hp ht ho h hev
      refine ⟨r, y, k1, k2, fun w' hw => k3 w' fun b hb => ?_⟩
      have e0 : E0.β[i]? = some E0.β[i] := List.getElem?_eq_getElem hi
      have e1 := hs.β i _ e0
      rw [e1] at hb
      cases hb
      exact (hw.1 i _ e0 hxi).trans (hs.kept.1 i _ e0 hxi).symm
    · exact h.elim
  · rename_i cs hev
    split at h
    · obtain rfl := hq rfl
      refine load_gen (Kept Xr E ws) hT (ev_rep ht x) ho h fun cs' hX hcs => ?_
      have hx := ev_rep ht x
      rw [hev] at hx hcs
      unfold A.rep at hx
      obtain ⟨b, off, hy, hr⟩ := hx
      simp only [cellsAt] at hcs
      cases hcs
      obtain ⟨us, h1, h2⟩ := A.repAt_vals hr
      exact ⟨b, off, us, hy, A.repC.mono _ E.per_le h1, fun w' hw j u hu => hw.2 _ _ (h2 j u hu)⟩
    · exact h.elim
  · exact h.elim
theorem nodup_get {l : List Nat} (h : l.Nodup) {i j b : Nat} (hi : l[i]? = some b) (hj : l[j]? = some b) : i = j := by
  obtain ⟨h1, h2⟩ := List.getElem?_eq_some_iff.1 hi
  obtain ⟨h3, h4⟩ := List.getElem?_eq_some_iff.1 hj
  exact nodup_inj h (h2.trans h4.symm)
theorem calm2_ok {Xr : Nat → Bool} {K : A → S → Prop} {Kc : Act → World → Prop} {Q : Exit → Act → World → Prop} (hc : c.ok) (hp : Hp w0 C0 β0 s.bx s.rw w E) (ht : A.repL s.t E a.tmps.toList) (h : acalm2 c Xr s o K)
    (hk : ∀ y w' r s' E', K r s' → A.repL s'.t E' a.tmps.toList → Hp w0 C0 β0 s'.bx s'.rw w' E' → r.rep E' y → Sub E.C E'.C → (∀ (i b : Nat), E.β[i]? = some b → E'.β[i]? = some b) → (∀ (i b : Nat), E.β[i]? = some b → Xr i = false → w'.heap[b]? = w.heap[b]?) → Kc (a.put o.dst y) w') : o.wp c.P a w Kc Q := by
  unfold acalm2 at h
  split at h
  · rename_i args ts ho
    split at h
    · rename_i x y hx
      split at h
      · rename_i t t' hts
        exact append_ok hc.T hp ht hx hts ho h fun y w' r s' E' h1 h2 h3 h4 h5 h6 h7 _ => hk y w' r s' E' h1 h2 h3 h4 h5 h6 fun i b hb _ => h7 b (List.mem_iff_getElem?.2 ⟨i, hb⟩)
      · exact h.elim
    · exact h.elim
  · rename_i t x y ho
    split at h
    · rename_i i0 off0 hev0
      split at h
      · rename_i hX
        obtain ⟨w', bx', h1, h2, h3, i, off, b, hev, hb, hoth⟩ := store_ok hc.T hp ht ho h
        rw [hev0] at hev
        cases hev
        unfold Oper.wp
        rw [h1]
        refine hk undef w' .dead ⟨s.t, bx', s.rw⟩ E h2 ht h3 (A.rep_dead _ _) (Sub.refl _) (fun _ _ h => h) fun j b' hj hxj => hoth b' ?_
        rintro rfl
        have e := nodup_get hp.bnd hj hb
        subst e
        rw [hX] at hxj
        cases hxj
      · exact h.elim
    · exact h.elim
  · exact calm'_ok hc hp ht h fun y w' ⟨⟨r, s', E', g1, g2, g3, g4, g5, g6, g7⟩⟩ => hk y w' r s' E' g1 (by rw [g2]; exact A.repL.mono _ g3 ht) g4 g5 g3.C g3.β fun i b hb hx => Same.box hp g6 hb hx
theorem ser_ok' {ops : List Oper} {Q : Exit → Act → World → Prop} {Xr : Nat → Bool} {E0 : Env} {ws : World} (hc : c.ok) :
    ∀ {l : Tr} {q : Nat} {s : S} {a : Act} {w : World} {E : Env} {K : S → Prop}, Hp w0 C0 β0 s.bx s.rw w E → A.repL s.t E a.tmps.toList → a.defers = [] → (q ≤ 1 → Since Xr E0 ws E w) → (q = 0 → E = E0) →
      aser c Xr E0.β.length ops l q s K → (∀ s' a' w', K s' → Inv w0 C0 β0 s' a' w' → Q .normal a' w') → wpT c.P ops.toArray (NoPanic Q) (Kept Xr E0 ws) l a w
  | .nil, q, s, a, w, E, K, hp, ht, hd, hs, hq, h, hk => hk s a w h ⟨E, hp, ht, hd⟩
  | .q k m rest, q, s, a, w, E, K, hp, ht, hd, hs, hq, h, hk => by
    change aserQ c Xr E0.β.length ops k m (aser c Xr E0.β.length ops rest) q s K at h
    unfold aserQ at h
    split at h
    · rename_i o hok
      have hok' : ops.toArray[k]? = some o := by simpa using hok
      match m, h with
      | 0, h =>
        simp only at h
        split at h
        · rename_i t x ho
          split at h
          · rename_i hq1
            have hs1 := hs (Nat.le_of_ble_eq_true hq1)
            rcases want_ok ht h with ⟨h1, h2⟩ | ⟨h1, h2⟩
            · obtain ⟨r, y, k1, k2, k3⟩ := load_old_ok hc.T hp ht hs1 hq ho h2
              obtain ⟨s2, p1, p2, p3, p4, p5⟩ := put_ok (a := a) hp ht hd k2 k1
              exact tr_load hok' hs1.kept h1 ⟨y, k3, ser_ok' hc (by rw [p2, p3]; exact hp) p4 p5 hs hq p1 hk⟩
            · obtain ⟨s2, p1, p2, p3, p4, p5⟩ := put_ok (a := a) hp ht hd (rep_undef _) h2
              exact tr_skip0 hok' hs1.kept h1 (ser_ok' hc (by rw [p2, p3]; exact hp) p4 p5 hs hq p1 hk)
          · exact h.elim
        · exact h.elim
      | n + 1, h =>
        simp only at h
        rcases want_ok ht h with ⟨h1, h2⟩ | ⟨h1, h2⟩
        · obtain ⟨r, y, k1, k2, k3⟩ := quiet_ok hc hp ht h2
          obtain ⟨s2, p1, p2, p3, p4, p5⟩ := put_ok (a := a) hp ht hd k2 k1
          exact tr_pure hok' h1 ⟨y, k3, ser_ok' hc (by rw [p2, p3]; exact hp) p4 p5 hs hq p1 hk⟩
        · obtain ⟨s2, p1, p2, p3, p4, p5⟩ := put_ok (a := a) hp ht hd (rep_undef _) h2
          exact tr_skip hok' h1 (ser_ok' hc (by rw [p2, p3]; exact hp) p4 p5 hs hq p1 hk)
    · exact h.elim
  | .alt k m rest other, q, s, a, w, E, K, hp, ht, hd, hs, hq, h, hk => by
    change aserA c Xr ops k m other.isAlt (aser c Xr E0.β.length ops rest) (aser c Xr E0.β.length ops other) q s K at h
    have hL2 : aserL c Xr ops k m (aser c Xr E0.β.length ops rest) q s K ∧ (other.isAlt = true → aser c Xr E0.β.length ops other q s K) := by
      unfold aserA at h
      split at h
      · exact ⟨h.1, fun _ => h.2⟩
      · rename_i e
        exact ⟨h, fun e' => by rw [e] at e'; cases e'⟩
    have hO : other.isAlt = true → wpT c.P ops.toArray (NoPanic Q) (Kept Xr E0 ws) other a w := fun e => ser_ok' hc hp ht hd hs hq (hL2.2 e) hk
    have hL := hL2.1
    clear hL2 h
    unfold aserL at hL
    split at hL
    · rename_i o hok
      have hok' : ops.toArray[k]? = some o := by simpa using hok
      split at hL
      · rename_i hm
        obtain rfl := Nat.eq_of_beq_eq_true hm
        split at hL
        · rename_i hq1
          have hs1 := hs (Nat.le_of_ble_eq_true hq1)
          refine tr_loud1 hok' (fun Kc hKc => ?_) hO
          rcases want_ok ht hL with ⟨h1, h2⟩ | ⟨h1, h2⟩
          · rw [if_pos h1]
            refine calm2_ok hc hp ht h2 fun y w' r s' E' g1 g2 g3 g4 g5 g6 g7 => ?_
            obtain ⟨s2, p1, p2, p3, p4, p5⟩ := put_ok (a := a) g3 g2 hd g4 g1
            have hsin : Since Xr E0 ws E' w' := ⟨hs1.C.trans g5, fun i b hb => g6 i b (hs1.β i b hb), fun i b hb hx => (g7 i b (hs1.β i b hb) hx).trans (hs1.kept.1 i b hb hx), (hs1.C.trans g5).trans g3.sub⟩
            exact hKc _ _ ⟨hsin.kept, ser_ok' hc (by rw [p2, p3]; exact g3) p4 p5 (fun _ => hsin) (fun e => by cases e) p1 hk⟩
          · rw [if_neg (by rw [h1]; simp)]
            obtain ⟨s2, p1, p2, p3, p4, p5⟩ := put_ok (a := a) hp ht hd (rep_undef _) h2
            exact hKc _ _ ⟨hs1.kept, ser_ok' hc (by rw [p2, p3]; exact hp) p4 p5 (fun _ => hs1) (fun e => by cases e) p1 hk⟩
        · exact hL.elim
      · rename_i hm
        refine tr_loud2 (fun e => by rw [e] at hm; simp at hm) hok' (fun Kc hKc => ?_) hO
        rcases want_ok ht hL with ⟨h1, h2⟩ | ⟨h1, h2⟩
        · rw [if_pos h1]
          refine do_ok hc ⟨E, hp, ht, hd⟩ h2 fun s' a' w' h3 ⟨E', g1, g2, g3⟩ => ?_
          exact hKc _ _ (ser_ok' hc g1 g2 g3 (fun e => by omega) (fun e => by cases e) h3 hk)
        · rw [if_neg (by rw [h1]; simp)]
          obtain ⟨s2, p1, p2, p3, p4, p5⟩ := put_ok (a := a) hp ht hd (rep_undef _) h2
          exact hKc _ _ (ser_ok' hc (by rw [p2, p3]; exact hp) p4 p5 (fun e => by omega) (fun e => by cases e) p1 hk)
    · exact hL.elim
def allLt : List Nat → Nat → Bool
  | [], _ => true
  | x :: r, n => match Nat.blt x n with
    | true => allLt r n
    | false => false
theorem allLt_get {n : Nat} : ∀ {l : List Nat}, allLt l n = true → ∀ x ∈ l, x < n
  | [], _, x, hx => by cases hx
  | y :: r, h, x, hx => by
    unfold allLt at h
    split at h
    · rename_i hy
      rcases List.mem_cons.1 hx with rfl | hx
      · simpa using hy
      · exact allLt_get h x hx
    · cases h
theorem drew_inv (h : Hp w0 C0 β0 s.bx s.rw w E) : Hp w0 C0 β0 s.bx s.rw w.drew E := h.ext (Ext.refl w).drew
/-- A region. -/
theorem ser_ok {id : Nat} {ops : List Oper} {Q : Exit → Act → World → Prop} {X : List Nat} {l : Tr} {K : S → Prop} (hc : c.ok) (hi : Inv w0 C0 β0 s a w) (hX : allLt X s.bx.length = true) (hB : serOkT ops.toArray l = true)
    (h : aser c (fun i => memB i X) s.bx.length ops l 0 s K) (hk : ∀ s' a' w', K s' → Inv w0 C0 β0 s' a' w' → Q .normal a' w') : (Code.region id ops.toArray true).wp c.P Q a w := by
  obtain ⟨E, hp, ht, hd⟩ := hi
  rw [hp.bl] at h
  have hk0 : Kept (fun i => memB i X) E w.drew w.drew := ⟨fun _ _ _ _ => rfl, (drew_inv hp).sub⟩
  refine wp_region_T (Kept (fun i => memB i X) E w.drew) l hc.m hB hk0 fun _ => ?_
  exact ser_ok' hc (drew_inv hp) ht hd (fun _ => ⟨Sub.refl _, fun _ _ h => h, hk0⟩) (fun _ => rfl) h hk
/-- Where several ways lead through a region: what holds behind each of them is told. -/
@[irreducible] def JoinW (f : (S → Prop) → Prop) (K : S → Prop) : Prop := ∃ φ : S → Prop, f φ ∧ ∀ x, φ x → K x
theorem join_go {f : (S → Prop) → Prop} {K : S → Prop} (φ : S → Prop) (h : f φ) (k : ∀ x, φ x → K x) : JoinW f K := by
  unfold JoinW
  exact ⟨φ, h, k⟩
theorem join_eq {f : (S → Prop) → Prop} {K : S → Prop} (s' : S) (h : f fun x => x = s') (k : K s') : JoinW f K := by
  unfold JoinW
  exact ⟨fun x => x = s', h, fun x e => e ▸ k⟩
theorem exists_min {p : Nat → Prop} : ∀ n, p n → ∃ m, p m ∧ ∀ k, p k → m ≤ k := fun n => by
  induction n using Nat.strongRecOn with
  | _ n ih =>
    intro hn
    by_cases h : ∃ k, k < n ∧ p k
    · obtain ⟨k, h1, h2⟩ := h
      exact ih k h1 h2
    · exact ⟨n, hn, fun k hk => Nat.le_of_not_lt fun h1 => h ⟨k, h1, hk⟩⟩
theorem least {α : Type} {p : α → Nat → Prop} : ∃ M : α → Nat, ∀ z, (∃ n, p z n) → p z (M z) ∧ ∀ m, p z m → M z ≤ m := by
  have h : ∀ z, ∃ m, (∃ n, p z n) → p z m ∧ ∀ k, p z k → m ≤ k := fun z => by
    by_cases hz : ∃ n, p z n
    · obtain ⟨n, hn⟩ := hz
      obtain ⟨m, h1, h2⟩ := exists_min n hn
      exact ⟨m, fun _ => ⟨h1, h2⟩⟩
    · exact ⟨0, fun h => absurd h hz⟩
  exact ⟨fun z => Classical.choose (h z), fun z => Classical.choose_spec (h z)⟩
end
end Go.Proofs.YtinjgckpmblffaaDoor.Vm
