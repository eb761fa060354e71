/- Texts 6 of the proof: VmX, C7, C8, C9, C10, C19, C35, C23, C33, C34, C18, C21, C36. -/
import Derived.Test.YtfbifdccmabdbaaGreatDoorK5
namespace Go.Proofs.YtfbifdccmabdbaaGreatDoor.Vm
open Go.RowKit
set_option linter.unusedSimpArgs false
set_option linter.unusedVariables false
section
structure jpp (P : Program) (f : Nat) (ins : List (List A)) (e k n : Nat) (cs args : List A) (post : List (List A) -> Nat -> List A -> A -> Prop) : Prop where
 r : jlL P f ins e k n cs args post
 d : ∀ u, jmW (ClD P f u u) ins e k n cs args post fun _ => False
section
variable {c : Cx} {s : S}
theorem jlg {f : Nat} {fn : Func} {x : Code} {ins : List (List A)} {e k n : Nat} {cs args : List A} {post : List (List A) -> Nat -> List A -> A -> Prop} (hc : c.ok) (hq : ∀ ch s, ¬ c.pan ch s) (hf : c.P.funcs[f]? = some fn) (hb : fn.body = some x) (hname : (fn.name == "runtime.NumGoroutine") = false)
  (hn : ins.length = c.np) (hord : jby c.ord x = true) (h : okL args -> jdr args (fn.ntmps - args.length) fun t => awp c x ⟨t, ins, [.live e k n cs]⟩ (jyw c e k fn.results.toList post)) : jpp c.P f ins e k n cs args post := by
 refine ⟨jac hc (fun ch s h => hq ch s h) hf hb hname hn hord h, fun u w C β vals y xs h0 h1 h2 h3 h4 h5 h6 h7 h8 h9 => ?_⟩;unfold ClD
 refine CallsD.mono (callsD_of_wp hf hb (R := fun e' w' => (∃ (outs : List (List A)) (n' : Nat) (cs' : List A) (r : A) (v y' : Value) (xs' : List Value) (C' : Rd), e' = .returned v /\ post outs n' cs' r /\ Keeps (β ++ (blk y).toList) w w' /\ Sub C C' /\ Sub C' (see w') /\ (∀ ad u, C' ad = some u -> C ad = some u ∨ w.heap.size <= ad.block ∨ blk y = some ad.block) /\ outs.length = β.length ∧
   (∀ (i b : Nat) (cs : List A), β[i]? = some b -> outs[i]? = some cs -> boxAt w' ⟨C', β, [y']⟩ b cs) /\ owR w' e k y' n' xs' /\ A.repC cs' ⟨C', [], []⟩ xs' /\ (∀ b, blk y' = some b -> (∀ o sp, C' ⟨b, o, sp⟩ = none) /\ (w.heap.size <= b ∨ blk y = some b)) /\ r.rep ⟨C', β, [y']⟩ v) ∨
   ∃ (ch : List PanicEntry) (ns : List Nat), e' = .panicked ch /\ False /\ Keeps (β ++ (blk y).toList) w w' /\ ns.length = β.length /\ ∀ (i b n : Nat), β[i]? = some b -> ns[i]? = some n -> boxAt w' ⟨C, β, []⟩ b (List.replicate n .dead)) ?_) fun e m w' hh => hh
 have hinit := initK_iff.1 (h (jbj _ h9))
 have hinit := jaW hc hord hinit
 have hinv := jfv (nt := fn.ntmps) h0 h1 h2 h3 h4 h5 h6 h7 h8 h9
 unfold Ok OkD at hinit;refine hinit ⟨w, (blk y).toList⟩ C β _ w _ (by rw [<- h4, hn]) hinv (fun ch s' a' w' hpan hi => absurd hpan (hq ch s')) ?_
 have fin : ∀ (s' : S) (a' : Act) (w' : World), (∃ g, jtT c e k g fn.results.toList post s') -> Inv [] ⟨w, (blk y).toList⟩ C β s' a' w' -> _ := fun s' a' w' ⟨g, hr⟩ hi => jm5 (w := w) (C := C) (β := β) (s' := s') (a' := a') (w' := w') (fn := fn) (post := post) (y := y) hc (by rw [<- h4, hn]) hr hi
 intro e1 s' a' w' hq hi
 cases e1 with
 | normal => obtain ⟨k1, v, k2, k3⟩ := fin s' a' w' hq hi; exact ⟨k1, v, k2, .inl k3⟩
 | ret => obtain ⟨k1, v, k2, k3⟩ := fin s' a' w' hq hi; exact ⟨k1, v, k2, .inl k3⟩
 | _ => exact hq.elim
@[irreducible] def jxP (P : Program) (f : Nat) (args : List A) (s : S) (K : S -> Prop) : Prop :=
 (∀ vs w, (callFunc f vs).run P w = .ok (.enter f vs) w) ∧
 ∃ (X ids : List Nat) (g e k n : Nat) (cs : List A) (ins : List (List A)) (args' : List A) (post : List (List A) -> Nat -> List A -> A -> Prop), X.Nodup /\ (∀ i ∈ X, i < s.bx.length) /\ (ja0 s.rw ids)[g]? = some (.live e k n cs) ∧
  jdz X g (ja0 s.rw ids) (X.map fun i => s.bx.getD i []) = some ins /\ jbk X g (ja0 s.rw ids) args = some args' /\ (okL args' -> jmW (ClD P f .returning .returning) ins e k n cs args' post fun _ => False) ∧
  ∀ outs n' cs' r, post outs n' cs' r -> outs.length = X.length -> jh3 X s.rw.length s.bx X outs fun bx' => jbi (backG X s.rw.length r) fun r' => jax ((ja0 s.rw ids).set g .gone ++ [.live e k n' cs']) fun rw' => jbv s bx' rw' K
def jg0 (c : Cx) (e k : Nat) (rv : List ResultVar) (post : List (List A) -> Nat -> List A -> A -> Prop) : List (Nat × List A) -> S -> Prop
 | [], s => ∃ g, jtT c e k g rv post s
 | (f, args) :: r, s => jxP c.P f args s fun s' => jg0 c e k rv post r s'
theorem jig {w0 : W0} {C0 : Rd} {β0 : List Nat} {e k : Nat} {fn : Func} {post : List (List A) -> Nat -> List A -> A -> Prop} {R : Ending -> World -> Prop} {tmps : Array Value} (hfin : ∀ s' w', (∃ g, jtT c e k g fn.results.toList post s') -> Inv [] w0 C0 β0 s' { tmps := tmps, defers := [] } w' -> ∃ v, (results fn tmps).run c.P w' = .ok v w' /\ R (.returned v) w') :
  ∀ (dr : List (Nat × List A)) (ds : List Deferred) (s : S) (E : Env) (w : World), repD dr E ds -> Hp w0 C0 β0 s.bx s.rw w E -> A.repL s.t E tmps.toList -> jg0 c e k fn.results.toList post dr s -> Leaves c.P fn tmps R ds .returning w
 | [], ds, s, E, w, hd, hp, ht, h => by
  obtain rfl : ds = [] := hd
  exact hfin s w h ⟨E, hp, ht, rfl⟩
 | (f, args) :: r, ds, s, E, w, ⟨d, ds', cap, hds, htg, hargs, hrest⟩, hp, ht, h => by
  subst hds;unfold jg0 jxP at h
  obtain ⟨hcall, X, ids, g, e0, k0, n0, cs0, ins, args', post', hn, hX, hg, hins, hargs', hspec, hk⟩ := h
  obtain ⟨-, hcx⟩ := jnb (pan := fun _ _ => False) (Xr := fun _ => true) (K := fun _ s' => jg0 c e k fn.results.toList post r s') (Cl := ClD c.P f .returning .returning) ClD.mono hp hargs rfl hn (fun _ _ => rfl) hX hg hins hargs' hspec (fun outs n' cs' r hp hl => hk outs n' cs' r hp hl) (fun ch bx' h _ _ => h.elim)
  obtain ⟨t, da⟩ := d
  simp only at htg hargs hcx
  subst htg;refine leaves_cons (f := f) (args := da ++ cap) (by simp) (by simp [invoke, hcall]) ?_
  have hcx' : CallsD c.P f (da ++ cap) .returning w fun e' m w' => m = .returning /\ ((∃ y, e' = .returned y /\ Left w0 C0 β0 (fun _ => true) s E w (fun _ s' => jg0 c e k fn.results.toList post r s') y w') ∨ ∃ (ch : List PanicEntry) (s' : S) (E' : Env), e' = .panicked ch /\ False /\ s'.t = s.t /\ E.le E' /\ Hp w0 C0 β0 s'.bx s'.rw w' E') := hcx
  refine CallsD.mono hcx' ?_;rintro e' m w' ⟨rfl, ⟨y, rfl, ⟨⟨r0, s', E', h1, h2, h3, h4, h5, _⟩⟩⟩ | ⟨ch, s', E', _, h, _⟩⟩
  ·exact jig hfin r ds' s' E' w' (hrest.mono h3) h4 (by rw [h2]; exact A.repL.mono _ h3 ht) h1
  ·exact h.elim
theorem jlh {f : Nat} {fn : Func} {x : Code} {ins : List (List A)} {e k n : Nat} {cs args : List A} {post : List (List A) -> Nat -> List A -> A -> Prop} (hc : c.ok) (hf : c.P.funcs[f]? = some fn) (hb : fn.body = some x) (hname : (fn.name == "runtime.NumGoroutine") = false)
  (hn : ins.length = c.np) (h : okL args -> jdr args (fn.ntmps - args.length) fun t => OkT c.P c.np (fun _ _ _ => False) (fun dr ex s => (ex = .normal ∨ ex = .ret) /\ jg0 c e k fn.results.toList post dr s) [] x ⟨t, ins, [.live e k n cs]⟩) : jlL c.P f ins e k n cs args post := by
 refine ⟨jdJ hf hb hname, fun w C β vals y xs h0 h1 h2 h3 h4 h5 h6 h7 h8 h9 => ?_⟩;refine calls_of_wp_defers hf hb ?_
 have hinit := initK_iff.1 (h (jbj _ h9))
 have hinv := jfv (nt := fn.ntmps) h0 h1 h2 h3 h4 h5 h6 h7 h8 h9
 unfold OkT at hinit;refine hinit ⟨w, (blk y).toList⟩ C β _ w _ (by rw [<- h4, hn]) hinv (fun dr ch s' a' w' hl _ => hl.elim) (fun dr ex s' a' w' hl ⟨E, hp, ht, hd⟩ => ?_)
 have key := jig (c := c) (e := e) (k := k) (fn := fn) (post := post) (tmps := a'.tmps) (R := fun e' w' => (∃ (outs : List (List A)) (n' : Nat) (cs' : List A) (r : A) (v y' : Value) (xs' : List Value) (C' : Rd), e' = .returned v /\ post outs n' cs' r /\ Keeps (β ++ (blk y).toList) w w' /\ Sub C C' /\ Sub C' (see w') /\ (∀ ad u, C' ad = some u -> C ad = some u ∨ w.heap.size <= ad.block ∨ blk y = some ad.block) /\ outs.length = β.length ∧
   (∀ (i b : Nat) (cs : List A), β[i]? = some b -> outs[i]? = some cs -> boxAt w' ⟨C', β, [y']⟩ b cs) /\ owR w' e k y' n' xs' /\ A.repC cs' ⟨C', [], []⟩ xs' /\ (∀ b, blk y' = some b -> (∀ o sp, C' ⟨b, o, sp⟩ = none) /\ (w.heap.size <= b ∨ blk y = some b)) /\ r.rep ⟨C', β, [y']⟩ v) ∨
   ∃ (ch : List PanicEntry) (ns : List Nat), e' = .panicked ch /\ False /\ Keeps (β ++ (blk y).toList) w w' /\ ns.length = β.length /\ ∀ (i b n : Nat), β[i]? = some b -> ns[i]? = some n -> boxAt w' ⟨C, β, []⟩ b (List.replicate n .dead))
  (fun s2 w2 ⟨g, hr⟩ hi => by
   obtain ⟨-, v, q1, q2⟩ := jm5 (w := w) (C := C) (β := β) (fn := fn) (post := post) (y := y) hc (by rw [<- h4, hn]) hr hi
   exact ⟨v, q1, .inl q2⟩) dr a'.defers s' E w' hd hp ht hl.2
 rcases hl.1 with rfl | rfl
 ·exact key
 ·exact key
end
section
variable {c : Cx} {P : Program} {np : Nat} {pt : List (Nat × List A) -> List PanicEntry -> S -> Prop} {qt : List (Nat × List A) -> Exit -> S -> Prop} {dr : List (Nat × List A)} {s : S}
theorem jqF {x y : Code} (h : OkT P np pt (fun dr' e s' => tQ P np pt qt dr' y e s') dr x s) : OkT P np pt qt dr (.seq x y) s := by
 unfold OkT at h ⊢;intro w0 C0 β0 a w Q hn hi hx hk;refine wp_seq (h w0 C0 β0 a w _ hn hi (fun dr' ch s' a' w' h1 h2 => hx dr' ch s' a' w' h1 h2) fun dr' e s' a' w' h1 h2 => ?_)
 cases e with
 | normal =>
  have h1 : OkT P np pt qt dr' y s' := h1
  unfold OkT at h1;exact h1 w0 C0 β0 a' w' Q hn h2 hx hk
 | _ => exact hk dr' _ _ _ _ h1 h2
def jwv (s : S) (ids : List Nat) (fo : Operand) (xs : List Operand) (K : Nat -> List A -> S -> Prop) : Prop :=
 match s with
 | ⟨t, bx, rw⟩ => jax (ja0 rw ids) fun rw' => jgq (jjz rw') t fun t' => jmH rw' bx fun bx' => match ev ⟨t', bx', rw'⟩ fo with
  | .clo f caps => jgq (ev ⟨t', bx', rw'⟩) xs fun l => K f (l ++ caps) ⟨t', bx', rw'⟩
  | _ => False
theorem jfC {id : Nat} {l : List Oper} {od : Oper} {fo : Operand} {xs : Array Operand} {ts : Array TypeId} (ids : List Nat) (hc : c.ok) (hdr : ∃ n, jbW n dr = true) (hp : ∀ ch s', c.pan ch s' -> pt dr ch s') (hop : od.op = .defer ⟨.value fo, xs, ts⟩) (hg : od.guard = none) (hd : od.dst = none)
  (h : jlR c (l ++ [od]) l s fun s' => jwv s' ids fo xs.toList fun f args s'' => qt ((f, args) :: dr) .normal s'') : OkT c.P c.np pt qt dr (.region id (l ++ [od]).toArray false) s := by
 unfold OkT;intro w0 C0 β0 a w Q hn hi hx hk;refine wp_region_lit (jjw (l2 := [od]) (Q := Q) hc hdr (fun ch s' a' w' h1 h2 => hx dr ch s' a' w' (hp ch s' h1) h2) hi h fun s' a' w' h1 h2 => ?_)
 refine wpList_step fun Kc hKc => ?_
 rw [if_pos (by simp [Region.wanted, hg])]
 obtain ⟨t, bx, rw'⟩ := s'
 unfold jwv at h1
 simp only at h1
 rw [jay, jav, jfe] at h1
 have hle : Le (β0.length) ⟨t, bx, rw'⟩ _ := (jql (np := β0.length) (s := ⟨t, bx, rw'⟩) ids).trans jqm
 -- publishing keeps what is deferred
 obtain ⟨E, hpp, ht, hdd⟩ := h2
 obtain ⟨C', hp1, le1⟩ := hpp.pubs ids
 have ht1 := jff (E := ⟨C', E.β, E.ρ⟩) hp1 (A.repL.mono _ le1 ht)
 have hd1 := hdd.mono le1
 have hp2 : Hp w0 C0 β0 (bx.map fun c => c.map (jjz (ja0 rw' ids))) (ja0 rw' ids) w' ⟨C', E.β, E.ρ⟩ := by
  refine ⟨hp1.sub, hp1.base, hp1.fresh, hp1.bp, hp1.bnd, hp1.bC, by simpa using hp1.bl, fun i b cs h1 h2 => ?_, hp1.rl, hp1.rws, hp1.rC, hp1.rd, hp1.rs, hp1.keep, hp1.gk⟩;rw [List.getElem?_map, Option.map_eq_some_iff] at h2
  obtain ⟨c0, h2, rfl⟩ := h2
  obtain ⟨T', arr, h3, h4⟩ := hp1.bxs i b c0 h1 h2
  exact ⟨T', arr, h3, h4.map (jjz (ja0 rw' ids)) (fun l us k => jff (E := ⟨C', E.β, E.ρ⟩) hp1 k) rfl (fun t => rfl) fun a t e => by
   unfold jjz at e
   split at e
   ·split at e <;> cases e
   ·exact e⟩
 split at h1
 ·rename_i f caps hev
  rw [jav] at h1
  have hf := jag (s := ⟨t.map (jjz (ja0 rw' ids)), bx.map fun c => c.map (jjz (ja0 rw' ids)), ja0 rw' ids⟩) ht1 fo
  rw [hev] at hf;unfold A.rep at hf
  obtain ⟨us, hf, hcaps⟩ := hf
  have hrun : (execOp a'.eval od).run c.P w' = .ok (.defer { target := .fn (.func f) us, args := xs.map a'.eval }) w' := by simp [execOp, hop, resolve, Deferred.ofValue, hf, Result.andThen]
  unfold Oper.wp;rw [hrun, Oper.upon_defer];rw [hd];refine hKc _ _ (hk _ _ _ _ _ h1 ⟨⟨C', E.β, E.ρ⟩, hp2, ht1, { target := .fn (.func f) us, args := xs.map a'.eval }, a'.defers, us, rfl, rfl, ?_, hd1⟩)
  have := A.repL_append (jcp (s := ⟨t.map (jjz (ja0 rw' ids)), bx.map fun c => c.map (jjz (ja0 rw' ids)), ja0 rw' ids⟩) ht1 xs.toList) hcaps
  simpa using this
 ·exact h1.elim
end
theorem juy {P : Program} {f : Nat} {args args' : List A} {s : S} {K : S -> Prop} {post : List (List A) -> Nat -> List A -> A -> Prop} (i g m : Nat) (ids : List Nat) (hm : s.rw.length = m) {e k n : Nat} {cs c0 c1 : List A} (hi : s.bx[i]? = some c0) (hg : (ja0 s.rw ids)[g]? = some (.live e k n cs)) (h1 : jbk [i] g (ja0 s.rw ids) c0 = some c1) (h2 : jbk [i] g (ja0 s.rw ids) args = some args') (hs : jpp P f [c1] e k n cs args' post)
  (hk : ∀ o n' cs' r, post [o] n' cs' r -> jh3 [i] m s.bx [i] [o] fun bx' => jbi (backG [i] m r) fun r' => jax ((ja0 s.rw ids).set g .gone ++ [.live e k n' cs']) fun rw' => jbv s bx' rw' K) : jxP P f args s K := by
 subst hm;unfold jxP
 have hil := (List.getElem?_eq_some_iff.1 hi).1
 refine ⟨hs.r.1, [i], ids, g, e, k, n, cs, [c1], args', post, by simp, by simpa using hil, hg, ?_, h2, fun _ => hs.d .returning, fun outs n' cs' r hp hl => ?_⟩
 ·have : s.bx.getD i [] = c0 := by simp [List.getD_eq_getElem?_getD, hi]
  simp only [List.map_cons, List.map_nil, this, jdz, h1]
 ·obtain ⟨o, rfl⟩ : ∃ o, outs = [o] := List.length_eq_one_iff.1 (by simpa using hl)
  exact hk o n' cs' r hp
end
end Go.Proofs.YtfbifdccmabdbaaGreatDoor.Vm
namespace Go.Proofs.YtfbifdccmabdbaaGreatDoor.Vm
open Go.RowKit Go.Shelf
set_option linter.unusedSimpArgs false
set_option linter.unusedVariables false
set_option maxRecDepth 100000
section
section
variable {P : Program} {pan : List PanicEntry -> S -> Prop} {Xr : Nat -> Bool} {f : Nat} {args args' : List A} {s : S} {K : A -> S -> Prop} {post : List (List A) -> Nat -> List A -> A -> Prop}
theorem jjY (X : List Nat) (g m : Nat) (ids : List Nat) (hm : s.rw.length = m) {e k n : Nat} {cs : List A} {ins : List (List A)} (hf : Xr 1000000007 = true) (hn : X.Nodup) (hX : ∀ i ∈ X, Xr i = true) (hi : ∀ i ∈ X, i < s.bx.length) (hg : (ja0 s.rw ids)[g]? = some (.live e k n cs)) (h1 : jdz X g (ja0 s.rw ids) (X.map fun i => s.bx.getD i []) = some ins) (h2 : jbk X g (ja0 s.rw ids) args = some args') (hs : okL args' -> jlL P f ins e k n cs args' post)
  (hk : ∀ outs n' cs' r, post outs n' cs' r -> outs.length = X.length -> jh3 X m s.bx X outs fun bx' => jbi (backG X m r) fun r' => jax ((ja0 s.rw ids).set g .gone ++ [.live e k n' cs']) fun rw' => jbv s bx' rw' (K r')) : jbJ P pan Xr f args s K := by
 subst hm;unfold jbJ
 right; right; right; right; left
 exact ⟨hf, X, ids, g, e, k, n, cs, ins, args', post, _, hn, hX, hi, hg, h1, h2, hs, hk, fun ch bx' h _ _ => h.elim⟩
end
abbrev jpo (f : Nat) (ins : List (List A)) (l : List Ic) (args : List A) (post : List (List A) -> List Ic -> A -> Prop) : Prop :=
 jpp Tryz.prog f ins 52 2 l.length (jcn l) args fun o n cs r => ∃ l', n = l'.length /\ cs = jcn l' /\ post o l' r
theorem jyv (u : Ut) (l : List Ic) (op n : Int) (hl : l.length <= 1000000) : jpo 40 [cbx u] l [.box 0 0, intA op, intA n] fun o l' r => o = [cbx u] /\ l' = l ++ [(op, n)] /\ r = intA l.length := by
 refine jlg (ja4 jb4 xs0 1) (fun _ _ h => h) Tryz.func40 rfl (by kernel_rfl) rfl (by kernel_rfl) ?_;intro _;conv => whnf
 refine ⟨⟨by unfold maxLen; omega, by omega⟩, ?_⟩;conv => whnf
 refine ⟨jam (by omega), ?_⟩;conv => whnf
 refine ⟨0, ?_⟩;conv => whnf
 refine ⟨l ++ [(op, n)], by rw [List.length_append]; rfl, ?_, rfl, rfl, ?_⟩
 ·rw [jkm]; rfl
 ·show intA (((l.length + 1 : Nat) : Int) - 1) = intA l.length
  congr 1; omega
theorem jyA (u : Ut) (l : List Ic) (k : Nat) (hk : k < l.length) (hl : l.length <= 1000000) : jpo 121 [cbx u] l [.box 0 0, intA k] fun o l' r => o = [cbx u] /\ l' = l.set k (l[k].1, l.length) /\ r = .tup [] := by
 refine jlg (ja4 jxa xs0 1) (fun _ _ h => h) Tryz.func121 rfl (by kernel_rfl) rfl (by kernel_rfl) ?_;intro _;conv => whnf
 refine ⟨⟨by omega, by omega⟩, ?_⟩;conv => whnf
 rw [show ((k : Int)).toNat = k from rfl];refine jhj (by rw [jss]; omega) ?_;conv => whnf
 refine ⟨0, ?_⟩;conv => whnf
 refine ⟨l.set k (l[k].1, l.length), by rw [List.length_set], ?_, rfl, rfl, rfl⟩;exact jnt l k hk l.length
theorem jm0 (u : Ut) (n : Int) (s : ByteArray) (kids : List Nt) (hm : kids.length <= 3002) (hf : ∀ f ∈ kids, jeE u f) (l : List Ic) (hl : l.length + jhO kids + 1 <= 1000000) : jeb 76 [cbx u] l [.box 0 0, .agg (ntA (.mk 17 n s kids))] fun o l' r => o = [cbx u] /\ l' = l ++ jej (jas (ixU u) kids) l.length ++ (if s = pMinus then [(10, 0)] else [(14, 0)]) /\ r = .tup [] := by
 have hk := jeR u 17 n s kids hm hf l (by omega)
 simp only [ntA, Nt.k, Nt.n, Nt.s, Nt.kids] at hk
 have hz := je1 (u := u) kids l.length hf
 have hem := fun (l : List Ic) (op n : Int) (h : l.length <= 1000000) => jc8 u l op n h
 generalize jej (jas (ixU u) kids) l.length = y at *
 have hly : (l ++ y).length <= 999999 := by rw [List.length_append]; omega
 generalize l ++ y = l3 at *;simp only [ntA, Nt.k, Nt.n, Nt.s, Nt.kids];refine jac (ja4 jb4 xs0 1) (fun _ _ h => h) Tryz.func76 rfl (by kernel_rfl) rfl (by kernel_rfl) ?_;intro _;conv => whnf
 refine ja9 0 0 1 [] rfl rfl rfl rfl rfl rfl rfl (fun _ => hk) ?_;rintro o n' cs' r ⟨l2, rfl, rfl, ho, hl2, rfl⟩;cases ho;subst hl2;conv => whnf
 by_cases hs : s = pMinus
 ·rw [if_pos hs];refine jaV (b := decide (s = ⟨#[45]⟩)) (decide_eq_true hs) ?_;conv => whnf
  refine ja9 0 1 2 [] rfl rfl rfl rfl rfl rfl rfl (fun _ => hem l2 10 0 (by omega)) ?_;rintro o n' cs' r ⟨l4, rfl, rfl, ho, hl4, rfl⟩;cases ho;conv => whnf
  refine ⟨2, ?_⟩;conv => whnf
  exact ⟨l4, rfl, rfl, rfl, hl4, rfl⟩
 ·rw [if_neg hs];refine jat (b := decide (s = ⟨#[45]⟩)) (decide_eq_false hs) ?_;conv => whnf
  refine ja9 0 1 2 [] rfl rfl rfl rfl rfl rfl rfl (fun _ => hem l2 14 0 (by omega)) ?_;rintro o n' cs' r ⟨l4, rfl, rfl, ho, hl4, rfl⟩;cases ho;conv => whnf
  refine ⟨2, ?_⟩;conv => whnf
  exact ⟨l4, rfl, rfl, rfl, hl4, rfl⟩
theorem jrn {α : Type} : ∀ (a : List α) (x v : α) (b : List α), (a ++ x :: b).set a.length v = a ++ v :: b
 | [], x, v, b => rfl
 | y :: a, x, v, b => by
  show y :: (a ++ x :: b).set a.length v = _
  rw [jrn a x v b]; rfl
theorem juH (u : Ut) (a b : List Ic) (op x : Int) (hl : (a ++ (op, x) :: b).length <= 1000000) : jpo 121 [cbx u] (a ++ (op, x) :: b) [.box 0 0, intA a.length] fun o l' r => o = [cbx u] /\ l' = a ++ (op, ((a ++ (op, x) :: b).length : Int)) :: b /\ r = .tup [] := by
 have hk : a.length < (a ++ (op, x) :: b).length := by rw [List.length_append, List.length_cons]; omega
 have h := jyA u (a ++ (op, x) :: b) a.length hk hl
 have e : (a ++ (op, x) :: b)[a.length] = (op, x) := by simp
 rw [e, jrn] at h;exact h
def jxO (u : Ut) (nd : Nt) (f : Nat) (caps : List A) (g : Int -> List Ic) (z : Nat) : Prop := (∀ at' : Int, (g at').length <= z) /\ ∀ l : List Ic, l.length + z <= 1000000 -> jeb f [cbx u, [.box 0 0], ntA nd] l caps fun o l' r => o = [cbx u, [.box 0 0], ntA nd] /\ l' = l ++ g l.length /\ r = .tup []
theorem choose_spec (u : Ut) (nd : Nt) (f : Nt) (hf : jeE u f) (fy fn zy zn : Nat) (cy cn : List A) (gy gn : Int -> List Ic) (hcy : cy = [.box 1 0, .box 2 0] ∨ cy = [.box 1 0]) (hcn : cn = [.box 1 0, .box 2 0] ∨ cn = [.box 1 0]) (hy : jxO u nd fy cy gy zy) (hn : jxO u nd fn cn gn zn) (l : List Ic) (hl : l.length + szN f + zy + zn + 2 <= 1000000) : jeb 116 [cbx u, [.box 0 0], ntA nd] l [.box 0 0, .agg (ntA f), .clo fy cy, .clo fn cn] fun o l' r => o = [cbx u, [.box 0 0], ntA nd] /\ l' = l ++ brC (jal (ixU u) f) gy gn l.length /\ r = .tup [] := by
 have hz1 := hf.1 l.length
 have hN := hf.2 l (by omega)
 have hem := fun (l : List Ic) (op n : Int) (h : l.length <= 1000000) => jc8 u l op n h
 generalize hC : jal (ixU u) f l.length = C at *
 have e1 : (l ++ C).length = l.length + C.length := List.length_append
 have h1 := hem (l ++ C) 16 0 (by omega)
 have e2 : (l ++ C ++ [(16, 0)]).length = l.length + C.length + 1 := by rw [List.length_append, e1]; rfl
 have hz2 := hy.1 ((l ++ C ++ [((16 : Int), (0 : Int))]).length : Nat)
 have h2 := hy.2 (l ++ C ++ [(16, 0)]) (by omega)
 generalize hY : gy ((l ++ C ++ [((16 : Int), (0 : Int))]).length : Nat) = Y at *
 have e3 : (l ++ C ++ [(16, 0)] ++ Y).length = l.length + C.length + 1 + Y.length := by rw [List.length_append, e2]
 have h3 := hem (l ++ C ++ [(16, 0)] ++ Y) 15 0 (by omega)
 have e4 : l ++ C ++ [(16, 0)] ++ Y ++ [(15, 0)] = (l ++ C) ++ ((16 : Int), (0 : Int)) :: (Y ++ [(15, 0)]) := by simp
 have e5 : ((l ++ C) ++ ((16 : Int), (0 : Int)) :: (Y ++ [((15 : Int), (0 : Int))])).length = l.length + C.length + 1 + Y.length + 1 := by rw [<- e4, List.length_append, e3]; rfl
 have h4 := juH u (l ++ C) (Y ++ [(15, 0)]) 16 0 (by omega)
 rw [e5] at h4
 have e6 : ((l ++ C) ++ ((16 : Int), ((l.length + C.length + 1 + Y.length + 1 : Nat) : Int)) :: (Y ++ [((15 : Int), (0 : Int))])).length = l.length + C.length + 1 + Y.length + 1 := by
  rw [List.length_append, List.length_cons, e1, List.length_append]; simp; omega
 have hz3 := hn.1 ((l.length + C.length + 1 + Y.length + 1 : Nat) : Int)
 have h5 := hn.2 ((l ++ C) ++ ((16 : Int), ((l.length + C.length + 1 + Y.length + 1 : Nat) : Int)) :: (Y ++ [((15 : Int), (0 : Int))])) (by omega)
 rw [e6] at h5;generalize hN2 : gn ((l.length + C.length + 1 + Y.length + 1 : Nat) : Int) = N at *
 have e7 : (l ++ C) ++ ((16 : Int), ((l.length + C.length + 1 + Y.length + 1 : Nat) : Int)) :: (Y ++ [((15 : Int), (0 : Int))]) ++ N = ((l ++ C) ++ ((16 : Int), ((l.length + C.length + 1 + Y.length + 1 : Nat) : Int)) :: Y) ++ (15, 0) :: N := by simp
 have e8 : ((l ++ C) ++ ((16 : Int), ((l.length + C.length + 1 + Y.length + 1 : Nat) : Int)) :: Y).length = l.length + C.length + 1 + Y.length := by
  rw [List.length_append, List.length_cons, e1]; omega
 have e9 : (((l ++ C) ++ ((16 : Int), ((l.length + C.length + 1 + Y.length + 1 : Nat) : Int)) :: Y) ++ ((15 : Int), (0 : Int)) :: N).length = l.length + C.length + 1 + Y.length + 1 + N.length := by
  rw [List.length_append, List.length_cons, e8]; omega
 have h6 := juH u ((l ++ C) ++ ((16 : Int), ((l.length + C.length + 1 + Y.length + 1 : Nat) : Int)) :: Y) N 15 0 (by omega)
 rw [e8, e9] at h6
 have hfin : l ++ brC (jal (ixU u) f) gy gn l.length = ((l ++ C) ++ ((16 : Int), ((l.length + C.length + 1 + Y.length + 1 : Nat) : Int)) :: Y) ++ ((15 : Int), ((l.length + C.length + 1 + Y.length + 1 + N.length : Nat) : Int)) :: N := by
  unfold brC;simp only [hC];rw [e2] at hY
  have k1 : (l.length : Int) + (C.length : Int) + 1 = ((l.length + C.length + 1 : Nat) : Int) := by omega
  rw [k1, hY]
  have k2 : ((l.length + C.length + 1 : Nat) : Int) + (Y.length : Int) + 1 = ((l.length + C.length + 1 + Y.length + 1 : Nat) : Int) := by omega
  rw [k2, hN2]
  have k3 : ((l.length + C.length + 1 + Y.length + 1 : Nat) : Int) + (N.length : Int) = ((l.length + C.length + 1 + Y.length + 1 + N.length : Nat) : Int) := by omega
  rw [k3]
  simp
 rw [e3] at h3;rw [hfin];rw [e4] at h3;rw [e7] at h5
 rcases hcy with rfl | rfl <;> rcases hcn with rfl | rfl
 all_goals
  refine jlh (ja4 jb4 xs0 3) Tryz.func116 rfl (by kernel_rfl) rfl ?_;intro _;conv => whnf
  refine jaP (ja4 jb4 xs0 3) (dr := []) ⟨0, rfl⟩ (.inl rfl) (by kernel_rfl) (fun _ _ h => h.elim) ?_;conv => whnf
  refine jaP (ja4 jb4 xs0 3) (dr := []) ⟨0, rfl⟩ (.inl rfl) (by kernel_rfl) (fun _ _ h => h.elim) ?_;conv => whnf
  refine ja9 0 0 1 [] rfl rfl rfl rfl rfl rfl rfl (fun _ => hN) ?_;rintro o n' cs' r ⟨l2, rfl, rfl, ho, hl2, rfl⟩;cases ho;subst hl2;conv => whnf
  refine jaP (ja4 jb4 xs0 3) (dr := []) ⟨0, rfl⟩ (.inl rfl) (by kernel_rfl) (fun _ _ h => h.elim) ?_;conv => whnf
  refine ja9 0 1 2 [] rfl rfl rfl rfl rfl rfl rfl (fun _ => h1) ?_;rintro o n' cs' r ⟨l3, rfl, rfl, ho, hl3, rfl⟩;cases ho;subst hl3;conv => whnf
  refine jaP (ja4 jb4 xs0 3) (dr := []) ⟨0, rfl⟩ (.inl rfl) (by kernel_rfl) (fun _ _ h => h.elim) ?_;conv => whnf
  refine jjY [0, 1, 2] 2 3 [] rfl rfl (by decide) (by simp) (by simp) rfl rfl rfl (fun _ => h2) ?_;rintro o n' cs' r ⟨l4, rfl, rfl, ho, hl4, rfl⟩ _;cases ho;subst hl4;conv => whnf
  refine jaP (ja4 jb4 xs0 3) (dr := []) ⟨0, rfl⟩ (.inl rfl) (by kernel_rfl) (fun _ _ h => h.elim) ?_;conv => whnf
  refine ja9 0 3 4 [] rfl rfl rfl rfl rfl rfl rfl (fun _ => h3) ?_;rintro o n' cs' r ⟨l5, rfl, rfl, ho, hl5, rfl⟩;cases ho;subst hl5;conv => whnf
  refine jqF ?_;refine jfC (l := [_, _]) [] (ja4 jb4 xs0 3) ⟨0, rfl⟩ (fun _ _ h => h.elim) rfl rfl rfl ?_;conv => whnf
  refine jnP (ja4 jb4 xs0 3) ⟨1, rfl⟩ (.inl rfl) (by kernel_rfl) (fun _ _ h => h.elim) ?_;conv => whnf
  refine ja9 0 4 5 [] rfl rfl rfl rfl rfl rfl rfl (fun _ => h4.r) ?_;rintro o n' cs' r ⟨l6, rfl, rfl, ho, hl6, rfl⟩;cases ho;subst hl6;conv => whnf
  refine jjY [0, 1, 2] 5 6 [] rfl rfl (by decide) (by simp) (by simp) rfl rfl rfl (fun _ => h5) ?_;rintro o n' cs' r ⟨l7, rfl, rfl, ho, hl7, rfl⟩ _;cases ho;subst hl7;conv => whnf
  refine ⟨.inl rfl, ?_⟩;unfold jg0;refine juy 0 6 7 [] rfl rfl rfl rfl rfl h6 ?_;rintro o n' cs' r ⟨l8, rfl, rfl, ho, hl8, rfl⟩;cases ho;conv => whnf
  refine ⟨7, ?_⟩;conv => whnf
  exact ⟨l8, rfl, rfl, rfl, hl8, rfl⟩
end
theorem jiU (u : Ut) (k n : Int) (s : ByteArray) (kids : List Nt) (i c : Nat) (hi : i < kids.length) (hf : jeE u kids[i]) (hc : c = 115 /\ i = 1 ∨ c = 119 /\ i = 1 ∨ c = 120 /\ i = 2) : jxO u (.mk k n s kids) c [.box 1 0, .box 2 0] (jal (ixU u) kids[i]) (szN kids[i]) := by
 refine ⟨hf.1, fun l hl => ?_⟩
 have hN := hf.2 l hl
 have hrow := jcd kids i hi
 generalize kids[i] = g at *;simp only [ntA, Nt.k, Nt.n, Nt.s, Nt.kids]
 rcases hc with ⟨rfl, rfl⟩ | ⟨rfl, rfl⟩ | ⟨rfl, rfl⟩
 ·refine jac (ja4 jx7 xs0 3) (fun _ _ h => h) Tryz.func115 rfl (by kernel_rfl) rfl (by kernel_rfl) ?_;intro _;conv => whnf
  refine ⟨by omega, ?_⟩;conv => whnf
  (generalize hrq : ja2 _ _ (jdi kids) = rq; obtain rfl : rq = ntA g := hrq.symm.trans (hrow); clear hrq; conv => whnf)
  refine ja9 0 0 1 [] rfl rfl rfl rfl rfl rfl rfl (fun _ => hN) ?_;rintro o n' cs' r ⟨l2, rfl, rfl, ho, hl2, rfl⟩;cases ho;conv => whnf
  refine ⟨1, ?_⟩;conv => whnf
  exact ⟨l2, rfl, rfl, rfl, hl2, rfl⟩
 ·refine jac (ja4 jx8 xs0 3) (fun _ _ h => h) Tryz.func119 rfl (by kernel_rfl) rfl (by kernel_rfl) ?_;intro _;conv => whnf
  refine ⟨by omega, ?_⟩;conv => whnf
  (generalize hrq : ja2 _ _ (jdi kids) = rq; obtain rfl : rq = ntA g := hrq.symm.trans (hrow); clear hrq; conv => whnf)
  refine ja9 0 0 1 [] rfl rfl rfl rfl rfl rfl rfl (fun _ => hN) ?_;rintro o n' cs' r ⟨l2, rfl, rfl, ho, hl2, rfl⟩;cases ho;conv => whnf
  refine ⟨1, ?_⟩;conv => whnf
  exact ⟨l2, rfl, rfl, rfl, hl2, rfl⟩
 ·refine jac (ja4 jx9 xs0 3) (fun _ _ h => h) Tryz.func120 rfl (by kernel_rfl) rfl (by kernel_rfl) ?_;intro _;conv => whnf
  refine ⟨by omega, ?_⟩;conv => whnf
  (generalize hrq : ja2 _ _ (jdi kids) = rq; obtain rfl : rq = ntA g := hrq.symm.trans (hrow); clear hrq; conv => whnf)
  refine ja9 0 0 1 [] rfl rfl rfl rfl rfl rfl rfl (fun _ => hN) ?_;rintro o n' cs' r ⟨l2, rfl, rfl, ho, hl2, rfl⟩;cases ho;conv => whnf
  refine ⟨1, ?_⟩;conv => whnf
  exact ⟨l2, rfl, rfl, rfl, hl2, rfl⟩
theorem jng (u : Ut) (k n : Int) (s : ByteArray) (kids : List Nt) (c : Nat) (v : Int) (hc : c = 117 /\ v = 0 ∨ c = 118 /\ v = 1) : jxO u (.mk k n s kids) c [.box 1 0] (fun _ => [(1, v)]) 1 := by
 refine ⟨fun _ => Nat.le_refl _, fun l hl => ?_⟩
 have hN := jc8 u l 1 v (by omega)
 simp only [ntA, Nt.k, Nt.n, Nt.s, Nt.kids]
 rcases hc with ⟨rfl, rfl⟩ | ⟨rfl, rfl⟩
 ·refine jac (ja4 jb4 xs0 3) (fun _ _ h => h) Tryz.func117 rfl (by kernel_rfl) rfl (by kernel_rfl) ?_;intro _;conv => whnf
  refine ja9 0 0 1 [] rfl rfl rfl rfl rfl rfl rfl (fun _ => hN) ?_;rintro o n' cs' r ⟨l2, rfl, rfl, ho, hl2, rfl⟩;cases ho;conv => whnf
  refine ⟨1, ?_⟩;conv => whnf
  exact ⟨l2, rfl, rfl, rfl, hl2, rfl⟩
 ·refine jac (ja4 jb4 xs0 3) (fun _ _ h => h) Tryz.func118 rfl (by kernel_rfl) rfl (by kernel_rfl) ?_;intro _;conv => whnf
  refine ja9 0 0 1 [] rfl rfl rfl rfl rfl rfl rfl (fun _ => hN) ?_;rintro o n' cs' r ⟨l2, rfl, rfl, ho, hl2, rfl⟩;cases ho;conv => whnf
  refine ⟨1, ?_⟩;conv => whnf
  exact ⟨l2, rfl, rfl, rfl, hl2, rfl⟩
theorem jdT (k n : Int) (s : ByteArray) (kids : List Nt) : ntA (.mk k n s kids) = [intA k, intA n, jbn s, .sl 4 kids.length (jdi kids)] := rfl
theorem jlX (u : Ut) (n : Int) (s : ByteArray) (kids : List Nt) (h3 : kids.length = 3) (hf : ∀ f ∈ kids, jeE u f) (l : List Ic) (hl : l.length + (kids.map szN).sum + 2 <= 1000000) : jeb 78 [cbx u] l [.box 0 0, .agg (ntA (.mk 2 n s kids))] fun o l' r => o = [cbx u] /\ l' = l ++ brC (jal (ixU u) (kids[0]'(by omega))) (jal (ixU u) (kids[1]'(by omega))) (jal (ixU u) (kids[2]'(by omega))) l.length /\ r = .tup [] := by
 have h1 := jiU u 2 n s kids 1 119 (by omega) (hf _ (List.getElem_mem _)) (.inr (.inl ⟨rfl, rfl⟩))
 have h2 := jiU u 2 n s kids 2 120 (by omega) (hf _ (List.getElem_mem _)) (.inr (.inr ⟨rfl, rfl⟩))
 have hsum : szN (kids[0]'(by omega)) + szN (kids[1]'(by omega)) + szN (kids[2]'(by omega)) <= (kids.map szN).sum := by
  match kids, h3 with
  | [a, b, c], _ => simp; omega
 have hch := choose_spec u _ (kids[0]'(by omega)) (hf _ (List.getElem_mem _)) _ _ _ _ _ _ _ _ (.inl rfl) (.inl rfl) h1 h2 l (by omega)
 have hrow := jcd kids 0 (by omega)
 generalize kids[0]'(by omega) = g at *;rw [jdT] at hch ⊢;refine jac (ja4 jz0 xs0 1) (fun _ _ h => h) Tryz.func78 rfl (by kernel_rfl) rfl (by kernel_rfl) ?_;intro _;conv => whnf
 refine ⟨by omega, ?_⟩;conv => whnf
 (generalize hrq : ja2 _ _ (jdi kids) = rq; obtain rfl : rq = ntA g := hrq.symm.trans (hrow); clear hrq; conv => whnf)
 refine jjY [0, 1, 2] 0 1 [] rfl rfl (by decide) (by simp) (by simp) rfl rfl rfl (fun _ => hch) ?_;rintro o n' cs' r ⟨l2, rfl, rfl, ho, hl2, rfl⟩ _;cases ho;conv => whnf
 refine ⟨1, ?_⟩;conv => whnf
 exact ⟨l2, rfl, rfl, rfl, hl2, rfl⟩
theorem juq (u : Ut) (n : Int) (kids : List Nt) (h3 : kids.length = 2) (hf : ∀ f ∈ kids, jeE u f) (l : List Ic) (hl : l.length + (kids.map szN).sum + 3 <= 1000000) : jeb 77 [cbx u] l [.box 0 0, .agg (ntA (.mk 18 n jg3 kids))] fun o l' r => o = [cbx u] /\ l' = l ++ brC (jal (ixU u) (kids[0]'(by omega))) (jal (ixU u) (kids[1]'(by omega))) (fun _ => [(1, 0)]) l.length /\ r = .tup [] := by
 have h1 := jiU u 18 n jg3 kids 1 115 (by omega) (hf _ (List.getElem_mem _)) (.inl ⟨rfl, rfl⟩)
 have h2 := jng u 18 n jg3 kids 117 0 (.inl ⟨rfl, rfl⟩)
 have hsum : szN (kids[0]'(by omega)) + szN (kids[1]'(by omega)) <= (kids.map szN).sum := by
  match kids, h3 with
  | [a, b], _ => simp
 have hch := choose_spec u _ (kids[0]'(by omega)) (hf _ (List.getElem_mem _)) _ _ _ _ _ _ _ _ (.inl rfl) (.inr rfl) h1 h2 l (by omega)
 have hrow := jcd kids 0 (by omega)
 generalize kids[0]'(by omega) = g at *;rw [jdT] at hch ⊢;refine jac (ja4 jgd xs0 1) (fun _ _ h => h) Tryz.func77 rfl (by kernel_rfl) rfl (by kernel_rfl) ?_;intro _;conv => whnf
 refine ⟨by omega, ?_⟩;conv => whnf
 (generalize hrq : ja2 _ _ (jdi kids) = rq; obtain rfl : rq = ntA g := hrq.symm.trans (hrow); clear hrq; conv => whnf)
 refine jjY [0, 1, 2] 0 1 [] rfl rfl (by decide) (by simp) (by simp) rfl rfl rfl (fun _ => hch) ?_;rintro o n' cs' r ⟨l2, rfl, rfl, ho, hl2, rfl⟩ _;cases ho;conv => whnf
 refine ⟨1, ?_⟩;conv => whnf
 exact ⟨l2, rfl, rfl, rfl, hl2, rfl⟩
theorem jwi (u : Ut) (n : Int) (kids : List Nt) (h3 : kids.length = 2) (hf : ∀ f ∈ kids, jeE u f) (l : List Ic) (hl : l.length + (kids.map szN).sum + 3 <= 1000000) : jeb 77 [cbx u] l [.box 0 0, .agg (ntA (.mk 18 n pOr kids))] fun o l' r => o = [cbx u] /\ l' = l ++ brC (jal (ixU u) (kids[0]'(by omega))) (fun _ => [(1, 1)]) (jal (ixU u) (kids[1]'(by omega))) l.length /\ r = .tup [] := by
 have h1 := jiU u 18 n pOr kids 1 115 (by omega) (hf _ (List.getElem_mem _)) (.inl ⟨rfl, rfl⟩)
 have h2 := jng u 18 n pOr kids 118 1 (.inr ⟨rfl, rfl⟩)
 have hsum : szN (kids[0]'(by omega)) + szN (kids[1]'(by omega)) <= (kids.map szN).sum := by
  match kids, h3 with
  | [a, b], _ => simp
 have hch := choose_spec u _ (kids[0]'(by omega)) (hf _ (List.getElem_mem _)) _ _ _ _ _ _ _ _ (.inr rfl) (.inl rfl) h2 h1 l (by omega)
 have hrow := jcd kids 0 (by omega)
 generalize kids[0]'(by omega) = g at *;rw [jdT] at hch ⊢;refine jac (ja4 jgd xs0 1) (fun _ _ h => h) Tryz.func77 rfl (by kernel_rfl) rfl (by kernel_rfl) ?_;intro _;conv => whnf
 refine ⟨by omega, ?_⟩;conv => whnf
 (generalize hrq : ja2 _ _ (jdi kids) = rq; obtain rfl : rq = ntA g := hrq.symm.trans (hrow); clear hrq; conv => whnf)
 refine jjY [0, 1, 2] 0 1 [] rfl rfl (by decide) (by simp) (by simp) rfl rfl rfl (fun _ => hch) ?_;rintro o n' cs' r ⟨l2, rfl, rfl, ho, hl2, rfl⟩ _;cases ho;conv => whnf
 refine ⟨1, ?_⟩;conv => whnf
 exact ⟨l2, rfl, rfl, rfl, hl2, rfl⟩
def opBin : List ByteArray := [jge, pMinus, jdy, jbG, pLt, pLe, jxh, pGt, pGe, pNe]
set_option maxHeartbeats 20000000 in
theorem jwh (u : Ut) (n : Int) (s : ByteArray) (hs : (opBin.any fun x => decide (s = x)) = true) (kids : List Nt) (hm : kids.length <= 3002) (hf : ∀ f ∈ kids, jeE u f) (l : List Ic) (hl : l.length + jhO kids + 2 <= 1000000) : jeb 77 [cbx u] l [.box 0 0, .agg (ntA (.mk 18 n s kids))] fun o l' r => o = [cbx u] /\ l' = l ++ jej (jas (ixU u) kids) l.length ++ opC s /\ r = .tup [] := by
 have hs : s ∈ opBin := by
  rw [List.any_eq_true] at hs
  obtain ⟨x, h1, h2⟩ := hs
  rw [decide_eq_true_eq] at h2;rw [h2]; exact h1
 have hk := jeR u 18 n s kids hm hf l (by omega)
 have hz := je1 (u := u) kids l.length hf
 have hem := fun (l : List Ic) (op n : Int) (h : l.length <= 1000000) => jc8 u l op n h
 generalize jej (jas (ixU u) kids) l.length = y at *
 have hly : (l ++ y).length <= 999998 := by rw [List.length_append]; omega
 generalize l ++ y = l3 at *;rw [jdT] at hk ⊢;unfold opBin at hs;simp only [List.mem_cons, List.not_mem_nil, or_false] at hs
 rcases hs with rfl | rfl | rfl | rfl | rfl | rfl | rfl | rfl | rfl | rfl
 ·refine jac (ja4 jgd xs0 1) (fun _ _ h => h) Tryz.func77 rfl (by kernel_rfl) rfl (by kernel_rfl) ?_;intro _;conv => whnf
  refine ja9 0 0 1 [] rfl rfl rfl rfl rfl rfl rfl (fun _ => hk) ?_;rintro o n' cs' r ⟨l2, rfl, rfl, ho, hl2, rfl⟩;cases ho;subst hl2;conv => whnf
  refine ja9 0 1 3 [] rfl rfl rfl rfl rfl rfl rfl (fun _ => hem l2 6 0 (by omega)) ?_;rintro o n' cs' r ⟨l4, rfl, rfl, ho, hl4, rfl⟩;cases ho;conv => whnf
  refine ⟨3, ?_⟩;conv => whnf
  exact ⟨l4, rfl, rfl, rfl, hl4, rfl⟩
 ·refine jac (ja4 jgd xs0 1) (fun _ _ h => h) Tryz.func77 rfl (by kernel_rfl) rfl (by kernel_rfl) ?_;intro _;conv => whnf
  refine ja9 0 0 1 [] rfl rfl rfl rfl rfl rfl rfl (fun _ => hk) ?_;rintro o n' cs' r ⟨l2, rfl, rfl, ho, hl2, rfl⟩;cases ho;subst hl2;conv => whnf
  refine ja9 0 1 3 [] rfl rfl rfl rfl rfl rfl rfl (fun _ => hem l2 7 0 (by omega)) ?_;rintro o n' cs' r ⟨l4, rfl, rfl, ho, hl4, rfl⟩;cases ho;conv => whnf
  refine ⟨3, ?_⟩;conv => whnf
  exact ⟨l4, rfl, rfl, rfl, hl4, rfl⟩
 ·refine jac (ja4 jgd xs0 1) (fun _ _ h => h) Tryz.func77 rfl (by kernel_rfl) rfl (by kernel_rfl) ?_;intro _;conv => whnf
  refine ja9 0 0 1 [] rfl rfl rfl rfl rfl rfl rfl (fun _ => hk) ?_;rintro o n' cs' r ⟨l2, rfl, rfl, ho, hl2, rfl⟩;cases ho;subst hl2;conv => whnf
  refine ja9 0 1 3 [] rfl rfl rfl rfl rfl rfl rfl (fun _ => hem l2 8 0 (by omega)) ?_;rintro o n' cs' r ⟨l4, rfl, rfl, ho, hl4, rfl⟩;cases ho;conv => whnf
  refine ⟨3, ?_⟩;conv => whnf
  exact ⟨l4, rfl, rfl, rfl, hl4, rfl⟩
 ·refine jac (ja4 jgd xs0 1) (fun _ _ h => h) Tryz.func77 rfl (by kernel_rfl) rfl (by kernel_rfl) ?_;intro _;conv => whnf
  refine ja9 0 0 1 [] rfl rfl rfl rfl rfl rfl rfl (fun _ => hk) ?_;rintro o n' cs' r ⟨l2, rfl, rfl, ho, hl2, rfl⟩;cases ho;subst hl2;conv => whnf
  refine ja9 0 1 3 [] rfl rfl rfl rfl rfl rfl rfl (fun _ => hem l2 9 0 (by omega)) ?_;rintro o n' cs' r ⟨l4, rfl, rfl, ho, hl4, rfl⟩;cases ho;conv => whnf
  refine ⟨3, ?_⟩;conv => whnf
  exact ⟨l4, rfl, rfl, rfl, hl4, rfl⟩
 ·refine jac (ja4 jgd xs0 1) (fun _ _ h => h) Tryz.func77 rfl (by kernel_rfl) rfl (by kernel_rfl) ?_;intro _;conv => whnf
  refine ja9 0 0 1 [] rfl rfl rfl rfl rfl rfl rfl (fun _ => hk) ?_;rintro o n' cs' r ⟨l2, rfl, rfl, ho, hl2, rfl⟩;cases ho;subst hl2;conv => whnf
  refine ja9 0 1 3 [] rfl rfl rfl rfl rfl rfl rfl (fun _ => hem l2 11 0 (by omega)) ?_;rintro o n' cs' r ⟨l4, rfl, rfl, ho, hl4, rfl⟩;cases ho;conv => whnf
  refine ⟨3, ?_⟩;conv => whnf
  exact ⟨l4, rfl, rfl, rfl, hl4, rfl⟩
 ·refine jac (ja4 jgd xs0 1) (fun _ _ h => h) Tryz.func77 rfl (by kernel_rfl) rfl (by kernel_rfl) ?_;intro _;conv => whnf
  refine ja9 0 0 1 [] rfl rfl rfl rfl rfl rfl rfl (fun _ => hk) ?_;rintro o n' cs' r ⟨l2, rfl, rfl, ho, hl2, rfl⟩;cases ho;subst hl2;conv => whnf
  refine ja9 0 1 3 [] rfl rfl rfl rfl rfl rfl rfl (fun _ => hem l2 12 0 (by omega)) ?_;rintro o n' cs' r ⟨l4, rfl, rfl, ho, hl4, rfl⟩;cases ho;conv => whnf
  refine ⟨3, ?_⟩;conv => whnf
  exact ⟨l4, rfl, rfl, rfl, hl4, rfl⟩
 ·refine jac (ja4 jgd xs0 1) (fun _ _ h => h) Tryz.func77 rfl (by kernel_rfl) rfl (by kernel_rfl) ?_;intro _;conv => whnf
  refine ja9 0 0 1 [] rfl rfl rfl rfl rfl rfl rfl (fun _ => hk) ?_;rintro o n' cs' r ⟨l2, rfl, rfl, ho, hl2, rfl⟩;cases ho;subst hl2;conv => whnf
  refine ja9 0 1 3 [] rfl rfl rfl rfl rfl rfl rfl (fun _ => hem l2 13 0 (by omega)) ?_;rintro o n' cs' r ⟨l4, rfl, rfl, ho, hl4, rfl⟩;cases ho;conv => whnf
  refine ⟨3, ?_⟩;conv => whnf
  exact ⟨l4, rfl, rfl, rfl, hl4, rfl⟩
 ·refine jac (ja4 jgd xs0 1) (fun _ _ h => h) Tryz.func77 rfl (by kernel_rfl) rfl (by kernel_rfl) ?_;intro _;conv => whnf
  refine ja9 0 0 1 [] rfl rfl rfl rfl rfl rfl rfl (fun _ => hk) ?_;rintro o n' cs' r ⟨l2, rfl, rfl, ho, hl2, rfl⟩;cases ho;subst hl2;conv => whnf
  refine ja9 0 1 3 [] rfl rfl rfl rfl rfl rfl rfl (fun _ => hem l2 12 0 (by omega)) ?_;rintro o n' cs' r ⟨l4, rfl, rfl, ho, hl4, rfl⟩;cases ho
  have hz4 : l4.length <= 1000000 := by rw [hl4, List.length_append, List.length_singleton]; omega
  conv => whnf
  refine ja9 0 3 4 [] rfl rfl rfl rfl rfl rfl rfl (fun _ => hem l4 14 0 hz4) ?_;rintro o n' cs' r ⟨l5, rfl, rfl, ho, hl5, rfl⟩;cases ho;conv => whnf
  refine ⟨4, ?_⟩;conv => whnf
  exact ⟨l5, rfl, rfl, rfl, by rw [hl5, hl4, List.append_assoc]; rfl, rfl⟩
 ·refine jac (ja4 jgd xs0 1) (fun _ _ h => h) Tryz.func77 rfl (by kernel_rfl) rfl (by kernel_rfl) ?_;intro _;conv => whnf
  refine ja9 0 0 1 [] rfl rfl rfl rfl rfl rfl rfl (fun _ => hk) ?_;rintro o n' cs' r ⟨l2, rfl, rfl, ho, hl2, rfl⟩;cases ho;subst hl2;conv => whnf
  refine ja9 0 1 3 [] rfl rfl rfl rfl rfl rfl rfl (fun _ => hem l2 11 0 (by omega)) ?_;rintro o n' cs' r ⟨l4, rfl, rfl, ho, hl4, rfl⟩;cases ho
  have hz4 : l4.length <= 1000000 := by rw [hl4, List.length_append, List.length_singleton]; omega
  conv => whnf
  refine ja9 0 3 4 [] rfl rfl rfl rfl rfl rfl rfl (fun _ => hem l4 14 0 hz4) ?_;rintro o n' cs' r ⟨l5, rfl, rfl, ho, hl5, rfl⟩;cases ho;conv => whnf
  refine ⟨4, ?_⟩;conv => whnf
  exact ⟨l5, rfl, rfl, rfl, by rw [hl5, hl4, List.append_assoc]; rfl, rfl⟩
 ·refine jac (ja4 jgd xs0 1) (fun _ _ h => h) Tryz.func77 rfl (by kernel_rfl) rfl (by kernel_rfl) ?_;intro _;conv => whnf
  refine ja9 0 0 1 [] rfl rfl rfl rfl rfl rfl rfl (fun _ => hk) ?_;rintro o n' cs' r ⟨l2, rfl, rfl, ho, hl2, rfl⟩;cases ho;subst hl2;conv => whnf
  refine ja9 0 1 3 [] rfl rfl rfl rfl rfl rfl rfl (fun _ => hem l2 13 0 (by omega)) ?_;rintro o n' cs' r ⟨l4, rfl, rfl, ho, hl4, rfl⟩;cases ho
  have hz4 : l4.length <= 1000000 := by rw [hl4, List.length_append, List.length_singleton]; omega
  conv => whnf
  refine ja9 0 3 4 [] rfl rfl rfl rfl rfl rfl rfl (fun _ => hem l4 14 0 hz4) ?_;rintro o n' cs' r ⟨l5, rfl, rfl, ho, hl5, rfl⟩;cases ho;conv => whnf
  refine ⟨4, ?_⟩;conv => whnf
  exact ⟨l5, rfl, rfl, rfl, by rw [hl5, hl4, List.append_assoc]; rfl, rfl⟩
def whC (c b : Int -> List Ic) (at' : Int) : List Ic := c at' ++ (16, at' + (c at').length + (b (at' + (c at').length + 1)).length + 2) :: (b (at' + (c at').length + 1) ++ [(15, at')])
theorem jqt (u : Ut) (n : Int) (s : ByteArray) (kids : List Nt) (h3 : kids.length = 2) (hf : ∀ f ∈ kids, jeE u f) (l : List Ic) (hl : l.length + (kids.map szN).sum + 2 <= 1000000) : jeb 79 [cbx u] l [.box 0 0, .agg (ntA (.mk 3 n s kids))] fun o l' r => o = [cbx u] /\ l' = l ++ whC (jal (ixU u) (kids[0]'(by omega))) (jal (ixU u) (kids[1]'(by omega))) l.length /\ r = .tup [] := by
 have hsum : szN (kids[0]'(by omega)) + szN (kids[1]'(by omega)) <= (kids.map szN).sum := by
  match kids, h3 with
  | [a, b], _ => simp
 have hem := fun (l : List Ic) (op n : Int) (h : l.length <= 1000000) => jc8 u l op n h
 have ha := hf (kids[0]'(by omega)) (List.getElem_mem _)
 have hb := hf (kids[1]'(by omega)) (List.getElem_mem _)
 have hr0 := jcd kids 0 (by omega)
 have hr1 := jcd kids 1 (by omega)
 generalize kids[0]'(by omega) = a at *;generalize kids[1]'(by omega) = b at *
 have hz1 := ha.1 l.length
 have h0 := ha.2 l (by omega)
 generalize hC : jal (ixU u) a l.length = C at *
 have e1 : (l ++ C).length = l.length + C.length := List.length_append
 have h1 := hem (l ++ C) 16 0 (by omega)
 have e2 : (l ++ C ++ [(16, 0)]).length = l.length + C.length + 1 := by rw [List.length_append, e1]; rfl
 have hz2 := hb.1 ((l ++ C ++ [((16 : Int), (0 : Int))]).length : Nat)
 have h2 := hb.2 (l ++ C ++ [(16, 0)]) (by omega)
 generalize hB : jal (ixU u) b ((l ++ C ++ [((16 : Int), (0 : Int))]).length : Nat) = B at *
 have e3 : (l ++ C ++ [(16, 0)] ++ B).length = l.length + C.length + 1 + B.length := by rw [List.length_append, e2]
 have h4 := jyv u (l ++ C ++ [(16, 0)] ++ B) 15 l.length (by omega)
 have e4 : l ++ C ++ [(16, 0)] ++ B ++ [(15, (l.length : Int))] = (l ++ C) ++ ((16 : Int), (0 : Int)) :: (B ++ [(15, (l.length : Int))]) := by simp
 have e5 : ((l ++ C) ++ ((16 : Int), (0 : Int)) :: (B ++ [((15 : Int), (l.length : Int))])).length = l.length + C.length + 1 + B.length + 1 := by rw [<- e4, List.length_append, e3]; rfl
 have h5 := juH u (l ++ C) (B ++ [(15, (l.length : Int))]) 16 0 (by omega)
 rw [e5] at h5;rw [e4] at h4
 have hfin : l ++ whC (jal (ixU u) a) (jal (ixU u) b) l.length = (l ++ C) ++ ((16 : Int), ((l.length + C.length + 1 + B.length + 1 : Nat) : Int)) :: (B ++ [((15 : Int), (l.length : Int))]) := by
  unfold whC;simp only [hC];rw [e2] at hB
  have k1 : (l.length : Int) + (C.length : Int) + 1 = ((l.length + C.length + 1 : Nat) : Int) := by omega
  rw [k1, hB]
  have k2 : (l.length : Int) + (C.length : Int) + (B.length : Int) + 2 = ((l.length + C.length + 1 + B.length + 1 : Nat) : Int) := by omega
  rw [k2]
  simp
 rw [hfin];rw [jdT];refine jlh (ja4 jb4 xs0 1) Tryz.func79 rfl (by kernel_rfl) rfl ?_;intro _;conv => whnf
 refine jaP (ja4 jb4 xs0 1) (dr := []) ⟨0, rfl⟩ (.inl rfl) (by kernel_rfl) (fun _ _ h => h.elim) ?_;conv => whnf
 refine jaP (ja4 jb4 xs0 1) (dr := []) ⟨0, rfl⟩ (.inl rfl) (by kernel_rfl) (fun _ _ h => h.elim) ?_;conv => whnf
 refine jaP (ja4 jb4 xs0 1) (dr := []) ⟨0, rfl⟩ (.inl rfl) (by kernel_rfl) (fun _ _ h => h.elim) ?_;conv => whnf
 refine ⟨by omega, ?_⟩;conv => whnf
 (generalize hrq : ja2 _ _ (jdi kids) = rq; obtain rfl : rq = ntA a := hrq.symm.trans (hr0); clear hrq; conv => whnf)
 refine ja9 0 0 1 [] rfl rfl rfl rfl rfl rfl rfl (fun _ => h0) ?_;rintro o n' cs' r ⟨l2, rfl, rfl, ho, hl2, rfl⟩;cases ho;subst hl2;conv => whnf
 refine jaP (ja4 jb4 xs0 1) (dr := []) ⟨0, rfl⟩ (.inl rfl) (by kernel_rfl) (fun _ _ h => h.elim) ?_;conv => whnf
 refine ja9 0 1 2 [] rfl rfl rfl rfl rfl rfl rfl (fun _ => h1) ?_;rintro o n' cs' r ⟨l3, rfl, rfl, ho, hl3, rfl⟩;cases ho;subst hl3;conv => whnf
 refine jqF ?_;refine jfC (l := [_, _]) [] (ja4 jb4 xs0 1) ⟨0, rfl⟩ (fun _ _ h => h.elim) rfl rfl rfl ?_;conv => whnf
 refine jaP (ja4 jb4 xs0 1) ⟨1, rfl⟩ (.inl rfl) (by kernel_rfl) (fun _ _ h => h.elim) ?_;conv => whnf
 refine ⟨by omega, ?_⟩;conv => whnf
 (generalize hrq : ja2 _ _ (jdi kids) = rq; obtain rfl : rq = ntA b := hrq.symm.trans (hr1); clear hrq; conv => whnf)
 refine ja9 0 2 3 [] rfl rfl rfl rfl rfl rfl rfl (fun _ => h2) ?_;rintro o n' cs' r ⟨l4, rfl, rfl, ho, hl4, rfl⟩;cases ho;subst hl4;conv => whnf
 refine jfC (l := [_, _]) [] (ja4 jb4 xs0 1) ⟨1, rfl⟩ (fun _ _ h => h.elim) rfl rfl rfl ?_;conv => whnf
 refine ⟨.inl rfl, ?_⟩;unfold jg0;refine juy 0 3 4 [] rfl rfl rfl rfl rfl h4 ?_;rintro o n' cs' r ⟨l5, rfl, rfl, ho, hl5, rfl⟩;cases ho;subst hl5;conv => whnf
 refine juy 0 4 5 [] rfl rfl rfl rfl rfl h5 ?_;rintro o n' cs' r ⟨l6, rfl, rfl, ho, hl6, rfl⟩;cases ho;conv => whnf
 refine ⟨5, ?_⟩;conv => whnf
 exact ⟨l6, rfl, rfl, rfl, hl6, rfl⟩
theorem jiQ {c y n : Int -> List Ic} {a b d : Nat} (h1 : ∀ at' : Int, (c at').length <= a) (h2 : ∀ at' : Int, (y at').length <= b) (h3 : ∀ at' : Int, (n at').length <= d) (at' : Int) : (brC c y n at').length <= a + b + d + 2 := by
 unfold brC;simp only [List.length_append, List.length_cons]
 have q1 := h1 at'
 have q2 := h2 (at' + (c at').length + 1)
 have q3 := h3 (at' + (c at').length + 1 + (y (at' + (c at').length + 1)).length + 1)
 omega
theorem jsM (s : ByteArray) : (opC s).length <= 2 := by
 unfold opC
 repeat' split
 all_goals decide
theorem joh : ∀ l : List Nt, jhO l = (l.map szN).sum
 | [] => rfl
 | f :: l => by rw [List.map_cons, List.sum_cons, <- joh l]; rfl
theorem jdu (u : Ut) (k n : Int) (s : ByteArray) (kids : List Nt) (l : List Ic) (r : List Ic) (c : Nat) (hc : k = 17 /\ c = 76 ∨ k = 18 /\ c = 77 ∨ k = 2 /\ c = 78 ∨ k = 3 /\ c = 79 ∨ k = 11 /\ c = 80 ∨ (k ≠ 17 /\ k ≠ 18 /\ k ≠ 2 /\ k ≠ 3 /\ k ≠ 11) /\ c = 81)
  (h : jeb c [cbx u] l [.box 0 0, .agg (ntA (.mk k n s kids))] fun o l' q => o = [cbx u] /\ l' = l ++ r /\ q = .tup []) : jeb 39 [cbx u] l [.box 0 0, .agg (ntA (.mk k n s kids))] fun o l' q => o = [cbx u] /\ l' = l ++ r /\ q = .tup [] := by
 rw [jdT] at h ⊢
 rcases hc with ⟨rfl, rfl⟩ | ⟨rfl, rfl⟩ | ⟨rfl, rfl⟩ | ⟨rfl, rfl⟩ | ⟨rfl, rfl⟩ | ⟨⟨k1, k2, k3, k4, k5⟩, rfl⟩
 all_goals
  refine jac (ja4 jb4 xs0 1) (fun _ _ h => h) Tryz.func39 rfl (by kernel_rfl) rfl (by kernel_rfl) ?_;intro _;conv => whnf
 all_goals try
  refine ja9 0 0 2 [] rfl rfl rfl rfl rfl rfl rfl (fun _ => h) ?_;rintro o n' cs' r ⟨l2, rfl, rfl, ho, hl2, rfl⟩;cases ho;conv => whnf
  refine ⟨2, ?_⟩;conv => whnf
  exact ⟨l2, rfl, rfl, rfl, hl2, rfl⟩
 rw [decide_eq_false k1];conv => whnf
 rw [decide_eq_false k2];conv => whnf
 rw [decide_eq_false k3];conv => whnf
 rw [decide_eq_false k4];conv => whnf
 rw [decide_eq_false k5];conv => whnf
 refine ja9 0 0 2 [] rfl rfl rfl rfl rfl rfl rfl (fun _ => h) ?_;rintro o n' cs' r ⟨l2, rfl, rfl, ho, hl2, rfl⟩;cases ho;conv => whnf
 refine ⟨2, ?_⟩;conv => whnf
 exact ⟨l2, rfl, rfl, rfl, hl2, rfl⟩
theorem juk {l : List ByteArray} {s : ByteArray} (h : (l.any fun x => decide (s = x)) = true) : s ∈ l := by
 rw [List.any_eq_true] at h
 obtain ⟨x, h1, h2⟩ := h
 rw [decide_eq_true_eq] at h2;rw [h2]; exact h1
theorem jqK {s : ByteArray} (h : (opAll.any fun x => decide (s = x)) = true) (h1 : s ≠ jg3) (h2 : s ≠ pOr) : (opBin.any fun x => decide (s = x)) = true := by
 have h := juk h
 unfold opAll at h;simp only [List.mem_cons, List.not_mem_nil, or_false] at h
 rcases h with h | h | h | h | h | h | h | h | h | h | h | h
 ·exact absurd h h1
 ·exact absurd h h2
 all_goals (rw [h]; decide)
theorem jnN (u : Ut) (hu : WfU u) : ∀ f : Nt, wfN f -> jeE u f
 | .mk k n s kids, hw => by
  unfold wfN at hw
  obtain ⟨ha, hwk⟩ := hw
  have hm := jty ha
  have hk : ∀ f ∈ kids, jeE u f := fun f hf => jnN u hu f (jop hwk hf)
  have hsq := fun at' => je1 (u := u) kids at' hk
  have hss := joh kids
  unfold jeE
  show (∀ at' : Int, (jc6 (ixU u) k n s (jas (ixU u) kids) at').length <= 3 + jhO kids) /\ ∀ l : List Ic, l.length + (3 + jhO kids) <= 1000000 -> jeb _ [cbx u] l _ fun o l' r => o = [cbx u] /\ l' = l ++ jc6 (ixU u) k n s (jas (ixU u) kids) l.length /\ r = .tup []
  have lf : ∀ (hc : k = 12 ∨ k = 13 ∨ k = 14 ∨ k = 15 /\ (builtL.any fun x => decide (s = x)) = true ∨ k = 1 ∨ k = 4 ∨ k = 5 ∨ k = 6 ∨ k = 16 ∨ k = 7 ∨ k = 10 ∨ k = 8 ∨ k = 9), (∀ at', jc6 (ixU u) k n s (jas (ixU u) kids) at' = jej (jas (ixU u) kids) at' ++ [jwU (ixU u) k n s]) -> (∀ at' : Int, (jc6 (ixU u) k n s (jas (ixU u) kids) at').length <= 3 + jhO kids) /\ ∀ l : List Ic, l.length + (3 + jhO kids) <= 1000000 -> jeb 39 [cbx u] l [.box 0 0, .agg (ntA (.mk k n s kids))] fun o l' r => o = [cbx u] /\ l' = l ++ jc6 (ixU u) k n s (jas (ixU u) kids) l.length /\ r = .tup [] := fun hc he => by
   refine ⟨fun at' => ?_, fun l hl => ?_⟩
   ·have := hsq at'
    rw [he, List.length_append, List.length_singleton]; omega
   ·have h1 := jqn u hu k n s kids hm hk hc l (by omega)
    rw [List.append_assoc, <- he] at h1;refine jdu u k n s kids l _ _ (.inr (.inr (.inr (.inr (.inr ⟨?_, rfl⟩))))) h1;omega
  unfold arN at ha
  by_cases h11 : k = 11
  ·subst h11
   have he : ∀ at', jc6 (ixU u) 11 n s (jas (ixU u) kids) at' = jej (jas (ixU u) kids) at' := fun at' => List.append_nil _
   refine ⟨fun at' => by rw [he]; have := hsq at'; omega, fun l hl => ?_⟩;rw [he];exact jdu u 11 n s kids l _ _ (.inr (.inr (.inr (.inr (.inl ⟨rfl, rfl⟩))))) (jeR u 11 n s kids hm hk l (by omega))
  rw [if_neg h11] at ha
  by_cases h0 : k = 12 ∨ k = 13 ∨ k = 14 ∨ k = 5 ∨ k = 6 ∨ k = 7 ∨ k = 10
  ·rw [if_pos h0, decide_eq_true_eq] at ha
   obtain rfl := List.eq_nil_of_length_eq_zero ha
   rcases h0 with rfl | rfl | rfl | rfl | rfl | rfl | rfl
   all_goals exact lf (by omega) fun at' => rfl
  rw [if_neg h0] at ha
  by_cases h15 : k = 15
  ·rw [if_pos h15, Bool.and_eq_true, decide_eq_true_eq] at ha;subst h15
   obtain ⟨ha, hb⟩ := ha
   obtain rfl := List.eq_nil_of_length_eq_zero ha
   exact lf (.inr (.inr (.inr (.inl ⟨rfl, hb⟩)))) fun at' => rfl
  rw [if_neg h15] at ha
  by_cases h1 : k = 16 ∨ k = 1 ∨ k = 9
  ·rcases h1 with rfl | rfl | rfl
   all_goals exact lf (by omega) fun at' => rfl
  rw [if_neg h1] at ha
  by_cases h17 : k = 17
  ·subst h17
   have he : ∀ at', jc6 (ixU u) 17 n s (jas (ixU u) kids) at' = jej (jas (ixU u) kids) at' ++ (if s = pMinus then [(10, 0)] else [(14, 0)]) := fun at' => rfl
   refine ⟨fun at' => ?_, fun l hl => ?_⟩
   ·have := hsq at'
    rw [he, List.length_append]
    split <;> simp only [List.length_singleton] <;> omega
   ·rw [he];refine jdu u 17 n s kids l _ _ (.inl ⟨rfl, rfl⟩) ?_
    have h2 := jm0 u n s kids hm hk l (by omega)
    rw [List.append_assoc] at h2;exact h2
  rw [if_neg h17] at ha
  by_cases h18 : k = 18
  ·rw [if_pos h18, Bool.and_eq_true, decide_eq_true_eq] at ha;subst h18
   obtain ⟨ha, hb⟩ := ha
   have k0 := hk (kids[0]'(by omega)) (List.getElem_mem _)
   have k1 := hk (kids[1]'(by omega)) (List.getElem_mem _)
   have hsum : szN (kids[0]'(by omega)) + szN (kids[1]'(by omega)) <= (kids.map szN).sum := by
    match kids, ha with
    | [a, b], _ => simp
   have g0 : (jas (ixU u) kids).getD 0 noI = jal (ixU u) (kids[0]'(by omega)) := by
    match kids, ha with
    | [a, b], _ => rfl
   have g1 : (jas (ixU u) kids).getD 1 noI = jal (ixU u) (kids[1]'(by omega)) := by
    match kids, ha with
    | [a, b], _ => rfl
   by_cases hA : s = jg3
   ·subst hA
    have he : ∀ at', jc6 (ixU u) 18 n jg3 (jas (ixU u) kids) at' = brC (jal (ixU u) (kids[0]'(by omega))) (jal (ixU u) (kids[1]'(by omega))) (fun _ => [(1, 0)]) at' := fun at' => by
     rw [<- g0, <- g1]; rfl
    refine ⟨fun at' => ?_, fun l hl => ?_⟩
    ·have := jiQ k0.1 k1.1 (fun _ => Nat.le_refl 1) (n := fun _ => [((1 : Int), (0 : Int))]) at'
     rw [he]; omega
    ·rw [he];exact jdu u 18 n jg3 kids l _ _ (.inr (.inl ⟨rfl, rfl⟩)) (juq u n kids ha hk l (by omega))
   by_cases hO : s = pOr
   ·subst hO
    have he : ∀ at', jc6 (ixU u) 18 n pOr (jas (ixU u) kids) at' = brC (jal (ixU u) (kids[0]'(by omega))) (fun _ => [(1, 1)]) (jal (ixU u) (kids[1]'(by omega))) at' := fun at' => by
     rw [<- g0, <- g1]; rfl
    refine ⟨fun at' => ?_, fun l hl => ?_⟩
    ·have := jiQ k0.1 (fun _ => Nat.le_refl 1) k1.1 (y := fun _ => [((1 : Int), (1 : Int))]) at'
     rw [he]; omega
    ·rw [he];exact jdu u 18 n pOr kids l _ _ (.inr (.inl ⟨rfl, rfl⟩)) (jwi u n kids ha hk l (by omega))
   have he : ∀ at', jc6 (ixU u) 18 n s (jas (ixU u) kids) at' = jej (jas (ixU u) kids) at' ++ opC s := fun at' => by
    unfold jc6;rw [if_neg (by decide), if_neg (by decide), if_neg (by decide), if_neg (by decide), if_neg (by decide), if_neg (by decide), if_neg (by decide), if_neg (by decide), if_neg (by decide), if_neg (fun h => hA h.2), if_neg (fun h => hO h.2), if_pos rfl]
   refine ⟨fun at' => ?_, fun l hl => ?_⟩
   ·have := hsq at'
    have := jsM s
    rw [he, List.length_append]; omega
   ·rw [he];refine jdu u 18 n s kids l _ _ (.inr (.inl ⟨rfl, rfl⟩)) ?_
    have h2 := jwh u n s (jqK hb hA hO) kids hm hk l (by omega)
    rw [List.append_assoc] at h2;exact h2
  rw [if_neg h18] at ha
  by_cases h8 : k = 8 ∨ k = 3
  ·rw [if_pos h8, decide_eq_true_eq] at ha
   rcases h8 with rfl | rfl
   ·exact lf (by omega) fun at' => rfl
   ·have k0 := hk (kids[0]'(by omega)) (List.getElem_mem _)
    have k1 := hk (kids[1]'(by omega)) (List.getElem_mem _)
    have hsum : szN (kids[0]'(by omega)) + szN (kids[1]'(by omega)) <= (kids.map szN).sum := by
     match kids, ha with
     | [a, b], _ => simp
    have he : ∀ at', jc6 (ixU u) 3 n s (jas (ixU u) kids) at' = whC (jal (ixU u) (kids[0]'(by omega))) (jal (ixU u) (kids[1]'(by omega))) at' := fun at' => by
     match kids, ha with
     | [a, b], _ => rfl
    refine ⟨fun at' => ?_, fun l hl => ?_⟩
    ·rw [he];unfold whC
     have q0 := k0.1 at'
     have q1 := k1.1 (at' + (jal (ixU u) (kids[0]'(by omega)) at').length + 1)
     simp only [List.length_append, List.length_cons, List.length_nil];omega
    ·rw [he];exact jdu u 3 n s kids l _ _ (.inr (.inr (.inr (.inl ⟨rfl, rfl⟩)))) (jqt u n s kids ha hk l (by omega))
  rw [if_neg h8] at ha
  by_cases h2 : k = 2 ∨ k = 4
  ·rw [if_pos h2, decide_eq_true_eq] at ha
   rcases h2 with rfl | rfl
   ·have k0 := hk (kids[0]'(by omega)) (List.getElem_mem _)
    have k1 := hk (kids[1]'(by omega)) (List.getElem_mem _)
    have k2 := hk (kids[2]'(by omega)) (List.getElem_mem _)
    have hsum : szN (kids[0]'(by omega)) + szN (kids[1]'(by omega)) + szN (kids[2]'(by omega)) <= (kids.map szN).sum := by
     match kids, ha with
     | [a, b, c], _ => simp; omega
    have he : ∀ at', jc6 (ixU u) 2 n s (jas (ixU u) kids) at' = brC (jal (ixU u) (kids[0]'(by omega))) (jal (ixU u) (kids[1]'(by omega))) (jal (ixU u) (kids[2]'(by omega))) at' := fun at' => by
     match kids, ha with
     | [a, b, c], _ => rfl
    refine ⟨fun at' => ?_, fun l hl => ?_⟩
    ·have := jiQ k0.1 k1.1 k2.1 at'
     rw [he]; omega
    ·rw [he];exact jdu u 2 n s kids l _ _ (.inr (.inr (.inl ⟨rfl, rfl⟩))) (jlX u n s kids ha hk l (by omega))
   ·exact lf (by omega) fun at' => rfl
  rw [if_neg h2] at ha
  cases ha
theorem jh5 (e : Nat -> Int) (du vo : Int) : pgE e du vo = enL e ++ [intA du, intA vo] := rfl
theorem juz (e : Nat -> Int) (j : Nat) (v : Int) : (enL e).set j (intA v) = enL fun i => if i = j then v else e i := by
 unfold enL
 apply List.ext_getElem (by simp)
 intro i h1 h2;rw [List.getElem_set, List.getElem_map, List.getElem_map, List.getElem_range]
 by_cases h : j = i
 ·simp only [if_pos h, if_pos h.symm]
 ·simp only [if_neg h, if_neg (fun q : i = j => h q.symm)]
theorem jvx (c0 : A) (e : Nat -> Int) (du vo v : Int) (j : Nat) (hj : j < 40) {K : List A -> Prop} (h : K (c0 :: pgE (fun i => if i = j then v else e i) du vo)) : jhw (c0 :: pgE e du vo) (1 + j * 1) (intA v) K := by
 have hl : (enL e).length = 40 := by unfold enL; simp
 refine jhj ?_ ?_
 ·rw [jh5, List.length_cons, List.length_append, hl]; omega
 ·rw [show 1 + j * 1 = j + 1 by omega, List.set_cons_succ, jh5, List.set_append_left _ _ (by rw [hl]; exact hj), juz];exact h
theorem jjx (c0 : A) (e e' : Nat -> Int) (du vo v : Int) (j : Nat) (hj : j < 40) (he : ∀ i, i < 40 -> (if i = j then v else e i) = e' i) {K : List A -> Prop} (h : K (c0 :: pgE e' du vo)) : jhw (c0 :: pgE e du vo) (1 + j * 1) (intA v) K := by
 refine jvx c0 e du vo v j hj ?_
 have q : pgE (fun i => if i = j then v else e i) du vo = pgE e' du vo := by
  rw [jh5, jh5]
  congr 1
  unfold enL
  exact List.map_congr_left fun i hi => by simp only [he i (List.mem_range.1 hi)]
 rw [q]; exact h
def szH : List (Int × Nt) -> Nat
 | [] => 0
 | h :: r => szN h.2 + 1 + szH r
def e1 (j : Nat) : Nat -> Int := fun i => if i < j then -1 else 0
theorem jvf {e e' : Nat -> Int} (h : ∀ i, i < 40 -> e i = e' i) (du vo : Int) : pgE e du vo = pgE e' du vo := by
 rw [jh5, jh5]
 congr 1
 unfold enL
 exact List.map_congr_left fun i hi => by rw [h i (List.mem_range.1 hi)]
set_option maxHeartbeats 2000000 in
theorem jdp (u : Ut) (hu : WfU u) (hz : szH u.on <= 900000) : Spec Tryz.prog 12 [] [.agg (utA u)] fun _ r => r = juu u := by
 have hnode := jnN u hu
 have hdv := hu.du
 have hol := hu.ol
 refine ja8 (ja4 jyV xs0 0) (fun _ _ h => h) Tryz.func12 rfl (by kernel_rfl) rfl (by kernel_rfl) ?_;intro _;conv => whnf
 refine ja5 [1, 2, 4] ?_;conv => whnf
 refine jaj (fun j : Nat => [(19, .v (.int .i64 j))]) (fun j => [utA u, jtv, .v (.slice none 0 0) :: pgE (e1 j) u.du.length u.vo.length]) (fun _ => []) (fun j => j <= 40) (fun j => 40 - j) 0 ?_ (by omega) ?_
 ·repeat' constructor
 intro j hj;conv => whnf
 rcases Nat.lt_or_ge j 40 with hlt | hge
 ·rw [decide_eq_true (show (j : Int) < 40 by omega)];conv => whnf
  refine ⟨show (0 : Int) <= (j : Int) /\ (j : Int) < ((40 : Nat) : Int) from ⟨by omega, by omega⟩, ?_⟩;conv => whnf
  refine jjx (.v (.slice none 0 0)) (e1 j) (e1 (j + 1)) u.du.length u.vo.length (-1) j hlt (fun i hi => ?_) ?_
  ·unfold e1
   by_cases h : i = j
   ·rw [if_pos h, if_pos (by omega)]
   ·rw [if_neg h]
    by_cases h2 : i < j
    ·rw [if_pos h2, if_pos (by omega)]
    ·rw [if_neg h2, if_neg (by omega)]
  conv => whnf
  refine ⟨show lo .i64 <= (j : Int) + 1 /\ (j : Int) + 1 <= hi .i64 from jam (by omega), ?_⟩;conv => whnf
  refine ⟨j + 1, ja1 [] ?_, show j + 1 <= 40 by omega, show 40 - (j + 1) < 40 - j by omega⟩;conv => whnf
  repeat' constructor
 rw [decide_eq_false (show ¬ (j : Int) < 40 by omega)]
 obtain rfl : j = 40 := by omega
 conv => whnf
 refine jbT 52 2 [] [(3, 3)] ?_;conv => whnf
 refine ⟨trivial, ?_⟩;conv => whnf
 refine ja5 [1, 2, 4, 6, 30, 31] ?_;conv => whnf
 refine jaj (fun x : Nat × List Ic × (Nat -> Int) => [(32, .v (.int .i64 x.1))]) (fun x => [utA u, jtv, .v (.slice none 0 0) :: pgE x.2.2 u.du.length u.vo.length, cbx u]) (fun x => [.live 52 2 x.2.1.length (jcn x.2.1)])
  (fun x => x.1 <= u.on.length /\ hcL (ixU u) (u.on.drop x.1) x.2.1 x.2.2 = jhY u /\ x.2.1.length + szH (u.on.drop x.1) <= 900000 /\ (∀ i ∈ x.2.1, jrV i) /\ ∀ i, x.2.2 i < x.2.1.length) (fun x => u.on.length - x.1) (0, [], noE) ?_ ⟨Nat.zero_le _, rfl, by simpa using hz, (fun i hi => by cases hi), fun i => show (-1 : Int) < 0 by decide⟩ ?_
 ·repeat' constructor
  show Row.live _ 2 0 [] = Row.live _ 2 0 (jcn [])
  rw [jst]
 rintro ⟨j, l, e⟩ ⟨g1, g2, g3, g4, g5⟩
 simp only at g1 g2 g3 g4 g5
 conv => whnf
 rcases Nat.lt_or_ge j u.on.length with hlt | hge
 ·have hrow : ja2 5 j (jgT u.on) = hnA u.on[j] := jhe u.on j hlt
  have hon := hu.on _ (List.getElem_mem hlt)
  rw [List.drop_eq_getElem_cons hlt] at g2 g3;generalize u.on[j] = hb at hrow hon g2 g3
  obtain ⟨h, b⟩ := hb
  obtain ⟨o1, o2, o3⟩ := hon
  have hnd := hnode b o3
  unfold hcL at g2;unfold szH at g3
  simp only at o1 o2 g2 g3
  unfold hnA at hrow
  simp only at hrow
  rw [decide_eq_true (show (j : Int) < (u.on.length : Int) by omega)];conv => whnf
  refine ⟨show (0 : Int) <= (j : Int) /\ (j : Int) < (u.on.length : Nat) from ⟨by omega, by omega⟩, ?_⟩;conv => whnf
  (generalize hrq : ja2 _ _ (jgT u.on) = rq; obtain rfl : rq = intA h :: ntA b := hrq.symm.trans (hrow); clear hrq; conv => whnf)
  refine ⟨⟨o1, show h < ((40 : Nat) : Int) by omega⟩, ?_⟩;conv => whnf
  refine jjx (.v (.slice none 0 0)) e (fun i => if i = h.toNat then (l.length : Int) else e i) u.du.length u.vo.length l.length h.toNat (by omega) (fun i hi => rfl) ?_;conv => whnf
  refine ja9 3 0 1 [] rfl rfl rfl rfl rfl rfl rfl (fun _ => hnd.2 l (by omega)) ?_;rintro o n' cs' r ⟨l2, rfl, rfl, ho, hl2, rfl⟩;cases ho
  have hl2 : l2 = l ++ jal (ixU u) b l.length := hl2
  have hsz : (jal (ixU u) b l.length).length <= szN b := hnd.1 l.length
  have hl2' : l2.length <= l.length + szN b := by rw [hl2, List.length_append]; omega
  conv => whnf
  have hem := jc8 u l2 23 0 (by omega)
  refine ja9 3 1 2 [] rfl rfl rfl rfl rfl rfl rfl (fun _ => hem) ?_;rintro o n' cs' r ⟨l3, rfl, rfl, ho, hl3, rfl⟩;cases ho;conv => whnf
  refine ⟨show lo .i64 <= (j : Int) + 1 /\ (j : Int) + 1 <= hi .i64 from jam (by omega), ?_⟩;conv => whnf
  refine ⟨(j + 1, l3, fun i => if i = h.toNat then (l.length : Int) else e i), ja1 [2] ?_, ⟨show j + 1 <= u.on.length by omega, ?_, ?_, ?_, ?_⟩, show u.on.length - (j + 1) < u.on.length - j by omega⟩
  ·conv => whnf
   repeat' constructor
  ·rw [hl3, hl2]; exact g2
  ·show l3.length + szH (u.on.drop (j + 1)) <= 900000
   rw [hl3, List.length_append, List.length_singleton]; omega
  ·intro i hi
   simp only at hi
   rw [hl3, hl2] at hi
   rcases List.mem_append.1 hi with hi | hi
   ·rcases List.mem_append.1 hi with hi | hi
    ·exact g4 i hi
    ·exact jiW (ixU u) b _ (by omega) i hi
   ·rw [List.mem_singleton.1 hi]; exact ⟨by simp, fun h => by simp at h⟩
  ·intro i
   show (if i = h.toNat then (l.length : Int) else e i) < (l3.length : Int)
   have g5i := g5 i
   have : l3.length = l.length + (jal (ixU u) b l.length).length + 1 := by rw [hl3, hl2, List.length_append, List.length_append, List.length_singleton]
   split <;> omega
 rw [decide_eq_false (show ¬ (j : Int) < (u.on.length : Int) by omega)]
 have hcm : hcL (ixU u) [] l e = jhY u := by rw [<- g2, List.drop_of_length_le hge]
 have hcl : l.length <= 900000 := by omega
 unfold hcL at hcm;conv => whnf
 unfold juu jpQ;rw [<- hcm]
 simp only
 by_cases hbig : 400 < l.length
 ·rw [decide_eq_true (show (400 : Int) < (l.length : Int) by omega)];conv => whnf
  rw [if_pos hbig, if_neg (by decide)];rfl
 rw [decide_eq_false (show ¬ (400 : Int) < (l.length : Int) by omega)];rw [if_neg hbig];conv => whnf
 refine jbg [0] ?_;conv => whnf
 refine ja5 [2, 4, 63] ?_;conv => whnf
 obtain ⟨E, hE⟩ : ∃ E, jhz l e 0 40 = E := ⟨_, rfl⟩
 rw [hE];refine jaj (fun j : Nat => [(64, .v (.int .i64 j))]) (fun _ => [utA u, jtv, pgL l e u.du.length u.vo.length, utA u ++ [.sl 2 l.length (jcn l)]]) (fun _ => []) (fun j => j <= 40 /\ jhz l e j (40 - j) = E) (fun j => 40 - j) 0 ?_ ⟨Nat.zero_le _, hE⟩ ?_
 ·repeat' constructor
  done
 clear hE hge g1 g2 g3 hcm;clear j;rintro j ⟨hj, hE⟩
 have hE : jhz l e j (40 - j) = E := hE
 conv => whnf
 rcases Nat.lt_or_ge j 40 with hlt | hge
 ·rw [decide_eq_true (show (j : Int) < 40 by omega)];rw [show 40 - j = (40 - (j + 1)) + 1 by omega] at hE;unfold jhz at hE
  have hfo := jgN l e u.du.length u.vo.length (e j) (by omega) (by omega) (by omega) (fun i hi => (g4 i hi).2) (fun i hi => (g4 i hi).1) (g5 j)
  conv => whnf
  refine ⟨⟨show (0 : Int) <= (j : Int) by omega, show (j : Int) < ((40 : Nat) : Int) by omega⟩, intA (e j), jnk e j hlt, ?_⟩;conv => whnf
  refine jaw [] rfl (fun _ => hfo) ?_;rintro r rfl;generalize jbb l (e j) = f at hE;conv => whnf
  by_cases h0 : f = 0
  ·rw [decide_eq_true h0];rw [if_neg (fun h => h h0)] at hE;conv => whnf
   refine ⟨show lo .i64 <= (j : Int) + 1 /\ (j : Int) + 1 <= hi .i64 from jam (by omega), ?_⟩;conv => whnf
   refine ⟨j + 1, ja1 [] ?_, ⟨show j + 1 <= 40 by omega, hE⟩, show 40 - (j + 1) < 40 - j by omega⟩;conv => whnf
   repeat' constructor
  rw [decide_eq_false h0];rw [if_pos h0] at hE;conv => whnf
  rw [<- hE, if_neg h0];rfl
 obtain rfl : j = 40 := by omega
 rw [decide_eq_false (show ¬ ((40 : Nat) : Int) < 40 by omega)]
 obtain rfl : 0 = E := hE
 conv => whnf
 rw [if_pos rfl];rfl
theorem jqu {l : List ByteArray} {s : ByteArray} (h : s ∈ l) : (l.any fun x => decide (s = x)) = true := List.any_eq_true.2 ⟨s, h, decide_eq_true rfl⟩
theorem jqL {s : ByteArray} (h : s ∈ opL ∨ s ∈ bolL ∨ s ∈ cmpL) : (opAll.any fun x => decide (s = x)) = true := by
 apply jqu
 unfold opAll
 rcases h with h | h | h
 ·unfold opL at h;simp only [List.mem_cons, List.not_mem_nil, or_false] at h ⊢
  rcases h with h | h | h | h <;> simp [h]
 ·unfold bolL at h;simp only [List.mem_cons, List.not_mem_nil, or_false] at h ⊢
  rcases h with h | h <;> simp [h]
 ·unfold cmpL at h;simp only [List.mem_cons, List.not_mem_nil, or_false] at h ⊢
  rcases h with h | h | h | h | h | h <;> simp [h]
theorem sz1 (k n : Int) (s : ByteArray) (f : Nt) : szN (.mk k n s [f]) = 3 + szN f := rfl
theorem sz2 (k n : Int) (s : ByteArray) (f g : Nt) : szN (.mk k n s [f, g]) = 3 + (szN f + szN g) := rfl
theorem sz3 (k n : Int) (s : ByteArray) (f g h : Nt) : szN (.mk k n s [f, g, h]) = 3 + (szN f + (szN g + szN h)) := rfl
theorem sz0 (k n : Int) (s : ByteArray) : szN (.mk k n s []) = 3 := rfl
theorem wf1 {k n : Int} {s : ByteArray} {f : Nt} (h : arN k s 1 = true) (hf : wfN f) : wfN (.mk k n s [f]) := jbA h fun x hx => by rw [List.mem_singleton.1 hx]; exact hf
theorem wf2 {k n : Int} {s : ByteArray} {f g : Nt} (h : arN k s 2 = true) (hf : wfN f) (hg : wfN g) : wfN (.mk k n s [f, g]) := jbA h fun x hx => by
 simp only [List.mem_cons, List.not_mem_nil, or_false] at hx
 rcases hx with rfl | rfl
 ·exact hf
 ·exact hg
theorem wf3 {k n : Int} {s : ByteArray} {f g c : Nt} (h : arN k s 3 = true) (hf : wfN f) (hg : wfN g) (hc : wfN c) : wfN (.mk k n s [f, g, c]) := jbA h fun x hx => by
 simp only [List.mem_cons, List.not_mem_nil, or_false] at hx
 rcases hx with rfl | rfl | rfl
 ·exact hf
 ·exact hg
 ·exact hc
theorem jyk {s : ByteArray} (h : (opAll.any fun x => decide (s = x)) = true) : arN 18 s 2 = true := by
 show (decide (2 = 2) && _) = true
 rw [h]; rfl
theorem jqU (d : Nat) : 2 ^ (d + 1) = 2 * 2 ^ d := by rw [Nat.pow_succ, Nat.mul_comm]
theorem jjG {d : Nat} {f : Nt} (h : EI d f) : wfN f /\ szN f + 3 <= 12 * 2 ^ d := by
 have hp := fun d : Nat => Nat.one_le_two_pow (n := d)
 induction h with
 | lit d n h => exact ⟨jbA rfl (by simp), by rw [sz0]; have := hp d; omega⟩
 | var d s h => exact ⟨jbA rfl (by simp), by rw [sz0]; have := hp d; omega⟩
 | nam d s h =>
  refine ⟨jbA ?_ (by simp), by rw [sz0]; have := hp d; omega⟩
  show (decide (0 = 0) && _) = true
  rw [jqu h]; rfl
 | drw d f h ih => exact ⟨wf1 rfl ih.1, by rw [sz1, jqU]; have := hp d; omega⟩
 | neg d f h ih => exact ⟨wf1 rfl ih.1, by rw [sz1, jqU]; have := hp d; omega⟩
 | bin d s f g hs h1 h2 i1 i2 => exact ⟨wf2 (jyk (jqL (.inl hs))) i1.1 i2.1, by rw [sz2, jqU]; have := hp d; omega⟩
theorem jxM {d : Nat} {f : Nt} (h : EB d f) : wfN f /\ szN f + 3 <= 24 * 2 ^ d := by
 have hp := fun d : Nat => Nat.one_le_two_pow (n := d)
 induction h with
 | lit d n h => exact ⟨jbA rfl (by simp), by rw [sz0]; have := hp d; omega⟩
 | nt d f h ih => exact ⟨wf1 rfl ih.1, by rw [sz1, jqU]; have := hp d; omega⟩
 | bin d s f g hs h1 h2 i1 i2 => exact ⟨wf2 (jyk (jqL (.inr (.inl hs)))) i1.1 i2.1, by rw [sz2, jqU]; have := hp d; omega⟩
 | cmp d s f g hs h1 h2 =>
  obtain ⟨w1, s1⟩ := jjG h1
  obtain ⟨w2, s2⟩ := jjG h2
  have hle : 2 ^ (d - 1) <= 2 ^ d := Nat.pow_le_pow_right (by decide) (by omega)
  exact ⟨wf2 (jyk (jqL (.inr (.inr hs)))) w1 w2, by rw [sz2]; omega⟩
theorem jrt (B : Nat) : ∀ l : List Nt, (∀ f ∈ l, szN f <= B) -> jhO l <= l.length * B
 | [], _ => Nat.zero_le _
 | f :: l, h => by
  have h1 := h f List.mem_cons_self
  have h2 := jrt B l fun g hg => h g (List.mem_cons_of_mem _ hg)
  show szN f + jhO l <= (l.length + 1) * B
  rw [Nat.succ_mul]; omega
def sB : Nat -> Nat
 | 0 => 54
 | d + 1 => 102 + 4 * sB d
theorem jl3 : ∀ d, 54 <= sB d
 | 0 => Nat.le_refl _
 | d + 1 => by unfold sB; omega
theorem joq {l : List Nt} {m B : Nat} (hm : l.length <= m) (h3 : m <= 3000) (h : ∀ s ∈ l, wfN s /\ szN s <= B) : wfN (jeA l) /\ szN (jeA l) <= 3 + m * B := by
 refine ⟨jbA ?_ fun f hf => (h f hf).1, ?_⟩
 ·unfold arN;rw [if_pos rfl, decide_eq_true_eq]; omega
 ·have h1 := jrt B l fun f hf => (h f hf).2
  have h2 : l.length * B <= m * B := Nat.mul_le_mul_right _ hm
  show 3 + jhO l <= _
  omega
theorem jz8 {d : Nat} {f : Nt} (h : ES d f) : wfN f /\ szN f <= sB d := by
 induction h with
 | asg d e s f hs h he =>
  obtain ⟨w, z⟩ := jjG h
  have hle : 2 ^ e <= 2 ^ 2 := Nat.pow_le_pow_right (by decide) he
  have := jl3 d
  exact ⟨wf1 rfl w, by rw [sz1]; omega⟩
 | snd d n f g h hn h1 h2 h3 =>
  obtain ⟨w1, z1⟩ := jjG h1
  obtain ⟨w2, z2⟩ := jjG h2
  obtain ⟨w3, z3⟩ := jjG h3
  have := jl3 d
  exact ⟨wf3 rfl w1 w2 w3, by rw [sz3]; omega⟩
 | tim d n hn => exact ⟨jbA rfl (by simp), by rw [sz0]; have := jl3 d; omega⟩
 | can d n hn => exact ⟨jbA rfl (by simp), by rw [sz0]; have := jl3 d; omega⟩
 | syn d => exact ⟨jbA rfl (by simp), by rw [sz0]; have := jl3 d; omega⟩
 | rep d f g h1 h2 =>
  obtain ⟨w1, z1⟩ := jjG h1
  obtain ⟨w2, z2⟩ := jjG h2
  have := jl3 d
  exact ⟨wf2 rfl w1 w2, by rw [sz2]; omega⟩
 | fai d f h1 =>
  obtain ⟨w1, z1⟩ := jjG h1
  have := jl3 d
  exact ⟨wf1 rfl w1, by rw [sz1]; omega⟩
 | stp d => exact ⟨jbA rfl (by simp), by rw [sz0]; have := jl3 d; omega⟩
 | whi d c l h1 h2 h3 ih =>
  obtain ⟨w1, z1⟩ := jxM h1
  obtain ⟨w2, z2⟩ := joq h2 (by decide) ih
  have e : sB (d + 1) = 102 + 4 * sB d := rfl
  exact ⟨wf2 rfl w1 w2, by rw [sz2, e]; omega⟩
 | iff d c l m h1 h2 h3 h4 h5 ih1 ih2 =>
  obtain ⟨w1, z1⟩ := jxM h1
  obtain ⟨w2, z2⟩ := joq h2 (by decide) ih1
  obtain ⟨w3, z3⟩ := joq h4 (by decide) ih2
  have e : sB (d + 1) = 102 + 4 * sB d := rfl
  exact ⟨wf3 rfl w1 w2 w3, by rw [sz3, e]; omega⟩
theorem ju3 (B : Nat) : ∀ l : List (Int × Nt), (∀ h ∈ l, szN h.2 <= B) -> szH l <= l.length * (B + 1)
 | [], _ => Nat.zero_le _
 | x :: l, h => by
  have h1 := h x List.mem_cons_self
  have h2 := ju3 B l fun g hg => h g (List.mem_cons_of_mem _ hg)
  show szN x.2 + 1 + szH l <= (l.length + 1) * (B + 1)
  rw [Nat.succ_mul]; omega
theorem jyy {u : Ut} (h : GU u) : WfU u /\ szH u.on <= 900000 /\ ∀ x ∈ u.on, szN x.2 <= 5000 := by
 obtain ⟨h1, h2, h3, h4, h5⟩ := h
 have hb : ∀ x ∈ u.on, wfN x.2 /\ szN x.2 <= 5000 := fun x hx => by
  obtain ⟨_, _, k, hk, hl, hs⟩ := h3 x hx
  rw [hk]
  have := joq (B := sB 2) hl (by decide) fun s hs' => jz8 (hs s hs')
  exact ⟨this.1, by have := this.2; have e : sB 2 = 1374 := rfl; omega⟩
 refine ⟨⟨by rw [h1, h2]; decide, fun x hx => ⟨(h3 x hx).1, (h3 x hx).2.1, (hb x hx).1⟩, h4.imp fun h => by omega, by omega⟩, ?_, fun x hx => (hb x hx).2⟩
 have := ju3 5000 u.on fun x hx => (hb x hx).2
 have h6 : u.on.length * (5000 + 1) <= 4 * (5000 + 1) := Nat.mul_le_mul_right _ (by omega)
 omega
def opI (code : List Ic) (a : Int) : Int := (code.getD a.toNat (0, 0)).1
def sc (code : List Ic) (a : Int) : List Int := nxI a (code.getD a.toNat (0, 0))
def lv (code : List Ic) (a d : Int) : Int := d - jaq (opI code a) + ja7 (opI code a)
inductive Rch (code : List Ic) (x : Int) : Int -> Prop
 | here : Rch code x x
 | next {a k : Int} (h : Rch code x a) (hk : k ∈ sc code a) (hn : k < code.length) : Rch code x k
structure jzs (code : List Ic) (x : Int) (D : Int -> Int) : Prop where
 st : D x = 0
 po : ∀ a, Rch code x a -> jaq (opI code a) <= D a
 nx : ∀ a, Rch code x a -> ∀ k ∈ sc code a, k < code.length -> D k = lv code a (D a)
def Good (code : List Ic) (x : Int) (D : Int -> Int) : Prop := jzs code x D /\ ∀ a, Rch code x a -> lv code a (D a) <= 16
theorem Rch.rng {code : List Ic} (hj : jiH code) {x : Int} (hx : 0 <= x /\ x < code.length) {a : Int} (h : Rch code x a) : 0 <= a /\ a < code.length := by
 induction h with
 | here => exact hx
 | next h hk hn ih => exact ⟨jv4 hj ih _ hk, hn⟩
theorem Good.le {code : List Ic} {x : Int} {D : Int -> Int} (h : Good code x D) {a : Int} (ha : Rch code x a) : D a <= 16 := by
 cases ha with
 | here => rw [h.1.st]; decide
 | next h1 hk hn => rw [h.1.nx _ h1 _ hk hn]; exact h.2 _ h1
theorem jja {n : Nat} {af : Int} : ∀ (l : List Int) (s s' : Fs), jau n af l s = some s' -> ∃ t : List (Int × Int), s'.dm = s.dm ++ t /\ s'.wk = s.wk ++ t.map (·.1) /\ (∀ p ∈ t, p.1 ∈ l /\ p.2 = af) /\ (∀ k ∈ l, k < n /\ ∃ d, (k, d) ∈ s'.dm) /\ (s'.er = false -> s.er = false /\ ∀ k ∈ l, (k, af) ∈ s'.dm) /\ ((s.er = false /\ ∀ k ∈ l, ∀ d, (k, d) ∈ s.dm -> d = af) -> s'.er = false)
 | [], s, s', e => by
  unfold jau at e
  cases e
  exact ⟨[], by simp, by simp, by simp, by simp, fun h => ⟨h, by simp⟩, fun h => h.1⟩
 | k :: l, s, s', e => by
  unfold jau jbd at e
  by_cases hk : (n : Int) <= k
  ·rw [if_pos hk] at e; cases e
  rw [if_neg hk] at e
  cases hd : dF s.dm k with
  | some d =>
   rw [hd] at e
   simp only at e
   obtain ⟨t, h1, h2, h3, h4, h5, h6⟩ := jja l _ s' e
   have hm := jk5 hd
   refine ⟨t, h1, h2, fun p hp => ⟨List.mem_cons_of_mem _ (h3 p hp).1, (h3 p hp).2⟩, ?_, ?_, ?_⟩
   ·intro j hj'
    rcases List.mem_cons.1 hj' with rfl | hj'
    ·exact ⟨by omega, d, by rw [h1]; exact List.mem_append_left _ hm⟩
    ·exact h4 j hj'
   ·intro he
    obtain ⟨q1, q2⟩ := h5 he
    simp only [Bool.or_eq_false_iff, decide_eq_false_iff_not, ne_eq, Decidable.not_not] at q1;refine ⟨q1.1, fun j hj' => ?_⟩
    rcases List.mem_cons.1 hj' with rfl | hj'
    ·rw [h1, <- q1.2]; exact List.mem_append_left _ hm
    ·exact q2 j hj'
   ·rintro ⟨q1, q2⟩;refine h6 ⟨?_, fun j hj' d' hd' => q2 j (List.mem_cons_of_mem _ hj') d' hd'⟩;simp only [Bool.or_eq_false_iff, decide_eq_false_iff_not, ne_eq, Decidable.not_not];exact ⟨q1, q2 k List.mem_cons_self d hm⟩
  | none =>
   rw [hd] at e
   simp only at e
   obtain ⟨t, h1, h2, h3, h4, h5, h6⟩ := jja l _ s' e
   simp only at h1 h2 h5 h6
   refine ⟨(k, af) :: t, by rw [h1, List.append_assoc]; rfl, by rw [h2, List.append_assoc]; rfl, ?_, ?_, ?_, ?_⟩
   ·intro p hp
    rcases List.mem_cons.1 hp with rfl | hp
    ·exact ⟨List.mem_cons_self, rfl⟩
    ·exact ⟨List.mem_cons_of_mem _ (h3 p hp).1, (h3 p hp).2⟩
   ·intro j hj'
    rcases List.mem_cons.1 hj' with rfl | hj'
    ·exact ⟨by omega, af, by rw [h1]; exact List.mem_append_left _ (List.mem_append_right _ List.mem_cons_self)⟩
    ·exact h4 j hj'
   ·intro he
    obtain ⟨q1, q2⟩ := h5 he
    refine ⟨q1, fun j hj' => ?_⟩
    rcases List.mem_cons.1 hj' with rfl | hj'
    ·rw [h1]; exact List.mem_append_left _ (List.mem_append_right _ List.mem_cons_self)
    ·exact q2 j hj'
   ·rintro ⟨q1, q2⟩;refine h6 ⟨q1, fun j hj' d' hd' => ?_⟩
    rcases List.mem_append.1 hd' with hd' | hd'
    ·exact q2 j (List.mem_cons_of_mem _ hj') d' hd'
    ·rw [List.mem_singleton] at hd'; exact (Prod.mk.inj hd').2
theorem jgX {n : Nat} {af : Int} : ∀ (l : List Int) (s : Fs), jau n af l s = none -> ∃ k ∈ l, (n : Int) <= k
 | [], s, e => by unfold jau at e; cases e
 | k :: l, s, e => by
  unfold jau jbd at e
  by_cases hk : (n : Int) <= k
  ·exact ⟨k, List.mem_cons_self, hk⟩
  rw [if_neg hk] at e
  cases hd : dF s.dm k with
  | some d =>
   rw [hd] at e
   obtain ⟨j, h1, h2⟩ := jgX l _ e
   exact ⟨j, List.mem_cons_of_mem _ h1, h2⟩
  | none =>
   rw [hd] at e
   obtain ⟨j, h1, h2⟩ := jgX l _ e
   exact ⟨j, List.mem_cons_of_mem _ h1, h2⟩
theorem jwV {dm : List (Int × Int)} (h : (dm.map (·.1)).Nodup) {k d d' : Int} (h1 : (k, d) ∈ dm) (h2 : (k, d') ∈ dm) : d = d' := by
 induction dm with
 | nil => cases h1
 | cons p l ih =>
  rw [List.map_cons, List.nodup_cons] at h
  rcases List.mem_cons.1 h1 with e1 | h1
  ·rcases List.mem_cons.1 h2 with e2 | h2
   ·rw [<- e1] at e2; exact (Prod.mk.inj e2).2.symm
   ·exact absurd (List.mem_map.2 ⟨_, h2, by rw [<- e1]⟩) h.1
  ·rcases List.mem_cons.1 h2 with e2 | h2
   ·exact absurd (List.mem_map.2 ⟨_, h1, by rw [<- e2]⟩) h.1
   ·exact ih h.2 h1 h2
structure Fi (code : List Ic) (x : Int) (s : Fs) : Prop where
 ok : jiG code.length s
 rc : ∀ p ∈ s.dm, Rch code x p.1
 st : (x, 0) ∈ s.dm
 pr : ∀ p ∈ s.dm, p.1 ∉ s.wk -> ∀ k ∈ sc code p.1, k < code.length /\ ∃ d, (k, d) ∈ s.dm
 gd : s.er = false -> ∀ p ∈ s.dm, p.1 ∉ s.wk -> jaq (opI code p.1) <= p.2 /\ lv code p.1 p.2 <= 16 /\ ∀ k ∈ sc code p.1, (k, lv code p.1 p.2) ∈ s.dm
 gu : ∀ D, Good code x D -> s.er = false /\ ∀ p ∈ s.dm, p.2 = D p.1
theorem juE {code : List Ic} (hj : jiH code) {x : Int} {dm : List (Int × Int)} {pre : List Int} {a : Int} {er : Bool} {s' : Fs} (h : Fi code x ⟨dm, pre ++ [a], er⟩) (e : jlk code dm pre er a = some s') : Fi code x s' := by
 obtain ⟨ok', -, -⟩ := jrs hj h.ok e
 obtain ⟨d0, hd0⟩ := h.ok.wk a (List.mem_append_right _ List.mem_cons_self)
 obtain ⟨d, hd⟩ := jm2 hd0
 have hm : (a, d) ∈ dm := jk5 hd
 have ha : Rch code x a := h.rc _ hm
 unfold jlk at e
 obtain ⟨t, h1, h2, h3, h4, h5, h6⟩ := jja _ _ _ e
 have haf : afF code dm a = lv code a d := by unfold afF; rw [hd]; rfl
 have hbd : jpg code dm a = (decide (d < jaq (opI code a)) || decide (16 < lv code a d)) := by unfold jpg; rw [haf, hd]; rfl
 rw [haf] at h3 h5 h6;rw [hbd] at h5 h6
 simp only at h1 h2 h5 h6
 change ∀ k ∈ sc code a, _ at h4
 change ∀ p ∈ t, p.1 ∈ sc code a /\ _ at h3
 have hsub : ∀ p ∈ dm, p ∈ s'.dm := fun p hp => by rw [h1]; exact List.mem_append_left _ hp
 have hold : ∀ p ∈ s'.dm, p.1 ∉ s'.wk -> p.1 ≠ a -> p ∈ dm /\ p.1 ∉ pre ++ [a] := fun p hp hw hne => by
  rw [h2] at hw;rw [h1] at hp
  rcases List.mem_append.1 hp with hp | hp
  ·refine ⟨hp, fun hq => ?_⟩
   rcases List.mem_append.1 hq with hq | hq
   ·exact hw (List.mem_append_left _ hq)
   ·exact hne (List.mem_singleton.1 hq)
  ·exact absurd (List.mem_append_right _ (List.mem_map.2 ⟨p, hp, rfl⟩)) hw
 refine ⟨ok', fun p hp => ?_, hsub _ h.st, fun p hp hw => ?_, fun he p hp hw => ?_, fun D hD => ?_⟩
 ·rw [h1] at hp
  rcases List.mem_append.1 hp with hp | hp
  ·exact h.rc p hp
  ·exact .next ha (h3 p hp).1 (h4 _ (h3 p hp).1).1
 ·by_cases hpa : p.1 = a
  ·rw [hpa]; exact h4
  ·obtain ⟨q1, q2⟩ := hold p hp hw hpa
   intro k hk
   obtain ⟨q3, d', q4⟩ := h.pr p q1 q2 k hk
   exact ⟨q3, d', hsub _ q4⟩
 ·obtain ⟨q1, q2⟩ := h5 he
  simp only [Bool.or_eq_false_iff, decide_eq_false_iff_not] at q1
  by_cases hpa : p.1 = a
  ·have hpd : p.2 = d := jwV ok'.nd (k := a) (by rw [<- hpa]; exact hp) (hsub _ hm)
   rw [hpa, hpd];exact ⟨by omega, by omega, q2⟩
  ·obtain ⟨w1, w2⟩ := hold p hp hw hpa
   obtain ⟨w3, w4, w5⟩ := h.gd q1.1 p w1 w2
   exact ⟨w3, w4, fun k hk => hsub _ (w5 k hk)⟩
 ·obtain ⟨q1, q2⟩ := h.gu D hD
  simp only at q1 q2
  have hda : d = D a := q2 _ hm
  have hpo := hD.1.po a ha
  have hle := hD.2 a ha
  have hnx : ∀ k ∈ sc code a, D k = lv code a d := fun k hk => by rw [hda]; exact hD.1.nx a ha k hk (h4 k hk).1
  refine ⟨h6 ⟨?_, fun k hk d' hd' => ?_⟩, fun p hp => ?_⟩
  ·rw [q1, decide_eq_false (show ¬ d < jaq (opI code a) by omega), decide_eq_false (show ¬ 16 < lv code a d by rw [hda]; omega)]; rfl
  ·exact (q2 _ hd').trans (hnx k hk)
  ·rw [h1] at hp
   rcases List.mem_append.1 hp with hp | hp
   ·exact q2 p hp
   ·rw [(h3 p hp).2, hnx _ (h3 p hp).1]
def jzb (code : List Ic) (x f : Int) : Prop :=
 (f = 12 /\ ∃ a, Rch code x a /\ ∃ k ∈ sc code a, (code.length : Int) <= k) ∨ ((∀ a, Rch code x a -> ∀ k ∈ sc code a, k < (code.length : Int)) /\ ((f = 0 /\ ∃ D, Good code x D) ∨ (f = 13 /\ ¬ ∃ D, Good code x D)))
theorem jq4 {code : List Ic} (hj : jiH code) {x : Int} : ∀ (m : Nat) (s : Fs), Fi code x s -> s.wk.length + (code.length - s.dm.length) + 1 <= m -> jzb code x (juG code m s)
 | 0, s, h, hm => by omega
 | m + 1, ⟨dm, wk, er⟩, h, hm => by
  rw [juG]
  rcases List.eq_nil_or_concat wk with rfl | ⟨pre, a, hw⟩
  ·simp only [List.getLast?_nil]
   have hall : ∀ a, Rch code x a -> ∃ d, (a, d) ∈ dm := fun a ha => by
    induction ha with
    | here => exact ⟨0, h.st⟩
    | next h1 hk hn ih =>
     obtain ⟨d, hd⟩ := ih
     exact (h.pr _ hd (by simp) _ hk).2
   refine .inr ⟨fun a ha k hk => ?_, ?_⟩
   ·obtain ⟨d, hd⟩ := hall a ha
    exact (h.pr _ hd (by simp) k hk).1
   ·cases er with
    | true =>
     refine .inr ⟨rfl, fun ⟨D, hD⟩ => ?_⟩
     have := (h.gu D hD).1
     cases this
    | false =>
     refine .inl ⟨rfl, fun k => (dF dm k).getD 0, ?_⟩
     have hget : ∀ k d, (k, d) ∈ dm -> (dF dm k).getD 0 = d := fun k d hd => by
      obtain ⟨d', hd'⟩ := jm2 hd
      rw [hd'];exact jwV h.ok.nd (jk5 hd') hd
     have hgd := h.gd rfl
     refine ⟨⟨hget _ _ h.st, fun a ha => ?_, fun a ha k hk hn => ?_⟩, fun a ha => ?_⟩
     ·obtain ⟨d, hd⟩ := hall a ha
      rw [hget a d hd];exact (hgd _ hd (by simp)).1
     ·obtain ⟨d, hd⟩ := hall a ha
      rw [hget a d hd];exact hget _ _ ((hgd _ hd (by simp)).2.2 k hk)
     ·obtain ⟨d, hd⟩ := hall a ha
      show lv code a ((dF dm a).getD 0) <= 16
      rw [hget a d hd];exact (hgd _ hd (by simp)).2.1
  ·rw [List.concat_eq_append] at hw;subst hw;simp only [List.getLast?_append, List.getLast?_singleton, Option.some_or, List.dropLast_append_cons, List.dropLast_singleton, List.append_nil]
   cases hs : jlk code dm pre er a with
   | none =>
    obtain ⟨d0, hd0⟩ := h.ok.wk a (List.mem_append_right _ List.mem_cons_self)
    unfold jlk at hs
    obtain ⟨k, hk, hn⟩ := jgX _ _ hs
    exact .inl ⟨rfl, a, h.rc _ hd0, k, hk, hn⟩
   | some s' =>
    obtain ⟨ok', q2, q3⟩ := jrs hj h.ok hs
    refine jq4 hj m s' (juE hj h hs) ?_;simp only [List.length_append, List.length_singleton] at hm q2;omega
theorem ji8 {code : List Ic} (hj : jiH code) {x : Int} (hx : 0 <= x /\ x < code.length) : jzb code x (jbb code x) := by
 unfold jbb;rw [if_neg (by omega)];refine jq4 hj _ _ ⟨⟨?_, ?_, ?_, ?_⟩, ?_, List.mem_singleton.2 rfl, ?_, ?_, ?_⟩ ?_
 ·intro p hp;rw [List.mem_singleton.1 hp]; exact hx
 ·simp
 ·intro k hk;rw [List.mem_singleton.1 hk]; exact ⟨0, List.mem_singleton.2 rfl⟩
 ·intro p hp;rw [List.mem_singleton.1 hp]; simp only [List.length_singleton]; omega
 ·intro p hp;rw [List.mem_singleton.1 hp]; exact .here
 ·intro p hp hw;rw [List.mem_singleton.1 hp] at hw
  simp at hw
 ·intro _ p hp hw;rw [List.mem_singleton.1 hp] at hw
  simp at hw
 ·intro D hD;refine ⟨rfl, fun p hp => ?_⟩;rw [List.mem_singleton.1 hp]; exact hD.1.st.symm
 ·simp only [List.length_singleton]; omega
def shI (a : Int) (i : Ic) : Ic := if i.1 = 15 ∨ i.1 = 16 then (i.1, i.2 + a) else i
def GSh (g : Int -> List Ic) : Prop := ∀ (at' a : Int), g (at' + a) = (g at').map (shI a)
theorem GSh.len {g : Int -> List Ic} (h : GSh g) (at' a : Int) : (g (at' + a)).length = (g at').length := by rw [h, List.length_map]
theorem GSh.no : GSh noI := fun _ _ => rfl
theorem GSh.one {i : Ic} (h : ¬ (i.1 = 15 ∨ i.1 = 16)) : GSh fun _ => [i] := fun _ _ => by
 rw [List.map_singleton]; unfold shI; rw [if_neg h]
theorem GSh.two {i j : Ic} (h : ¬ (i.1 = 15 ∨ i.1 = 16)) (k : ¬ (j.1 = 15 ∨ j.1 = 16)) : GSh fun _ => [i, j] := fun _ _ => by
 rw [List.map_cons, List.map_singleton]; unfold shI; rw [if_neg h, if_neg k]
theorem GSh.app {g h : Int -> List Ic} (hg : GSh g) (hh : GSh h) : GSh fun at' => g at' ++ h (at' + (g at').length) := fun at' a => by
 simp only
 rw [hg.len, List.map_append, hg at' a, show at' + a + ((g at').length : Int) = at' + (g at').length + a by omega, hh]
theorem GSh.seq : ∀ {l : List (Int -> List Ic)}, (∀ g ∈ l, GSh g) -> GSh (jej l)
 | [], _ => fun _ _ => rfl
 | g :: r, h => GSh.app (h g List.mem_cons_self) (GSh.seq fun x hx => h x (List.mem_cons_of_mem _ hx))
theorem jjy (k t a : Int) (h : k = 15 ∨ k = 16) : shI a (k, t) = (k, t + a) := by unfold shI; rw [if_pos h]
theorem GSh.br {c y n : Int -> List Ic} (hc : GSh c) (hy : GSh y) (hn : GSh n) : GSh (brC c y n) := fun at' a => by
 have e1 := hc at' a
 have e2 := hc.len at' a
 obtain ⟨p, hp⟩ : ∃ p, at' + ((c at').length : Int) + 1 = p := ⟨_, rfl⟩
 have q1 : at' + a + ((c (at' + a)).length : Int) + 1 = p + a := by rw [e2]; omega
 have y1 := hy p a
 have y2 := hy.len p a
 obtain ⟨f, hf⟩ : ∃ f, p + ((y p).length : Int) + 1 = f := ⟨_, rfl⟩
 have q2 : p + a + ((y (p + a)).length : Int) + 1 = f + a := by rw [y2]; omega
 have n1 := hn f a
 have n2 := hn.len f a
 unfold brC
 simp only
 rw [q1, hp, q2, hf, n2, e1, y1, n1];rw [List.map_append, List.map_cons, List.map_append, List.map_cons, jjy _ _ _ (.inr rfl), jjy _ _ _ (.inl rfl)];rw [show f + a + ((n f).length : Int) = f + (n f).length + a by omega]
theorem GSh.wh {c b : Int -> List Ic} (hc : GSh c) (hb : GSh b) : GSh fun at' => c at' ++ (16, at' + (c at').length + (b (at' + (c at').length + 1)).length + 2) :: (b (at' + (c at').length + 1) ++ [(15, at')]) := fun at' a => by
 have e1 := hc at' a
 have e2 := hc.len at' a
 obtain ⟨p, hp⟩ : ∃ p, at' + ((c at').length : Int) + 1 = p := ⟨_, rfl⟩
 have q1 : at' + a + ((c (at' + a)).length : Int) + 1 = p + a := by rw [e2]; omega
 have b1 := hb p a
 have b2 := hb.len p a
 simp only
 rw [q1, hp, b2, e2, e1, b1];rw [List.map_append, List.map_cons, List.map_append, List.map_singleton, jjy _ _ _ (.inr rfl), jjy _ _ _ (.inl rfl)];rw [show at' + a + ((c at').length : Int) + ((b p).length : Int) + 2 = at' + (c at').length + (b p).length + 2 + a by omega]
theorem GSh.get {l : List (Int -> List Ic)} (h : ∀ g ∈ l, GSh g) (k : Nat) : GSh (l.getD k noI) := by
 rw [List.getD_eq_getElem?_getD]
 cases hk : l[k]? with
 | none => exact GSh.no
 | some g => exact h g (List.mem_of_getElem? hk)
theorem jx6 (s : ByteArray) : GSh fun _ => opC s := by
 unfold opC
 repeat' split
 all_goals first
  | exact GSh.one (by decide)
  | exact GSh.two (by decide) (by decide)
theorem GSh.body (ix : ByteArray -> Int) (k n : Int) (s : ByteArray) {l : List (Int -> List Ic)} (h : ∀ g ∈ l, GSh g) : GSh (jc6 ix k n s l) := by
 have g0 := GSh.get h 0
 have g1 := GSh.get h 1
 have g2 := GSh.get h 2
 have sq := GSh.seq h
 have one : ∀ {i : Ic}, ¬ (i.1 = 15 ∨ i.1 = 16) -> GSh fun _ => [i] := GSh.one
 intro at' a;unfold jc6
 by_cases c1 : k = 12 ∨ k = 13
 ·rw [if_pos c1, if_pos c1]; exact one (by simp) at' a
 rw [if_neg c1, if_neg c1]
 by_cases c2 : k = 14
 ·rw [if_pos c2, if_pos c2]; exact one (by simp) at' a
 rw [if_neg c2, if_neg c2]
 by_cases c3 : k = 15
 ·rw [if_pos c3, if_pos c3]; exact one (by simp) at' a
 rw [if_neg c3, if_neg c3]
 by_cases c4 : k = 2
 ·rw [if_pos c4, if_pos c4]; exact GSh.br g0 g1 g2 at' a
 rw [if_neg c4, if_neg c4]
 by_cases c5 : k = 5
 ·rw [if_pos c5, if_pos c5]; exact one (by simp) at' a
 rw [if_neg c5, if_neg c5]
 by_cases c6 : k = 6
 ·rw [if_pos c6, if_pos c6]; exact one (by simp) at' a
 rw [if_neg c6, if_neg c6]
 by_cases c7 : k = 7
 ·rw [if_pos c7, if_pos c7]; exact one (by simp) at' a
 rw [if_neg c7, if_neg c7]
 by_cases c8 : k = 10
 ·rw [if_pos c8, if_pos c8]; exact one (by simp) at' a
 rw [if_neg c8, if_neg c8]
 by_cases c9 : k = 3
 ·rw [if_pos c9, if_pos c9]; exact GSh.wh g0 g1 at' a
 rw [if_neg c9, if_neg c9]
 by_cases ca : k = 18 /\ s = jg3
 ·rw [if_pos ca, if_pos ca]; exact GSh.br g0 g1 (one (by simp)) at' a
 rw [if_neg ca, if_neg ca]
 by_cases cb : k = 18 /\ s = pOr
 ·rw [if_pos cb, if_pos cb]; exact GSh.br g0 (one (by simp)) g1 at' a
 rw [if_neg cb, if_neg cb]
 have tl : ∀ t : List Ic, GSh (fun _ => t) -> jej l (at' + a) ++ t = (jej l at' ++ t).map (shI a) := fun t ht => by
  have := (GSh.app sq ht) at' a
  exact this
 by_cases d1 : k = 18
 ·rw [if_pos d1]; exact tl _ (jx6 s)
 rw [if_neg d1]
 by_cases d2 : k = 16
 ·rw [if_pos d2]; exact tl _ (one (by simp))
 rw [if_neg d2]
 by_cases d3 : k = 17
 ·rw [if_pos d3]
  by_cases d4 : s = pMinus
  ·rw [if_pos d4]; exact tl _ (one (by simp))
  ·rw [if_neg d4]; exact tl _ (one (by simp))
 rw [if_neg d3]
 by_cases d5 : k = 1
 ·rw [if_pos d5]; exact tl _ (one (by simp))
 rw [if_neg d5]
 by_cases d6 : k = 4
 ·rw [if_pos d6]; exact tl _ (one (by simp))
 rw [if_neg d6]
 by_cases d7 : k = 8
 ·rw [if_pos d7]; exact tl _ (one (by simp))
 rw [if_neg d7]
 by_cases d8 : k = 9
 ·rw [if_pos d8]; exact tl _ (one (by simp))
 rw [if_neg d8];exact tl _ (fun _ _ => rfl)
theorem jnj (ix : ByteArray -> Int) : ∀ f : Nt, GSh (jal ix f)
 | .mk k n s kids => by
  have h : ∀ f ∈ kids, GSh (jal ix f) := fun f hf => jnj ix f
  rw [show jal ix (.mk k n s kids) = jc6 ix k n s (jas ix kids) by funext at'; rw [jal]]
  refine GSh.body ix k n s fun g hg => ?_
  rw [jc0] at hg
  obtain ⟨f, hf, rfl⟩ := List.mem_map.1 hg
  exact h f hf
def GIn (g : Int -> List Ic) : Prop := ∀ (at' : Int), ∀ i ∈ g at', i.1 = 15 ∨ i.1 = 16 -> at' <= i.2 /\ i.2 <= at' + (g at').length
theorem GIn.no : GIn noI := fun _ i hi => by cases hi
theorem GIn.st {t : List Ic} (h : ∀ i ∈ t, ¬ (i.1 = 15 ∨ i.1 = 16)) : GIn fun _ => t := fun _ i hi hj => absurd hj (h i hi)
theorem GIn.app {g h : Int -> List Ic} (hg : GIn g) (hh : GIn h) : GIn fun at' => g at' ++ h (at' + (g at').length) := fun at' i hi hj => by
 simp only [List.length_append] at hi ⊢
 rcases List.mem_append.1 hi with hi | hi
 ·have := hg at' i hi hj; omega
 ·have := hh _ i hi hj; omega
theorem GIn.seq : ∀ {l : List (Int -> List Ic)}, (∀ g ∈ l, GIn g) -> GIn (jej l)
 | [], _ => fun _ i hi => by cases hi
 | g :: r, h => GIn.app (h g List.mem_cons_self) (GIn.seq fun x hx => h x (List.mem_cons_of_mem _ hx))
theorem GIn.br {c y n : Int -> List Ic} (hc : GIn c) (hy : GIn y) (hn : GIn n) : GIn (brC c y n) := fun at' i hi hj => by
 unfold brC at hi ⊢;simp only [List.mem_append, List.mem_cons, List.length_append, List.length_cons] at hi ⊢
 rcases hi with hi | rfl | hi | rfl | hi
 ·have := hc _ i hi hj; omega
 ·simp only; omega
 ·have := hy _ i hi hj; omega
 ·simp only; omega
 ·have := hn _ i hi hj; omega
theorem GIn.wh {c b : Int -> List Ic} (hc : GIn c) (hb : GIn b) : GIn fun at' => c at' ++ (16, at' + (c at').length + (b (at' + (c at').length + 1)).length + 2) :: (b (at' + (c at').length + 1) ++ [(15, at')]) := fun at' i hi hj => by
 simp only [List.mem_append, List.mem_cons, List.not_mem_nil, or_false, List.length_append, List.length_cons, List.length_nil] at hi ⊢
 rcases hi with hi | rfl | hi | rfl
 ·have := hc _ i hi hj; omega
 ·simp only; omega
 ·have := hb _ i hi hj; omega
 ·simp only; omega
theorem GIn.get {l : List (Int -> List Ic)} (h : ∀ g ∈ l, GIn g) (k : Nat) : GIn (l.getD k noI) := by
 rw [List.getD_eq_getElem?_getD]
 cases hk : l[k]? with
 | none => exact GIn.no
 | some g => exact h g (List.mem_of_getElem? hk)
theorem jx4 (s : ByteArray) : ∀ i ∈ opC s, ¬ (i.1 = 15 ∨ i.1 = 16) := by
 unfold opC
 repeat' split
 all_goals (intro i hi; simp only [List.mem_cons, List.not_mem_nil, or_false] at hi)
 all_goals first
  | (rcases hi with rfl | rfl <;> simp)
  | (subst hi; simp)
theorem GIn.body (ix : ByteArray -> Int) (k n : Int) (s : ByteArray) {l : List (Int -> List Ic)} (h : ∀ g ∈ l, GIn g) : GIn (jc6 ix k n s l) := by
 have g0 := GIn.get h 0
 have g1 := GIn.get h 1
 have g2 := GIn.get h 2
 have sq := GIn.seq h
 have one : ∀ {i : Ic}, ¬ (i.1 = 15 ∨ i.1 = 16) -> GIn fun _ => [i] := fun hi => GIn.st fun j hj => by rw [List.mem_singleton.1 hj]; exact hi
 intro at';unfold jc6
 by_cases c1 : k = 12 ∨ k = 13
 ·rw [if_pos c1]; exact one (by simp) at'
 rw [if_neg c1]
 by_cases c2 : k = 14
 ·rw [if_pos c2]; exact one (by simp) at'
 rw [if_neg c2]
 by_cases c3 : k = 15
 ·rw [if_pos c3]; exact one (by simp) at'
 rw [if_neg c3]
 by_cases c4 : k = 2
 ·rw [if_pos c4]; exact GIn.br g0 g1 g2 at'
 rw [if_neg c4]
 by_cases c5 : k = 5
 ·rw [if_pos c5]; exact one (by simp) at'
 rw [if_neg c5]
 by_cases c6 : k = 6
 ·rw [if_pos c6]; exact one (by simp) at'
 rw [if_neg c6]
 by_cases c7 : k = 7
 ·rw [if_pos c7]; exact one (by simp) at'
 rw [if_neg c7]
 by_cases c8 : k = 10
 ·rw [if_pos c8]; exact one (by simp) at'
 rw [if_neg c8]
 by_cases c9 : k = 3
 ·rw [if_pos c9]; exact GIn.wh g0 g1 at'
 rw [if_neg c9]
 by_cases ca : k = 18 /\ s = jg3
 ·rw [if_pos ca]; exact GIn.br g0 g1 (one (by simp)) at'
 rw [if_neg ca]
 by_cases cb : k = 18 /\ s = pOr
 ·rw [if_pos cb]; exact GIn.br g0 (one (by simp)) g1 at'
 rw [if_neg cb]
 have tl : ∀ t : List Ic, GIn (fun _ => t) -> ∀ i ∈ jej l at' ++ t, i.1 = 15 ∨ i.1 = 16 -> at' <= i.2 /\ i.2 <= at' + (jej l at' ++ t).length := fun t ht => (GIn.app sq ht) at'
 by_cases d1 : k = 18
 ·rw [if_pos d1]; exact tl _ (GIn.st (jx4 s))
 rw [if_neg d1]
 by_cases d2 : k = 16
 ·rw [if_pos d2]; exact tl _ (one (by simp))
 rw [if_neg d2]
 by_cases d3 : k = 17
 ·rw [if_pos d3]
  by_cases d4 : s = pMinus
  ·rw [if_pos d4]; exact tl _ (one (by simp))
  ·rw [if_neg d4]; exact tl _ (one (by simp))
 rw [if_neg d3]
 by_cases d5 : k = 1
 ·rw [if_pos d5]; exact tl _ (one (by simp))
 rw [if_neg d5]
 by_cases d6 : k = 4
 ·rw [if_pos d6]; exact tl _ (one (by simp))
 rw [if_neg d6]
 by_cases d7 : k = 8
 ·rw [if_pos d7]; exact tl _ (one (by simp))
 rw [if_neg d7]
 by_cases d8 : k = 9
 ·rw [if_pos d8]; exact tl _ (one (by simp))
 rw [if_neg d8];exact tl _ GIn.no
theorem jiV (ix : ByteArray -> Int) : ∀ f : Nt, GIn (jal ix f)
 | .mk k n s kids => by
  have h : ∀ f ∈ kids, GIn (jal ix f) := fun f hf => jiV ix f
  rw [show jal ix (.mk k n s kids) = jc6 ix k n s (jas ix kids) by funext at'; rw [jal]]
  refine GIn.body ix k n s fun g hg => ?_
  rw [jc0] at hg
  obtain ⟨f, hf, rfl⟩ := List.mem_map.1 hg
  exact h f hf
theorem jqc (ix : ByteArray -> Int) : ∀ (l m : List (Int × Nt)) (c : List Ic) (e : Nat -> Int), hcL ix (l ++ m) c e = hcL ix m (hcL ix l c e).1 (hcL ix l c e).2
 | [], m, c, e => rfl
 | (h, b) :: l, m, c, e => by rw [List.cons_append, hcL, hcL, jqc ix l m]
theorem jqe (ix : ByteArray -> Int) : ∀ (l : List (Int × Nt)) (c : List Ic) (e : Nat -> Int), ∃ t, (hcL ix l c e).1 = c ++ t
 | [], c, e => ⟨[], by rw [List.append_nil]; rfl⟩
 | (h, b) :: l, c, e => by
  obtain ⟨t, ht⟩ := jqe ix l (c ++ jal ix b c.length ++ [(23, 0)]) (fun j => if j = h.toNat then (c.length : Int) else e j)
  exact ⟨jal ix b c.length ++ [(23, 0)] ++ t, by rw [hcL, ht]; simp⟩
theorem jnr (ix : ByteArray -> Int) (j : Nat) : ∀ (l : List (Int × Nt)) (c : List Ic) (e : Nat -> Int), (∀ p ∈ l, p.1.toNat ≠ j) -> (hcL ix l c e).2 j = e j
 | [], c, e, _ => rfl
 | (h, b) :: l, c, e, hn => by
  rw [hcL, jnr ix j l _ _ fun p hp => hn p (List.mem_cons_of_mem _ hp)]
  have := hn _ List.mem_cons_self
  exact if_neg (Ne.symm this)
theorem jsp (u : Ut) (k : Nat) (hk : k < u.on.length) (hnn : ∀ p ∈ u.on, 0 <= p.1) (hnd : u.on.Pairwise fun a b => a.1 ≠ b.1) : ∃ c1 t, (jhY u).1 = c1 ++ (jal (ixU u) (u.on[k]).2 c1.length ++ [(23, 0)]) ++ t /\ (jhY u).2 (u.on[k]).1.toNat = (c1.length : Int) := by
 have hsp : u.on = u.on.take k ++ u.on[k] :: u.on.drop (k + 1) := by
  rw [<- List.drop_eq_getElem_cons hk, List.take_append_drop]
 have hd : ∀ p ∈ u.on.drop (k + 1), p.1.toNat ≠ (u.on[k]).1.toNat := fun p hp => by
  have h1 := hnn p (List.mem_of_mem_drop hp)
  have h2 := hnn _ (List.getElem_mem hk)
  rw [hsp, List.pairwise_append] at hnd
  have h3 := hnd.2.1
  rw [List.pairwise_cons] at h3
  have h4 := h3.1 p hp
  omega
 obtain ⟨x, hx⟩ : ∃ x, u.on[k] = x := ⟨_, rfl⟩
 rw [hx] at hsp hd ⊢
 obtain ⟨h, b⟩ := x
 unfold jhY;rw [show hcL (ixU u) u.on [] noE = hcL (ixU u) (u.on.take k ++ (h, b) :: u.on.drop (k + 1)) [] noE by rw [<- hsp], jqc, hcL]
 obtain ⟨t, ht⟩ := jqe (ixU u) (u.on.drop (k + 1)) ((hcL (ixU u) (u.on.take k) [] noE).1 ++ jal (ixU u) b (hcL (ixU u) (u.on.take k) [] noE).1.length ++ [(23, 0)]) (fun j => if j = h.toNat then ((hcL (ixU u) (u.on.take k) [] noE).1.length : Int) else (hcL (ixU u) (u.on.take k) [] noE).2 j)
 refine ⟨(hcL (ixU u) (u.on.take k) [] noE).1, t, by rw [ht]; simp, ?_⟩;rw [jnr (ixU u) h.toNat _ _ _ hd];exact if_pos rfl
theorem jxs (a : Int) (i : Ic) : (shI a i).1 = i.1 := by unfold shI; split <;> rfl
theorem jx0 (a x : Int) (i : Ic) : nxI (x + a) (shI a i) = (nxI x i).map (· + a) := by
 unfold nxI;rw [jxs]
 by_cases h1 : i.1 = 23
 ·rw [if_pos h1, if_pos h1]; rfl
 rw [if_neg h1, if_neg h1]
 by_cases h2 : i.1 = 15
 ·rw [if_pos h2, if_pos h2];unfold shI;rw [if_pos (.inl h2)]; rfl
 rw [if_neg h2, if_neg h2]
 by_cases h3 : i.1 = 16
 ·rw [if_pos h3, if_pos h3];unfold shI;rw [if_pos (.inr h3)];simp only [List.map_cons, List.map_nil];rw [show x + a + 1 = x + 1 + a by omega]
 rw [if_neg h3, if_neg h3];simp only [List.map_cons, List.map_nil];rw [show x + a + 1 = x + 1 + a by omega]
structure Sub8 (code sub : List Ic) (a : Nat) : Prop where
 sp : ∃ c1 t, c1.length = a /\ code = c1 ++ sub.map (shI a) ++ t
 cl : ∀ x : Int, 0 <= x -> x < sub.length -> ∀ k ∈ sc sub x, 0 <= k /\ k < sub.length
theorem Sub8.at {code sub : List Ic} {a : Nat} (h : Sub8 code sub a) {x : Int} (h1 : 0 <= x) (h2 : x < sub.length) : code.getD (x + a).toNat (0, 0) = shI a (sub.getD x.toNat (0, 0)) := by
 obtain ⟨c1, t, hl, rfl⟩ := h.sp
 have hx : x.toNat < sub.length := by omega
 have hx2 : x.toNat < (sub.map (shI a)).length := by rw [List.length_map]; exact hx
 rw [List.getD_eq_getElem?_getD, List.getD_eq_getElem?_getD, List.append_assoc, List.getElem?_append_right (by omega), show (x + (a : Int)).toNat - c1.length = x.toNat by omega, List.getElem?_append_left hx2, List.getElem?_map, List.getElem?_eq_getElem hx];rfl
theorem Sub8.le {code sub : List Ic} {a : Nat} (h : Sub8 code sub a) : a + sub.length <= code.length := by
 obtain ⟨c1, t, hl, rfl⟩ := h.sp
 rw [List.length_append, List.length_append, List.length_map]; omega
theorem Sub8.rch {code sub : List Ic} {a : Nat} (h : Sub8 code sub a) {x : Int} (hs : 0 < sub.length) (hr : Rch sub 0 x) : (0 <= x /\ x < sub.length) /\ Rch code a (x + a) := by
 have hle := h.le
 induction hr with
 | here => exact ⟨⟨by omega, by omega⟩, by rw [Int.zero_add]; exact .here⟩
 | next h1 hk hn ih =>
  obtain ⟨⟨i1, i2⟩, i3⟩ := ih
  have hc := h.cl _ i1 i2 _ hk
  refine ⟨hc, .next i3 ?_ (by omega)⟩;unfold sc;rw [h.at i1 i2, jx0];exact List.mem_map.2 ⟨_, hk, rfl⟩
theorem Sub8.good {code sub : List Ic} {a : Nat} (h : Sub8 code sub a) (hs : 0 < sub.length) {D : Int -> Int} (hD : Good code a D) : Good sub 0 fun x => D (x + a) := by
 have hle := h.le
 have hop : ∀ x, Rch sub 0 x -> opI code (x + a) = opI sub x := fun x hx => by
  obtain ⟨⟨i1, i2⟩, -⟩ := h.rch hs hx
  unfold opI;rw [h.at i1 i2, jxs]
 refine ⟨⟨?_, fun x hx => ?_, fun x hx k hk hn => ?_⟩, fun x hx => ?_⟩
 ·show D (0 + (a : Int)) = 0
  rw [Int.zero_add]; exact hD.1.st
 ·have := hD.1.po _ (h.rch hs hx).2
  rw [hop x hx] at this;exact this
 ·obtain ⟨⟨i1, i2⟩, i3⟩ := h.rch hs hx
  have hm : k + (a : Int) ∈ sc code (x + a) := by
   unfold sc;rw [h.at i1 i2, jx0];exact List.mem_map.2 ⟨_, hk, rfl⟩
  have := hD.1.nx _ i3 _ hm (by omega)
  unfold lv at this ⊢;rw [hop x hx] at this;exact this
 ·have := hD.2 _ (h.rch hs hx).2
  unfold lv at this ⊢;rw [hop x hx] at this;exact this
theorem Sub8.fol {code sub : List Ic} {a : Nat} (h : Sub8 code sub a) (hs : 0 < sub.length) (hj : jiH code) (hj2 : jiH sub) (hf : jbb code a = 0) : jbb sub 0 = 0 := by
 have hle := h.le
 have h1 := ji8 hj (x := (a : Int)) ⟨by omega, by omega⟩
 rw [hf] at h1
 have h2 := ji8 hj2 (x := 0) ⟨by omega, by omega⟩
 obtain ⟨D, hD⟩ : ∃ D, Good code a D := by
  rcases h1 with ⟨h, _⟩ | ⟨_, h | ⟨h, _⟩⟩
  ·cases h
  ·exact h.2
  ·cases h
 rcases h2 with ⟨_, x, hx, k, hk, hn⟩ | ⟨_, h3 | ⟨_, h3⟩⟩
 ·obtain ⟨⟨i1, i2⟩, -⟩ := h.rch hs hx
  have := h.cl x i1 i2 k hk
  omega
 ·exact h3.1
 ·exact absurd ⟨_, h.good hs hD⟩ h3
theorem ju2 (ix : ByteArray -> Int) (b : Nt) (c1 t : List Ic) : Sub8 (c1 ++ (jal ix b c1.length ++ [(23, 0)]) ++ t) (jal ix b 0 ++ [(23, 0)]) c1.length := by
 refine ⟨⟨c1, t, rfl, ?_⟩, fun x h1 h2 k hk => ?_⟩
 ·have := jnj ix b 0 c1.length
  rw [Int.zero_add] at this;rw [this, List.map_append, List.map_singleton];unfold shI;rfl
 ·rw [List.length_append, List.length_singleton] at h2 ⊢
  by_cases hx : x.toNat < (jal ix b 0).length
  ·have hg : (jal ix b 0 ++ [((23 : Int), (0 : Int))]).getD x.toNat (0, 0) = (jal ix b 0)[x.toNat] := by
    rw [List.getD_eq_getElem?_getD, List.getElem?_append_left hx, List.getElem?_eq_getElem hx]; rfl
   unfold sc at hk;rw [hg] at hk
   have hin := jiV ix b 0 _ (List.getElem_mem hx)
   generalize (jal ix b 0)[x.toNat] = i at hk hin;unfold nxI at hk
   by_cases h23 : i.1 = 23
   ·rw [if_pos h23] at hk; cases hk
   rw [if_neg h23] at hk
   by_cases h15 : i.1 = 15
   ·rw [if_pos h15, List.mem_singleton] at hk
    have := hin (.inl h15)
    omega
   rw [if_neg h15] at hk
   by_cases h16 : i.1 = 16
   ·rw [if_pos h16] at hk;simp only [List.mem_cons, List.not_mem_nil, or_false] at hk
    have := hin (.inr h16)
    omega
   rw [if_neg h16, List.mem_singleton] at hk;omega
  ·have hg : (jal ix b 0 ++ [((23 : Int), (0 : Int))]).getD x.toNat (0, 0) = (23, 0) := by
    rw [List.getD_eq_getElem?_getD, List.getElem?_append_right (by omega), show x.toNat - (jal ix b 0).length = 0 by omega]; rfl
   unfold sc nxI at hk;rw [hg, if_pos rfl] at hk
   cases hk
theorem ji5 (code : List Ic) (e : Nat -> Int) : ∀ (m j : Nat), (∀ i, jbb code (e i) = 0) -> jhz code e j m = 0
 | 0, j, h => rfl
 | m + 1, j, h => by
  unfold jhz;rw [if_neg (by simp [h j])];exact ji5 code e m (j + 1) h
theorem jkf (code : List Ic) (e : Nat -> Int) : ∀ (m j : Nat), jhz code e j m = 0 -> ∀ i, j <= i -> i < j + m -> jbb code (e i) = 0
 | 0, j, h, i, h1, h2 => by omega
 | m + 1, j, h, i, h1, h2 => by
  unfold jhz at h
  by_cases h0 : jbb code (e j) = 0
  ·rw [if_neg (by simp [h0])] at h
   by_cases q : i = j
   ·rw [q]; exact h0
   ·exact jkf code e m (j + 1) h i (by omega) (by omega)
  ·rw [if_pos h0] at h; exact absurd h h0
def jv9 (u : Ut) (x : Int × Nt) : Ut := ⟨u.du, u.vo, [x]⟩
theorem jqI (u : Ut) (x : Int × Nt) : jhY (jv9 u x) = (jal (ixU u) x.2 0 ++ [(23, 0)], fun j => if j = x.1.toNat then 0 else -1) := by
 obtain ⟨h, b⟩ := x
 unfold jhY
 show hcL (ixU u) [(h, b)] [] noE = _
 unfold hcL hcL;rfl
theorem jva {u : Ut} {k : Nat} (hk : k < u.on.length) (hnn : ∀ p ∈ u.on, 0 <= p.1 /\ p.1 < 40) (hnd : u.on.Pairwise fun a b => a.1 ≠ b.1) (he : jpQ u = 0) : ∃ (c1 t : List Ic), (jhY u).1 = c1 ++ (jal (ixU u) (u.on[k]).2 c1.length ++ [(23, 0)]) ++ t /\ (jhY u).2 (u.on[k]).1.toNat = (c1.length : Int) /\ jpQ (jv9 u u.on[k]) = 0 := by
 obtain ⟨c1, t, h1, h2⟩ := jsp u k hk (fun p hp => (hnn p hp).1) hnd
 refine ⟨c1, t, h1, h2, ?_⟩
 have hsub := ju2 (ixU u) (u.on[k]).2 c1 t
 rw [<- h1] at hsub
 have hoc := jqI u u.on[k]
 have hok : ∀ i ∈ (jhY u).1, jrV i := jqd (ixU u) u.on [] noE fun i hi => by cases hi
 have hok2 : ∀ i ∈ (jhY (jv9 u u.on[k])).1, jrV i := jqd (ixU (jv9 u u.on[k])) _ [] noE fun i hi => by cases hi
 have hle := hsub.le
 unfold jpQ at he ⊢;rw [hoc] at hok2 ⊢
 simp only at hok2 ⊢
 by_cases hbig : 400 < (jhY u).1.length
 ·rw [if_pos hbig] at he; cases he
 rw [if_neg hbig] at he;rw [if_neg (by omega)]
 have hfk := jkf _ _ _ _ he (u.on[k]).1.toNat (by omega) (by have := hnn _ (List.getElem_mem hk); omega)
 rw [h2] at hfk
 have hf0 := hsub.fol (by rw [List.length_append, List.length_singleton]; omega) (fun i hi => (hok i hi).2) (fun i hi => (hok2 i hi).2) hfk
 refine ji5 _ _ _ _ fun i => ?_
 split
 ·exact hf0
 ·rfl
theorem jmj (v l k : Int) {K : A -> Prop} {n : Prop} (h : match (shL v l).find? (fun p => decide (k = p.1)) with | some p => K (shA p.2) | none => n) : jcB false (mkV (shP v l)) (mvA (shP v l)) (.int .i64 k) K n := by
 refine jaL _ _ ?_
 have e : jbx (shP v l) k = ((shL v l).find? fun p => decide (k = p.1)).map fun p => shA p.2 := by
  unfold jbx shP;rw [List.find?_map]
  show ((((shL v l).find? fun p => decide (k = p.1)).map _).map _) = _
  cases (shL v l).find? fun p => decide (k = p.1) <;> rfl
 rw [e]
 revert h
 cases (shL v l).find? fun p => decide (k = p.1) <;> exact id
theorem jx1 {v l : Int} {i : Ic} (h : okI v l i = true) : (1 <= i.1 /\ i.1 <= 23) /\ (i.1 = 15 ∨ i.1 = 16 -> 0 <= i.2) := by
 unfold okI at h
 rcases jaM ((shL v l).find? fun p => decide (i.1 = p.1)) with hf | ⟨p, hf⟩
 ·rw [hf] at h; cases h
 rw [hf] at h
 have hk := List.find?_some hf
 have hm := List.mem_of_find?_eq_some hf
 simp only [decide_eq_true_eq] at hk;simp only [Bool.and_eq_true, decide_eq_true_eq] at h
 obtain ⟨a, b⟩ := i
 simp only at hk h ⊢
 subst hk;unfold shL at hm;simp only [List.mem_cons, List.not_mem_nil, or_false] at hm
 rcases hm with rfl | rfl | rfl | rfl | rfl | rfl | rfl | rfl | rfl | rfl | rfl | rfl | rfl | rfl | rfl | rfl | rfl | rfl | rfl | rfl | rfl | rfl | rfl
 all_goals (simp only at h ⊢; omega)
theorem jn0 (p : Int -> Bool) (e : Nat -> Int) : ∀ (m j : Nat), jmZ p e j m = true -> ∀ i, j <= i -> i < j + m -> p (e i) = true
 | 0, j, h, i, h1, h2 => by omega
 | m + 1, j, h, i, h1, h2 => by
  unfold jmZ at h;rw [Bool.and_eq_true] at h
  by_cases q : i = j
  ·rw [q]; exact h.1
  ·exact jn0 p e m (j + 1) h.2 i (by omega) (by omega)
theorem jmR (code : List Ic) (e : Nat -> Int) (du vo : Int) (hl : code.length <= 1000000) : Spec Tryz.prog 25 [] [pgA code e du vo] fun _ r => r = intA (jy4 code e du vo) := by
 obtain ⟨R, hR⟩ : ∃ R, jy4 code e du vo = R := ⟨_, rfl⟩
 rw [hR];unfold jy4 at hR;refine ja8 (ja4 jb4 xs0 0) (fun _ _ h => h) Tryz.func25 rfl (by kernel_rfl) rfl (by kernel_rfl) ?_;intro _;conv => whnf
 by_cases h0 : 400 < code.length
 ·rw [decide_eq_true (show (400 : Int) < (code.length : Int) by omega)];rw [if_pos h0] at hR;conv => whnf
  rw [<- hR]; rfl
 rw [decide_eq_false (show ¬ (400 : Int) < (code.length : Int) by omega)];rw [if_neg h0] at hR;conv => whnf
 by_cases h1 : du < 0
 ·rw [decide_eq_true h1];rw [if_pos (.inl h1)] at hR;conv => whnf
  rw [<- hR]; rfl
 rw [decide_eq_false h1];conv => whnf
 by_cases h2 : vo < 0
 ·rw [decide_eq_true h2];rw [if_pos (.inr (.inl h2))] at hR;conv => whnf
  rw [<- hR]; rfl
 rw [decide_eq_false h2];conv => whnf
 by_cases h3 : 16 < du
 ·rw [decide_eq_true h3];rw [if_pos (.inr (.inr (.inl h3)))] at hR;conv => whnf
  rw [<- hR]; rfl
 rw [decide_eq_false h3];conv => whnf
 refine ⟨jam (by omega), ?_⟩;conv => whnf
 by_cases h4 : 16 - du < vo
 ·rw [decide_eq_true h4];rw [if_pos (.inr (.inr (.inr h4)))] at hR;conv => whnf
  rw [<- hR]; rfl
 rw [decide_eq_false h4];rw [if_neg (by omega)] at hR
 have hsh := jhl code e du vo (by omega) (by omega) hl
 conv => whnf
 refine jaw [] rfl (fun _ => hsh) ?_;rintro r rfl;conv => whnf
 refine ja5 [1, 3, 42, 43] ?_;conv => whnf
 refine jaj (fun j : Nat => [(44, .v (.int .i64 j))]) (fun _ => [pgL code e du vo]) (fun _ => []) (fun j => j <= code.length /\ (code.take j).all (okI (du + vo - 1) (code.length - 1)) = true) (fun j => code.length - j) 0 ?_ ⟨Nat.zero_le _, by rw [List.take_zero]; rfl⟩ ?_
 ·repeat' constructor
 rintro j ⟨hj, hall⟩;conv => whnf
 rcases Nat.lt_or_ge j code.length with hlt | hge
 ·have hrow : ja2 2 j (jcn code) = icA code[j] := jdC code j hlt
  have htk : (code.take (j + 1)).all (okI (du + vo - 1) (code.length - 1)) = okI (du + vo - 1) (code.length - 1) code[j] := by
   rw [List.take_succ_eq_append_getElem hlt, List.all_append, hall, Bool.true_and, List.all_cons, List.all_nil, Bool.and_true]
  have hcn : okI (du + vo - 1) (code.length - 1) code[j] = false -> R = 12 := fun hb => by
   have h5 : code.all (okI (du + vo - 1) (code.length - 1)) = false := by
    rw [List.all_eq_false];exact ⟨code[j], List.getElem_mem hlt, by rw [hb]; simp⟩
   rw [<- hR, if_pos h5]
  unfold okI at htk hcn;generalize code[j] = i at hrow htk hcn
  obtain ⟨op, n⟩ := i
  unfold icA at hrow
  simp only at hrow
  rw [decide_eq_true (show (j : Int) < (code.length : Int) by omega)];conv => whnf
  refine ⟨show (0 : Int) <= (j : Int) /\ (j : Int) < (code.length : Nat) from ⟨by omega, by omega⟩, ?_⟩;conv => whnf
  (generalize hrq : ja2 _ _ (jcn code) = rq; obtain rfl : rq = [intA op, intA n] := hrq.symm.trans (hrow); clear hrq; conv => whnf)
  refine jmj _ _ _ ?_
  rcases jaM ((shL (du + vo - 1) (code.length - 1)).find? fun p => decide (op = p.1)) with hf | ⟨⟨pk, po, pu, plo, phi⟩, hf⟩
  ·rw [hf] at hcn ⊢
   have hcn := hcn rfl
   conv => whnf
   rw [hcn]; rfl
  rw [hf] at htk hcn ⊢
  simp only at htk hcn
  conv => whnf
  by_cases hlo : n < plo
  ·rw [decide_eq_true hlo]
   have hcn := hcn (by rw [decide_eq_false (by omega)]; rfl)
   conv => whnf
   rw [hcn]; rfl
  rw [decide_eq_false hlo];conv => whnf
  by_cases hhi : phi < n
  ·rw [decide_eq_true hhi]
   have hcn := hcn (by rw [decide_eq_false (show ¬ n <= phi by omega), Bool.and_false])
   conv => whnf
   rw [hcn]; rfl
  rw [decide_eq_false hhi];conv => whnf
  refine ⟨show lo .i64 <= (j : Int) + 1 /\ (j : Int) + 1 <= hi .i64 from jam (by omega), ?_⟩;conv => whnf
  refine ⟨j + 1, ja1 [] ?_, ⟨show j + 1 <= code.length by omega, htk.trans (by rw [decide_eq_true (show plo <= n by omega), decide_eq_true (show n <= phi by omega)]; rfl)⟩, show code.length - (j + 1) < code.length - j by omega⟩;conv => whnf
  repeat' constructor
 rw [decide_eq_false (show ¬ (j : Int) < (code.length : Int) by omega)]
 have hall2 : code.all (okI (du + vo - 1) (code.length - 1)) = true := by
  have := hall
  rw [List.take_of_length_le hge] at this; exact this
 rw [hall2, if_neg (by decide)] at hR
 have hops := fun i hi => jx1 (List.all_eq_true.1 hall2 i hi)
 clear hall;conv => whnf
 refine ja5 [1, 73] ?_;conv => whnf
 refine jaj (fun j : Nat => [(74, .v (.int .i64 j))]) (fun _ => [pgL code e du vo]) (fun _ => []) (fun j => j <= 40 /\ jmZ (jlG code.length) e j (40 - j) = jmZ (jlG code.length) e 0 40) (fun j => 40 - j) 0 ?_ ⟨Nat.zero_le _, rfl⟩ ?_
 ·repeat' constructor
 clear hge hj j;rintro j ⟨hj, hall⟩;conv => whnf
 rcases Nat.lt_or_ge j 40 with hlt | hge
 ·rw [decide_eq_true (show (j : Int) < 40 by omega)]
  have hst : jmZ (jlG code.length) e j (40 - j) = (jlG code.length (e j) && jmZ (jlG code.length) e (j + 1) (40 - (j + 1))) := by
   rw [show 40 - j = (40 - (j + 1)) + 1 by omega]; rfl
  have hall' : jmZ (jlG code.length) e j (40 - j) = jmZ (jlG code.length) e 0 40 := hall
  conv => whnf
  refine ⟨⟨show (0 : Int) <= (j : Int) by omega, show (j : Int) < ((40 : Nat) : Int) by omega⟩, intA (e j), jnk e j hlt, ?_⟩;conv => whnf
  by_cases hlo : e j < -1
  ·rw [decide_eq_true hlo];rw [if_pos (by rw [<- hall', hst]; unfold jlG; rw [decide_eq_false (show ¬ -1 <= e j by omega)]; rfl)] at hR;conv => whnf
   rw [<- hR]; rfl
  rw [decide_eq_false hlo];conv => whnf
  by_cases hhi : (code.length : Int) <= e j
  ·rw [decide_eq_true hhi];rw [if_pos (by rw [<- hall', hst]; unfold jlG; rw [decide_eq_false (show ¬ e j < code.length by omega), Bool.and_false]; rfl)] at hR;conv => whnf
   rw [<- hR]; rfl
  rw [decide_eq_false hhi];conv => whnf
  refine ⟨show lo .i64 <= (j : Int) + 1 /\ (j : Int) + 1 <= hi .i64 from jam (by omega), ?_⟩;conv => whnf
  refine ⟨j + 1, ja1 [] ?_, ⟨show j + 1 <= 40 by omega, ?_⟩, show 40 - (j + 1) < 40 - j by omega⟩
  ·conv => whnf
   repeat' constructor
  ·show jmZ (jlG code.length) e (j + 1) (40 - (j + 1)) = _
   rw [<- hall', hst];unfold jlG;rw [decide_eq_true (show -1 <= e j by omega), decide_eq_true (show e j < code.length by omega)]; rfl
 obtain rfl : j = 40 := by omega
 have hall2 : jmZ (jlG code.length) e 0 40 = true := by
  have : jmZ (jlG code.length) e 40 (40 - 40) = jmZ (jlG code.length) e 0 40 := hall
  rw [<- this]; rfl
 rw [decide_eq_false (show ¬ ((40 : Nat) : Int) < 40 by omega)];rw [hall2, if_neg (by decide)] at hR
 have hent := jn0 _ _ _ _ hall2
 clear hall hge hj;conv => whnf
 refine ja5 [1, 88] ?_;conv => whnf
 refine jaj (fun x : Nat × Int => [(10, intA x.2), (89, .v (.int .i64 x.1))]) (fun _ => [pgL code e du vo]) (fun _ => []) (fun x => x.1 <= 40 /\ jy3 code e x.1 (40 - x.1) x.2 = R) (fun x => 40 - x.1) (0, 0) ?_ ⟨Nat.zero_le _, hR⟩ ?_
 ·repeat' constructor
 rintro ⟨j, q⟩ ⟨hj, hv⟩
 simp only at hj hv
 conv => whnf
 rcases Nat.lt_or_ge j 40 with hlt | hge
 ·rw [decide_eq_true (show (j : Int) < 40 by omega)];rw [show 40 - j = (40 - (j + 1)) + 1 by omega] at hv;unfold jy3 at hv
  have hq := hent j (by omega) (by omega)
  unfold jlG at hq;rw [Bool.and_eq_true, decide_eq_true_eq, decide_eq_true_eq] at hq
  have hfo := jgN code e du vo (e j) (by omega) (by omega) hl (fun i hi => (hops i hi).2) (fun i hi => (hops i hi).1) hq.2
  conv => whnf
  refine ⟨⟨show (0 : Int) <= (j : Int) by omega, show (j : Int) < ((40 : Nat) : Int) by omega⟩, intA (e j), jnk e j hlt, ?_⟩;conv => whnf
  refine jaw [] rfl (fun _ => hfo) ?_;rintro r rfl;generalize jbb code (e j) = f at hv;conv => whnf
  by_cases h12 : f = 12
  ·rw [decide_eq_true h12];rw [if_pos h12] at hv;conv => whnf
   rw [<- hv, <- h12]; rfl
  rw [decide_eq_false h12];rw [if_neg h12] at hv;conv => whnf
  by_cases h13 : f = 13
  ·rw [decide_eq_true h13];rw [if_pos h13] at hv;conv => whnf
   refine ⟨show lo .i64 <= (j : Int) + 1 /\ (j : Int) + 1 <= hi .i64 from jam (by omega), ?_⟩;conv => whnf
   refine ⟨(j + 1, 13), ja1 [] ?_, ⟨show j + 1 <= 40 by omega, hv⟩, show 40 - (j + 1) < 40 - j by omega⟩;conv => whnf
   repeat' constructor
   rw [h13]
  rw [decide_eq_false h13];rw [if_neg h13] at hv;conv => whnf
  refine ⟨show lo .i64 <= (j : Int) + 1 /\ (j : Int) + 1 <= hi .i64 from jam (by omega), ?_⟩;conv => whnf
  refine ⟨(j + 1, q), ja1 [] ?_, ⟨show j + 1 <= 40 by omega, hv⟩, show 40 - (j + 1) < 40 - j by omega⟩;conv => whnf
  repeat' constructor
 obtain rfl : j = 40 := by omega
 rw [decide_eq_false (show ¬ ((40 : Nat) : Int) < 40 by omega)];conv => whnf
 rw [<- hv]; rfl
theorem jwj (s : ByteArray) (hs : s.size <= 1000000000) (u : Ut) (hp : jmQ s = .ok u) (hz : szH u.on <= 900000) (hc : jee (toU u) = 0) : Spec Tryz.prog 21 [] [jbn s] fun _ r => r = juu u := by
 have h1 := joZ s hs
 rw [hp] at h1;unfold jvd at h1
 simp only at h1
 have hu := jvL hp
 have h2 := ju4 u hu
 rw [hc] at h2
 have h3 := jdp u hu hz
 unfold juu at h3 ⊢;refine ja8 (ja4 jb4 xs0 0) (fun _ _ h => h) Tryz.func21 rfl (by kernel_rfl) rfl (by kernel_rfl) ?_;intro _;conv => whnf
 (refine jaw [] rfl (fun _ => h1) ?_; rintro r rfl; conv => whnf)
 (refine jaw [] rfl (fun _ => h2) ?_; rintro r rfl; conv => whnf)
 by_cases he : jpQ u = 0
 ·rw [if_pos he] at h3 ⊢
  (refine jaw [] rfl (fun _ => h3) ?_; rintro r rfl; conv => whnf)
  rfl
 ·rw [if_neg he] at h3 ⊢
  (refine jaw [] rfl (fun _ => h3) ?_; rintro r rfl; conv => whnf)
  rfl
def exS : ByteArray := ⟨#[100, 117, 114, 97, 98, 108, 101, 32, 120, 59, 32, 111, 110, 32, 115, 116, 97, 114, 116, 32, 123, 32, 120, 32, 61, 32, 49, 32, 43, 32, 50, 59, 32, 125]⟩
def exX : ByteArray := ⟨#[120]⟩
def exU : Ut := ⟨[exX], [], [(0, .mk 11 0 eB [.mk 1 0 exX [.mk 18 0 jge [jzl 1, jzl 2]]])]⟩
def exI : List Ic := [(1, 1), (1, 2), (6, 0), (3, 0), (23, 0)]
def exE : Nat -> Int := fun j => if j = 0 then 0 else -1
theorem jwy : jmQ exS = .ok exU := by kernel_rfl
theorem juB : jee (toU exU) = 0 := by kernel_rfl
theorem juC : jhY exU = (exI, exE) := by kernel_rfl
theorem juD : jpQ exU = 0 := by kernel_rfl
theorem jwz : jy4 exI exE 1 0 = 0 := by kernel_rfl
theorem jsj : Spec Tryz.prog 21 [] [jbn exS] fun _ r => r = .tup [pgA exI exE 1 0, intA 0] := by
 have h := jwj exS (by decide) exU jwy (by decide) juB
 unfold juu at h;rw [juD, juC, if_pos rfl] at h;exact h
def e2 (j : Nat) : Nat -> Int := fun i => if 1 <= i /\ i < j then -1 else 0
theorem joM : Spec Tryz.prog 17 [] [] fun _ r => r = jcm true := by
 have h1 := jsj
 have h2 := jra exI exE 1 0 (by decide)
 have h3 := jmR exI exE 1 0 (by decide)
 rw [jwz] at h3
 have hpe : pgE exE 1 0 = pgE (e2 40) 1 0 := jvf (fun i hi => by
  unfold exE e2
  by_cases h : i = 0
  ·rw [if_pos h, if_neg (by omega)]
  ·rw [if_neg h, if_pos (by omega)]) 1 0
 have hpa : pgA exI exE 1 0 = pgA exI (e2 40) 1 0 := by unfold pgA pgL; rw [hpe]
 rw [show [pgA exI exE 1 0, pgA exI exE 1 0] = [pgA exI exE 1 0, pgA exI (e2 40) 1 0] by rw [<- hpa]] at h2;clear hpe hpa;refine ja8 (ja4 jb4 xs0 0) (fun _ _ h => h) Tryz.func17 rfl (by kernel_rfl) rfl (by kernel_rfl) ?_;intro _;conv => whnf
 (refine jaw [] rfl (fun _ => h1) ?_; rintro r rfl; conv => whnf)
 refine jbg [0] ?_;conv => whnf
 refine ja5 [1, 2, 3] ?_;conv => whnf
 refine jaj (fun j : Nat => [(4, .v (.int .i64 j))]) (fun j => [pgL exI exE 1 0, pgL exI (e2 j) 1 0]) (fun _ => []) (fun j => 1 <= j /\ j <= 40) (fun j => 40 - j) 1 ?_ ⟨by omega, by omega⟩ ?_
 ·repeat' constructor
  unfold jcn;rfl
 rintro j ⟨hj1, hj⟩;conv => whnf
 rcases Nat.lt_or_ge j 40 with hlt | hge
 ·rw [decide_eq_true (show (j : Int) < 40 by omega)];conv => whnf
  refine ⟨show (0 : Int) <= (j : Int) /\ (j : Int) < ((40 : Nat) : Int) from ⟨by omega, by omega⟩, ?_⟩;conv => whnf
  refine jjx (.sl 2 5 (jcn exI)) (e2 j) (e2 (j + 1)) 1 0 (-1) j hlt (fun i hi => ?_) ?_
  ·unfold e2
   by_cases h : i = j
   ·rw [if_pos h, if_pos (by omega)]
   ·rw [if_neg h]
    by_cases h2 : 1 <= i /\ i < j
    ·rw [if_pos h2, if_pos (by omega)]
    ·rw [if_neg h2, if_neg (by omega)]
  conv => whnf
  refine ⟨show lo .i64 <= (j : Int) + 1 /\ (j : Int) + 1 <= hi .i64 from jam (by omega), ?_⟩;conv => whnf
  refine ⟨j + 1, ja1 [] ?_, ⟨show 1 <= j + 1 by omega, show j + 1 <= 40 by omega⟩, show 40 - (j + 1) < 40 - j by omega⟩;conv => whnf
  repeat' constructor
 rw [decide_eq_false (show ¬ (j : Int) < 40 by omega)]
 obtain rfl : j = 40 := by omega
 conv => whnf
 (refine jaw [] rfl (fun _ => h2) ?_; rintro r rfl; conv => whnf)
 (refine jaw [] rfl (fun _ => h3) ?_; rintro r rfl; conv => whnf)
 rfl
theorem jpV (c0 : A) (e : Nat -> Int) (du vo : Int) (j : Nat) (hj : j < 40) : (c0 :: pgE e du vo).drop (1 + j * 1) = intA (e j) :: (c0 :: pgE e du vo).drop (j + 2) := by
 have hlen : (enL e).length = 40 := by unfold enL; rw [List.length_map, List.length_range]
 have hl : j < (enL e).length := by rw [hlen]; exact hj
 rw [show 1 + j * 1 = j + 1 by omega, List.drop_succ_cons, show j + 2 = (j + 1) + 1 by omega, List.drop_succ_cons, jh5];rw [List.drop_eq_getElem_cons (by rw [List.length_append]; omega), List.getElem_append_left hl]
 have h0 := jnk e j hj
 rw [Int.toNat_natCast, Nat.mul_one, List.getElem?_eq_getElem hl] at h0;rw [Option.some.inj h0]
theorem juI (l : List (Int × Nt)) (k : Nat) (hk : k < l.length) : ((jgT l).drop (k * 5)).take (1 * 5) = jgT [l[k]] := by
 have h := jhe l k hk
 unfold ja2 at h;rw [Nat.one_mul, h];unfold jgT;rw [List.flatMap_cons, List.flatMap_nil, List.append_nil]
theorem jpx {h : Int} (h1 : 0 <= h /\ h < 40) : jdm h 40 = h := by
 unfold jdm jrO;rw [if_neg (by omega), Int.tmod_eq_emod_of_nonneg h1.1];omega
set_option maxHeartbeats 4000000 in
theorem modular_spec (l : List Int) (which : Int) : Spec Tryz.prog 9 [] [.sl 1 l.length (jbE l), intA which] fun _ r => r = jcm true := by
 obtain ⟨u, ⟨hgu, -⟩, hprog⟩ := jwF l
 obtain ⟨hu, hz, hsz⟩ := jyy hgu
 have hcmp := jdp u hu hz
 have hchk := ju4 u hu
 have hlv := joM
 have hol := hu.ol
 generalize jee (toU u) = C at hchk;unfold juu at hcmp
 by_cases he : jpQ u = 0
 rotate_left
 ·rw [if_neg he] at hcmp;generalize jpQ u = E at he hcmp;refine ja8 (ja4 jzn xs0 0) (fun _ _ h => h) Tryz.func9 rfl (by kernel_rfl) rfl (by kernel_rfl) ?_;intro hok;conv => whnf
  refine jaw [] rfl (fun _ => hprog) ?_;rintro r rfl;conv => whnf
  refine jaw [] rfl (fun _ => hcmp) ?_;rintro r rfl;conv => whnf
  refine jaw [] rfl (fun _ => hchk) ?_;rintro r rfl;conv => whnf
  by_cases hC : C = 0
  ·rw [decide_eq_true hC];conv => whnf
   rw [decide_eq_false he];conv => whnf
   (refine jaw [] rfl (fun _ => hlv) ?_; rintro r rfl; conv => whnf)
   rfl
  ·rw [decide_eq_false hC];conv => whnf
   (refine jaw [] rfl (fun _ => hlv) ?_; rintro r rfl; conv => whnf)
   rfl
 rw [if_pos he] at hcmp
 obtain ⟨code, hcode⟩ : ∃ code, (jhY u).1 = code := ⟨_, rfl⟩
 obtain ⟨e, hee⟩ : ∃ e, (jhY u).2 = e := ⟨_, rfl⟩
 rw [hcode, hee] at hcmp
 have hone := fun k hk => jva (k := k) hk (fun p hp => ⟨(hu.on p hp).1, (hu.on p hp).2.1⟩) hu.nd he
 rw [hcode, hee] at hone
 have hbig : code.length <= 400 := by
  unfold jpQ at he;rw [hcode] at he
  by_cases h : 400 < code.length
  ·rw [if_pos h] at he; cases he
  ·omega
 refine ja8 (ja4 jzn xs0 0) (fun _ _ h => h) Tryz.func9 rfl (by kernel_rfl) rfl (by kernel_rfl) ?_;intro hok;conv => whnf
 refine jaw [] rfl (fun _ => hprog) ?_;rintro r rfl;conv => whnf
 refine jaw [] rfl (fun _ => hcmp) ?_;rintro r rfl;conv => whnf
 refine jaw [] rfl (fun _ => hchk) ?_;rintro r rfl;conv => whnf
 by_cases hC : C = 0
 rotate_left
 ·rw [decide_eq_false hC];conv => whnf
  (refine jaw [] rfl (fun _ => hlv) ?_; rintro r rfl; conv => whnf)
  rfl
 rw [decide_eq_true hC];conv => whnf
 by_cases hon : u.on.length = 0
 ·rw [decide_eq_true (show (u.on.length : Int) = 0 by omega)];conv => whnf
  (refine jaw [] rfl (fun _ => hlv) ?_; rintro r rfl; conv => whnf)
  rfl
 rw [decide_eq_false (show ¬ (u.on.length : Int) = 0 by omega)]
 have a1 := jel which u.on.length ⟨by omega, by omega⟩
 conv => whnf
 refine jaw [] rfl (fun _ => a1) ?_;rintro r ⟨hi1, rfl⟩
 have hz1 := jgB hi1 (m := u.on.length) (by omega)
 generalize jdm which u.on.length = z1 at *
 obtain ⟨k, rfl⟩ : ∃ k : Nat, z1 = k := ⟨z1.toNat, by omega⟩
 have hk : k < u.on.length := by omega
 obtain ⟨c1, t, q1, q2, q3⟩ := hone k hk
 have hrow : ja2 5 k (jgT u.on) = hnA u.on[k] := jhe u.on k hk
 have hsl := juI u.on k hk
 have honk := hu.on _ (List.getElem_mem hk)
 have hzk := hsz _ (List.getElem_mem hk)
 generalize u.on[k] = x at *
 obtain ⟨h, b⟩ := x
 simp only at q1 q2 honk hzk
 obtain ⟨o1, o2, o3⟩ := honk
 have hw2 : WfU (jv9 u (h, b)) := ⟨hu.du, fun y hy => by rw [List.mem_singleton.1 hy]; exact ⟨o1, o2, o3⟩, List.pairwise_singleton _ _, by show 1 <= 4000; decide⟩
 have hcmp2 := jdp (jv9 u (h, b)) hw2 (by show szN b + 1 + 0 <= 900000; omega)
 unfold juu at hcmp2;rw [q3, if_pos rfl, jqI] at hcmp2
 have hsub := ju2 (ixU u) b c1 t
 rw [<- q1] at hsub
 simp only at hcmp2
 obtain ⟨sub, hs⟩ : ∃ sub, jal (ixU u) b 0 ++ [((23 : Int), (0 : Int))] = sub := ⟨_, rfl⟩
 rw [hs] at hsub hcmp2
 have hspos : 0 < sub.length := by rw [<- hs, List.length_append, List.length_singleton]; omega
 have hle := hsub.le
 have hat := fun (i : Nat) (hi : i < sub.length) => hsub.at (x := (i : Int)) (by omega) (by omega)
 have hin : ∀ i ∈ sub, i.1 = 15 ∨ i.1 = 16 -> 0 <= i.2 /\ i.2 <= 400 := fun i hi hj => by
  rw [<- hs] at hi hle;rw [List.length_append, List.length_singleton] at hle
  rcases List.mem_append.1 hi with hi | hi
  ·have := jiV (ixU u) b 0 i hi hj; omega
  ·rw [List.mem_singleton.1 hi] at hj; simp at hj
 clear hsub hs q3 hw2 hone hcode
 have a2 := jel h 40 (by decide)
 rw [jpx ⟨o1, o2⟩] at a2;unfold hnA at hrow
 simp only at hrow
 conv => whnf
 refine ⟨show (0 : Int) <= (k : Int) /\ (k : Int) < (u.on.length : Nat) from ⟨by omega, by omega⟩, ?_⟩;conv => whnf
 (generalize hrq : ja2 _ _ (jgT u.on) = rq; obtain rfl : rq = intA h :: ntA b := hrq.symm.trans (hrow); clear hrq; conv => whnf)
 refine jaw [] rfl (fun _ => a2) ?_;rintro r ⟨_, rfl⟩;conv => whnf
 refine ⟨show lo .i64 <= (k : Int) + 1 /\ (k : Int) + 1 <= hi .i64 from jam (by omega), ?_⟩;conv => whnf
 refine ⟨show (0 : Int) <= (k : Int) /\ (k : Int) <= (k : Int) + 1 /\ (k : Int) + 1 <= (u.on.length : Int) from ⟨by omega, by omega, by omega⟩, ?_⟩
 have e1 : ((k : Int) + 1).toNat - (k : Int).toNat = 1 := by omega
 have e2 : List.take (1 * 5) (List.drop ((k : Int).toNat * 5) (jgT u.on)) = jgT [(h, b)] := by rw [Int.toNat_natCast]; exact hsl
 rw [e1, e2];conv => whnf
 refine jaw [] rfl (fun _ => hcmp2) ?_;rintro r rfl;conv => whnf
 have hh40 : (0 : Int) <= h /\ h < ((40 : Nat) : Int) := ⟨o1, by omega⟩
 refine ⟨hh40, ?_⟩;conv => whnf
 generalize hrq : List.drop _ _ = rq
 obtain rfl : rq = intA (c1.length : Int) :: (A.sl 2 code.length (jcn code) :: pgE e u.du.length u.vo.length).drop (h.toNat + 2) := hrq.symm.trans ((jpV _ e _ _ h.toNat (by omega)).trans (by rw [q2]; rfl))
 clear hrq;conv => whnf
 rw [decide_eq_false (show ¬ (c1.length : Int) < 0 by omega)];conv => whnf
 refine ⟨jam (by omega), ?_⟩;conv => whnf
 rw [decide_eq_false (show ¬ (code.length : Int) < (c1.length : Int) + (sub.length : Int) by omega)];conv => whnf
 refine ⟨hh40, ?_⟩;conv => whnf
 generalize hrq : List.drop _ _ = rq
 obtain rfl : rq = intA 0 :: (A.sl 2 sub.length (jcn sub) :: pgE (fun j => if j = h.toNat then 0 else -1) u.du.length u.vo.length).drop (h.toNat + 2) := hrq.symm.trans ((jpV _ (fun j => if j = h.toNat then 0 else -1) _ _ h.toNat (by omega)).trans (by simp only [if_true]; rfl))
 clear hrq;conv => whnf
 refine ja5 [6, 11, 13] ?_;conv => whnf
 refine jaj (fun i : Nat => [(14, .v (.int .i64 i))]) (fun _ => [utA u, pgL code e u.du.length u.vo.length, utA (jv9 u (h, b)), pgL sub (fun j => if j = h.toNat then 0 else -1) u.du.length u.vo.length]) (fun _ => []) (fun i => i <= sub.length) (fun i => sub.length - i) 0 ?_ (Nat.zero_le _) ?_
 ·repeat' constructor
  done
 intro i hil;conv => whnf
 rcases Nat.lt_or_ge i sub.length with hlt | hge
 ·have hrow1 : ja2 2 i (jcn sub) = icA sub[i] := jdC sub i hlt
  have hlc : c1.length + i < code.length := by omega
  have hrow2 : ja2 2 ((c1.length : Int) + (i : Int)).toNat (jcn code) = icA (shI c1.length sub[i]) := by
   have hg := hat i hlt
   rw [Int.toNat_natCast, show ((i : Int) + (c1.length : Int)).toNat = c1.length + i by omega, List.getD_eq_getElem?_getD, List.getD_eq_getElem?_getD, List.getElem?_eq_getElem hlc, List.getElem?_eq_getElem hlt] at hg;rw [show ((c1.length : Int) + (i : Int)).toNat = c1.length + i by omega, jdC code _ hlc];exact congrArg icA hg
  have hini := hin _ (List.getElem_mem hlt)
  generalize sub[i] = p0 at hrow1 hrow2 hini
  obtain ⟨op, n⟩ := p0
  unfold shI at hrow2;unfold icA at hrow1 hrow2
  simp only at hrow1 hrow2 hini
  rw [decide_eq_true (show (i : Int) < (sub.length : Int) by omega)];conv => whnf
  refine ⟨show (0 : Int) <= (i : Int) /\ (i : Int) < (sub.length : Nat) from ⟨by omega, by omega⟩, ?_⟩;conv => whnf
  (generalize hrq : ja2 _ _ (jcn sub) = rq; obtain rfl : rq = [intA op, intA n] := hrq.symm.trans (hrow1); clear hrq; conv => whnf)
  by_cases h15 : op = 15
  ·have hb := hini (.inl h15)
   rw [if_pos (.inl h15)] at hrow2;rw [decide_eq_true h15];conv => whnf
   refine ⟨jam (by omega), ?_⟩;conv => whnf
   refine ⟨jam (by omega), ?_⟩;conv => whnf
   refine ⟨show (0 : Int) <= (c1.length : Int) + (i : Int) /\ (c1.length : Int) + (i : Int) < (code.length : Nat) from ⟨by omega, by omega⟩, ?_⟩;conv => whnf
   (generalize hrq : ja2 _ _ (jcn code) = rq; obtain rfl : rq = [intA op, intA (n + (c1.length : Int))] := hrq.symm.trans (hrow2); clear hrq; conv => whnf)
   refine ⟨by kernel_rfl, ?_⟩;conv => whnf
   generalize hq : (decide (op = op) && _) = bb
   obtain rfl : bb = true := by rw [<- hq]; simp
   clear hq;conv => whnf
   refine ⟨show lo .i64 <= (i : Int) + 1 /\ (i : Int) + 1 <= hi .i64 from jam (by omega), ?_⟩;conv => whnf
   refine ⟨i + 1, ja1 [] ?_, show i + 1 <= sub.length by omega, show sub.length - (i + 1) < sub.length - i by omega⟩;conv => whnf
   repeat' constructor
  rw [decide_eq_false h15];conv => whnf
  by_cases h16 : op = 16
  ·have hb := hini (.inr h16)
   rw [if_pos (.inr h16)] at hrow2;rw [decide_eq_true h16];conv => whnf
   refine ⟨jam (by omega), ?_⟩;conv => whnf
   refine ⟨jam (by omega), ?_⟩;conv => whnf
   refine ⟨show (0 : Int) <= (c1.length : Int) + (i : Int) /\ (c1.length : Int) + (i : Int) < (code.length : Nat) from ⟨by omega, by omega⟩, ?_⟩;conv => whnf
   (generalize hrq : ja2 _ _ (jcn code) = rq; obtain rfl : rq = [intA op, intA (n + (c1.length : Int))] := hrq.symm.trans (hrow2); clear hrq; conv => whnf)
   refine ⟨by kernel_rfl, ?_⟩;conv => whnf
   generalize hq : (decide (op = op) && _) = bb
   obtain rfl : bb = true := by rw [<- hq]; simp
   clear hq;conv => whnf
   refine ⟨show lo .i64 <= (i : Int) + 1 /\ (i : Int) + 1 <= hi .i64 from jam (by omega), ?_⟩;conv => whnf
   refine ⟨i + 1, ja1 [] ?_, show i + 1 <= sub.length by omega, show sub.length - (i + 1) < sub.length - i by omega⟩;conv => whnf
   repeat' constructor
  rw [decide_eq_false h16];rw [if_neg (by omega)] at hrow2;conv => whnf
  refine ⟨jam (by omega), ?_⟩;conv => whnf
  refine ⟨show (0 : Int) <= (c1.length : Int) + (i : Int) /\ (c1.length : Int) + (i : Int) < (code.length : Nat) from ⟨by omega, by omega⟩, ?_⟩;conv => whnf
  (generalize hrq : ja2 _ _ (jcn code) = rq; obtain rfl : rq = [intA op, intA (n)] := hrq.symm.trans (hrow2); clear hrq; conv => whnf)
  refine ⟨by kernel_rfl, ?_⟩;conv => whnf
  generalize hq : (decide (op = op) && _) = bb
  obtain rfl : bb = true := by rw [<- hq]; simp
  clear hq;conv => whnf
  refine ⟨show lo .i64 <= (i : Int) + 1 /\ (i : Int) + 1 <= hi .i64 from jam (by omega), ?_⟩;conv => whnf
  refine ⟨i + 1, ja1 [] ?_, show i + 1 <= sub.length by omega, show sub.length - (i + 1) < sub.length - i by omega⟩;conv => whnf
  repeat' constructor
 rw [decide_eq_false (show ¬ (i : Int) < (sub.length : Int) by omega)];conv => whnf
 (refine jaw [] rfl (fun _ => hlv) ?_; rintro r rfl; conv => whnf)
 rfl
end Go.Proofs.YtfbifdccmabdbaaGreatDoor.Vm
