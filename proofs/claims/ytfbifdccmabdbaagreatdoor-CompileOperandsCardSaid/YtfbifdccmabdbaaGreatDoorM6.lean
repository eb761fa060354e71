/- Texts 6 of the proof: C6, VmX, C7, C8, C9, C10, C19, C30, C18, C29, C31, C21, Ta, C32. -/
import Derived.Test.YtfbifdccmabdbaaGreatDoorM5
namespace Go.Proofs.YtfbifdccmabdbaaGreatDoor.Vm
open Go.RowKit Go.Shelf
set_option linter.unusedSimpArgs false
set_option linter.unusedVariables false
set_option maxRecDepth 100000
theorem jtf (s : ByteArray) (h : (builtL.any fun x => decide (s = x)) = true) : Spec Tryz.prog 122 [] [jdc s] fun _ r => r = intA (biF s) := by
 have h : s ∈ builtL := by
  rw [List.any_eq_true] at h
  obtain ⟨x, h1, h2⟩ := h
  rw [decide_eq_true_eq] at h2;rw [h2]; exact h1
 unfold builtL at h;simp only [List.mem_cons, List.not_mem_nil, or_false] at h
 rcases h with rfl | rfl | rfl | rfl | rfl | rfl | rfl | rfl | rfl
 all_goals
  refine ja7 (ja4 jaE xs0 0) (fun _ _ h => h) Tryz.func122 rfl (by kernel_rfl) rfl (by kernel_rfl) ?_;intro _;conv => whnf
  rfl
def jwN (ix : ByteArray -> Int) (k n : Int) (s : ByteArray) : Ic :=
 if k = 12 ∨ k = 13 then (1, n) else if k = 14 then (2, ix s) else if k = 15 then (4, biF s) else if k = 1 then (3, ix s)
 else if k = 4 then (17, n) else if k = 5 then (18, n) else if k = 6 then (19, n) else if k = 16 then (5, 0) else if k = 7 then (20, 0)
 else if k = 10 then (23, 0) else if k = 8 then (21, 0) else (22, 0)
def jfS (id : Nat) : Tr := match Nat.beq id 8 with | true => .q 0 3 (.q 1 3 (.q 2 3 (.q 3 3 (.q 5 3 (.q 6 0 (.alt 4 1 (.alt 7 1 (.alt 8 2 (.nil) (.nil)) (.nil)) (.nil))))))) | false => match Nat.beq id 12 with | true => .q 0 3 (.q 1 3 (.q 2 3 (.q 3 3 (.q 5 3 (.q 6 0 (.alt 4 1 (.alt 7 1 (.alt 8 2 (.nil) (.nil)) (.nil)) (.nil))))))) | false => .nil
theorem jpR (u : Ut) (hu : WfU u) (k n : Int) (s : ByteArray) (kids : List Nt) (hm : kids.length <= 3002) (hf : ∀ f ∈ kids, jeD u f) (hc : k = 12 ∨ k = 13 ∨ k = 14 ∨ k = 15 /\ (builtL.any fun x => decide (s = x)) = true ∨ k = 1 ∨ k = 4 ∨ k = 5 ∨ k = 6 ∨ k = 16 ∨ k = 7 ∨ k = 10 ∨ k = 8 ∨ k = 9) (l : List Ic) (hl : l.length + jjB kids + 1 <= 1000000) : je6 81 [cbx u] l [.box 0 0, .agg (ntA (.mk k n s kids))] fun o l' r => o = [cbx u] /\ l' = l ++ jg1 (jaz (ixU u) kids) l.length ++ [jwN (ixU u) k n s] /\ r = .tup [] := by
 have hk := jf5 u k n s kids hm hf l (by omega)
 simp only [ntA, Nt.k, Nt.n, Nt.s, Nt.kids] at hk
 have hz := jdI (u := u) kids l.length hf
 have hem := fun (l : List Ic) (op n : Int) (h : l.length <= 1000000) => jcb u l op n h
 have hix := jwY u hu s
 generalize jg1 (jaz (ixU u) kids) l.length = y at *
 have hly : (l ++ y).length <= 999999 := by rw [List.length_append]; omega
 generalize l ++ y = l3 at *
 rcases hc with rfl | rfl | rfl | ⟨rfl, hb⟩ | rfl | rfl | rfl | rfl | rfl | rfl | rfl | rfl | rfl
 ·simp only [ntA, Nt.k, Nt.n, Nt.s, Nt.kids];refine jab (ja4 jfS (fun _ => [0]) 1) (fun _ _ h => h) Tryz.func81 rfl (by kernel_rfl) rfl (by kernel_rfl) ?_;intro _;conv => whnf
  refine ja9 0 0 1 [] rfl rfl rfl rfl rfl rfl rfl (fun _ => hk) ?_;rintro o n' cs' r ⟨l2, rfl, rfl, ho, hl2, rfl⟩;cases ho;conv => whnf
  subst hl2;refine ja9 0 1 2 [] rfl rfl rfl rfl rfl rfl rfl (fun _ => hem l2 1 n (by omega)) ?_;rintro o n' cs' r ⟨l4, rfl, rfl, ho, hl4, rfl⟩;cases ho;conv => whnf
  refine ⟨2, ?_⟩;conv => whnf
  exact ⟨l4, rfl, rfl, rfl, by rw [hl4]; rfl, rfl⟩
 ·simp only [ntA, Nt.k, Nt.n, Nt.s, Nt.kids];refine jab (ja4 jfS (fun _ => [0]) 1) (fun _ _ h => h) Tryz.func81 rfl (by kernel_rfl) rfl (by kernel_rfl) ?_;intro _;conv => whnf
  refine ja9 0 0 1 [] rfl rfl rfl rfl rfl rfl rfl (fun _ => hk) ?_;rintro o n' cs' r ⟨l2, rfl, rfl, ho, hl2, rfl⟩;cases ho;conv => whnf
  subst hl2;refine ja9 0 1 2 [] rfl rfl rfl rfl rfl rfl rfl (fun _ => hem l2 1 n (by omega)) ?_;rintro o n' cs' r ⟨l4, rfl, rfl, ho, hl4, rfl⟩;cases ho;conv => whnf
  refine ⟨2, ?_⟩;conv => whnf
  exact ⟨l4, rfl, rfl, rfl, by rw [hl4]; rfl, rfl⟩
 ·simp only [ntA, Nt.k, Nt.n, Nt.s, Nt.kids];refine jab (ja4 jfS (fun _ => [0]) 1) (fun _ _ h => h) Tryz.func81 rfl (by kernel_rfl) rfl (by kernel_rfl) ?_;intro _;conv => whnf
  refine ja9 0 0 1 [] rfl rfl rfl rfl rfl rfl rfl (fun _ => hk) ?_;rintro o n' cs' r ⟨l2, rfl, rfl, ho, hl2, rfl⟩;cases ho;conv => whnf
  subst hl2
  (refine jah [] rfl (fun _ => hix) ?_; rintro r rfl; conv => whnf)
  refine ja9 0 1 2 [] rfl rfl rfl rfl rfl rfl rfl (fun _ => hem l2 2 (ixU u s) (by omega)) ?_;rintro o n' cs' r ⟨l4, rfl, rfl, ho, hl4, rfl⟩;cases ho;conv => whnf
  refine ⟨2, ?_⟩;conv => whnf
  exact ⟨l4, rfl, rfl, rfl, by rw [hl4]; rfl, rfl⟩
 ·have hbi := jtf s hb
  simp only [ntA, Nt.k, Nt.n, Nt.s, Nt.kids];refine jab (ja4 jfS (fun _ => [0]) 1) (fun _ _ h => h) Tryz.func81 rfl (by kernel_rfl) rfl (by kernel_rfl) ?_;intro _;conv => whnf
  refine ja9 0 0 1 [] rfl rfl rfl rfl rfl rfl rfl (fun _ => hk) ?_;rintro o n' cs' r ⟨l2, rfl, rfl, ho, hl2, rfl⟩;cases ho;conv => whnf
  subst hl2
  (refine jah [] rfl (fun _ => hbi) ?_; rintro r rfl; conv => whnf)
  refine ja9 0 1 2 [] rfl rfl rfl rfl rfl rfl rfl (fun _ => hem l2 4 (biF s) (by omega)) ?_;rintro o n' cs' r ⟨l4, rfl, rfl, ho, hl4, rfl⟩;cases ho;conv => whnf
  refine ⟨2, ?_⟩;conv => whnf
  exact ⟨l4, rfl, rfl, rfl, by rw [hl4]; rfl, rfl⟩
 ·simp only [ntA, Nt.k, Nt.n, Nt.s, Nt.kids];refine jab (ja4 jfS (fun _ => [0]) 1) (fun _ _ h => h) Tryz.func81 rfl (by kernel_rfl) rfl (by kernel_rfl) ?_;intro _;conv => whnf
  refine ja9 0 0 1 [] rfl rfl rfl rfl rfl rfl rfl (fun _ => hk) ?_;rintro o n' cs' r ⟨l2, rfl, rfl, ho, hl2, rfl⟩;cases ho;conv => whnf
  subst hl2
  (refine jah [] rfl (fun _ => hix) ?_; rintro r rfl; conv => whnf)
  refine ja9 0 1 2 [] rfl rfl rfl rfl rfl rfl rfl (fun _ => hem l2 3 (ixU u s) (by omega)) ?_;rintro o n' cs' r ⟨l4, rfl, rfl, ho, hl4, rfl⟩;cases ho;conv => whnf
  refine ⟨2, ?_⟩;conv => whnf
  exact ⟨l4, rfl, rfl, rfl, by rw [hl4]; rfl, rfl⟩
 ·simp only [ntA, Nt.k, Nt.n, Nt.s, Nt.kids];refine jab (ja4 jfS (fun _ => [0]) 1) (fun _ _ h => h) Tryz.func81 rfl (by kernel_rfl) rfl (by kernel_rfl) ?_;intro _;conv => whnf
  refine ja9 0 0 1 [] rfl rfl rfl rfl rfl rfl rfl (fun _ => hk) ?_;rintro o n' cs' r ⟨l2, rfl, rfl, ho, hl2, rfl⟩;cases ho;conv => whnf
  subst hl2;refine ja9 0 1 2 [] rfl rfl rfl rfl rfl rfl rfl (fun _ => hem l2 17 n (by omega)) ?_;rintro o n' cs' r ⟨l4, rfl, rfl, ho, hl4, rfl⟩;cases ho;conv => whnf
  refine ⟨2, ?_⟩;conv => whnf
  exact ⟨l4, rfl, rfl, rfl, by rw [hl4]; rfl, rfl⟩
 ·simp only [ntA, Nt.k, Nt.n, Nt.s, Nt.kids];refine jab (ja4 jfS (fun _ => [0]) 1) (fun _ _ h => h) Tryz.func81 rfl (by kernel_rfl) rfl (by kernel_rfl) ?_;intro _;conv => whnf
  refine ja9 0 0 1 [] rfl rfl rfl rfl rfl rfl rfl (fun _ => hk) ?_;rintro o n' cs' r ⟨l2, rfl, rfl, ho, hl2, rfl⟩;cases ho;conv => whnf
  subst hl2;refine ja9 0 1 2 [] rfl rfl rfl rfl rfl rfl rfl (fun _ => hem l2 18 n (by omega)) ?_;rintro o n' cs' r ⟨l4, rfl, rfl, ho, hl4, rfl⟩;cases ho;conv => whnf
  refine ⟨2, ?_⟩;conv => whnf
  exact ⟨l4, rfl, rfl, rfl, by rw [hl4]; rfl, rfl⟩
 ·simp only [ntA, Nt.k, Nt.n, Nt.s, Nt.kids];refine jab (ja4 jfS (fun _ => [0]) 1) (fun _ _ h => h) Tryz.func81 rfl (by kernel_rfl) rfl (by kernel_rfl) ?_;intro _;conv => whnf
  refine ja9 0 0 1 [] rfl rfl rfl rfl rfl rfl rfl (fun _ => hk) ?_;rintro o n' cs' r ⟨l2, rfl, rfl, ho, hl2, rfl⟩;cases ho;conv => whnf
  subst hl2;refine ja9 0 1 2 [] rfl rfl rfl rfl rfl rfl rfl (fun _ => hem l2 19 n (by omega)) ?_;rintro o n' cs' r ⟨l4, rfl, rfl, ho, hl4, rfl⟩;cases ho;conv => whnf
  refine ⟨2, ?_⟩;conv => whnf
  exact ⟨l4, rfl, rfl, rfl, by rw [hl4]; rfl, rfl⟩
 ·simp only [ntA, Nt.k, Nt.n, Nt.s, Nt.kids];refine jab (ja4 jfS (fun _ => [0]) 1) (fun _ _ h => h) Tryz.func81 rfl (by kernel_rfl) rfl (by kernel_rfl) ?_;intro _;conv => whnf
  refine ja9 0 0 1 [] rfl rfl rfl rfl rfl rfl rfl (fun _ => hk) ?_;rintro o n' cs' r ⟨l2, rfl, rfl, ho, hl2, rfl⟩;cases ho;conv => whnf
  subst hl2;refine ja9 0 1 3 [] rfl rfl rfl rfl rfl rfl rfl (fun _ => hem l2 5 0 (by omega)) ?_;rintro o n' cs' r ⟨l4, rfl, rfl, ho, hl4, rfl⟩;cases ho;conv => whnf
  refine ⟨3, ?_⟩;conv => whnf
  exact ⟨l4, rfl, rfl, rfl, by rw [hl4]; rfl, rfl⟩
 ·simp only [ntA, Nt.k, Nt.n, Nt.s, Nt.kids];refine jab (ja4 jfS (fun _ => [0]) 1) (fun _ _ h => h) Tryz.func81 rfl (by kernel_rfl) rfl (by kernel_rfl) ?_;intro _;conv => whnf
  refine ja9 0 0 1 [] rfl rfl rfl rfl rfl rfl rfl (fun _ => hk) ?_;rintro o n' cs' r ⟨l2, rfl, rfl, ho, hl2, rfl⟩;cases ho;conv => whnf
  subst hl2;refine ja9 0 1 3 [] rfl rfl rfl rfl rfl rfl rfl (fun _ => hem l2 20 0 (by omega)) ?_;rintro o n' cs' r ⟨l4, rfl, rfl, ho, hl4, rfl⟩;cases ho;conv => whnf
  refine ⟨3, ?_⟩;conv => whnf
  exact ⟨l4, rfl, rfl, rfl, by rw [hl4]; rfl, rfl⟩
 ·simp only [ntA, Nt.k, Nt.n, Nt.s, Nt.kids];refine jab (ja4 jfS (fun _ => [0]) 1) (fun _ _ h => h) Tryz.func81 rfl (by kernel_rfl) rfl (by kernel_rfl) ?_;intro _;conv => whnf
  refine ja9 0 0 1 [] rfl rfl rfl rfl rfl rfl rfl (fun _ => hk) ?_;rintro o n' cs' r ⟨l2, rfl, rfl, ho, hl2, rfl⟩;cases ho;conv => whnf
  subst hl2;refine ja9 0 1 3 [] rfl rfl rfl rfl rfl rfl rfl (fun _ => hem l2 23 0 (by omega)) ?_;rintro o n' cs' r ⟨l4, rfl, rfl, ho, hl4, rfl⟩;cases ho;conv => whnf
  refine ⟨3, ?_⟩;conv => whnf
  exact ⟨l4, rfl, rfl, rfl, by rw [hl4]; rfl, rfl⟩
 ·simp only [ntA, Nt.k, Nt.n, Nt.s, Nt.kids];refine jab (ja4 jfS (fun _ => [0]) 1) (fun _ _ h => h) Tryz.func81 rfl (by kernel_rfl) rfl (by kernel_rfl) ?_;intro _;conv => whnf
  refine ja9 0 0 1 [] rfl rfl rfl rfl rfl rfl rfl (fun _ => hk) ?_;rintro o n' cs' r ⟨l2, rfl, rfl, ho, hl2, rfl⟩;cases ho;conv => whnf
  subst hl2;refine ja9 0 1 3 [] rfl rfl rfl rfl rfl rfl rfl (fun _ => hem l2 21 0 (by omega)) ?_;rintro o n' cs' r ⟨l4, rfl, rfl, ho, hl4, rfl⟩;cases ho;conv => whnf
  refine ⟨3, ?_⟩;conv => whnf
  exact ⟨l4, rfl, rfl, rfl, by rw [hl4]; rfl, rfl⟩
 ·simp only [ntA, Nt.k, Nt.n, Nt.s, Nt.kids];refine jab (ja4 jfS (fun _ => [0]) 1) (fun _ _ h => h) Tryz.func81 rfl (by kernel_rfl) rfl (by kernel_rfl) ?_;intro _;conv => whnf
  refine ja9 0 0 1 [] rfl rfl rfl rfl rfl rfl rfl (fun _ => hk) ?_;rintro o n' cs' r ⟨l2, rfl, rfl, ho, hl2, rfl⟩;cases ho;conv => whnf
  subst hl2;refine ja9 0 1 3 [] rfl rfl rfl rfl rfl rfl rfl (fun _ => hem l2 22 0 (by omega)) ?_;rintro o n' cs' r ⟨l4, rfl, rfl, ho, hl4, rfl⟩;cases ho;conv => whnf
  refine ⟨3, ?_⟩;conv => whnf
  exact ⟨l4, rfl, rfl, rfl, by rw [hl4]; rfl, rfl⟩
end Go.Proofs.YtfbifdccmabdbaaGreatDoor.Vm
namespace Go.Proofs.YtfbifdccmabdbaaGreatDoor.Vm
open Go.RowKit
set_option linter.unusedSimpArgs false
set_option linter.unusedVariables false
section
structure jp8 (P : Program) (f : Nat) (ins : List (List A)) (e k n : Nat) (cs args : List A) (post : List (List A) -> Nat -> List A -> A -> Prop) : Prop where
 r : jlM P f ins e k n cs args post
 d : ∀ u, jnE (ClD P f u u) ins e k n cs args post fun _ => False
section
variable {c : Cx} {s : S}
theorem jjU {f : Nat} {fn : Func} {x : Code} {ins : List (List A)} {e k n : Nat} {cs args : List A} {post : List (List A) -> Nat -> List A -> A -> Prop} (hc : c.ok) (hq : ∀ ch s, ¬ c.pan ch s) (hf : c.P.funcs[f]? = some fn) (hb : fn.body = some x) (hname : (fn.name == "runtime.NumGoroutine") = false)
  (hn : ins.length = c.np) (hord : jbA c.ord x = true) (h : okL args -> jde args (fn.ntmps - args.length) fun t => awp c x ⟨t, ins, [.live e k n cs]⟩ (jyc c e k fn.results.toList post)) : jp8 c.P f ins e k n cs args post := by
 refine ⟨jab hc (fun ch s h => hq ch s h) hf hb hname hn hord h, fun u w C β vals y xs h0 h1 h2 h3 h4 h5 h6 h7 h8 h9 => ?_⟩;unfold ClD
 refine CallsD.mono (callsD_of_wp hf hb (R := fun e' w' => (∃ (outs : List (List A)) (n' : Nat) (cs' : List A) (r : A) (v y' : Value) (xs' : List Value) (C' : Rd), e' = .returned v /\ post outs n' cs' r /\ Keeps (β ++ (blk y).toList) w w' /\ Sub C C' /\ Sub C' (see w') /\ (∀ ad u, C' ad = some u -> C ad = some u ∨ w.heap.size <= ad.block ∨ blk y = some ad.block) /\ outs.length = β.length ∧
   (∀ (i b : Nat) (cs : List A), β[i]? = some b -> outs[i]? = some cs -> boxAt w' ⟨C', β, [y']⟩ b cs) /\ owR w' e k y' n' xs' /\ A.repC cs' ⟨C', [], []⟩ xs' /\ (∀ b, blk y' = some b -> (∀ o sp, C' ⟨b, o, sp⟩ = none) /\ (w.heap.size <= b ∨ blk y = some b)) /\ r.rep ⟨C', β, [y']⟩ v) ∨
   ∃ (ch : List PanicEntry) (ns : List Nat), e' = .panicked ch /\ False /\ Keeps (β ++ (blk y).toList) w w' /\ ns.length = β.length /\ ∀ (i b n : Nat), β[i]? = some b -> ns[i]? = some n -> boxAt w' ⟨C, β, []⟩ b (List.replicate n .dead)) ?_) fun e m w' hh => hh
 have hinit := initK_iff.1 (h (jbk _ h9))
 have hinit := jb0 hc hord hinit
 have hinv := jfD (nt := fn.ntmps) h0 h1 h2 h3 h4 h5 h6 h7 h8 h9
 unfold Ok OkD at hinit;refine hinit ⟨w, (blk y).toList⟩ C β _ w _ (by rw [<- h4, hn]) hinv (fun ch s' a' w' hpan hi => absurd hpan (hq ch s')) ?_
 have fin : ∀ (s' : S) (a' : Act) (w' : World), (∃ g, jtj c e k g fn.results.toList post s') -> Inv [] ⟨w, (blk y).toList⟩ C β s' a' w' -> _ := fun s' a' w' ⟨g, hr⟩ hi => jlH (w := w) (C := C) (β := β) (s' := s') (a' := a') (w' := w') (fn := fn) (post := post) (y := y) hc (by rw [<- h4, hn]) hr hi
 intro e1 s' a' w' hq hi
 cases e1 with
 | normal => obtain ⟨k1, v, k2, k3⟩ := fin s' a' w' hq hi; exact ⟨k1, v, k2, .inl k3⟩
 | ret => obtain ⟨k1, v, k2, k3⟩ := fin s' a' w' hq hi; exact ⟨k1, v, k2, .inl k3⟩
 | _ => exact hq.elim
@[irreducible] def jxv (P : Program) (f : Nat) (args : List A) (s : S) (K : S -> Prop) : Prop :=
 (∀ vs w, (callFunc f vs).run P w = .ok (.enter f vs) w) ∧
 ∃ (X ids : List Nat) (g e k n : Nat) (cs : List A) (ins : List (List A)) (args' : List A) (post : List (List A) -> Nat -> List A -> A -> Prop), X.Nodup /\ (∀ i ∈ X, i < s.bx.length) /\ (ja0 s.rw ids)[g]? = some (.live e k n cs) ∧
  jdo X g (ja0 s.rw ids) (X.map fun i => s.bx.getD i []) = some ins /\ jbj X g (ja0 s.rw ids) args = some args' /\ (okL args' -> jnE (ClD P f .returning .returning) ins e k n cs args' post fun _ => False) ∧
  ∀ outs n' cs' r, post outs n' cs' r -> outs.length = X.length -> jhl X s.rw.length s.bx X outs fun bx' => jbm (backG X s.rw.length r) fun r' => jax ((ja0 s.rw ids).set g .gone ++ [.live e k n' cs']) fun rw' => jbw s bx' rw' K
def jfU (c : Cx) (e k : Nat) (rv : List ResultVar) (post : List (List A) -> Nat -> List A -> A -> Prop) : List (Nat × List A) -> S -> Prop
 | [], s => ∃ g, jtj c e k g rv post s
 | (f, args) :: r, s => jxv c.P f args s fun s' => jfU c e k rv post r s'
theorem jie {w0 : W0} {C0 : Rd} {β0 : List Nat} {e k : Nat} {fn : Func} {post : List (List A) -> Nat -> List A -> A -> Prop} {R : Ending -> World -> Prop} {tmps : Array Value} (hfin : ∀ s' w', (∃ g, jtj c e k g fn.results.toList post s') -> Inv [] w0 C0 β0 s' { tmps := tmps, defers := [] } w' -> ∃ v, (results fn tmps).run c.P w' = .ok v w' /\ R (.returned v) w') :
  ∀ (dr : List (Nat × List A)) (ds : List Deferred) (s : S) (E : Env) (w : World), repD dr E ds -> Hp w0 C0 β0 s.bx s.rw w E -> A.repL s.t E tmps.toList -> jfU c e k fn.results.toList post dr s -> Leaves c.P fn tmps R ds .returning w
 | [], ds, s, E, w, hd, hp, ht, h => by
  obtain rfl : ds = [] := hd
  exact hfin s w h ⟨E, hp, ht, rfl⟩
 | (f, args) :: r, ds, s, E, w, ⟨d, ds', cap, hds, htg, hargs, hrest⟩, hp, ht, h => by
  subst hds;unfold jfU jxv at h
  obtain ⟨hcall, X, ids, g, e0, k0, n0, cs0, ins, args', post', hn, hX, hg, hins, hargs', hspec, hk⟩ := h
  obtain ⟨-, hcx⟩ := jnd (pan := fun _ _ => False) (Xr := fun _ => true) (K := fun _ s' => jfU c e k fn.results.toList post r s') (Cl := ClD c.P f .returning .returning) ClD.mono hp hargs rfl hn (fun _ _ => rfl) hX hg hins hargs' hspec (fun outs n' cs' r hp hl => hk outs n' cs' r hp hl) (fun ch bx' h _ _ => h.elim)
  obtain ⟨t, da⟩ := d
  simp only at htg hargs hcx
  subst htg;refine leaves_cons (f := f) (args := da ++ cap) (by simp) (by simp [invoke, hcall]) ?_
  have hcx' : CallsD c.P f (da ++ cap) .returning w fun e' m w' => m = .returning /\ ((∃ y, e' = .returned y /\ Left w0 C0 β0 (fun _ => true) s E w (fun _ s' => jfU c e k fn.results.toList post r s') y w') ∨ ∃ (ch : List PanicEntry) (s' : S) (E' : Env), e' = .panicked ch /\ False /\ s'.t = s.t /\ E.le E' /\ Hp w0 C0 β0 s'.bx s'.rw w' E') := hcx
  refine CallsD.mono hcx' ?_;rintro e' m w' ⟨rfl, ⟨y, rfl, ⟨⟨r0, s', E', h1, h2, h3, h4, h5, _⟩⟩⟩ | ⟨ch, s', E', _, h, _⟩⟩
  ·exact jie hfin r ds' s' E' w' (hrest.mono h3) h4 (by rw [h2]; exact A.repL.mono _ h3 ht) h1
  ·exact h.elim
theorem jli {f : Nat} {fn : Func} {x : Code} {ins : List (List A)} {e k n : Nat} {cs args : List A} {post : List (List A) -> Nat -> List A -> A -> Prop} (hc : c.ok) (hf : c.P.funcs[f]? = some fn) (hb : fn.body = some x) (hname : (fn.name == "runtime.NumGoroutine") = false)
  (hn : ins.length = c.np) (h : okL args -> jde args (fn.ntmps - args.length) fun t => OkT c.P c.np (fun _ _ _ => False) (fun dr ex s => (ex = .normal ∨ ex = .ret) /\ jfU c e k fn.results.toList post dr s) [] x ⟨t, ins, [.live e k n cs]⟩) : jlM c.P f ins e k n cs args post := by
 refine ⟨jdH hf hb hname, fun w C β vals y xs h0 h1 h2 h3 h4 h5 h6 h7 h8 h9 => ?_⟩;refine calls_of_wp_defers hf hb ?_
 have hinit := initK_iff.1 (h (jbk _ h9))
 have hinv := jfD (nt := fn.ntmps) h0 h1 h2 h3 h4 h5 h6 h7 h8 h9
 unfold OkT at hinit;refine hinit ⟨w, (blk y).toList⟩ C β _ w _ (by rw [<- h4, hn]) hinv (fun dr ch s' a' w' hl _ => hl.elim) (fun dr ex s' a' w' hl ⟨E, hp, ht, hd⟩ => ?_)
 have key := jie (c := c) (e := e) (k := k) (fn := fn) (post := post) (tmps := a'.tmps) (R := fun e' w' => (∃ (outs : List (List A)) (n' : Nat) (cs' : List A) (r : A) (v y' : Value) (xs' : List Value) (C' : Rd), e' = .returned v /\ post outs n' cs' r /\ Keeps (β ++ (blk y).toList) w w' /\ Sub C C' /\ Sub C' (see w') /\ (∀ ad u, C' ad = some u -> C ad = some u ∨ w.heap.size <= ad.block ∨ blk y = some ad.block) /\ outs.length = β.length ∧
   (∀ (i b : Nat) (cs : List A), β[i]? = some b -> outs[i]? = some cs -> boxAt w' ⟨C', β, [y']⟩ b cs) /\ owR w' e k y' n' xs' /\ A.repC cs' ⟨C', [], []⟩ xs' /\ (∀ b, blk y' = some b -> (∀ o sp, C' ⟨b, o, sp⟩ = none) /\ (w.heap.size <= b ∨ blk y = some b)) /\ r.rep ⟨C', β, [y']⟩ v) ∨
   ∃ (ch : List PanicEntry) (ns : List Nat), e' = .panicked ch /\ False /\ Keeps (β ++ (blk y).toList) w w' /\ ns.length = β.length /\ ∀ (i b n : Nat), β[i]? = some b -> ns[i]? = some n -> boxAt w' ⟨C, β, []⟩ b (List.replicate n .dead))
  (fun s2 w2 ⟨g, hr⟩ hi => by
   obtain ⟨-, v, q1, q2⟩ := jlH (w := w) (C := C) (β := β) (fn := fn) (post := post) (y := y) hc (by rw [<- h4, hn]) hr hi
   exact ⟨v, q1, .inl q2⟩) dr a'.defers s' E w' hd hp ht hl.2
 rcases hl.1 with rfl | rfl
 ·exact key
 ·exact key
end
section
variable {c : Cx} {P : Program} {np : Nat} {pt : List (Nat × List A) -> List PanicEntry -> S -> Prop} {qt : List (Nat × List A) -> Exit -> S -> Prop} {dr : List (Nat × List A)} {s : S}
theorem jr3 {x y : Code} (h : OkT P np pt (fun dr' e s' => tQ P np pt qt dr' y e s') dr x s) : OkT P np pt qt dr (.seq x y) s := by
 unfold OkT at h ⊢;intro w0 C0 β0 a w Q hn hi hx hk;refine wp_seq (h w0 C0 β0 a w _ hn hi (fun dr' ch s' a' w' h1 h2 => hx dr' ch s' a' w' h1 h2) fun dr' e s' a' w' h1 h2 => ?_)
 cases e with
 | normal =>
  have h1 : OkT P np pt qt dr' y s' := h1
  unfold OkT at h1;exact h1 w0 C0 β0 a' w' Q hn h2 hx hk
 | _ => exact hk dr' _ _ _ _ h1 h2
def jwv (s : S) (ids : List Nat) (fo : Operand) (xs : List Operand) (K : Nat -> List A -> S -> Prop) : Prop :=
 match s with
 | ⟨t, bx, rw⟩ => jax (ja0 rw ids) fun rw' => jgb (jj4 rw') t fun t' => jmd rw' bx fun bx' => match ev ⟨t', bx', rw'⟩ fo with
  | .clo f caps => jgb (ev ⟨t', bx', rw'⟩) xs fun l => K f (l ++ caps) ⟨t', bx', rw'⟩
  | _ => False
theorem jfF {id : Nat} {l : List Oper} {od : Oper} {fo : Operand} {xs : Array Operand} {ts : Array TypeId} (ids : List Nat) (hc : c.ok) (hdr : ∃ n, jbQ n dr = true) (hp : ∀ ch s', c.pan ch s' -> pt dr ch s') (hop : od.op = .defer ⟨.value fo, xs, ts⟩) (hg : od.guard = none) (hd : od.dst = none)
  (h : jme c (l ++ [od]) l s fun s' => jwv s' ids fo xs.toList fun f args s'' => qt ((f, args) :: dr) .normal s'') : OkT c.P c.np pt qt dr (.region id (l ++ [od]).toArray false) s := by
 unfold OkT;intro w0 C0 β0 a w Q hn hi hx hk;refine wp_region_lit (jiH (l2 := [od]) (Q := Q) hc hdr (fun ch s' a' w' h1 h2 => hx dr ch s' a' w' (hp ch s' h1) h2) hi h fun s' a' w' h1 h2 => ?_)
 refine wpList_step fun Kc hKc => ?_
 rw [if_pos (by simp [Region.wanted, hg])]
 obtain ⟨t, bx, rw'⟩ := s'
 unfold jwv at h1
 simp only at h1
 rw [jay, jat, jeT] at h1
 have hle : Le (β0.length) ⟨t, bx, rw'⟩ _ := (jrr (np := β0.length) (s := ⟨t, bx, rw'⟩) ids).trans jq4
 -- publishing keeps what is deferred
 obtain ⟨E, hpp, ht, hdd⟩ := h2
 obtain ⟨C', hp1, le1⟩ := hpp.pubs ids
 have ht1 := jeF (E := ⟨C', E.β, E.ρ⟩) hp1 (A.repL.mono _ le1 ht)
 have hd1 := hdd.mono le1
 have hp2 : Hp w0 C0 β0 (bx.map fun c => c.map (jj4 (ja0 rw' ids))) (ja0 rw' ids) w' ⟨C', E.β, E.ρ⟩ := by
  refine ⟨hp1.sub, hp1.base, hp1.fresh, hp1.bp, hp1.bnd, hp1.bC, by simpa using hp1.bl, fun i b cs h1 h2 => ?_, hp1.rl, hp1.rws, hp1.rC, hp1.rd, hp1.rs, hp1.keep, hp1.gk⟩;rw [List.getElem?_map, Option.map_eq_some_iff] at h2
  obtain ⟨c0, h2, rfl⟩ := h2
  obtain ⟨T', arr, h3, h4⟩ := hp1.bxs i b c0 h1 h2
  exact ⟨T', arr, h3, h4.map (jj4 (ja0 rw' ids)) (fun l us k => jeF (E := ⟨C', E.β, E.ρ⟩) hp1 k) rfl (fun t => rfl) fun a t e => by
   unfold jj4 at e
   split at e
   ·split at e <;> cases e
   ·exact e⟩
 split at h1
 ·rename_i f caps hev
  rw [jat] at h1
  have hf := jag (s := ⟨t.map (jj4 (ja0 rw' ids)), bx.map fun c => c.map (jj4 (ja0 rw' ids)), ja0 rw' ids⟩) ht1 fo
  rw [hev] at hf;unfold A.rep at hf
  obtain ⟨us, hf, hcaps⟩ := hf
  have hrun : (execOp a'.eval od).run c.P w' = .ok (.defer { target := .fn (.func f) us, args := xs.map a'.eval }) w' := by simp [execOp, hop, resolve, Deferred.ofValue, hf, Result.andThen]
  unfold Oper.wp;rw [hrun, Oper.upon_defer];rw [hd];refine hKc _ _ (hk _ _ _ _ _ h1 ⟨⟨C', E.β, E.ρ⟩, hp2, ht1, { target := .fn (.func f) us, args := xs.map a'.eval }, a'.defers, us, rfl, rfl, ?_, hd1⟩)
  have := A.repL_append (jcl (s := ⟨t.map (jj4 (ja0 rw' ids)), bx.map fun c => c.map (jj4 (ja0 rw' ids)), ja0 rw' ids⟩) ht1 xs.toList) hcaps
  simpa using this
 ·exact h1.elim
end
theorem juj {P : Program} {f : Nat} {args args' : List A} {s : S} {K : S -> Prop} {post : List (List A) -> Nat -> List A -> A -> Prop} (i g m : Nat) (ids : List Nat) (hm : s.rw.length = m) {e k n : Nat} {cs c0 c1 : List A} (hi : s.bx[i]? = some c0) (hg : (ja0 s.rw ids)[g]? = some (.live e k n cs)) (h1 : jbj [i] g (ja0 s.rw ids) c0 = some c1) (h2 : jbj [i] g (ja0 s.rw ids) args = some args') (hs : jp8 P f [c1] e k n cs args' post)
  (hk : ∀ o n' cs' r, post [o] n' cs' r -> jhl [i] m s.bx [i] [o] fun bx' => jbm (backG [i] m r) fun r' => jax ((ja0 s.rw ids).set g .gone ++ [.live e k n' cs']) fun rw' => jbw s bx' rw' K) : jxv P f args s K := by
 subst hm;unfold jxv
 have hil := (List.getElem?_eq_some_iff.1 hi).1
 refine ⟨hs.r.1, [i], ids, g, e, k, n, cs, [c1], args', post, by simp, by simpa using hil, hg, ?_, h2, fun _ => hs.d .returning, fun outs n' cs' r hp hl => ?_⟩
 ·have : s.bx.getD i [] = c0 := by simp [List.getD_eq_getElem?_getD, hi]
  simp only [List.map_cons, List.map_nil, this, jdo, h1]
 ·obtain ⟨o, rfl⟩ : ∃ o, outs = [o] := List.length_eq_one_iff.1 (by simpa using hl)
  exact hk o n' cs' r hp
end
end Go.Proofs.YtfbifdccmabdbaaGreatDoor.Vm
namespace Go.Proofs.YtfbifdccmabdbaaGreatDoor.Vm
open Go.RowKit Go.Shelf
set_option linter.unusedSimpArgs false
set_option linter.unusedVariables false
set_option maxRecDepth 100000
section
section
variable {P : Program} {pan : List PanicEntry -> S -> Prop} {Xr : Nat -> Bool} {f : Nat} {args args' : List A} {s : S} {K : A -> S -> Prop} {post : List (List A) -> Nat -> List A -> A -> Prop}
theorem jkn (X : List Nat) (g m : Nat) (ids : List Nat) (hm : s.rw.length = m) {e k n : Nat} {cs : List A} {ins : List (List A)} (hf : Xr 1000000007 = true) (hn : X.Nodup) (hX : ∀ i ∈ X, Xr i = true) (hi : ∀ i ∈ X, i < s.bx.length) (hg : (ja0 s.rw ids)[g]? = some (.live e k n cs)) (h1 : jdo X g (ja0 s.rw ids) (X.map fun i => s.bx.getD i []) = some ins) (h2 : jbj X g (ja0 s.rw ids) args = some args') (hs : okL args' -> jlM P f ins e k n cs args' post)
  (hk : ∀ outs n' cs' r, post outs n' cs' r -> outs.length = X.length -> jhl X m s.bx X outs fun bx' => jbm (backG X m r) fun r' => jax ((ja0 s.rw ids).set g .gone ++ [.live e k n' cs']) fun rw' => jbw s bx' rw' (K r')) : jbL P pan Xr f args s K := by
 subst hm;unfold jbL
 right; right; right; right; left
 exact ⟨hf, X, ids, g, e, k, n, cs, ins, args', post, _, hn, hX, hi, hg, h1, h2, hs, hk, fun ch bx' h _ _ => h.elim⟩
end
abbrev jq1 (f : Nat) (ins : List (List A)) (l : List Ic) (args : List A) (post : List (List A) -> List Ic -> A -> Prop) : Prop :=
 jp8 Tryz.prog f ins 52 2 l.length (jbp l) args fun o n cs r => ∃ l', n = l'.length /\ cs = jbp l' /\ post o l' r
theorem jy0 (u : Ut) (l : List Ic) (op n : Int) (hl : l.length <= 1000000) : jq1 40 [cbx u] l [.box 0 0, intA op, intA n] fun o l' r => o = [cbx u] /\ l' = l ++ [(op, n)] /\ r = intA l.length := by
 refine jjU (ja4 jaE xs0 1) (fun _ _ h => h) Tryz.func40 rfl (by kernel_rfl) rfl (by kernel_rfl) ?_;intro _;conv => whnf
 refine ⟨⟨by unfold maxLen; omega, by omega⟩, ?_⟩;conv => whnf
 refine ⟨jal (by omega), ?_⟩;conv => whnf
 refine ⟨0, ?_⟩;conv => whnf
 refine ⟨l ++ [(op, n)], by rw [List.length_append]; rfl, ?_, rfl, rfl, ?_⟩
 ·rw [jku]; rfl
 ·show intA (((l.length + 1 : Nat) : Int) - 1) = intA l.length
  congr 1; omega
theorem jyh (u : Ut) (l : List Ic) (k : Nat) (hk : k < l.length) (hl : l.length <= 1000000) : jq1 121 [cbx u] l [.box 0 0, intA k] fun o l' r => o = [cbx u] /\ l' = l.set k (l[k].1, l.length) /\ r = .tup [] := by
 refine jjU (ja4 jw6 xs0 1) (fun _ _ h => h) Tryz.func121 rfl (by kernel_rfl) rfl (by kernel_rfl) ?_;intro _;conv => whnf
 refine ⟨⟨by omega, by omega⟩, ?_⟩;conv => whnf
 rw [show ((k : Int)).toNat = k from rfl];refine jfl (by rw [jt2]; omega) ?_;conv => whnf
 refine ⟨0, ?_⟩;conv => whnf
 refine ⟨l.set k (l[k].1, l.length), by rw [List.length_set], ?_, rfl, rfl, rfl⟩;exact joe l k hk l.length
theorem jlL (u : Ut) (n : Int) (s : ByteArray) (kids : List Nt) (hm : kids.length <= 3002) (hf : ∀ f ∈ kids, jeD u f) (l : List Ic) (hl : l.length + jjB kids + 1 <= 1000000) : je6 76 [cbx u] l [.box 0 0, .agg (ntA (.mk 17 n s kids))] fun o l' r => o = [cbx u] /\ l' = l ++ jg1 (jaz (ixU u) kids) l.length ++ (if s = jbn then [(10, 0)] else [(14, 0)]) /\ r = .tup [] := by
 have hk := jf5 u 17 n s kids hm hf l (by omega)
 simp only [ntA, Nt.k, Nt.n, Nt.s, Nt.kids] at hk
 have hz := jdI (u := u) kids l.length hf
 have hem := fun (l : List Ic) (op n : Int) (h : l.length <= 1000000) => jcb u l op n h
 generalize jg1 (jaz (ixU u) kids) l.length = y at *
 have hly : (l ++ y).length <= 999999 := by rw [List.length_append]; omega
 generalize l ++ y = l3 at *;simp only [ntA, Nt.k, Nt.n, Nt.s, Nt.kids];refine jab (ja4 jaE xs0 1) (fun _ _ h => h) Tryz.func76 rfl (by kernel_rfl) rfl (by kernel_rfl) ?_;intro _;conv => whnf
 refine ja9 0 0 1 [] rfl rfl rfl rfl rfl rfl rfl (fun _ => hk) ?_;rintro o n' cs' r ⟨l2, rfl, rfl, ho, hl2, rfl⟩;cases ho;subst hl2;conv => whnf
 by_cases hs : s = jbn
 ·rw [if_pos hs];refine jaY (b := decide (s = ⟨#[45]⟩)) (decide_eq_true hs) ?_;conv => whnf
  refine ja9 0 1 2 [] rfl rfl rfl rfl rfl rfl rfl (fun _ => hem l2 10 0 (by omega)) ?_;rintro o n' cs' r ⟨l4, rfl, rfl, ho, hl4, rfl⟩;cases ho;conv => whnf
  refine ⟨2, ?_⟩;conv => whnf
  exact ⟨l4, rfl, rfl, rfl, hl4, rfl⟩
 ·rw [if_neg hs];refine jau (b := decide (s = ⟨#[45]⟩)) (decide_eq_false hs) ?_;conv => whnf
  refine ja9 0 1 2 [] rfl rfl rfl rfl rfl rfl rfl (fun _ => hem l2 14 0 (by omega)) ?_;rintro o n' cs' r ⟨l4, rfl, rfl, ho, hl4, rfl⟩;cases ho;conv => whnf
  refine ⟨2, ?_⟩;conv => whnf
  exact ⟨l4, rfl, rfl, rfl, hl4, rfl⟩
theorem jrt {α : Type} : ∀ (a : List α) (x v : α) (b : List α), (a ++ x :: b).set a.length v = a ++ v :: b
 | [], x, v, b => rfl
 | y :: a, x, v, b => by
  show y :: (a ++ x :: b).set a.length v = _
  rw [jrt a x v b]; rfl
theorem juS (u : Ut) (a b : List Ic) (op x : Int) (hl : (a ++ (op, x) :: b).length <= 1000000) : jq1 121 [cbx u] (a ++ (op, x) :: b) [.box 0 0, intA a.length] fun o l' r => o = [cbx u] /\ l' = a ++ (op, ((a ++ (op, x) :: b).length : Int)) :: b /\ r = .tup [] := by
 have hk : a.length < (a ++ (op, x) :: b).length := by rw [List.length_append, List.length_cons]; omega
 have h := jyh u (a ++ (op, x) :: b) a.length hk hl
 have e : (a ++ (op, x) :: b)[a.length] = (op, x) := by simp
 rw [e, jrt] at h;exact h
def jxk (u : Ut) (nd : Nt) (f : Nat) (caps : List A) (g : Int -> List Ic) (z : Nat) : Prop := (∀ at' : Int, (g at').length <= z) /\ ∀ l : List Ic, l.length + z <= 1000000 -> je6 f [cbx u, [.box 0 0], ntA nd] l caps fun o l' r => o = [cbx u, [.box 0 0], ntA nd] /\ l' = l ++ g l.length /\ r = .tup []
theorem choose_spec (u : Ut) (nd : Nt) (f : Nt) (hf : jeD u f) (fy fn zy zn : Nat) (cy cn : List A) (gy gn : Int -> List Ic) (hcy : cy = [.box 1 0, .box 2 0] ∨ cy = [.box 1 0]) (hcn : cn = [.box 1 0, .box 2 0] ∨ cn = [.box 1 0]) (hy : jxk u nd fy cy gy zy) (hn : jxk u nd fn cn gn zn) (l : List Ic) (hl : l.length + szN f + zy + zn + 2 <= 1000000) : je6 116 [cbx u, [.box 0 0], ntA nd] l [.box 0 0, .agg (ntA f), .clo fy cy, .clo fn cn] fun o l' r => o = [cbx u, [.box 0 0], ntA nd] /\ l' = l ++ brC (jaL (ixU u) f) gy gn l.length /\ r = .tup [] := by
 have hz1 := hf.1 l.length
 have hN := hf.2 l (by omega)
 have hem := fun (l : List Ic) (op n : Int) (h : l.length <= 1000000) => jcb u l op n h
 generalize hC : jaL (ixU u) f l.length = C at *
 have e1 : (l ++ C).length = l.length + C.length := List.length_append
 have h1 := hem (l ++ C) 16 0 (by omega)
 have e2 : (l ++ C ++ [(16, 0)]).length = l.length + C.length + 1 := by rw [List.length_append, e1]; rfl
 have hz2 := hy.1 ((l ++ C ++ [((16 : Int), (0 : Int))]).length : Nat)
 have h2 := hy.2 (l ++ C ++ [(16, 0)]) (by omega)
 generalize hY : gy ((l ++ C ++ [((16 : Int), (0 : Int))]).length : Nat) = Y at *
 have e3 : (l ++ C ++ [(16, 0)] ++ Y).length = l.length + C.length + 1 + Y.length := by rw [List.length_append, e2]
 have h3 := hem (l ++ C ++ [(16, 0)] ++ Y) 15 0 (by omega)
 have e4 : l ++ C ++ [(16, 0)] ++ Y ++ [(15, 0)] = (l ++ C) ++ ((16 : Int), (0 : Int)) :: (Y ++ [(15, 0)]) := by simp
 have e5 : ((l ++ C) ++ ((16 : Int), (0 : Int)) :: (Y ++ [((15 : Int), (0 : Int))])).length = l.length + C.length + 1 + Y.length + 1 := by rw [<- e4, List.length_append, e3]; rfl
 have h4 := juS u (l ++ C) (Y ++ [(15, 0)]) 16 0 (by omega)
 rw [e5] at h4
 have e6 : ((l ++ C) ++ ((16 : Int), ((l.length + C.length + 1 + Y.length + 1 : Nat) : Int)) :: (Y ++ [((15 : Int), (0 : Int))])).length = l.length + C.length + 1 + Y.length + 1 := by
  rw [List.length_append, List.length_cons, e1, List.length_append]; simp; omega
 have hz3 := hn.1 ((l.length + C.length + 1 + Y.length + 1 : Nat) : Int)
 have h5 := hn.2 ((l ++ C) ++ ((16 : Int), ((l.length + C.length + 1 + Y.length + 1 : Nat) : Int)) :: (Y ++ [((15 : Int), (0 : Int))])) (by omega)
 rw [e6] at h5;generalize hN2 : gn ((l.length + C.length + 1 + Y.length + 1 : Nat) : Int) = N at *
 have e7 : (l ++ C) ++ ((16 : Int), ((l.length + C.length + 1 + Y.length + 1 : Nat) : Int)) :: (Y ++ [((15 : Int), (0 : Int))]) ++ N = ((l ++ C) ++ ((16 : Int), ((l.length + C.length + 1 + Y.length + 1 : Nat) : Int)) :: Y) ++ (15, 0) :: N := by simp
 have e8 : ((l ++ C) ++ ((16 : Int), ((l.length + C.length + 1 + Y.length + 1 : Nat) : Int)) :: Y).length = l.length + C.length + 1 + Y.length := by
  rw [List.length_append, List.length_cons, e1]; omega
 have e9 : (((l ++ C) ++ ((16 : Int), ((l.length + C.length + 1 + Y.length + 1 : Nat) : Int)) :: Y) ++ ((15 : Int), (0 : Int)) :: N).length = l.length + C.length + 1 + Y.length + 1 + N.length := by
  rw [List.length_append, List.length_cons, e8]; omega
 have h6 := juS u ((l ++ C) ++ ((16 : Int), ((l.length + C.length + 1 + Y.length + 1 : Nat) : Int)) :: Y) N 15 0 (by omega)
 rw [e8, e9] at h6
 have hfin : l ++ brC (jaL (ixU u) f) gy gn l.length = ((l ++ C) ++ ((16 : Int), ((l.length + C.length + 1 + Y.length + 1 : Nat) : Int)) :: Y) ++ ((15 : Int), ((l.length + C.length + 1 + Y.length + 1 + N.length : Nat) : Int)) :: N := by
  unfold brC;simp only [hC];rw [e2] at hY
  have k1 : (l.length : Int) + (C.length : Int) + 1 = ((l.length + C.length + 1 : Nat) : Int) := by omega
  rw [k1, hY]
  have k2 : ((l.length + C.length + 1 : Nat) : Int) + (Y.length : Int) + 1 = ((l.length + C.length + 1 + Y.length + 1 : Nat) : Int) := by omega
  rw [k2, hN2]
  have k3 : ((l.length + C.length + 1 + Y.length + 1 : Nat) : Int) + (N.length : Int) = ((l.length + C.length + 1 + Y.length + 1 + N.length : Nat) : Int) := by omega
  rw [k3]
  simp
 rw [e3] at h3;rw [hfin];rw [e4] at h3;rw [e7] at h5
 rcases hcy with rfl | rfl <;> rcases hcn with rfl | rfl
 all_goals
  refine jli (ja4 jaE xs0 3) Tryz.func116 rfl (by kernel_rfl) rfl ?_;intro _;conv => whnf
  refine jaT (ja4 jaE xs0 3) (dr := []) ⟨0, rfl⟩ (.inl rfl) (by kernel_rfl) (fun _ _ h => h.elim) ?_;conv => whnf
  refine jaT (ja4 jaE xs0 3) (dr := []) ⟨0, rfl⟩ (.inl rfl) (by kernel_rfl) (fun _ _ h => h.elim) ?_;conv => whnf
  refine ja9 0 0 1 [] rfl rfl rfl rfl rfl rfl rfl (fun _ => hN) ?_;rintro o n' cs' r ⟨l2, rfl, rfl, ho, hl2, rfl⟩;cases ho;subst hl2;conv => whnf
  refine jaT (ja4 jaE xs0 3) (dr := []) ⟨0, rfl⟩ (.inl rfl) (by kernel_rfl) (fun _ _ h => h.elim) ?_;conv => whnf
  refine ja9 0 1 2 [] rfl rfl rfl rfl rfl rfl rfl (fun _ => h1) ?_;rintro o n' cs' r ⟨l3, rfl, rfl, ho, hl3, rfl⟩;cases ho;subst hl3;conv => whnf
  refine jaT (ja4 jaE xs0 3) (dr := []) ⟨0, rfl⟩ (.inl rfl) (by kernel_rfl) (fun _ _ h => h.elim) ?_;conv => whnf
  refine jkn [0, 1, 2] 2 3 [] rfl rfl (by decide) (by simp) (by simp) rfl rfl rfl (fun _ => h2) ?_;rintro o n' cs' r ⟨l4, rfl, rfl, ho, hl4, rfl⟩ _;cases ho;subst hl4;conv => whnf
  refine jaT (ja4 jaE xs0 3) (dr := []) ⟨0, rfl⟩ (.inl rfl) (by kernel_rfl) (fun _ _ h => h.elim) ?_;conv => whnf
  refine ja9 0 3 4 [] rfl rfl rfl rfl rfl rfl rfl (fun _ => h3) ?_;rintro o n' cs' r ⟨l5, rfl, rfl, ho, hl5, rfl⟩;cases ho;subst hl5;conv => whnf
  refine jr3 ?_;refine jfF (l := [_, _]) [] (ja4 jaE xs0 3) ⟨0, rfl⟩ (fun _ _ h => h.elim) rfl rfl rfl ?_;conv => whnf
  refine jns (ja4 jaE xs0 3) ⟨1, rfl⟩ (.inl rfl) (by kernel_rfl) (fun _ _ h => h.elim) ?_;conv => whnf
  refine ja9 0 4 5 [] rfl rfl rfl rfl rfl rfl rfl (fun _ => h4.r) ?_;rintro o n' cs' r ⟨l6, rfl, rfl, ho, hl6, rfl⟩;cases ho;subst hl6;conv => whnf
  refine jkn [0, 1, 2] 5 6 [] rfl rfl (by decide) (by simp) (by simp) rfl rfl rfl (fun _ => h5) ?_;rintro o n' cs' r ⟨l7, rfl, rfl, ho, hl7, rfl⟩ _;cases ho;subst hl7;conv => whnf
  refine ⟨.inl rfl, ?_⟩;unfold jfU;refine juj 0 6 7 [] rfl rfl rfl rfl rfl h6 ?_;rintro o n' cs' r ⟨l8, rfl, rfl, ho, hl8, rfl⟩;cases ho;conv => whnf
  refine ⟨7, ?_⟩;conv => whnf
  exact ⟨l8, rfl, rfl, rfl, hl8, rfl⟩
end
theorem jiB (u : Ut) (k n : Int) (s : ByteArray) (kids : List Nt) (i c : Nat) (hi : i < kids.length) (hf : jeD u kids[i]) (hc : c = 115 /\ i = 1 ∨ c = 119 /\ i = 1 ∨ c = 120 /\ i = 2) : jxk u (.mk k n s kids) c [.box 1 0, .box 2 0] (jaL (ixU u) kids[i]) (szN kids[i]) := by
 refine ⟨hf.1, fun l hl => ?_⟩
 have hN := hf.2 l hl
 have hrow := jc9 kids i hi
 generalize kids[i] = g at *;simp only [ntA, Nt.k, Nt.n, Nt.s, Nt.kids]
 rcases hc with ⟨rfl, rfl⟩ | ⟨rfl, rfl⟩ | ⟨rfl, rfl⟩
 ·refine jab (ja4 jw5 xs0 3) (fun _ _ h => h) Tryz.func115 rfl (by kernel_rfl) rfl (by kernel_rfl) ?_;intro _;conv => whnf
  refine ⟨by omega, ?_⟩;conv => whnf
  (generalize hrq : ja2 _ _ (jdZ kids) = rq; obtain rfl : rq = ntA g := hrq.symm.trans (hrow); clear hrq; conv => whnf)
  refine ja9 0 0 1 [] rfl rfl rfl rfl rfl rfl rfl (fun _ => hN) ?_;rintro o n' cs' r ⟨l2, rfl, rfl, ho, hl2, rfl⟩;cases ho;conv => whnf
  refine ⟨1, ?_⟩;conv => whnf
  exact ⟨l2, rfl, rfl, rfl, hl2, rfl⟩
 ·refine jab (ja4 jwU xs0 3) (fun _ _ h => h) Tryz.func119 rfl (by kernel_rfl) rfl (by kernel_rfl) ?_;intro _;conv => whnf
  refine ⟨by omega, ?_⟩;conv => whnf
  (generalize hrq : ja2 _ _ (jdZ kids) = rq; obtain rfl : rq = ntA g := hrq.symm.trans (hrow); clear hrq; conv => whnf)
  refine ja9 0 0 1 [] rfl rfl rfl rfl rfl rfl rfl (fun _ => hN) ?_;rintro o n' cs' r ⟨l2, rfl, rfl, ho, hl2, rfl⟩;cases ho;conv => whnf
  refine ⟨1, ?_⟩;conv => whnf
  exact ⟨l2, rfl, rfl, rfl, hl2, rfl⟩
 ·refine jab (ja4 jwS xs0 3) (fun _ _ h => h) Tryz.func120 rfl (by kernel_rfl) rfl (by kernel_rfl) ?_;intro _;conv => whnf
  refine ⟨by omega, ?_⟩;conv => whnf
  (generalize hrq : ja2 _ _ (jdZ kids) = rq; obtain rfl : rq = ntA g := hrq.symm.trans (hrow); clear hrq; conv => whnf)
  refine ja9 0 0 1 [] rfl rfl rfl rfl rfl rfl rfl (fun _ => hN) ?_;rintro o n' cs' r ⟨l2, rfl, rfl, ho, hl2, rfl⟩;cases ho;conv => whnf
  refine ⟨1, ?_⟩;conv => whnf
  exact ⟨l2, rfl, rfl, rfl, hl2, rfl⟩
theorem jna (u : Ut) (k n : Int) (s : ByteArray) (kids : List Nt) (c : Nat) (v : Int) (hc : c = 117 /\ v = 0 ∨ c = 118 /\ v = 1) : jxk u (.mk k n s kids) c [.box 1 0] (fun _ => [(1, v)]) 1 := by
 refine ⟨fun _ => Nat.le_refl _, fun l hl => ?_⟩
 have hN := jcb u l 1 v (by omega)
 simp only [ntA, Nt.k, Nt.n, Nt.s, Nt.kids]
 rcases hc with ⟨rfl, rfl⟩ | ⟨rfl, rfl⟩
 ·refine jab (ja4 jaE xs0 3) (fun _ _ h => h) Tryz.func117 rfl (by kernel_rfl) rfl (by kernel_rfl) ?_;intro _;conv => whnf
  refine ja9 0 0 1 [] rfl rfl rfl rfl rfl rfl rfl (fun _ => hN) ?_;rintro o n' cs' r ⟨l2, rfl, rfl, ho, hl2, rfl⟩;cases ho;conv => whnf
  refine ⟨1, ?_⟩;conv => whnf
  exact ⟨l2, rfl, rfl, rfl, hl2, rfl⟩
 ·refine jab (ja4 jaE xs0 3) (fun _ _ h => h) Tryz.func118 rfl (by kernel_rfl) rfl (by kernel_rfl) ?_;intro _;conv => whnf
  refine ja9 0 0 1 [] rfl rfl rfl rfl rfl rfl rfl (fun _ => hN) ?_;rintro o n' cs' r ⟨l2, rfl, rfl, ho, hl2, rfl⟩;cases ho;conv => whnf
  refine ⟨1, ?_⟩;conv => whnf
  exact ⟨l2, rfl, rfl, rfl, hl2, rfl⟩
theorem jdK (k n : Int) (s : ByteArray) (kids : List Nt) : ntA (.mk k n s kids) = [intA k, intA n, jdc s, .sl 4 kids.length (jdZ kids)] := rfl
theorem jmI (u : Ut) (n : Int) (s : ByteArray) (kids : List Nt) (h3 : kids.length = 3) (hf : ∀ f ∈ kids, jeD u f) (l : List Ic) (hl : l.length + (kids.map szN).sum + 2 <= 1000000) : je6 78 [cbx u] l [.box 0 0, .agg (ntA (.mk 2 n s kids))] fun o l' r => o = [cbx u] /\ l' = l ++ brC (jaL (ixU u) (kids[0]'(by omega))) (jaL (ixU u) (kids[1]'(by omega))) (jaL (ixU u) (kids[2]'(by omega))) l.length /\ r = .tup [] := by
 have h1 := jiB u 2 n s kids 1 119 (by omega) (hf _ (List.getElem_mem _)) (.inr (.inl ⟨rfl, rfl⟩))
 have h2 := jiB u 2 n s kids 2 120 (by omega) (hf _ (List.getElem_mem _)) (.inr (.inr ⟨rfl, rfl⟩))
 have hsum : szN (kids[0]'(by omega)) + szN (kids[1]'(by omega)) + szN (kids[2]'(by omega)) <= (kids.map szN).sum := by
  match kids, h3 with
  | [a, b, c], _ => simp; omega
 have hch := choose_spec u _ (kids[0]'(by omega)) (hf _ (List.getElem_mem _)) _ _ _ _ _ _ _ _ (.inl rfl) (.inl rfl) h1 h2 l (by omega)
 have hrow := jc9 kids 0 (by omega)
 generalize kids[0]'(by omega) = g at *;rw [jdK] at hch ⊢;refine jab (ja4 jyd xs0 1) (fun _ _ h => h) Tryz.func78 rfl (by kernel_rfl) rfl (by kernel_rfl) ?_;intro _;conv => whnf
 refine ⟨by omega, ?_⟩;conv => whnf
 (generalize hrq : ja2 _ _ (jdZ kids) = rq; obtain rfl : rq = ntA g := hrq.symm.trans (hrow); clear hrq; conv => whnf)
 refine jkn [0, 1, 2] 0 1 [] rfl rfl (by decide) (by simp) (by simp) rfl rfl rfl (fun _ => hch) ?_;rintro o n' cs' r ⟨l2, rfl, rfl, ho, hl2, rfl⟩ _;cases ho;conv => whnf
 refine ⟨1, ?_⟩;conv => whnf
 exact ⟨l2, rfl, rfl, rfl, hl2, rfl⟩
theorem juu (u : Ut) (n : Int) (kids : List Nt) (h3 : kids.length = 2) (hf : ∀ f ∈ kids, jeD u f) (l : List Ic) (hl : l.length + (kids.map szN).sum + 3 <= 1000000) : je6 77 [cbx u] l [.box 0 0, .agg (ntA (.mk 18 n jhq kids))] fun o l' r => o = [cbx u] /\ l' = l ++ brC (jaL (ixU u) (kids[0]'(by omega))) (jaL (ixU u) (kids[1]'(by omega))) (fun _ => [(1, 0)]) l.length /\ r = .tup [] := by
 have h1 := jiB u 18 n jhq kids 1 115 (by omega) (hf _ (List.getElem_mem _)) (.inl ⟨rfl, rfl⟩)
 have h2 := jna u 18 n jhq kids 117 0 (.inl ⟨rfl, rfl⟩)
 have hsum : szN (kids[0]'(by omega)) + szN (kids[1]'(by omega)) <= (kids.map szN).sum := by
  match kids, h3 with
  | [a, b], _ => simp
 have hch := choose_spec u _ (kids[0]'(by omega)) (hf _ (List.getElem_mem _)) _ _ _ _ _ _ _ _ (.inl rfl) (.inr rfl) h1 h2 l (by omega)
 have hrow := jc9 kids 0 (by omega)
 generalize kids[0]'(by omega) = g at *;rw [jdK] at hch ⊢;refine jab (ja4 jg7 xs0 1) (fun _ _ h => h) Tryz.func77 rfl (by kernel_rfl) rfl (by kernel_rfl) ?_;intro _;conv => whnf
 refine ⟨by omega, ?_⟩;conv => whnf
 (generalize hrq : ja2 _ _ (jdZ kids) = rq; obtain rfl : rq = ntA g := hrq.symm.trans (hrow); clear hrq; conv => whnf)
 refine jkn [0, 1, 2] 0 1 [] rfl rfl (by decide) (by simp) (by simp) rfl rfl rfl (fun _ => hch) ?_;rintro o n' cs' r ⟨l2, rfl, rfl, ho, hl2, rfl⟩ _;cases ho;conv => whnf
 refine ⟨1, ?_⟩;conv => whnf
 exact ⟨l2, rfl, rfl, rfl, hl2, rfl⟩
theorem jwI (u : Ut) (n : Int) (kids : List Nt) (h3 : kids.length = 2) (hf : ∀ f ∈ kids, jeD u f) (l : List Ic) (hl : l.length + (kids.map szN).sum + 3 <= 1000000) : je6 77 [cbx u] l [.box 0 0, .agg (ntA (.mk 18 n pOr kids))] fun o l' r => o = [cbx u] /\ l' = l ++ brC (jaL (ixU u) (kids[0]'(by omega))) (fun _ => [(1, 1)]) (jaL (ixU u) (kids[1]'(by omega))) l.length /\ r = .tup [] := by
 have h1 := jiB u 18 n pOr kids 1 115 (by omega) (hf _ (List.getElem_mem _)) (.inl ⟨rfl, rfl⟩)
 have h2 := jna u 18 n pOr kids 118 1 (.inr ⟨rfl, rfl⟩)
 have hsum : szN (kids[0]'(by omega)) + szN (kids[1]'(by omega)) <= (kids.map szN).sum := by
  match kids, h3 with
  | [a, b], _ => simp
 have hch := choose_spec u _ (kids[0]'(by omega)) (hf _ (List.getElem_mem _)) _ _ _ _ _ _ _ _ (.inr rfl) (.inl rfl) h2 h1 l (by omega)
 have hrow := jc9 kids 0 (by omega)
 generalize kids[0]'(by omega) = g at *;rw [jdK] at hch ⊢;refine jab (ja4 jg7 xs0 1) (fun _ _ h => h) Tryz.func77 rfl (by kernel_rfl) rfl (by kernel_rfl) ?_;intro _;conv => whnf
 refine ⟨by omega, ?_⟩;conv => whnf
 (generalize hrq : ja2 _ _ (jdZ kids) = rq; obtain rfl : rq = ntA g := hrq.symm.trans (hrow); clear hrq; conv => whnf)
 refine jkn [0, 1, 2] 0 1 [] rfl rfl (by decide) (by simp) (by simp) rfl rfl rfl (fun _ => hch) ?_;rintro o n' cs' r ⟨l2, rfl, rfl, ho, hl2, rfl⟩ _;cases ho;conv => whnf
 refine ⟨1, ?_⟩;conv => whnf
 exact ⟨l2, rfl, rfl, rfl, hl2, rfl⟩
def opBin : List ByteArray := [jhx, jbn, jeh, jc3, pLt, pLe, jxo, pGt, pGe, pNe]
set_option maxHeartbeats 20000000 in
theorem jvO (u : Ut) (n : Int) (s : ByteArray) (hs : (opBin.any fun x => decide (s = x)) = true) (kids : List Nt) (hm : kids.length <= 3002) (hf : ∀ f ∈ kids, jeD u f) (l : List Ic) (hl : l.length + jjB kids + 2 <= 1000000) : je6 77 [cbx u] l [.box 0 0, .agg (ntA (.mk 18 n s kids))] fun o l' r => o = [cbx u] /\ l' = l ++ jg1 (jaz (ixU u) kids) l.length ++ opC s /\ r = .tup [] := by
 have hs : s ∈ opBin := by
  rw [List.any_eq_true] at hs
  obtain ⟨x, h1, h2⟩ := hs
  rw [decide_eq_true_eq] at h2;rw [h2]; exact h1
 have hk := jf5 u 18 n s kids hm hf l (by omega)
 have hz := jdI (u := u) kids l.length hf
 have hem := fun (l : List Ic) (op n : Int) (h : l.length <= 1000000) => jcb u l op n h
 generalize jg1 (jaz (ixU u) kids) l.length = y at *
 have hly : (l ++ y).length <= 999998 := by rw [List.length_append]; omega
 generalize l ++ y = l3 at *;rw [jdK] at hk ⊢;unfold opBin at hs;simp only [List.mem_cons, List.not_mem_nil, or_false] at hs
 rcases hs with rfl | rfl | rfl | rfl | rfl | rfl | rfl | rfl | rfl | rfl
 ·refine jab (ja4 jg7 xs0 1) (fun _ _ h => h) Tryz.func77 rfl (by kernel_rfl) rfl (by kernel_rfl) ?_;intro _;conv => whnf
  refine ja9 0 0 1 [] rfl rfl rfl rfl rfl rfl rfl (fun _ => hk) ?_;rintro o n' cs' r ⟨l2, rfl, rfl, ho, hl2, rfl⟩;cases ho;subst hl2;conv => whnf
  refine ja9 0 1 3 [] rfl rfl rfl rfl rfl rfl rfl (fun _ => hem l2 6 0 (by omega)) ?_;rintro o n' cs' r ⟨l4, rfl, rfl, ho, hl4, rfl⟩;cases ho;conv => whnf
  refine ⟨3, ?_⟩;conv => whnf
  exact ⟨l4, rfl, rfl, rfl, hl4, rfl⟩
 ·refine jab (ja4 jg7 xs0 1) (fun _ _ h => h) Tryz.func77 rfl (by kernel_rfl) rfl (by kernel_rfl) ?_;intro _;conv => whnf
  refine ja9 0 0 1 [] rfl rfl rfl rfl rfl rfl rfl (fun _ => hk) ?_;rintro o n' cs' r ⟨l2, rfl, rfl, ho, hl2, rfl⟩;cases ho;subst hl2;conv => whnf
  refine ja9 0 1 3 [] rfl rfl rfl rfl rfl rfl rfl (fun _ => hem l2 7 0 (by omega)) ?_;rintro o n' cs' r ⟨l4, rfl, rfl, ho, hl4, rfl⟩;cases ho;conv => whnf
  refine ⟨3, ?_⟩;conv => whnf
  exact ⟨l4, rfl, rfl, rfl, hl4, rfl⟩
 ·refine jab (ja4 jg7 xs0 1) (fun _ _ h => h) Tryz.func77 rfl (by kernel_rfl) rfl (by kernel_rfl) ?_;intro _;conv => whnf
  refine ja9 0 0 1 [] rfl rfl rfl rfl rfl rfl rfl (fun _ => hk) ?_;rintro o n' cs' r ⟨l2, rfl, rfl, ho, hl2, rfl⟩;cases ho;subst hl2;conv => whnf
  refine ja9 0 1 3 [] rfl rfl rfl rfl rfl rfl rfl (fun _ => hem l2 8 0 (by omega)) ?_;rintro o n' cs' r ⟨l4, rfl, rfl, ho, hl4, rfl⟩;cases ho;conv => whnf
  refine ⟨3, ?_⟩;conv => whnf
  exact ⟨l4, rfl, rfl, rfl, hl4, rfl⟩
 ·refine jab (ja4 jg7 xs0 1) (fun _ _ h => h) Tryz.func77 rfl (by kernel_rfl) rfl (by kernel_rfl) ?_;intro _;conv => whnf
  refine ja9 0 0 1 [] rfl rfl rfl rfl rfl rfl rfl (fun _ => hk) ?_;rintro o n' cs' r ⟨l2, rfl, rfl, ho, hl2, rfl⟩;cases ho;subst hl2;conv => whnf
  refine ja9 0 1 3 [] rfl rfl rfl rfl rfl rfl rfl (fun _ => hem l2 9 0 (by omega)) ?_;rintro o n' cs' r ⟨l4, rfl, rfl, ho, hl4, rfl⟩;cases ho;conv => whnf
  refine ⟨3, ?_⟩;conv => whnf
  exact ⟨l4, rfl, rfl, rfl, hl4, rfl⟩
 ·refine jab (ja4 jg7 xs0 1) (fun _ _ h => h) Tryz.func77 rfl (by kernel_rfl) rfl (by kernel_rfl) ?_;intro _;conv => whnf
  refine ja9 0 0 1 [] rfl rfl rfl rfl rfl rfl rfl (fun _ => hk) ?_;rintro o n' cs' r ⟨l2, rfl, rfl, ho, hl2, rfl⟩;cases ho;subst hl2;conv => whnf
  refine ja9 0 1 3 [] rfl rfl rfl rfl rfl rfl rfl (fun _ => hem l2 11 0 (by omega)) ?_;rintro o n' cs' r ⟨l4, rfl, rfl, ho, hl4, rfl⟩;cases ho;conv => whnf
  refine ⟨3, ?_⟩;conv => whnf
  exact ⟨l4, rfl, rfl, rfl, hl4, rfl⟩
 ·refine jab (ja4 jg7 xs0 1) (fun _ _ h => h) Tryz.func77 rfl (by kernel_rfl) rfl (by kernel_rfl) ?_;intro _;conv => whnf
  refine ja9 0 0 1 [] rfl rfl rfl rfl rfl rfl rfl (fun _ => hk) ?_;rintro o n' cs' r ⟨l2, rfl, rfl, ho, hl2, rfl⟩;cases ho;subst hl2;conv => whnf
  refine ja9 0 1 3 [] rfl rfl rfl rfl rfl rfl rfl (fun _ => hem l2 12 0 (by omega)) ?_;rintro o n' cs' r ⟨l4, rfl, rfl, ho, hl4, rfl⟩;cases ho;conv => whnf
  refine ⟨3, ?_⟩;conv => whnf
  exact ⟨l4, rfl, rfl, rfl, hl4, rfl⟩
 ·refine jab (ja4 jg7 xs0 1) (fun _ _ h => h) Tryz.func77 rfl (by kernel_rfl) rfl (by kernel_rfl) ?_;intro _;conv => whnf
  refine ja9 0 0 1 [] rfl rfl rfl rfl rfl rfl rfl (fun _ => hk) ?_;rintro o n' cs' r ⟨l2, rfl, rfl, ho, hl2, rfl⟩;cases ho;subst hl2;conv => whnf
  refine ja9 0 1 3 [] rfl rfl rfl rfl rfl rfl rfl (fun _ => hem l2 13 0 (by omega)) ?_;rintro o n' cs' r ⟨l4, rfl, rfl, ho, hl4, rfl⟩;cases ho;conv => whnf
  refine ⟨3, ?_⟩;conv => whnf
  exact ⟨l4, rfl, rfl, rfl, hl4, rfl⟩
 ·refine jab (ja4 jg7 xs0 1) (fun _ _ h => h) Tryz.func77 rfl (by kernel_rfl) rfl (by kernel_rfl) ?_;intro _;conv => whnf
  refine ja9 0 0 1 [] rfl rfl rfl rfl rfl rfl rfl (fun _ => hk) ?_;rintro o n' cs' r ⟨l2, rfl, rfl, ho, hl2, rfl⟩;cases ho;subst hl2;conv => whnf
  refine ja9 0 1 3 [] rfl rfl rfl rfl rfl rfl rfl (fun _ => hem l2 12 0 (by omega)) ?_;rintro o n' cs' r ⟨l4, rfl, rfl, ho, hl4, rfl⟩;cases ho
  have hz4 : l4.length <= 1000000 := by rw [hl4, List.length_append, List.length_singleton]; omega
  conv => whnf
  refine ja9 0 3 4 [] rfl rfl rfl rfl rfl rfl rfl (fun _ => hem l4 14 0 hz4) ?_;rintro o n' cs' r ⟨l5, rfl, rfl, ho, hl5, rfl⟩;cases ho;conv => whnf
  refine ⟨4, ?_⟩;conv => whnf
  exact ⟨l5, rfl, rfl, rfl, by rw [hl5, hl4, List.append_assoc]; rfl, rfl⟩
 ·refine jab (ja4 jg7 xs0 1) (fun _ _ h => h) Tryz.func77 rfl (by kernel_rfl) rfl (by kernel_rfl) ?_;intro _;conv => whnf
  refine ja9 0 0 1 [] rfl rfl rfl rfl rfl rfl rfl (fun _ => hk) ?_;rintro o n' cs' r ⟨l2, rfl, rfl, ho, hl2, rfl⟩;cases ho;subst hl2;conv => whnf
  refine ja9 0 1 3 [] rfl rfl rfl rfl rfl rfl rfl (fun _ => hem l2 11 0 (by omega)) ?_;rintro o n' cs' r ⟨l4, rfl, rfl, ho, hl4, rfl⟩;cases ho
  have hz4 : l4.length <= 1000000 := by rw [hl4, List.length_append, List.length_singleton]; omega
  conv => whnf
  refine ja9 0 3 4 [] rfl rfl rfl rfl rfl rfl rfl (fun _ => hem l4 14 0 hz4) ?_;rintro o n' cs' r ⟨l5, rfl, rfl, ho, hl5, rfl⟩;cases ho;conv => whnf
  refine ⟨4, ?_⟩;conv => whnf
  exact ⟨l5, rfl, rfl, rfl, by rw [hl5, hl4, List.append_assoc]; rfl, rfl⟩
 ·refine jab (ja4 jg7 xs0 1) (fun _ _ h => h) Tryz.func77 rfl (by kernel_rfl) rfl (by kernel_rfl) ?_;intro _;conv => whnf
  refine ja9 0 0 1 [] rfl rfl rfl rfl rfl rfl rfl (fun _ => hk) ?_;rintro o n' cs' r ⟨l2, rfl, rfl, ho, hl2, rfl⟩;cases ho;subst hl2;conv => whnf
  refine ja9 0 1 3 [] rfl rfl rfl rfl rfl rfl rfl (fun _ => hem l2 13 0 (by omega)) ?_;rintro o n' cs' r ⟨l4, rfl, rfl, ho, hl4, rfl⟩;cases ho
  have hz4 : l4.length <= 1000000 := by rw [hl4, List.length_append, List.length_singleton]; omega
  conv => whnf
  refine ja9 0 3 4 [] rfl rfl rfl rfl rfl rfl rfl (fun _ => hem l4 14 0 hz4) ?_;rintro o n' cs' r ⟨l5, rfl, rfl, ho, hl5, rfl⟩;cases ho;conv => whnf
  refine ⟨4, ?_⟩;conv => whnf
  exact ⟨l5, rfl, rfl, rfl, by rw [hl5, hl4, List.append_assoc]; rfl, rfl⟩
def whC (c b : Int -> List Ic) (at' : Int) : List Ic := c at' ++ (16, at' + (c at').length + (b (at' + (c at').length + 1)).length + 2) :: (b (at' + (c at').length + 1) ++ [(15, at')])
theorem jpW (u : Ut) (n : Int) (s : ByteArray) (kids : List Nt) (h3 : kids.length = 2) (hf : ∀ f ∈ kids, jeD u f) (l : List Ic) (hl : l.length + (kids.map szN).sum + 2 <= 1000000) : je6 79 [cbx u] l [.box 0 0, .agg (ntA (.mk 3 n s kids))] fun o l' r => o = [cbx u] /\ l' = l ++ whC (jaL (ixU u) (kids[0]'(by omega))) (jaL (ixU u) (kids[1]'(by omega))) l.length /\ r = .tup [] := by
 have hsum : szN (kids[0]'(by omega)) + szN (kids[1]'(by omega)) <= (kids.map szN).sum := by
  match kids, h3 with
  | [a, b], _ => simp
 have hem := fun (l : List Ic) (op n : Int) (h : l.length <= 1000000) => jcb u l op n h
 have ha := hf (kids[0]'(by omega)) (List.getElem_mem _)
 have hb := hf (kids[1]'(by omega)) (List.getElem_mem _)
 have hr0 := jc9 kids 0 (by omega)
 have hr1 := jc9 kids 1 (by omega)
 generalize kids[0]'(by omega) = a at *;generalize kids[1]'(by omega) = b at *
 have hz1 := ha.1 l.length
 have h0 := ha.2 l (by omega)
 generalize hC : jaL (ixU u) a l.length = C at *
 have e1 : (l ++ C).length = l.length + C.length := List.length_append
 have h1 := hem (l ++ C) 16 0 (by omega)
 have e2 : (l ++ C ++ [(16, 0)]).length = l.length + C.length + 1 := by rw [List.length_append, e1]; rfl
 have hz2 := hb.1 ((l ++ C ++ [((16 : Int), (0 : Int))]).length : Nat)
 have h2 := hb.2 (l ++ C ++ [(16, 0)]) (by omega)
 generalize hB : jaL (ixU u) b ((l ++ C ++ [((16 : Int), (0 : Int))]).length : Nat) = B at *
 have e3 : (l ++ C ++ [(16, 0)] ++ B).length = l.length + C.length + 1 + B.length := by rw [List.length_append, e2]
 have h4 := jy0 u (l ++ C ++ [(16, 0)] ++ B) 15 l.length (by omega)
 have e4 : l ++ C ++ [(16, 0)] ++ B ++ [(15, (l.length : Int))] = (l ++ C) ++ ((16 : Int), (0 : Int)) :: (B ++ [(15, (l.length : Int))]) := by simp
 have e5 : ((l ++ C) ++ ((16 : Int), (0 : Int)) :: (B ++ [((15 : Int), (l.length : Int))])).length = l.length + C.length + 1 + B.length + 1 := by rw [<- e4, List.length_append, e3]; rfl
 have h5 := juS u (l ++ C) (B ++ [(15, (l.length : Int))]) 16 0 (by omega)
 rw [e5] at h5;rw [e4] at h4
 have hfin : l ++ whC (jaL (ixU u) a) (jaL (ixU u) b) l.length = (l ++ C) ++ ((16 : Int), ((l.length + C.length + 1 + B.length + 1 : Nat) : Int)) :: (B ++ [((15 : Int), (l.length : Int))]) := by
  unfold whC;simp only [hC];rw [e2] at hB
  have k1 : (l.length : Int) + (C.length : Int) + 1 = ((l.length + C.length + 1 : Nat) : Int) := by omega
  rw [k1, hB]
  have k2 : (l.length : Int) + (C.length : Int) + (B.length : Int) + 2 = ((l.length + C.length + 1 + B.length + 1 : Nat) : Int) := by omega
  rw [k2]
  simp
 rw [hfin];rw [jdK];refine jli (ja4 jaE xs0 1) Tryz.func79 rfl (by kernel_rfl) rfl ?_;intro _;conv => whnf
 refine jaT (ja4 jaE xs0 1) (dr := []) ⟨0, rfl⟩ (.inl rfl) (by kernel_rfl) (fun _ _ h => h.elim) ?_;conv => whnf
 refine jaT (ja4 jaE xs0 1) (dr := []) ⟨0, rfl⟩ (.inl rfl) (by kernel_rfl) (fun _ _ h => h.elim) ?_;conv => whnf
 refine jaT (ja4 jaE xs0 1) (dr := []) ⟨0, rfl⟩ (.inl rfl) (by kernel_rfl) (fun _ _ h => h.elim) ?_;conv => whnf
 refine ⟨by omega, ?_⟩;conv => whnf
 (generalize hrq : ja2 _ _ (jdZ kids) = rq; obtain rfl : rq = ntA a := hrq.symm.trans (hr0); clear hrq; conv => whnf)
 refine ja9 0 0 1 [] rfl rfl rfl rfl rfl rfl rfl (fun _ => h0) ?_;rintro o n' cs' r ⟨l2, rfl, rfl, ho, hl2, rfl⟩;cases ho;subst hl2;conv => whnf
 refine jaT (ja4 jaE xs0 1) (dr := []) ⟨0, rfl⟩ (.inl rfl) (by kernel_rfl) (fun _ _ h => h.elim) ?_;conv => whnf
 refine ja9 0 1 2 [] rfl rfl rfl rfl rfl rfl rfl (fun _ => h1) ?_;rintro o n' cs' r ⟨l3, rfl, rfl, ho, hl3, rfl⟩;cases ho;subst hl3;conv => whnf
 refine jr3 ?_;refine jfF (l := [_, _]) [] (ja4 jaE xs0 1) ⟨0, rfl⟩ (fun _ _ h => h.elim) rfl rfl rfl ?_;conv => whnf
 refine jaT (ja4 jaE xs0 1) ⟨1, rfl⟩ (.inl rfl) (by kernel_rfl) (fun _ _ h => h.elim) ?_;conv => whnf
 refine ⟨by omega, ?_⟩;conv => whnf
 (generalize hrq : ja2 _ _ (jdZ kids) = rq; obtain rfl : rq = ntA b := hrq.symm.trans (hr1); clear hrq; conv => whnf)
 refine ja9 0 2 3 [] rfl rfl rfl rfl rfl rfl rfl (fun _ => h2) ?_;rintro o n' cs' r ⟨l4, rfl, rfl, ho, hl4, rfl⟩;cases ho;subst hl4;conv => whnf
 refine jfF (l := [_, _]) [] (ja4 jaE xs0 1) ⟨1, rfl⟩ (fun _ _ h => h.elim) rfl rfl rfl ?_;conv => whnf
 refine ⟨.inl rfl, ?_⟩;unfold jfU;refine juj 0 3 4 [] rfl rfl rfl rfl rfl h4 ?_;rintro o n' cs' r ⟨l5, rfl, rfl, ho, hl5, rfl⟩;cases ho;subst hl5;conv => whnf
 refine juj 0 4 5 [] rfl rfl rfl rfl rfl h5 ?_;rintro o n' cs' r ⟨l6, rfl, rfl, ho, hl6, rfl⟩;cases ho;conv => whnf
 refine ⟨5, ?_⟩;conv => whnf
 exact ⟨l6, rfl, rfl, rfl, hl6, rfl⟩
theorem jj0 {c y n : Int -> List Ic} {a b d : Nat} (h1 : ∀ at' : Int, (c at').length <= a) (h2 : ∀ at' : Int, (y at').length <= b) (h3 : ∀ at' : Int, (n at').length <= d) (at' : Int) : (brC c y n at').length <= a + b + d + 2 := by
 unfold brC;simp only [List.length_append, List.length_cons]
 have q1 := h1 at'
 have q2 := h2 (at' + (c at').length + 1)
 have q3 := h3 (at' + (c at').length + 1 + (y (at' + (c at').length + 1)).length + 1)
 omega
theorem jsj (s : ByteArray) : (opC s).length <= 2 := by
 unfold opC
 repeat' split
 all_goals decide
theorem jnA : ∀ l : List Nt, jjB l = (l.map szN).sum
 | [] => rfl
 | f :: l => by rw [List.map_cons, List.sum_cons, <- jnA l]; rfl
theorem jdx (u : Ut) (k n : Int) (s : ByteArray) (kids : List Nt) (l : List Ic) (r : List Ic) (c : Nat) (hc : k = 17 /\ c = 76 ∨ k = 18 /\ c = 77 ∨ k = 2 /\ c = 78 ∨ k = 3 /\ c = 79 ∨ k = 11 /\ c = 80 ∨ (k ≠ 17 /\ k ≠ 18 /\ k ≠ 2 /\ k ≠ 3 /\ k ≠ 11) /\ c = 81)
  (h : je6 c [cbx u] l [.box 0 0, .agg (ntA (.mk k n s kids))] fun o l' q => o = [cbx u] /\ l' = l ++ r /\ q = .tup []) : je6 39 [cbx u] l [.box 0 0, .agg (ntA (.mk k n s kids))] fun o l' q => o = [cbx u] /\ l' = l ++ r /\ q = .tup [] := by
 rw [jdK] at h ⊢
 rcases hc with ⟨rfl, rfl⟩ | ⟨rfl, rfl⟩ | ⟨rfl, rfl⟩ | ⟨rfl, rfl⟩ | ⟨rfl, rfl⟩ | ⟨⟨k1, k2, k3, k4, k5⟩, rfl⟩
 all_goals
  refine jab (ja4 jaE xs0 1) (fun _ _ h => h) Tryz.func39 rfl (by kernel_rfl) rfl (by kernel_rfl) ?_;intro _;conv => whnf
 all_goals try
  refine ja9 0 0 2 [] rfl rfl rfl rfl rfl rfl rfl (fun _ => h) ?_;rintro o n' cs' r ⟨l2, rfl, rfl, ho, hl2, rfl⟩;cases ho;conv => whnf
  refine ⟨2, ?_⟩;conv => whnf
  exact ⟨l2, rfl, rfl, rfl, hl2, rfl⟩
 rw [decide_eq_false k1];conv => whnf
 rw [decide_eq_false k2];conv => whnf
 rw [decide_eq_false k3];conv => whnf
 rw [decide_eq_false k4];conv => whnf
 rw [decide_eq_false k5];conv => whnf
 refine ja9 0 0 2 [] rfl rfl rfl rfl rfl rfl rfl (fun _ => h) ?_;rintro o n' cs' r ⟨l2, rfl, rfl, ho, hl2, rfl⟩;cases ho;conv => whnf
 refine ⟨2, ?_⟩;conv => whnf
 exact ⟨l2, rfl, rfl, rfl, hl2, rfl⟩
theorem jur {l : List ByteArray} {s : ByteArray} (h : (l.any fun x => decide (s = x)) = true) : s ∈ l := by
 rw [List.any_eq_true] at h
 obtain ⟨x, h1, h2⟩ := h
 rw [decide_eq_true_eq] at h2;rw [h2]; exact h1
theorem jro {s : ByteArray} (h : (opAll.any fun x => decide (s = x)) = true) (h1 : s ≠ jhq) (h2 : s ≠ pOr) : (opBin.any fun x => decide (s = x)) = true := by
 have h := jur h
 unfold opAll at h;simp only [List.mem_cons, List.not_mem_nil, or_false] at h
 rcases h with h | h | h | h | h | h | h | h | h | h | h | h
 ·exact absurd h h1
 ·exact absurd h h2
 all_goals (rw [h]; decide)
theorem jmN (u : Ut) (hu : WfU u) : ∀ f : Nt, wfN f -> jeD u f
 | .mk k n s kids, hw => by
  unfold wfN at hw
  obtain ⟨ha, hwk⟩ := hw
  have hm := jtz ha
  have hk : ∀ f ∈ kids, jeD u f := fun f hf => jmN u hu f (jnv hwk hf)
  have hsq := fun at' => jdI (u := u) kids at' hk
  have hss := jnA kids
  unfold jeD
  show (∀ at' : Int, (jdg (ixU u) k n s (jaz (ixU u) kids) at').length <= 3 + jjB kids) /\ ∀ l : List Ic, l.length + (3 + jjB kids) <= 1000000 -> je6 _ [cbx u] l _ fun o l' r => o = [cbx u] /\ l' = l ++ jdg (ixU u) k n s (jaz (ixU u) kids) l.length /\ r = .tup []
  have lf : ∀ (hc : k = 12 ∨ k = 13 ∨ k = 14 ∨ k = 15 /\ (builtL.any fun x => decide (s = x)) = true ∨ k = 1 ∨ k = 4 ∨ k = 5 ∨ k = 6 ∨ k = 16 ∨ k = 7 ∨ k = 10 ∨ k = 8 ∨ k = 9), (∀ at', jdg (ixU u) k n s (jaz (ixU u) kids) at' = jg1 (jaz (ixU u) kids) at' ++ [jwN (ixU u) k n s]) -> (∀ at' : Int, (jdg (ixU u) k n s (jaz (ixU u) kids) at').length <= 3 + jjB kids) /\ ∀ l : List Ic, l.length + (3 + jjB kids) <= 1000000 -> je6 39 [cbx u] l [.box 0 0, .agg (ntA (.mk k n s kids))] fun o l' r => o = [cbx u] /\ l' = l ++ jdg (ixU u) k n s (jaz (ixU u) kids) l.length /\ r = .tup [] := fun hc he => by
   refine ⟨fun at' => ?_, fun l hl => ?_⟩
   ·have := hsq at'
    rw [he, List.length_append, List.length_singleton]; omega
   ·have h1 := jpR u hu k n s kids hm hk hc l (by omega)
    rw [List.append_assoc, <- he] at h1;refine jdx u k n s kids l _ _ (.inr (.inr (.inr (.inr (.inr ⟨?_, rfl⟩))))) h1;omega
  unfold arN at ha
  by_cases h11 : k = 11
  ·subst h11
   have he : ∀ at', jdg (ixU u) 11 n s (jaz (ixU u) kids) at' = jg1 (jaz (ixU u) kids) at' := fun at' => List.append_nil _
   refine ⟨fun at' => by rw [he]; have := hsq at'; omega, fun l hl => ?_⟩;rw [he];exact jdx u 11 n s kids l _ _ (.inr (.inr (.inr (.inr (.inl ⟨rfl, rfl⟩))))) (jf5 u 11 n s kids hm hk l (by omega))
  rw [if_neg h11] at ha
  by_cases h0 : k = 12 ∨ k = 13 ∨ k = 14 ∨ k = 5 ∨ k = 6 ∨ k = 7 ∨ k = 10
  ·rw [if_pos h0, decide_eq_true_eq] at ha
   obtain rfl := List.eq_nil_of_length_eq_zero ha
   rcases h0 with rfl | rfl | rfl | rfl | rfl | rfl | rfl
   all_goals exact lf (by omega) fun at' => rfl
  rw [if_neg h0] at ha
  by_cases h15 : k = 15
  ·rw [if_pos h15, Bool.and_eq_true, decide_eq_true_eq] at ha;subst h15
   obtain ⟨ha, hb⟩ := ha
   obtain rfl := List.eq_nil_of_length_eq_zero ha
   exact lf (.inr (.inr (.inr (.inl ⟨rfl, hb⟩)))) fun at' => rfl
  rw [if_neg h15] at ha
  by_cases h1 : k = 16 ∨ k = 1 ∨ k = 9
  ·rcases h1 with rfl | rfl | rfl
   all_goals exact lf (by omega) fun at' => rfl
  rw [if_neg h1] at ha
  by_cases h17 : k = 17
  ·subst h17
   have he : ∀ at', jdg (ixU u) 17 n s (jaz (ixU u) kids) at' = jg1 (jaz (ixU u) kids) at' ++ (if s = jbn then [(10, 0)] else [(14, 0)]) := fun at' => rfl
   refine ⟨fun at' => ?_, fun l hl => ?_⟩
   ·have := hsq at'
    rw [he, List.length_append]
    split <;> simp only [List.length_singleton] <;> omega
   ·rw [he];refine jdx u 17 n s kids l _ _ (.inl ⟨rfl, rfl⟩) ?_
    have h2 := jlL u n s kids hm hk l (by omega)
    rw [List.append_assoc] at h2;exact h2
  rw [if_neg h17] at ha
  by_cases h18 : k = 18
  ·rw [if_pos h18, Bool.and_eq_true, decide_eq_true_eq] at ha;subst h18
   obtain ⟨ha, hb⟩ := ha
   have k0 := hk (kids[0]'(by omega)) (List.getElem_mem _)
   have k1 := hk (kids[1]'(by omega)) (List.getElem_mem _)
   have hsum : szN (kids[0]'(by omega)) + szN (kids[1]'(by omega)) <= (kids.map szN).sum := by
    match kids, ha with
    | [a, b], _ => simp
   have g0 : (jaz (ixU u) kids).getD 0 noI = jaL (ixU u) (kids[0]'(by omega)) := by
    match kids, ha with
    | [a, b], _ => rfl
   have g1 : (jaz (ixU u) kids).getD 1 noI = jaL (ixU u) (kids[1]'(by omega)) := by
    match kids, ha with
    | [a, b], _ => rfl
   by_cases hA : s = jhq
   ·subst hA
    have he : ∀ at', jdg (ixU u) 18 n jhq (jaz (ixU u) kids) at' = brC (jaL (ixU u) (kids[0]'(by omega))) (jaL (ixU u) (kids[1]'(by omega))) (fun _ => [(1, 0)]) at' := fun at' => by
     rw [<- g0, <- g1]; rfl
    refine ⟨fun at' => ?_, fun l hl => ?_⟩
    ·have := jj0 k0.1 k1.1 (fun _ => Nat.le_refl 1) (n := fun _ => [((1 : Int), (0 : Int))]) at'
     rw [he]; omega
    ·rw [he];exact jdx u 18 n jhq kids l _ _ (.inr (.inl ⟨rfl, rfl⟩)) (juu u n kids ha hk l (by omega))
   by_cases hO : s = pOr
   ·subst hO
    have he : ∀ at', jdg (ixU u) 18 n pOr (jaz (ixU u) kids) at' = brC (jaL (ixU u) (kids[0]'(by omega))) (fun _ => [(1, 1)]) (jaL (ixU u) (kids[1]'(by omega))) at' := fun at' => by
     rw [<- g0, <- g1]; rfl
    refine ⟨fun at' => ?_, fun l hl => ?_⟩
    ·have := jj0 k0.1 (fun _ => Nat.le_refl 1) k1.1 (y := fun _ => [((1 : Int), (1 : Int))]) at'
     rw [he]; omega
    ·rw [he];exact jdx u 18 n pOr kids l _ _ (.inr (.inl ⟨rfl, rfl⟩)) (jwI u n kids ha hk l (by omega))
   have he : ∀ at', jdg (ixU u) 18 n s (jaz (ixU u) kids) at' = jg1 (jaz (ixU u) kids) at' ++ opC s := fun at' => by
    unfold jdg;rw [if_neg (by decide), if_neg (by decide), if_neg (by decide), if_neg (by decide), if_neg (by decide), if_neg (by decide), if_neg (by decide), if_neg (by decide), if_neg (by decide), if_neg (fun h => hA h.2), if_neg (fun h => hO h.2), if_pos rfl]
   refine ⟨fun at' => ?_, fun l hl => ?_⟩
   ·have := hsq at'
    have := jsj s
    rw [he, List.length_append]; omega
   ·rw [he];refine jdx u 18 n s kids l _ _ (.inr (.inl ⟨rfl, rfl⟩)) ?_
    have h2 := jvO u n s (jro hb hA hO) kids hm hk l (by omega)
    rw [List.append_assoc] at h2;exact h2
  rw [if_neg h18] at ha
  by_cases h8 : k = 8 ∨ k = 3
  ·rw [if_pos h8, decide_eq_true_eq] at ha
   rcases h8 with rfl | rfl
   ·exact lf (by omega) fun at' => rfl
   ·have k0 := hk (kids[0]'(by omega)) (List.getElem_mem _)
    have k1 := hk (kids[1]'(by omega)) (List.getElem_mem _)
    have hsum : szN (kids[0]'(by omega)) + szN (kids[1]'(by omega)) <= (kids.map szN).sum := by
     match kids, ha with
     | [a, b], _ => simp
    have he : ∀ at', jdg (ixU u) 3 n s (jaz (ixU u) kids) at' = whC (jaL (ixU u) (kids[0]'(by omega))) (jaL (ixU u) (kids[1]'(by omega))) at' := fun at' => by
     match kids, ha with
     | [a, b], _ => rfl
    refine ⟨fun at' => ?_, fun l hl => ?_⟩
    ·rw [he];unfold whC
     have q0 := k0.1 at'
     have q1 := k1.1 (at' + (jaL (ixU u) (kids[0]'(by omega)) at').length + 1)
     simp only [List.length_append, List.length_cons, List.length_nil];omega
    ·rw [he];exact jdx u 3 n s kids l _ _ (.inr (.inr (.inr (.inl ⟨rfl, rfl⟩)))) (jpW u n s kids ha hk l (by omega))
  rw [if_neg h8] at ha
  by_cases h2 : k = 2 ∨ k = 4
  ·rw [if_pos h2, decide_eq_true_eq] at ha
   rcases h2 with rfl | rfl
   ·have k0 := hk (kids[0]'(by omega)) (List.getElem_mem _)
    have k1 := hk (kids[1]'(by omega)) (List.getElem_mem _)
    have k2 := hk (kids[2]'(by omega)) (List.getElem_mem _)
    have hsum : szN (kids[0]'(by omega)) + szN (kids[1]'(by omega)) + szN (kids[2]'(by omega)) <= (kids.map szN).sum := by
     match kids, ha with
     | [a, b, c], _ => simp; omega
    have he : ∀ at', jdg (ixU u) 2 n s (jaz (ixU u) kids) at' = brC (jaL (ixU u) (kids[0]'(by omega))) (jaL (ixU u) (kids[1]'(by omega))) (jaL (ixU u) (kids[2]'(by omega))) at' := fun at' => by
     match kids, ha with
     | [a, b, c], _ => rfl
    refine ⟨fun at' => ?_, fun l hl => ?_⟩
    ·have := jj0 k0.1 k1.1 k2.1 at'
     rw [he]; omega
    ·rw [he];exact jdx u 2 n s kids l _ _ (.inr (.inr (.inl ⟨rfl, rfl⟩))) (jmI u n s kids ha hk l (by omega))
   ·exact lf (by omega) fun at' => rfl
  rw [if_neg h2] at ha
  cases ha
theorem jh1 (e : Nat -> Int) (du vo : Int) : pgE e du vo = enL e ++ [intA du, intA vo] := rfl
theorem ju3 (e : Nat -> Int) (j : Nat) (v : Int) : (enL e).set j (intA v) = enL fun i => if i = j then v else e i := by
 unfold enL
 apply List.ext_getElem (by simp)
 intro i h1 h2;rw [List.getElem_set, List.getElem_map, List.getElem_map, List.getElem_range]
 by_cases h : j = i
 ·simp only [if_pos h, if_pos h.symm]
 ·simp only [if_neg h, if_neg (fun q : i = j => h q.symm)]
theorem jvr (c0 : A) (e : Nat -> Int) (du vo v : Int) (j : Nat) (hj : j < 40) {K : List A -> Prop} (h : K (c0 :: pgE (fun i => if i = j then v else e i) du vo)) : jgx (c0 :: pgE e du vo) (1 + j * 1) (intA v) K := by
 have hl : (enL e).length = 40 := by unfold enL; simp
 refine jfl ?_ ?_
 ·rw [jh1, List.length_cons, List.length_append, hl]; omega
 ·rw [show 1 + j * 1 = j + 1 by omega, List.set_cons_succ, jh1, List.set_append_left _ _ (by rw [hl]; exact hj), ju3];exact h
theorem jgp (c0 : A) (e e' : Nat -> Int) (du vo v : Int) (j : Nat) (hj : j < 40) (he : ∀ i, i < 40 -> (if i = j then v else e i) = e' i) {K : List A -> Prop} (h : K (c0 :: pgE e' du vo)) : jgx (c0 :: pgE e du vo) (1 + j * 1) (intA v) K := by
 refine jvr c0 e du vo v j hj ?_
 have q : pgE (fun i => if i = j then v else e i) du vo = pgE e' du vo := by
  rw [jh1, jh1]
  congr 1
  unfold enL
  exact List.map_congr_left fun i hi => by simp only [he i (List.mem_range.1 hi)]
 rw [q]; exact h
def szH : List (Int × Nt) -> Nat
 | [] => 0
 | h :: r => szN h.2 + 1 + szH r
def e1 (j : Nat) : Nat -> Int := fun i => if i < j then -1 else 0
theorem juV {e e' : Nat -> Int} (h : ∀ i, i < 40 -> e i = e' i) (du vo : Int) : pgE e du vo = pgE e' du vo := by
 rw [jh1, jh1]
 congr 1
 unfold enL
 exact List.map_congr_left fun i hi => by rw [h i (List.mem_range.1 hi)]
set_option maxHeartbeats 2000000 in
theorem jjL (u : Ut) (hu : WfU u) (hz : szH u.on <= 900000) : Spec Tryz.prog 12 [] [.agg (utA u)] fun _ r => r = jwG u := by
 have hnode := jmN u hu
 have hdv := hu.du
 have hol := hu.ol
 refine ja7 (ja4 jy8 xs0 0) (fun _ _ h => h) Tryz.func12 rfl (by kernel_rfl) rfl (by kernel_rfl) ?_;intro _;conv => whnf
 refine ja3 [1, 2, 4] ?_;conv => whnf
 refine jad (fun j : Nat => [(19, .v (.int .i64 j))]) (fun j => [utA u, jrK, .v (.slice none 0 0) :: pgE (e1 j) u.du.length u.vo.length]) (fun _ => []) (fun j => j <= 40) (fun j => 40 - j) 0 ?_ (by omega) ?_
 ·repeat' constructor
 intro j hj;conv => whnf
 rcases Nat.lt_or_ge j 40 with hlt | hge
 ·rw [decide_eq_true (show (j : Int) < 40 by omega)];conv => whnf
  refine ⟨show (0 : Int) <= (j : Int) /\ (j : Int) < ((40 : Nat) : Int) from ⟨by omega, by omega⟩, ?_⟩;conv => whnf
  refine jgp (.v (.slice none 0 0)) (e1 j) (e1 (j + 1)) u.du.length u.vo.length (-1) j hlt (fun i hi => ?_) ?_
  ·unfold e1
   by_cases h : i = j
   ·rw [if_pos h, if_pos (by omega)]
   ·rw [if_neg h]
    by_cases h2 : i < j
    ·rw [if_pos h2, if_pos (by omega)]
    ·rw [if_neg h2, if_neg (by omega)]
  conv => whnf
  refine ⟨show lo .i64 <= (j : Int) + 1 /\ (j : Int) + 1 <= hi .i64 from jal (by omega), ?_⟩;conv => whnf
  refine ⟨j + 1, ja1 [] ?_, show j + 1 <= 40 by omega, show 40 - (j + 1) < 40 - j by omega⟩;conv => whnf
  repeat' constructor
 rw [decide_eq_false (show ¬ (j : Int) < 40 by omega)]
 obtain rfl : j = 40 := by omega
 conv => whnf
 refine jd2 52 2 [] [(3, 3)] ?_;conv => whnf
 refine ⟨trivial, ?_⟩;conv => whnf
 refine ja3 [1, 2, 4, 6, 30, 31] ?_;conv => whnf
 refine jad (fun x : Nat × List Ic × (Nat -> Int) => [(32, .v (.int .i64 x.1))]) (fun x => [utA u, jrK, .v (.slice none 0 0) :: pgE x.2.2 u.du.length u.vo.length, cbx u]) (fun x => [.live 52 2 x.2.1.length (jbp x.2.1)])
  (fun x => x.1 <= u.on.length /\ hcL (ixU u) (u.on.drop x.1) x.2.1 x.2.2 = jtH u /\ x.2.1.length + szH (u.on.drop x.1) <= 900000 /\ (∀ i ∈ x.2.1, jw3 i) /\ ∀ i, x.2.2 i < x.2.1.length) (fun x => u.on.length - x.1) (0, [], noE) ?_ ⟨Nat.zero_le _, rfl, by simpa using hz, (fun i hi => by cases hi), fun i => show (-1 : Int) < 0 by decide⟩ ?_
 ·repeat' constructor
  show Row.live _ 2 0 [] = Row.live _ 2 0 (jbp [])
  rw [jsm]
 rintro ⟨j, l, e⟩ ⟨g1, g2, g3, g4, g5⟩
 simp only at g1 g2 g3 g4 g5
 conv => whnf
 rcases Nat.lt_or_ge j u.on.length with hlt | hge
 ·have hrow : ja2 5 j (jnM u.on) = hnA u.on[j] := jpv u.on j hlt
  have hon := hu.on _ (List.getElem_mem hlt)
  rw [List.drop_eq_getElem_cons hlt] at g2 g3;generalize u.on[j] = hb at hrow hon g2 g3
  obtain ⟨h, b⟩ := hb
  obtain ⟨o1, o2, o3⟩ := hon
  have hnd := hnode b o3
  unfold hcL at g2;unfold szH at g3
  simp only at o1 o2 g2 g3
  unfold hnA at hrow
  simp only at hrow
  rw [decide_eq_true (show (j : Int) < (u.on.length : Int) by omega)];conv => whnf
  refine ⟨show (0 : Int) <= (j : Int) /\ (j : Int) < (u.on.length : Nat) from ⟨by omega, by omega⟩, ?_⟩;conv => whnf
  (generalize hrq : ja2 _ _ (jnM u.on) = rq; obtain rfl : rq = intA h :: ntA b := hrq.symm.trans (hrow); clear hrq; conv => whnf)
  refine ⟨⟨o1, show h < ((40 : Nat) : Int) by omega⟩, ?_⟩;conv => whnf
  refine jgp (.v (.slice none 0 0)) e (fun i => if i = h.toNat then (l.length : Int) else e i) u.du.length u.vo.length l.length h.toNat (by omega) (fun i hi => rfl) ?_;conv => whnf
  refine ja9 3 0 1 [] rfl rfl rfl rfl rfl rfl rfl (fun _ => hnd.2 l (by omega)) ?_;rintro o n' cs' r ⟨l2, rfl, rfl, ho, hl2, rfl⟩;cases ho
  have hl2 : l2 = l ++ jaL (ixU u) b l.length := hl2
  have hsz : (jaL (ixU u) b l.length).length <= szN b := hnd.1 l.length
  have hl2' : l2.length <= l.length + szN b := by rw [hl2, List.length_append]; omega
  conv => whnf
  have hem := jcb u l2 23 0 (by omega)
  refine ja9 3 1 2 [] rfl rfl rfl rfl rfl rfl rfl (fun _ => hem) ?_;rintro o n' cs' r ⟨l3, rfl, rfl, ho, hl3, rfl⟩;cases ho;conv => whnf
  refine ⟨show lo .i64 <= (j : Int) + 1 /\ (j : Int) + 1 <= hi .i64 from jal (by omega), ?_⟩;conv => whnf
  refine ⟨(j + 1, l3, fun i => if i = h.toNat then (l.length : Int) else e i), ja1 [2] ?_, ⟨show j + 1 <= u.on.length by omega, ?_, ?_, ?_, ?_⟩, show u.on.length - (j + 1) < u.on.length - j by omega⟩
  ·conv => whnf
   repeat' constructor
  ·rw [hl3, hl2]; exact g2
  ·show l3.length + szH (u.on.drop (j + 1)) <= 900000
   rw [hl3, List.length_append, List.length_singleton]; omega
  ·intro i hi
   simp only at hi
   rw [hl3, hl2] at hi
   rcases List.mem_append.1 hi with hi | hi
   ·rcases List.mem_append.1 hi with hi | hi
    ·exact g4 i hi
    ·exact jnb (ixU u) b _ (by omega) i hi
   ·rw [List.mem_singleton.1 hi]; exact ⟨by simp, fun h => by simp at h⟩
  ·intro i
   show (if i = h.toNat then (l.length : Int) else e i) < (l3.length : Int)
   have g5i := g5 i
   have : l3.length = l.length + (jaL (ixU u) b l.length).length + 1 := by rw [hl3, hl2, List.length_append, List.length_append, List.length_singleton]
   split <;> omega
 rw [decide_eq_false (show ¬ (j : Int) < (u.on.length : Int) by omega)]
 have hcm : hcL (ixU u) [] l e = jtH u := by rw [<- g2, List.drop_of_length_le hge]
 have hcl : l.length <= 900000 := by omega
 unfold hcL at hcm;conv => whnf
 unfold jwG jwF;rw [<- hcm]
 simp only
 by_cases hbig : 400 < l.length
 ·rw [decide_eq_true (show (400 : Int) < (l.length : Int) by omega)];conv => whnf
  rw [if_pos hbig, if_neg (by decide)];rfl
 rw [decide_eq_false (show ¬ (400 : Int) < (l.length : Int) by omega)];rw [if_neg hbig];conv => whnf
 refine jb5 [0] ?_;conv => whnf
 refine ja3 [2, 4, 63] ?_;conv => whnf
 obtain ⟨E, hE⟩ : ∃ E, joW l e 0 40 = E := ⟨_, rfl⟩
 rw [hE];refine jad (fun j : Nat => [(64, .v (.int .i64 j))]) (fun _ => [utA u, jrK, pgL l e u.du.length u.vo.length, utA u ++ [.sl 2 l.length (jbp l)]]) (fun _ => []) (fun j => j <= 40 /\ joW l e j (40 - j) = E) (fun j => 40 - j) 0 ?_ ⟨Nat.zero_le _, hE⟩ ?_
 ·repeat' constructor
  done
 clear hE hge g1 g2 g3 hcm;clear j;rintro j ⟨hj, hE⟩
 have hE : joW l e j (40 - j) = E := hE
 conv => whnf
 rcases Nat.lt_or_ge j 40 with hlt | hge
 ·rw [decide_eq_true (show (j : Int) < 40 by omega)];rw [show 40 - j = (40 - (j + 1)) + 1 by omega] at hE;unfold joW at hE
  have hfo := jgS l e u.du.length u.vo.length (e j) (by omega) (by omega) (by omega) (fun i hi => (g4 i hi).2) (fun i hi => (g4 i hi).1) (g5 j)
  conv => whnf
  refine ⟨⟨show (0 : Int) <= (j : Int) by omega, show (j : Int) < ((40 : Nat) : Int) by omega⟩, intA (e j), jnF e j hlt, ?_⟩;conv => whnf
  refine jah [] rfl (fun _ => hfo) ?_;rintro r rfl;generalize jb3 l (e j) = f at hE;conv => whnf
  by_cases h0 : f = 0
  ·rw [decide_eq_true h0];rw [if_neg (fun h => h h0)] at hE;conv => whnf
   refine ⟨show lo .i64 <= (j : Int) + 1 /\ (j : Int) + 1 <= hi .i64 from jal (by omega), ?_⟩;conv => whnf
   refine ⟨j + 1, ja1 [] ?_, ⟨show j + 1 <= 40 by omega, hE⟩, show 40 - (j + 1) < 40 - j by omega⟩;conv => whnf
   repeat' constructor
  rw [decide_eq_false h0];rw [if_pos h0] at hE;conv => whnf
  rw [<- hE, if_neg h0];rfl
 obtain rfl : j = 40 := by omega
 rw [decide_eq_false (show ¬ ((40 : Nat) : Int) < 40 by omega)]
 obtain rfl : 0 = E := hE
 conv => whnf
 rw [if_pos rfl];rfl
theorem jgZ (c0 : A) (e : Nat -> Int) (du vo : Int) (j : Nat) (hj : j < 40) : (c0 :: pgE e du vo).drop (1 + j * 1) = intA (e j) :: (c0 :: pgE e du vo).drop (j + 2) := by
 have hlen : (enL e).length = 40 := by unfold enL; rw [List.length_map, List.length_range]
 have hl : j < (enL e).length := by rw [hlen]; exact hj
 rw [show 1 + j * 1 = j + 1 by omega, List.drop_succ_cons, show j + 2 = (j + 1) + 1 by omega, List.drop_succ_cons, jh1];rw [List.drop_eq_getElem_cons (by rw [List.length_append]; omega), List.getElem_append_left hl]
 have h0 := jnF e j hj
 rw [Int.toNat_natCast, Nat.mul_one, List.getElem?_eq_getElem hl] at h0;rw [Option.some.inj h0]
theorem joU (code : List Ic) (e : Nat -> Int) (du vo : Int) (h : Nat) (hh : h < 40) (hl : code.length <= 1000000) (hj : jfr code) (ho : ∀ i ∈ code, 1 <= i.1 /\ i.1 <= 23) (hx : 0 <= e h /\ e h < code.length) : Spec Tryz.prog 43 [] [pgA code e du vo, .v (.int .i64 h)] fun _ r => ∃ out ok m, Dp code (e h) out ok /\ r = intA m /\ (m <= 16 ↔ ∀ i, Rch code (e h) i -> og out i <= 16 /\ lv code i (og out i) <= 16) := by
 have hds := jgE code e du vo (e h) hl hj ho hx
 refine ja7 (ja4 jxA xs0 0) (fun _ _ h => h) Tryz.func43 rfl (by kernel_rfl) rfl (by kernel_rfl) ?_;intro _;conv => whnf
 refine ⟨show (0 : Int) <= (h : Int) /\ (h : Int) < ((40 : Nat) : Int) from ⟨by omega, by omega⟩, ?_⟩;conv => whnf
 generalize hrq : List.drop _ _ = rq
 obtain rfl : rq = intA (e h) :: (A.sl 2 code.length (jbp code) :: pgE e du vo).drop (h + 2) := hrq.symm.trans (jgZ _ e du vo h hh)
 clear hrq;conv => whnf
 refine jah [] rfl (fun _ => hds) ?_;rintro r ⟨out, ok, rfl, hdp⟩
 have hln := hdp.ln
 conv => whnf
 refine ja3 [2, 5] ?_;conv => whnf
 refine jad (fun y : Nat × Int => [(7, intA y.2), (8, .v (.int .i64 y.1))]) (fun _ => [pgL code e du vo]) (fun _ => []) (fun y => y.1 <= code.length /\ 0 <= y.2 /\ y.2 <= code.length + 1 /\ (y.2 <= 16 ↔ ∀ j : Int, 0 <= j -> j < (y.1 : Int) -> 0 <= og out j -> og out j <= 16 /\ lv code j (og out j) <= 16)) (fun y => code.length - y.1) (0, 0) ?_ ⟨Nat.zero_le _, Int.le_refl _, by simp only; omega, ⟨fun _ j h1 h2 => by simp only at h2; omega, fun _ => by decide⟩⟩ ?_
 ·repeat' constructor
 rintro ⟨i, m⟩ ⟨q1, q2, q3, q4⟩
 simp only at q1 q2 q3 q4
 conv => whnf
 rcases Nat.lt_or_ge i code.length with hil | hig
 ·have hir : (0 : Int) <= (i : Int) /\ (i : Int) < code.length := ⟨by omega, by omega⟩
  have hbd := hdp.bd i hir.1 hir.2
  have hro := jnY (out := out) (i := i) (by rw [hln]; exact hil)
  have hnew : ∀ m' : Int, (m' <= 16 ↔ m <= 16 /\ (0 <= og out i -> og out i <= 16 /\ lv code i (og out i) <= 16)) -> (m' <= 16 ↔ ∀ j : Int, 0 <= j -> j < ((i + 1 : Nat) : Int) -> 0 <= og out j -> og out j <= 16 /\ lv code j (og out j) <= 16) := fun m' hm => by
   rw [hm, q4]
   constructor
   ·rintro ⟨h1, h2⟩ j h3 h4
    by_cases hji : j = i
    ·rw [hji]; exact h2
    ·exact h1 j h3 (by omega)
   ·intro h1;exact ⟨fun j h3 h4 => h1 j h3 (by omega), h1 i (by omega) (by omega)⟩
  have hrow : ja2 2 i (jbp code) = icA code[i] := jcg code i hil
  have hopi : opI code i = (code[i]).1 := by unfold opI; rw [Int.toNat_natCast, List.getD_eq_getElem?_getD, List.getElem?_eq_getElem hil]; rfl
  have hoi := ho _ (List.getElem_mem hil)
  unfold lv at hnew;rw [hopi] at hnew;generalize code[i] = ci at hrow hnew hoi
  obtain ⟨op, n⟩ := ci
  unfold icA at hrow
  simp only at hrow hnew hoi
  have hps := jaj op
  have hpu := jhh op
  unfold jvB at hps;rw [if_pos hoi] at hps
  have p1 := jhe op
  have p2 := jdV op
  rw [decide_eq_true (show (i : Int) < (out.length : Int) by rw [hln]; omega)];conv => whnf
  refine ⟨show (0 : Int) <= (i : Int) /\ (i : Int) < (out.length : Nat) from ⟨by omega, by rw [hln]; omega⟩, ?_⟩;conv => whnf
  (generalize hrq : ja2 _ _ (jaG out) = rq; obtain rfl : rq = [intA (og out i)] := hrq.symm.trans (hro); clear hrq; conv => whnf)
  by_cases hv : 0 <= og out i
  ·rw [decide_eq_true hv];conv => whnf
   refine ⟨show (0 : Int) <= (i : Int) /\ (i : Int) < (code.length : Nat) from hir, ?_⟩;conv => whnf
   (generalize hrq : ja2 _ _ (jbp code) = rq; obtain rfl : rq = [intA op, intA n] := hrq.symm.trans (hrow); clear hrq; conv => whnf)
   have hio : (0 : Int) <= (i : Int) /\ (i : Int) < (out.length : Nat) := ⟨by omega, by rw [hln]; omega⟩
   refine ⟨hio, ?_⟩;conv => whnf
   (generalize hrq : ja2 _ _ (jaG out) = rq; obtain rfl : rq = [intA (og out i)] := hrq.symm.trans (hro); clear hrq; conv => whnf)
   refine ⟨hio, ?_⟩;conv => whnf
   (generalize hrq : ja2 _ _ (jaG out) = rq; obtain rfl : rq = [intA (og out i)] := hrq.symm.trans (hro); clear hrq; conv => whnf)
   refine jah [] rfl (fun _ => hps) ?_;rintro r rfl;conv => whnf
   refine ⟨show lo .i64 <= og out i - jan op /\ og out i - jan op <= hi .i64 from jal (by omega), ?_⟩;conv => whnf
   refine jah [] rfl (fun _ => hpu) ?_;rintro r rfl;conv => whnf
   refine ⟨show lo .i64 <= og out i - jan op + ja6 op /\ og out i - jan op + ja6 op <= hi .i64 from jal (by omega), ?_⟩;conv => whnf
   refine ⟨show lo .i64 <= (i : Int) + 1 /\ (i : Int) + 1 <= hi .i64 from jal (by omega), ?_⟩;conv => whnf
   refine ⟨(i + 1, max (max m (og out i)) (og out i - jan op + ja6 op)), ja1 [] ?_, ⟨show i + 1 <= code.length by omega, show (0 : Int) <= max (max m (og out i)) (og out i - jan op + ja6 op) by omega, show max (max m (og out i)) (og out i - jan op + ja6 op) <= (code.length : Int) + 1 by omega, hnew _ ⟨fun h => ⟨by omega, fun _ => ⟨by omega, by omega⟩⟩, fun h => by have := h.2 hv; omega⟩⟩, show code.length - (i + 1) < code.length - i by omega⟩;conv => whnf
   repeat' constructor
  rw [decide_eq_false hv];conv => whnf
  refine ⟨show lo .i64 <= (i : Int) + 1 /\ (i : Int) + 1 <= hi .i64 from jal (by omega), ?_⟩;conv => whnf
  refine ⟨(i + 1, m), ja1 [] ?_, ⟨show i + 1 <= code.length by omega, q2, q3, hnew m ⟨fun h => ⟨h, fun h2 => absurd h2 hv⟩, fun h => h.1⟩⟩, show code.length - (i + 1) < code.length - i by omega⟩;conv => whnf
  repeat' constructor
 rw [decide_eq_false (show ¬ (i : Int) < (out.length : Int) by rw [hln]; omega)];conv => whnf
 refine ⟨out, ok, m, hdp, rfl, ?_⟩;rw [q4]
 constructor
 ·intro h1 a ha
  have hr := ha.rng hj hx
  exact h1 a hr.1 (by omega) ((hdp.re a hr.1 hr.2).2 ha)
 ·intro h1 j h2 h3 h4;exact h1 j ((hdp.re j h2 (by omega)).1 h4)
theorem jmm (v l k : Int) {K : A -> Prop} {n : Prop} (h : match (shL v l).find? (fun p => decide (k = p.1)) with | some p => K (shA p.2) | none => n) : jcv false (mkV (shP v l)) (mvA (shP v l)) (.int .i64 k) K n := by
 refine jaP _ _ ?_
 have e : jby (shP v l) k = ((shL v l).find? fun p => decide (k = p.1)).map fun p => shA p.2 := by
  unfold jby shP;rw [List.find?_map]
  show ((((shL v l).find? fun p => decide (k = p.1)).map _).map _) = _
  cases (shL v l).find? fun p => decide (k = p.1) <;> rfl
 rw [e]
 revert h
 cases (shL v l).find? fun p => decide (k = p.1) <;> exact id
theorem jtQ {v l : Int} {i : Ic} (h : okI v l i = true) : (1 <= i.1 /\ i.1 <= 23) /\ (i.1 = 15 ∨ i.1 = 16 -> 0 <= i.2) := by
 unfold okI at h
 rcases jaR ((shL v l).find? fun p => decide (i.1 = p.1)) with hf | ⟨p, hf⟩
 ·rw [hf] at h; cases h
 rw [hf] at h
 have hk := List.find?_some hf
 have hm := List.mem_of_find?_eq_some hf
 simp only [decide_eq_true_eq] at hk;simp only [Bool.and_eq_true, decide_eq_true_eq] at h
 obtain ⟨a, b⟩ := i
 simp only at hk h ⊢
 subst hk;unfold shL at hm;simp only [List.mem_cons, List.not_mem_nil, or_false] at hm
 rcases hm with rfl | rfl | rfl | rfl | rfl | rfl | rfl | rfl | rfl | rfl | rfl | rfl | rfl | rfl | rfl | rfl | rfl | rfl | rfl | rfl | rfl | rfl | rfl
 all_goals (simp only at h ⊢; omega)
theorem jje (p : Int -> Bool) (e : Nat -> Int) : ∀ (m j : Nat), jgr p e j m = true -> ∀ i, j <= i -> i < j + m -> p (e i) = true
 | 0, j, h, i, h1, h2 => by omega
 | m + 1, j, h, i, h1, h2 => by
  unfold jgr at h;rw [Bool.and_eq_true] at h
  by_cases q : i = j
  ·rw [q]; exact h.1
  ·exact jje p e m (j + 1) h.2 i (by omega) (by omega)
theorem jhc (code : List Ic) (e : Nat -> Int) (du vo : Int) (hl : code.length <= 1000000) : Spec Tryz.prog 25 [] [pgA code e du vo] fun _ r => r = intA (jrw code e du vo) := by
 obtain ⟨R, hR⟩ : ∃ R, jrw code e du vo = R := ⟨_, rfl⟩
 rw [hR];unfold jrw at hR;refine ja7 (ja4 jaE xs0 0) (fun _ _ h => h) Tryz.func25 rfl (by kernel_rfl) rfl (by kernel_rfl) ?_;intro _;conv => whnf
 by_cases h0 : 400 < code.length
 ·rw [decide_eq_true (show (400 : Int) < (code.length : Int) by omega)];rw [if_pos h0] at hR;conv => whnf
  rw [<- hR]; rfl
 rw [decide_eq_false (show ¬ (400 : Int) < (code.length : Int) by omega)];rw [if_neg h0] at hR;conv => whnf
 by_cases h1 : du < 0
 ·rw [decide_eq_true h1];rw [if_pos (.inl h1)] at hR;conv => whnf
  rw [<- hR]; rfl
 rw [decide_eq_false h1];conv => whnf
 by_cases h2 : vo < 0
 ·rw [decide_eq_true h2];rw [if_pos (.inr (.inl h2))] at hR;conv => whnf
  rw [<- hR]; rfl
 rw [decide_eq_false h2];conv => whnf
 by_cases h3 : 16 < du
 ·rw [decide_eq_true h3];rw [if_pos (.inr (.inr (.inl h3)))] at hR;conv => whnf
  rw [<- hR]; rfl
 rw [decide_eq_false h3];conv => whnf
 refine ⟨jal (by omega), ?_⟩;conv => whnf
 by_cases h4 : 16 - du < vo
 ·rw [decide_eq_true h4];rw [if_pos (.inr (.inr (.inr h4)))] at hR;conv => whnf
  rw [<- hR]; rfl
 rw [decide_eq_false h4];rw [if_neg (by omega)] at hR
 have hsh := jh6 code e du vo (by omega) (by omega) hl
 conv => whnf
 refine jah [] rfl (fun _ => hsh) ?_;rintro r rfl;conv => whnf
 refine ja3 [1, 3, 42, 43] ?_;conv => whnf
 refine jad (fun j : Nat => [(44, .v (.int .i64 j))]) (fun _ => [pgL code e du vo]) (fun _ => []) (fun j => j <= code.length /\ (code.take j).all (okI (du + vo - 1) (code.length - 1)) = true) (fun j => code.length - j) 0 ?_ ⟨Nat.zero_le _, by rw [List.take_zero]; rfl⟩ ?_
 ·repeat' constructor
 rintro j ⟨hj, hall⟩;conv => whnf
 rcases Nat.lt_or_ge j code.length with hlt | hge
 ·have hrow : ja2 2 j (jbp code) = icA code[j] := jcg code j hlt
  have htk : (code.take (j + 1)).all (okI (du + vo - 1) (code.length - 1)) = okI (du + vo - 1) (code.length - 1) code[j] := by
   rw [List.take_succ_eq_append_getElem hlt, List.all_append, hall, Bool.true_and, List.all_cons, List.all_nil, Bool.and_true]
  have hcn : okI (du + vo - 1) (code.length - 1) code[j] = false -> R = 12 := fun hb => by
   have h5 : code.all (okI (du + vo - 1) (code.length - 1)) = false := by
    rw [List.all_eq_false];exact ⟨code[j], List.getElem_mem hlt, by rw [hb]; simp⟩
   rw [<- hR, if_pos h5]
  unfold okI at htk hcn;generalize code[j] = i at hrow htk hcn
  obtain ⟨op, n⟩ := i
  unfold icA at hrow
  simp only at hrow
  rw [decide_eq_true (show (j : Int) < (code.length : Int) by omega)];conv => whnf
  refine ⟨show (0 : Int) <= (j : Int) /\ (j : Int) < (code.length : Nat) from ⟨by omega, by omega⟩, ?_⟩;conv => whnf
  (generalize hrq : ja2 _ _ (jbp code) = rq; obtain rfl : rq = [intA op, intA n] := hrq.symm.trans (hrow); clear hrq; conv => whnf)
  refine jmm _ _ _ ?_
  rcases jaR ((shL (du + vo - 1) (code.length - 1)).find? fun p => decide (op = p.1)) with hf | ⟨⟨pk, po, pu, plo, phi⟩, hf⟩
  ·rw [hf] at hcn ⊢
   have hcn := hcn rfl
   conv => whnf
   rw [hcn]; rfl
  rw [hf] at htk hcn ⊢
  simp only at htk hcn
  conv => whnf
  by_cases hlo : n < plo
  ·rw [decide_eq_true hlo]
   have hcn := hcn (by rw [decide_eq_false (by omega)]; rfl)
   conv => whnf
   rw [hcn]; rfl
  rw [decide_eq_false hlo];conv => whnf
  by_cases hhi : phi < n
  ·rw [decide_eq_true hhi]
   have hcn := hcn (by rw [decide_eq_false (show ¬ n <= phi by omega), Bool.and_false])
   conv => whnf
   rw [hcn]; rfl
  rw [decide_eq_false hhi];conv => whnf
  refine ⟨show lo .i64 <= (j : Int) + 1 /\ (j : Int) + 1 <= hi .i64 from jal (by omega), ?_⟩;conv => whnf
  refine ⟨j + 1, ja1 [] ?_, ⟨show j + 1 <= code.length by omega, htk.trans (by rw [decide_eq_true (show plo <= n by omega), decide_eq_true (show n <= phi by omega)]; rfl)⟩, show code.length - (j + 1) < code.length - j by omega⟩;conv => whnf
  repeat' constructor
 rw [decide_eq_false (show ¬ (j : Int) < (code.length : Int) by omega)]
 have hall2 : code.all (okI (du + vo - 1) (code.length - 1)) = true := by
  have := hall
  rw [List.take_of_length_le hge] at this; exact this
 rw [hall2, if_neg (by decide)] at hR
 have hops := fun i hi => jtQ (List.all_eq_true.1 hall2 i hi)
 clear hall;conv => whnf
 refine ja3 [1, 73] ?_;conv => whnf
 refine jad (fun j : Nat => [(74, .v (.int .i64 j))]) (fun _ => [pgL code e du vo]) (fun _ => []) (fun j => j <= 40 /\ jgr (jee code.length) e j (40 - j) = jgr (jee code.length) e 0 40) (fun j => 40 - j) 0 ?_ ⟨Nat.zero_le _, rfl⟩ ?_
 ·repeat' constructor
 clear hge hj j;rintro j ⟨hj, hall⟩;conv => whnf
 rcases Nat.lt_or_ge j 40 with hlt | hge
 ·rw [decide_eq_true (show (j : Int) < 40 by omega)]
  have hst : jgr (jee code.length) e j (40 - j) = (jee code.length (e j) && jgr (jee code.length) e (j + 1) (40 - (j + 1))) := by
   rw [show 40 - j = (40 - (j + 1)) + 1 by omega]; rfl
  have hall' : jgr (jee code.length) e j (40 - j) = jgr (jee code.length) e 0 40 := hall
  conv => whnf
  refine ⟨⟨show (0 : Int) <= (j : Int) by omega, show (j : Int) < ((40 : Nat) : Int) by omega⟩, intA (e j), jnF e j hlt, ?_⟩;conv => whnf
  by_cases hlo : e j < -1
  ·rw [decide_eq_true hlo];rw [if_pos (by rw [<- hall', hst]; unfold jee; rw [decide_eq_false (show ¬ -1 <= e j by omega)]; rfl)] at hR;conv => whnf
   rw [<- hR]; rfl
  rw [decide_eq_false hlo];conv => whnf
  by_cases hhi : (code.length : Int) <= e j
  ·rw [decide_eq_true hhi];rw [if_pos (by rw [<- hall', hst]; unfold jee; rw [decide_eq_false (show ¬ e j < code.length by omega), Bool.and_false]; rfl)] at hR;conv => whnf
   rw [<- hR]; rfl
  rw [decide_eq_false hhi];conv => whnf
  refine ⟨show lo .i64 <= (j : Int) + 1 /\ (j : Int) + 1 <= hi .i64 from jal (by omega), ?_⟩;conv => whnf
  refine ⟨j + 1, ja1 [] ?_, ⟨show j + 1 <= 40 by omega, ?_⟩, show 40 - (j + 1) < 40 - j by omega⟩
  ·conv => whnf
   repeat' constructor
  ·show jgr (jee code.length) e (j + 1) (40 - (j + 1)) = _
   rw [<- hall', hst];unfold jee;rw [decide_eq_true (show -1 <= e j by omega), decide_eq_true (show e j < code.length by omega)]; rfl
 obtain rfl : j = 40 := by omega
 have hall2 : jgr (jee code.length) e 0 40 = true := by
  have : jgr (jee code.length) e 40 (40 - 40) = jgr (jee code.length) e 0 40 := hall
  rw [<- this]; rfl
 rw [decide_eq_false (show ¬ ((40 : Nat) : Int) < 40 by omega)];rw [hall2, if_neg (by decide)] at hR
 have hent := jje _ _ _ _ hall2
 clear hall hge hj;conv => whnf
 refine ja3 [1, 88] ?_;conv => whnf
 refine jad (fun x : Nat × Int => [(10, intA x.2), (89, .v (.int .i64 x.1))]) (fun _ => [pgL code e du vo]) (fun _ => []) (fun x => x.1 <= 40 /\ jvH code e x.1 (40 - x.1) x.2 = R) (fun x => 40 - x.1) (0, 0) ?_ ⟨Nat.zero_le _, hR⟩ ?_
 ·repeat' constructor
 rintro ⟨j, q⟩ ⟨hj, hv⟩
 simp only at hj hv
 conv => whnf
 rcases Nat.lt_or_ge j 40 with hlt | hge
 ·rw [decide_eq_true (show (j : Int) < 40 by omega)];rw [show 40 - j = (40 - (j + 1)) + 1 by omega] at hv;unfold jvH at hv
  have hq := hent j (by omega) (by omega)
  unfold jee at hq;rw [Bool.and_eq_true, decide_eq_true_eq, decide_eq_true_eq] at hq
  have hfo := jgS code e du vo (e j) (by omega) (by omega) hl (fun i hi => (hops i hi).2) (fun i hi => (hops i hi).1) hq.2
  conv => whnf
  refine ⟨⟨show (0 : Int) <= (j : Int) by omega, show (j : Int) < ((40 : Nat) : Int) by omega⟩, intA (e j), jnF e j hlt, ?_⟩;conv => whnf
  refine jah [] rfl (fun _ => hfo) ?_;rintro r rfl;generalize jb3 code (e j) = f at hv;conv => whnf
  by_cases h12 : f = 12
  ·rw [decide_eq_true h12];rw [if_pos h12] at hv;conv => whnf
   rw [<- hv, <- h12]; rfl
  rw [decide_eq_false h12];rw [if_neg h12] at hv;conv => whnf
  by_cases h13 : f = 13
  ·rw [decide_eq_true h13];rw [if_pos h13] at hv;conv => whnf
   refine ⟨show lo .i64 <= (j : Int) + 1 /\ (j : Int) + 1 <= hi .i64 from jal (by omega), ?_⟩;conv => whnf
   refine ⟨(j + 1, 13), ja1 [] ?_, ⟨show j + 1 <= 40 by omega, hv⟩, show 40 - (j + 1) < 40 - j by omega⟩;conv => whnf
   repeat' constructor
   rw [h13]
  rw [decide_eq_false h13];rw [if_neg h13] at hv;conv => whnf
  refine ⟨show lo .i64 <= (j : Int) + 1 /\ (j : Int) + 1 <= hi .i64 from jal (by omega), ?_⟩;conv => whnf
  refine ⟨(j + 1, q), ja1 [] ?_, ⟨show j + 1 <= 40 by omega, hv⟩, show 40 - (j + 1) < 40 - j by omega⟩;conv => whnf
  repeat' constructor
 obtain rfl : j = 40 := by omega
 rw [decide_eq_false (show ¬ ((40 : Nat) : Int) < 40 by omega)];conv => whnf
 rw [<- hv]; rfl
theorem jpn {v l : Int} {i : Ic} (h : okI v l i = true) (hj : i.1 = 15 ∨ i.1 = 16) : i.2 <= l := by
 obtain ⟨a, b⟩ := i
 simp only at hj ⊢
 rcases hj with rfl | rfl
 all_goals
  change (decide ((0 : Int) <= b) && decide (b <= l)) = true at h
  rw [Bool.and_eq_true, decide_eq_true_eq, decide_eq_true_eq] at h;exact h.2
theorem jvm {code : List Ic} {v : Int} (hops : ∀ i ∈ code, okI v (code.length - 1) i = true) (hj : jfr code) {x : Int} (hx : 0 <= x /\ x < code.length) : jb3 code x = 12 ↔ Rch code x (code.length - 1) /\ (code.length : Int) ∈ sc code (code.length - 1) := by
 have hf := jiu hj hx
 constructor
 ·intro h12
  rcases hf with ⟨_, a, ha, k, hk, hn⟩ | ⟨_, h⟩
  ·have hr := ha.rng hj hx
   have hil : a.toNat < code.length := by omega
   have hgi : code.getD a.toNat (0, 0) = code[a.toNat] := by rw [List.getD_eq_getElem?_getD, List.getElem?_eq_getElem hil]; rfl
   have hok := hops _ (List.getElem_mem hil)
   have hk' := hk
   unfold sc at hk';rw [hgi] at hk'
   have hka : k = a + 1 := by
    unfold nxI at hk'
    by_cases h1 : (code[a.toNat]).1 = 23
    ·rw [if_pos h1] at hk'; cases hk'
    rw [if_neg h1] at hk'
    by_cases h2 : (code[a.toNat]).1 = 15
    ·rw [if_pos h2, List.mem_singleton] at hk'
     have := jpn hok (.inl h2); omega
    rw [if_neg h2] at hk'
    by_cases h3 : (code[a.toNat]).1 = 16
    ·rw [if_pos h3] at hk';simp only [List.mem_cons, List.not_mem_nil, or_false] at hk'
     have := jpn hok (.inr h3)
     rcases hk' with hk' | hk'
     ·exact hk'
     ·omega
    rw [if_neg h3, List.mem_singleton] at hk';exact hk'
   have e1 : a = (code.length : Int) - 1 := by omega
   have e2 : k = (code.length : Int) := by omega
   rw [<- e1];exact ⟨ha, by rw [<- e2]; exact hk⟩
  ·rcases h with h | h <;> omega
 ·rintro ⟨h1, h2⟩
  rcases hf with ⟨h, _⟩ | ⟨h, _⟩
  ·exact h
  ·exact absurd (h _ h1 _ h2) (by omega)
theorem jua {code : List Ic} (hj : jfr code) {x : Int} (hx : 0 <= x /\ x < code.length) (h12 : jb3 code x ≠ 12) : (jb3 code x = 0 /\ ∃ D, Good code x D) ∨ (jb3 code x = 13 /\ ¬ ∃ D, Good code x D) := by
 rcases jiu hj hx with ⟨h, _⟩ | ⟨_, h⟩
 ·exact absurd h h12
 ·exact h
set_option maxHeartbeats 4000000 in
theorem jqJ (code : List Ic) (e : Nat -> Int) (du vo : Int) (hl : code.length <= 1000000) : Spec Tryz.prog 26 [] [pgA code e du vo] fun _ r => r = intA (jrw code e du vo) := by
 obtain ⟨R, hR⟩ : ∃ R, jrw code e du vo = R := ⟨_, rfl⟩
 rw [hR];unfold jrw at hR;refine ja7 (ja4 jxC xs0 0) (fun _ _ h => h) Tryz.func26 rfl (by kernel_rfl) rfl (by kernel_rfl) ?_;intro _;conv => whnf
 by_cases h0 : 400 < code.length
 ·rw [decide_eq_true (show (400 : Int) < (code.length : Int) by omega)];rw [if_pos h0] at hR;conv => whnf
  rw [<- hR]; rfl
 rw [decide_eq_false (show ¬ (400 : Int) < (code.length : Int) by omega)];rw [if_neg h0] at hR;conv => whnf
 by_cases h1 : du < 0
 ·rw [decide_eq_true h1];rw [if_pos (.inl h1)] at hR;conv => whnf
  rw [<- hR]; rfl
 rw [decide_eq_false h1];conv => whnf
 by_cases h2 : vo < 0
 ·rw [decide_eq_true h2];rw [if_pos (.inr (.inl h2))] at hR;conv => whnf
  rw [<- hR]; rfl
 rw [decide_eq_false h2];conv => whnf
 by_cases h3 : 16 < du
 ·rw [decide_eq_true h3];rw [if_pos (.inr (.inr (.inl h3)))] at hR;conv => whnf
  rw [<- hR]; rfl
 rw [decide_eq_false h3];conv => whnf
 refine ⟨jal (by omega), ?_⟩;conv => whnf
 by_cases h4 : 16 - du < vo
 ·rw [decide_eq_true h4];rw [if_pos (.inr (.inr (.inr h4)))] at hR;conv => whnf
  rw [<- hR]; rfl
 rw [decide_eq_false h4];rw [if_neg (by omega)] at hR
 have hopd := jkR code e du vo hl (by omega) (by omega)
 conv => whnf
 refine ja3 [1, 3] ?_;conv => whnf
 refine jad (fun j : Nat => [(4, .v (.int .i64 j))]) (fun _ => [pgL code e du vo]) (fun _ => []) (fun j => j <= code.length /\ (code.take j).all (okI (du + vo - 1) (code.length - 1)) = true) (fun j => code.length - j) 0 ?_ ⟨Nat.zero_le _, by rw [List.take_zero]; rfl⟩ ?_
 ·repeat' constructor
 rintro j ⟨hj, hall⟩
 have hall : (code.take j).all (okI (du + vo - 1) (code.length - 1)) = true := hall
 conv => whnf
 rcases Nat.lt_or_ge j code.length with hlt | hge
 ·have hrow : ja2 2 j (jbp code) = icA code[j] := jcg code j hlt
  have htk : (code.take (j + 1)).all (okI (du + vo - 1) (code.length - 1)) = okI (du + vo - 1) (code.length - 1) code[j] := by
   rw [List.take_succ_eq_append_getElem hlt, List.all_append, hall, Bool.true_and, List.all_cons, List.all_nil, Bool.and_true]
  have hcn : okI (du + vo - 1) (code.length - 1) code[j] = false -> R = 12 := fun hb => by
   have h5 : code.all (okI (du + vo - 1) (code.length - 1)) = false := by
    rw [List.all_eq_false];exact ⟨code[j], List.getElem_mem hlt, by rw [hb]; simp⟩
   rw [<- hR, if_pos h5]
  have hop := hopd (code[j]).1 (code[j]).2
  rw [show ((code[j]).1, (code[j]).2) = code[j] from rfl] at hop;generalize hv : okI (du + vo - 1) (code.length - 1) code[j] = v at htk hcn hop;clear hv;generalize code[j] = i at hrow hop
  obtain ⟨op, n⟩ := i
  unfold icA at hrow
  simp only at hrow hop
  rw [decide_eq_true (show (j : Int) < (code.length : Int) by omega)];conv => whnf
  refine ⟨show (0 : Int) <= (j : Int) /\ (j : Int) < (code.length : Nat) from ⟨by omega, by omega⟩, ?_⟩;conv => whnf
  (generalize hrq : ja2 _ _ (jbp code) = rq; obtain rfl : rq = [intA op, intA n] := hrq.symm.trans (hrow); clear hrq; conv => whnf)
  refine jah [] rfl (fun _ => hop) ?_;rintro r rfl
  cases v with
  | false =>
   have hcn := hcn rfl
   conv => whnf
   rw [hcn]; rfl
  | true =>
   conv => whnf
   refine ⟨show lo .i64 <= (j : Int) + 1 /\ (j : Int) + 1 <= hi .i64 from jal (by omega), ?_⟩;conv => whnf
   refine ⟨j + 1, ja1 [] ?_, ⟨show j + 1 <= code.length by omega, htk⟩, show code.length - (j + 1) < code.length - j by omega⟩;conv => whnf
   repeat' constructor
 rw [decide_eq_false (show ¬ (j : Int) < (code.length : Int) by omega)]
 have hall2 : code.all (okI (du + vo - 1) (code.length - 1)) = true := by
  have := hall
  rw [List.take_of_length_le hge] at this; exact this
 rw [hall2, if_neg (by decide)] at hR
 have hok := fun i hi => List.all_eq_true.1 hall2 i hi
 have hops := fun i hi => jtQ (List.all_eq_true.1 hall2 i hi)
 have hjm : jfr code := fun i hi => (hops i hi).2
 have hoo : ∀ i ∈ code, 1 <= i.1 /\ i.1 <= 23 := fun i hi => (hops i hi).1
 clear hall hopd;conv => whnf
 refine ja3 [1, 3] ?_;conv => whnf
 refine jad (fun j : Nat => [(5, .v (.int .i64 j))]) (fun _ => [pgL code e du vo]) (fun _ => []) (fun j => j <= 40 /\ jgr (jee code.length) e j (40 - j) = jgr (jee code.length) e 0 40) (fun j => 40 - j) 0 ?_ ⟨Nat.zero_le _, rfl⟩ ?_
 ·repeat' constructor
 clear hge hj;rintro j ⟨hj, hall⟩;conv => whnf
 rcases Nat.lt_or_ge j 40 with hlt | hge
 ·rw [decide_eq_true (show (j : Int) < 40 by omega)]
  have hst : jgr (jee code.length) e j (40 - j) = (jee code.length (e j) && jgr (jee code.length) e (j + 1) (40 - (j + 1))) := by
   rw [show 40 - j = (40 - (j + 1)) + 1 by omega]; rfl
  have hall' : jgr (jee code.length) e j (40 - j) = jgr (jee code.length) e 0 40 := hall
  conv => whnf
  refine ⟨show (0 : Int) <= (j : Int) /\ (j : Int) < ((40 : Nat) : Int) from ⟨by omega, by omega⟩, ?_⟩;conv => whnf
  generalize hrq : List.drop _ _ = rq
  obtain rfl : rq = intA (e j) :: (A.sl 2 code.length (jbp code) :: pgE e du vo).drop (j + 2) := hrq.symm.trans (jgZ _ e du vo j hlt)
  clear hrq;conv => whnf
  by_cases hlo : e j < -1
  ·rw [decide_eq_true hlo];rw [if_pos (by rw [<- hall', hst]; unfold jee; rw [decide_eq_false (show ¬ -1 <= e j by omega)]; rfl)] at hR;conv => whnf
   rw [<- hR]; rfl
  rw [decide_eq_false hlo];conv => whnf
  refine ⟨show (0 : Int) <= (j : Int) /\ (j : Int) < ((40 : Nat) : Int) from ⟨by omega, by omega⟩, ?_⟩;conv => whnf
  generalize hrq : List.drop _ _ = rq
  obtain rfl : rq = intA (e j) :: (A.sl 2 code.length (jbp code) :: pgE e du vo).drop (j + 2) := hrq.symm.trans (jgZ _ e du vo j hlt)
  clear hrq;conv => whnf
  by_cases hhi : (code.length : Int) <= e j
  ·rw [decide_eq_true hhi];rw [if_pos (by rw [<- hall', hst]; unfold jee; rw [decide_eq_false (show ¬ e j < code.length by omega), Bool.and_false]; rfl)] at hR;conv => whnf
   rw [<- hR]; rfl
  rw [decide_eq_false hhi];conv => whnf
  refine ⟨show lo .i64 <= (j : Int) + 1 /\ (j : Int) + 1 <= hi .i64 from jal (by omega), ?_⟩;conv => whnf
  refine ⟨j + 1, ja1 [] ?_, ⟨show j + 1 <= 40 by omega, ?_⟩, show 40 - (j + 1) < 40 - j by omega⟩
  ·conv => whnf
   repeat' constructor
  ·show jgr (jee code.length) e (j + 1) (40 - (j + 1)) = _
   rw [<- hall', hst];unfold jee;rw [decide_eq_true (show -1 <= e j by omega), decide_eq_true (show e j < code.length by omega)]; rfl
 obtain rfl : j = 40 := by omega
 have hall2 : jgr (jee code.length) e 0 40 = true := by
  have : jgr (jee code.length) e 40 (40 - 40) = jgr (jee code.length) e 0 40 := hall
  rw [<- this]; rfl
 rw [decide_eq_false (show ¬ ((40 : Nat) : Int) < 40 by omega)];rw [hall2, if_neg (by decide)] at hR
 have hent := jje _ _ _ _ hall2
 clear hall hge hj;conv => whnf
 refine ja3 [1, 3] ?_;conv => whnf
 refine jad (fun x : Nat × Int => [(6, intA x.2), (7, .v (.int .i64 x.1))]) (fun _ => [pgL code e du vo]) (fun _ => []) (fun x => x.1 <= 40 /\ jvH code e x.1 (40 - x.1) x.2 = R) (fun x => 40 - x.1) (0, 0) ?_ ⟨Nat.zero_le _, hR⟩ ?_
 ·repeat' constructor
 rintro ⟨j, q⟩ ⟨hj, hv⟩
 simp only at hj hv
 conv => whnf
 rcases Nat.lt_or_ge j 40 with hlt | hge
 ·rw [decide_eq_true (show (j : Int) < 40 by omega)];rw [show 40 - j = (40 - (j + 1)) + 1 by omega] at hv;unfold jvH at hv
  have hq := hent j (by omega) (by omega)
  unfold jee at hq;rw [Bool.and_eq_true, decide_eq_true_eq, decide_eq_true_eq] at hq;conv => whnf
  refine ⟨show (0 : Int) <= (j : Int) /\ (j : Int) < ((40 : Nat) : Int) from ⟨by omega, by omega⟩, ?_⟩;conv => whnf
  generalize hrq : List.drop _ _ = rq
  obtain rfl : rq = intA (e j) :: (A.sl 2 code.length (jbp code) :: pgE e du vo).drop (j + 2) := hrq.symm.trans (jgZ _ e du vo j hlt)
  clear hrq;conv => whnf
  by_cases hneg : e j < 0
  ·rw [decide_eq_true hneg]
   have hf0 : jb3 code (e j) = 0 := by unfold jb3; rw [if_pos hneg]
   rw [hf0, if_neg (by decide), if_neg (by decide)] at hv;conv => whnf
   refine ⟨show lo .i64 <= (j : Int) + 1 /\ (j : Int) + 1 <= hi .i64 from jal (by omega), ?_⟩;conv => whnf
   refine ⟨(j + 1, q), ja1 [] ?_, ⟨show j + 1 <= 40 by omega, hv⟩, show 40 - (j + 1) < 40 - j by omega⟩;conv => whnf
   repeat' constructor
  rw [decide_eq_false hneg]
  have hx : 0 <= e j /\ e j < code.length := ⟨by omega, hq.2⟩
  have hds := jgE code e du vo (e j) hl hjm hoo hx
  have hdp := joU code e du vo j hlt hl hjm hoo hx
  have hend := jvm hok hjm hx
  have hval := fun h => jua hjm hx h
  have hn1 : code.length - 1 < code.length := by omega
  have hnx := jlt code e du vo hl (code.length - 1) hn1
  have hcast : ((code.length - 1 : Nat) : Int) = (code.length : Int) - 1 := by omega
  rw [hcast] at hnx
  have hrl : ∀ out : List Int, out.length = code.length -> ja2 1 ((code.length : Int) - 1).toNat (jaG out) = [intA (og out ((code.length : Int) - 1))] := fun out ho => by
   rw [show ((code.length : Int) - 1).toNat = code.length - 1 by omega, jnY (by rw [ho]; exact hn1), hcast]
  have hhas := jqL (sc code ((code.length : Int) - 1)) code.length (by have := jpt code ((code.length : Int) - 1); omega)
  generalize jb3 code (e j) = f at hv hend hval;conv => whnf
  refine ⟨show (0 : Int) <= (j : Int) /\ (j : Int) < ((40 : Nat) : Int) from ⟨by omega, by omega⟩, ?_⟩;conv => whnf
  generalize hrq : List.drop _ _ = rq
  obtain rfl : rq = intA (e j) :: (A.sl 2 code.length (jbp code) :: pgE e du vo).drop (j + 2) := hrq.symm.trans (jgZ _ e du vo j hlt)
  clear hrq;conv => whnf
  refine jah [] rfl (fun _ => hds) ?_;rintro r ⟨out, ok, rfl, hdpp⟩
  have hln := hdpp.ln
  have hre := hdpp.re ((code.length : Int) - 1) (by omega) (by omega)
  conv => whnf
  refine ⟨show lo .i64 <= (code.length : Int) - 1 /\ (code.length : Int) - 1 <= hi .i64 from jal (by omega), ?_⟩;conv => whnf
  refine ⟨show (0 : Int) <= (code.length : Int) - 1 /\ (code.length : Int) - 1 < (out.length : Nat) from ⟨by omega, by rw [hln]; omega⟩, ?_⟩;conv => whnf
  (generalize hrq : ja2 _ _ (jaG out) = rq; obtain rfl : rq = [intA (og out ((code.length : Int) - 1))] := hrq.symm.trans ((hrl out hln)); clear hrq; conv => whnf)
  by_cases hl1 : 0 <= og out ((code.length : Int) - 1)
  ·rw [decide_eq_true hl1];conv => whnf
   refine ⟨show lo .i64 <= (code.length : Int) - 1 /\ (code.length : Int) - 1 <= hi .i64 from jal (by omega), ?_⟩;conv => whnf
   refine jah [] rfl (fun _ => hnx) ?_;rintro r rfl;conv => whnf
   refine jah [] rfl (fun _ => hhas) ?_;rintro r rfl;generalize hb : ((sc code ((code.length : Int) - 1)).any fun y => decide (y = (code.length : Int))) = b
   cases b with
   | true =>
    have h12 : f = 12 := hend.2 ⟨hre.1 hl1, by
     rw [List.any_eq_true] at hb
     obtain ⟨y, hy, hye⟩ := hb
     rw [decide_eq_true_eq] at hye
     rw [hye] at hy; exact hy⟩
    rw [if_pos h12] at hv;conv => whnf
    rw [<- hv]; rfl
   | false =>
    have h12 : f ≠ 12 := fun h => by
     have := (hend.1 h).2
     rw [List.any_eq_false] at hb;exact hb _ this (by simp)
    conv => whnf
    have hvl := hval h12
    rw [if_neg h12] at hv
    cases ok with
    | false =>
     have h13 : f = 13 := by
      rcases hvl with ⟨_, hg⟩ | ⟨h, _⟩
      ·have := ((jjq hdpp hdpp).2 hg).1
       cases this
      ·exact h
     rw [if_pos h13] at hv;conv => whnf
     refine ⟨show lo .i64 <= (j : Int) + 1 /\ (j : Int) + 1 <= hi .i64 from jal (by omega), ?_⟩;conv => whnf
     refine ⟨(j + 1, 13), ja1 [] ?_, ⟨show j + 1 <= 40 by omega, hv⟩, show 40 - (j + 1) < 40 - j by omega⟩;conv => whnf
     repeat' constructor
    | true =>
     conv => whnf
     refine jah [] rfl (fun _ => hdp) ?_;rintro r ⟨out2, ok2, m, hdp2, rfl, hm⟩
     have hgd := jjq hdpp hdp2
     by_cases h16 : (16 : Int) < m
     ·have h13 : f = 13 := by
       rcases hvl with ⟨_, hg⟩ | ⟨h, _⟩
       ·have h1 := (hgd.2 hg).2
        have := hm.2 h1
        omega
       ·exact h
      rw [if_pos h13] at hv;conv => whnf
      rw [decide_eq_true h16];conv => whnf
      refine ⟨show lo .i64 <= (j : Int) + 1 /\ (j : Int) + 1 <= hi .i64 from jal (by omega), ?_⟩;conv => whnf
      refine ⟨(j + 1, 13), ja1 [] ?_, ⟨show j + 1 <= 40 by omega, hv⟩, show 40 - (j + 1) < 40 - j by omega⟩;conv => whnf
      repeat' constructor
     ·have h0 : ¬ f = 13 := by
       rcases hvl with ⟨h, _⟩ | ⟨_, hg⟩
       ·rw [h]; decide
       ·exact absurd (hgd.1 ⟨rfl, hm.1 (by omega)⟩) hg
      rw [if_neg h0] at hv;conv => whnf
      rw [decide_eq_false h16];conv => whnf
      refine ⟨show lo .i64 <= (j : Int) + 1 /\ (j : Int) + 1 <= hi .i64 from jal (by omega), ?_⟩;conv => whnf
      refine ⟨(j + 1, q), ja1 [] ?_, ⟨show j + 1 <= 40 by omega, hv⟩, show 40 - (j + 1) < 40 - j by omega⟩;conv => whnf
      repeat' constructor
  ·rw [decide_eq_false hl1]
   have h12 : f ≠ 12 := fun h => hl1 (hre.2 (hend.1 h).1)
   conv => whnf
   have hvl := hval h12
   rw [if_neg h12] at hv
   cases ok with
   | false =>
    have h13 : f = 13 := by
     rcases hvl with ⟨_, hg⟩ | ⟨h, _⟩
     ·have := ((jjq hdpp hdpp).2 hg).1
      cases this
     ·exact h
    rw [if_pos h13] at hv;conv => whnf
    refine ⟨show lo .i64 <= (j : Int) + 1 /\ (j : Int) + 1 <= hi .i64 from jal (by omega), ?_⟩;conv => whnf
    refine ⟨(j + 1, 13), ja1 [] ?_, ⟨show j + 1 <= 40 by omega, hv⟩, show 40 - (j + 1) < 40 - j by omega⟩;conv => whnf
    repeat' constructor
   | true =>
    conv => whnf
    refine jah [] rfl (fun _ => hdp) ?_;rintro r ⟨out2, ok2, m, hdp2, rfl, hm⟩
    have hgd := jjq hdpp hdp2
    by_cases h16 : (16 : Int) < m
    ·have h13 : f = 13 := by
      rcases hvl with ⟨_, hg⟩ | ⟨h, _⟩
      ·have h1 := (hgd.2 hg).2
       have := hm.2 h1
       omega
      ·exact h
     rw [if_pos h13] at hv;conv => whnf
     rw [decide_eq_true h16];conv => whnf
     refine ⟨show lo .i64 <= (j : Int) + 1 /\ (j : Int) + 1 <= hi .i64 from jal (by omega), ?_⟩;conv => whnf
     refine ⟨(j + 1, 13), ja1 [] ?_, ⟨show j + 1 <= 40 by omega, hv⟩, show 40 - (j + 1) < 40 - j by omega⟩;conv => whnf
     repeat' constructor
    ·have h0 : ¬ f = 13 := by
      rcases hvl with ⟨h, _⟩ | ⟨_, hg⟩
      ·rw [h]; decide
      ·exact absurd (hgd.1 ⟨rfl, hm.1 (by omega)⟩) hg
     rw [if_neg h0] at hv;conv => whnf
     rw [decide_eq_false h16];conv => whnf
     refine ⟨show lo .i64 <= (j : Int) + 1 /\ (j : Int) + 1 <= hi .i64 from jal (by omega), ?_⟩;conv => whnf
     refine ⟨(j + 1, q), ja1 [] ?_, ⟨show j + 1 <= 40 by omega, hv⟩, show 40 - (j + 1) < 40 - j by omega⟩;conv => whnf
     repeat' constructor
 obtain rfl : j = 40 := by omega
 rw [decide_eq_false (show ¬ ((40 : Nat) : Int) < 40 by omega)];conv => whnf
 rw [<- hv]; rfl
theorem jwQ (s : ByteArray) (hs : s.size <= 1000000000) (u : Ut) (hp : jmH s = .ok u) (hz : szH u.on <= 900000) (hc : jeH (toU u) = 0) : Spec Tryz.prog 21 [] [jdc s] fun _ r => r = jwG u := by
 have h1 := joS s hs
 rw [hp] at h1;unfold jvv at h1
 simp only at h1
 have hu := juQ hp
 have h2 := jw0 u hu
 rw [hc] at h2
 have h3 := jjL u hu hz
 unfold jwG at h3 ⊢;refine ja7 (ja4 jaE xs0 0) (fun _ _ h => h) Tryz.func21 rfl (by kernel_rfl) rfl (by kernel_rfl) ?_;intro _;conv => whnf
 (refine jah [] rfl (fun _ => h1) ?_; rintro r rfl; conv => whnf)
 (refine jah [] rfl (fun _ => h2) ?_; rintro r rfl; conv => whnf)
 by_cases he : jwF u = 0
 ·rw [if_pos he] at h3 ⊢
  (refine jah [] rfl (fun _ => h3) ?_; rintro r rfl; conv => whnf)
  rfl
 ·rw [if_neg he] at h3 ⊢
  (refine jah [] rfl (fun _ => h3) ?_; rintro r rfl; conv => whnf)
  rfl
def exS : ByteArray := ⟨#[100, 117, 114, 97, 98, 108, 101, 32, 120, 59, 32, 111, 110, 32, 115, 116, 97, 114, 116, 32, 123, 32, 120, 32, 61, 32, 49, 32, 43, 32, 50, 59, 32, 125]⟩
def exX : ByteArray := ⟨#[120]⟩
def exU : Ut := ⟨[exX], [], [(0, .mk 11 0 eB [.mk 1 0 exX [.mk 18 0 jhx [jys 1, jys 2]]])]⟩
def exI : List Ic := [(1, 1), (1, 2), (6, 0), (3, 0), (23, 0)]
def exE : Nat -> Int := fun j => if j = 0 then 0 else -1
theorem jwL : jmH exS = .ok exU := by kernel_rfl
theorem juW : jeH (toU exU) = 0 := by kernel_rfl
theorem jv3 : jtH exU = (exI, exE) := by kernel_rfl
theorem jv8 : jwF exU = 0 := by kernel_rfl
theorem jw2 : jrw exI exE 1 0 = 0 := by kernel_rfl
theorem jsK : Spec Tryz.prog 21 [] [jdc exS] fun _ r => r = .tup [pgA exI exE 1 0, intA 0] := by
 have h := jwQ exS (by decide) exU jwL (by decide) juW
 unfold jwG at h;rw [jv8, jv3, if_pos rfl] at h;exact h
def e2 (j : Nat) : Nat -> Int := fun i => if 1 <= i /\ i < j then -1 else 0
theorem joH : Spec Tryz.prog 17 [] [] fun _ r => r = jas true := by
 have h1 := jsK
 have h2 := jq2 exI exE 1 0 (by decide)
 have h3 := jhc exI exE 1 0 (by decide)
 rw [jw2] at h3
 have hpe : pgE exE 1 0 = pgE (e2 40) 1 0 := juV (fun i hi => by
  unfold exE e2
  by_cases h : i = 0
  ·rw [if_pos h, if_neg (by omega)]
  ·rw [if_neg h, if_pos (by omega)]) 1 0
 have hpa : pgA exI exE 1 0 = pgA exI (e2 40) 1 0 := by unfold pgA pgL; rw [hpe]
 rw [show [pgA exI exE 1 0, pgA exI exE 1 0] = [pgA exI exE 1 0, pgA exI (e2 40) 1 0] by rw [<- hpa]] at h2;clear hpe hpa;refine ja7 (ja4 jaE xs0 0) (fun _ _ h => h) Tryz.func17 rfl (by kernel_rfl) rfl (by kernel_rfl) ?_;intro _;conv => whnf
 (refine jah [] rfl (fun _ => h1) ?_; rintro r rfl; conv => whnf)
 refine jb5 [0] ?_;conv => whnf
 refine ja3 [1, 2, 3] ?_;conv => whnf
 refine jad (fun j : Nat => [(4, .v (.int .i64 j))]) (fun j => [pgL exI exE 1 0, pgL exI (e2 j) 1 0]) (fun _ => []) (fun j => 1 <= j /\ j <= 40) (fun j => 40 - j) 1 ?_ ⟨by omega, by omega⟩ ?_
 ·repeat' constructor
  unfold jbp;rfl
 rintro j ⟨hj1, hj⟩;conv => whnf
 rcases Nat.lt_or_ge j 40 with hlt | hge
 ·rw [decide_eq_true (show (j : Int) < 40 by omega)];conv => whnf
  refine ⟨show (0 : Int) <= (j : Int) /\ (j : Int) < ((40 : Nat) : Int) from ⟨by omega, by omega⟩, ?_⟩;conv => whnf
  refine jgp (.sl 2 5 (jbp exI)) (e2 j) (e2 (j + 1)) 1 0 (-1) j hlt (fun i hi => ?_) ?_
  ·unfold e2
   by_cases h : i = j
   ·rw [if_pos h, if_pos (by omega)]
   ·rw [if_neg h]
    by_cases h2 : 1 <= i /\ i < j
    ·rw [if_pos h2, if_pos (by omega)]
    ·rw [if_neg h2, if_neg (by omega)]
  conv => whnf
  refine ⟨show lo .i64 <= (j : Int) + 1 /\ (j : Int) + 1 <= hi .i64 from jal (by omega), ?_⟩;conv => whnf
  refine ⟨j + 1, ja1 [] ?_, ⟨show 1 <= j + 1 by omega, show j + 1 <= 40 by omega⟩, show 40 - (j + 1) < 40 - j by omega⟩;conv => whnf
  repeat' constructor
 rw [decide_eq_false (show ¬ (j : Int) < 40 by omega)]
 obtain rfl : j = 40 := by omega
 conv => whnf
 (refine jah [] rfl (fun _ => h2) ?_; rintro r rfl; conv => whnf)
 (refine jah [] rfl (fun _ => h3) ?_; rintro r rfl; conv => whnf)
 rfl
end Go.Proofs.YtfbifdccmabdbaaGreatDoor.Vm
namespace Go.Proofs.YtfbifdccmabdbaaGreatDoor.Vm
open Go.RowKit
set_option linter.unusedSimpArgs false
set_option linter.unusedVariables false
set_option maxRecDepth 100000
def jsi (n : Int) : Int := if n < 0 then -(n + 1) else n
def jdv (n m : Int) : Int := (jsi n).tmod m
theorem jnV {n : Int} (hn : -9223372036854775808 <= n /\ n <= 9223372036854775807) : 0 <= jsi n /\ jsi n <= 9223372036854775807 := by unfold jsi; split <;> omega
theorem jgL {n m : Int} (hn : -9223372036854775808 <= n /\ n <= 9223372036854775807) (hm : 1 <= m) : 0 <= jdv n m /\ jdv n m < m := by
 have h := jnV hn
 unfold jdv;rw [Int.tmod_eq_emod_of_nonneg h.1];exact ⟨Int.emod_nonneg _ (by omega), Int.emod_lt_of_pos _ (by omega)⟩
theorem jcY (n m : Int) (hm : 1 <= m /\ m <= 9223372036854775807) : Spec Tryz.prog 27 [] [intA n, intA m] fun _ r => (-9223372036854775808 <= n /\ n <= 9223372036854775807) /\ r = intA (jdv n m) := by
 refine ja7 (ja4 jaE xs0 0) (fun _ _ h => h) Tryz.func27 rfl (by kernel_rfl) rfl (by kernel_rfl) ?_;intro hok
 have hn : -9223372036854775808 <= n /\ n <= 9223372036854775807 := okA_int.1 hok.1
 have hab := jnV hn
 conv => whnf
 by_cases h : n < 0
 ·refine jaY (b := decide (n < 0)) (decide_eq_true h) ?_;conv => whnf
  refine ⟨jal (by omega), ?_⟩;conv => whnf
  refine ⟨jal (by omega), ?_⟩;conv => whnf
  refine ⟨by omega, ?_⟩;conv => whnf
  refine ⟨hn, ?_⟩
  have : 0 - (n + 1) = jsi n := by unfold jsi; rw [if_pos h]; omega
  rw [this]; rfl
 ·refine jau (b := decide (n < 0)) (decide_eq_false h) ?_;conv => whnf
  refine ⟨by omega, ?_⟩;conv => whnf
  refine ⟨hn, ?_⟩
  have : n = jsi n := by unfold jsi; rw [if_neg h]
  show A.v (.int .i64 (n.tmod m)) = intA ((jsi n).tmod m)
  rw [<- this]; rfl
end Go.Proofs.YtfbifdccmabdbaaGreatDoor.Vm
namespace Go.Proofs.YtfbifdccmabdbaaGreatDoor.Vm
open Go.RowKit Go.Shelf
set_option linter.unusedSimpArgs false
set_option linter.unusedVariables false
set_option maxRecDepth 100000
def edL : List A := [intA (-1), intA 0, intA 1, intA 2, intA 5, intA 7, intA 8, intA 9, intA 15, intA 16, intA 29, intA 30, intA 2147483647, intA 2147483648, intA (-2147483647), intA (-2147483648)]
theorem jub (z : Int) (hz : 0 <= z /\ z < 16) : ∃ (v : Int) (r : List A), edL.drop (z.toNat * 1) = intA v :: r := by
 have h : z = 0 ∨ z = 1 ∨ z = 2 ∨ z = 3 ∨ z = 4 ∨ z = 5 ∨ z = 6 ∨ z = 7 ∨ z = 8 ∨ z = 9 ∨ z = 10 ∨ z = 11 ∨ z = 12 ∨ z = 13 ∨ z = 14 ∨ z = 15 := by omega
 rcases h with rfl | rfl | rfl | rfl | rfl | rfl | rfl | rfl | rfl | rfl | rfl | rfl | rfl | rfl | rfl | rfl
 all_goals exact ⟨_, _, rfl⟩
def jxt : Nat -> Int := fun i => if i = 2 then 0 else e1 40 i
def jvK (x : Int) : Nat -> Int := fun i => if i = 39 then x else jxt i
set_option maxHeartbeats 4000000 in
theorem operands_spec (a b entry n durable volatile : Int) : Spec Tryz.prog 6 [] [.agg [intA a, intA b], intA entry, intA n, intA durable, intA volatile] fun _ r => r = jas true := by
 have a1 := jcY n 23 (by decide)
 have a2 := jcY (n.tdiv 23) 16 (by decide)
 have a3 := jcY durable 10 (by decide)
 have a4 := jcY volatile 10 (by decide)
 have hlv := joH
 have hv1 := fun (c : List Ic) (e : Nat -> Int) (du vo : Int) (h : c.length <= 1000000) => jhc c e du vo h
 have hv2 := fun (c : List Ic) (e : Nat -> Int) (du vo : Int) (h : c.length <= 1000000) => jqJ c e du vo h
 refine ja7 (ja4 jyJ xs0 0) (fun _ _ h => h) Tryz.func6 rfl (by kernel_rfl) rfl (by kernel_rfl) ?_;intro hok;conv => whnf
 refine jah [] rfl (fun _ => a1) ?_;rintro r ⟨hi1, rfl⟩
 have hz1 := jgL hi1 (m := 23) (by decide)
 generalize jdv n 23 = z1 at *;conv => whnf
 refine ⟨jal (by omega), ?_⟩;conv => whnf
 refine ⟨by decide, ?_⟩;conv => whnf
 have htd : (n.tdiv 23).natAbs = n.natAbs / 23 := Int.natAbs_tdiv n 23
 refine ⟨show lo .i64 <= n.tdiv 23 /\ n.tdiv 23 <= hi .i64 from jal (by omega), ?_⟩;conv => whnf
 refine jah [] rfl (fun _ => a2) ?_;rintro r ⟨hi2, rfl⟩
 have hz2 := jgL hi2 (m := 16) (by decide)
 generalize jdv (n.tdiv 23) 16 = z2 at *
 obtain ⟨v, rest, hdr⟩ := jub z2 hz2
 conv => whnf
 refine ⟨show (0 : Int) <= z2 /\ z2 < ((16 : Nat) : Int) from ⟨by omega, by omega⟩, ?_⟩;conv => whnf
 generalize hrq : List.drop _ _ = rq
 obtain rfl : rq = intA v :: rest := hrq.symm.trans hdr
 clear hrq hdr;conv => whnf
 refine jb5 [1] ?_;conv => whnf
 refine ja3 [1, 3, 4, 13] ?_;conv => whnf
 refine jad (fun j : Nat => [(14, .v (.int .i64 j))]) (fun _ => [[intA a, intA b]]) (fun _ => []) (fun j => j <= 3) (fun j => 3 - j) 0 ?_ (by decide) ?_
 ·repeat' constructor
  done
 intro j hj;conv => whnf
 rcases Nat.lt_or_ge j 3 with hlt | hge
 ·rw [decide_eq_true (show (j : Int) < ((3 : Nat) : Int) by omega)]
  obtain ⟨p, q, hrow⟩ : ∃ p q : Int, ja2 2 j [intA a, intA b, intA (1 + z1), intA b, intA (1 + z1), intA v] = [intA p, intA q] := by
   rcases (show j = 0 ∨ j = 1 ∨ j = 2 by omega) with rfl | rfl | rfl
   all_goals (unfold ja2; exact ⟨_, _, rfl⟩)
  conv => whnf
  apply jmA
  ·conv => whnf
   refine ⟨show (0 : Int) <= (j : Int) /\ (j : Int) < ((3 : Nat) : Int) from ⟨by omega, by omega⟩, ?_⟩;conv => whnf
   generalize hrq : ja2 _ _ _ = rq
   obtain rfl : rq = [intA p, intA q] := hrq.symm.trans hrow
   clear hrq
   repeat' (first | (refine jah [] rfl (fun _ => a3) ?_; rintro r ⟨hi3, rfl⟩) | (refine jah [] rfl (fun _ => a4) ?_; rintro r ⟨hi4, rfl⟩) | (with_reducible refine And.intro ?_ ?_) | (conv => whnf))
   done
  conv => whnf
  obtain ⟨code, hcode⟩ : ∃ code : List Ic, [((1 : Int), (1 : Int)), (1, 2), (1, 0), (p, q), (23, 0)] = code := ⟨_, rfl⟩
  have hcl : code.length <= 1000000 := by rw [<- hcode]; simp only [List.length_cons, List.length_nil]; omega
  have hcells : [intA 1, intA 1, intA 1, intA 2, intA 1, intA 0, intA p, intA q, intA 23, intA 0] = jbp code := by
   rw [<- hcode]; unfold jbp; rfl
  have hcn : 5 = code.length := by rw [<- hcode]; rfl
  clear hcode;generalize jdv durable 10 = D;generalize jdv volatile 10 = V;refine jb5 [0] ?_;conv => whnf
  refine ja3 [1, 3, 4, 13, 14, 15] ?_;conv => whnf
  refine jad (fun k : Nat => [(16, .v (.int .i64 k))]) (fun k => [[intA a, intA b], pgL code (e1 k) D V]) (fun _ => []) (fun k => k <= 40) (fun k => 40 - k) 0 ?_ (by decide) ?_
  ·repeat' constructor
   rw [<- hcells, <- hcn];rfl
  intro k hk;conv => whnf
  rcases Nat.lt_or_ge k 40 with hkl | hkg
  ·rw [decide_eq_true (show (k : Int) < 40 by omega)];conv => whnf
   refine ⟨show (0 : Int) <= (k : Int) /\ (k : Int) < ((40 : Nat) : Int) from ⟨by omega, by omega⟩, ?_⟩;conv => whnf
   refine jgp (.sl 2 code.length (jbp code)) (e1 k) (e1 (k + 1)) D V (-1) k hkl (fun i hi => ?_) ?_
   ·unfold e1
    by_cases h : i = k
    ·rw [if_pos h, if_pos (by omega)]
    ·rw [if_neg h]
     by_cases h2 : i < k
     ·rw [if_pos h2, if_pos (by omega)]
     ·rw [if_neg h2, if_neg (by omega)]
   conv => whnf
   refine ⟨show lo .i64 <= (k : Int) + 1 /\ (k : Int) + 1 <= hi .i64 from jal (by omega), ?_⟩;conv => whnf
   refine ⟨k + 1, ja1 [] ?_, show k + 1 <= 40 by omega, show 40 - (k + 1) < 40 - k by omega⟩;conv => whnf
   repeat' constructor
  rw [decide_eq_false (show ¬ (k : Int) < 40 by omega)]
  obtain rfl : k = 40 := by omega
  conv => whnf
  refine ⟨by decide, ?_⟩;conv => whnf
  obtain ⟨f, hf⟩ : ∃ f, jrw code jxt D V = f := ⟨_, rfl⟩
  have w1 := hv1 code jxt D V hcl
  have w2 := hv2 code jxt D V hcl
  rw [hf] at w1 w2;clear hf;refine jah [] rfl (fun _ => w1) ?_;rintro r rfl;conv => whnf
  refine jah [] rfl (fun _ => w2) ?_;rintro r rfl;conv => whnf
  rw [decide_eq_true (rfl : f = f)];conv => whnf
  clear w1 w2;refine ⟨by decide, ?_⟩;conv => whnf
  obtain ⟨f, hf⟩ : ∃ f, jrw code (jvK entry) D V = f := ⟨_, rfl⟩
  have w1 := hv1 code (jvK entry) D V hcl
  have w2 := hv2 code (jvK entry) D V hcl
  rw [hf] at w1 w2;clear hf;refine jah [] rfl (fun _ => w1) ?_;rintro r rfl;conv => whnf
  refine jah [] rfl (fun _ => w2) ?_;rintro r rfl;conv => whnf
  rw [decide_eq_true (rfl : f = f)];conv => whnf
  clear w1 w2;refine ⟨by decide, ?_⟩;conv => whnf
  obtain ⟨f, hf⟩ : ∃ f, jrw code (jvK 4) durable volatile = f := ⟨_, rfl⟩
  have w1 := hv1 code (jvK 4) durable volatile hcl
  have w2 := hv2 code (jvK 4) durable volatile hcl
  rw [hf] at w1 w2;clear hf;refine jah [] rfl (fun _ => w1) ?_;rintro r rfl;conv => whnf
  refine jah [] rfl (fun _ => w2) ?_;rintro r rfl;conv => whnf
  rw [decide_eq_true (rfl : f = f)];conv => whnf
  clear w1 w2;refine ⟨show lo .i64 <= (j : Int) + 1 /\ (j : Int) + 1 <= hi .i64 from jal (by omega), ?_⟩;conv => whnf
  refine ⟨j + 1, ja1 [] ?_, show j + 1 <= 3 by omega, show 3 - (j + 1) < 3 - j by omega⟩;conv => whnf
  repeat' constructor
 rw [decide_eq_false (show ¬ (j : Int) < ((3 : Nat) : Int) by omega)];conv => whnf
 (refine jah [] rfl (fun _ => hlv) ?_; rintro r rfl; conv => whnf)
 rfl
end Go.Proofs.YtfbifdccmabdbaaGreatDoor.Vm
