/- Part 5 of the proof. -/
import Derived.Test.YtfbifdccmabdbaaGreatDoorY4
import Derived.Recover
set_option maxRecDepth 100000
set_option linter.unusedSimpArgs false
set_option linter.unusedVariables false
set_option maxHeartbeats 4000000
namespace Go.Proofs.YtfbifdccmabdbaaGreatDoor.Vm
open Go.RowKit Go.Shelf
def K6 (t:Tk):Prop:=(t.kind=1 /\ ∃ c r,t.text.data.toList=c :: r/\isL c=true /\ ∀ x ∈ c :: r,kW x=true) ∨ (t.kind=3 /\ ∃ c r,t.text.data.toList=c :: r/\kW c=false) ∨ (t.kind=0/\t.text.data.toList=[]) ∨ (t.kind=2 /\ ∃ c r,t.text.data.toList=c :: r/\kY c=true)
theorem jru {l:List UInt8} {k:Int} {len:Nat} {n:Int} {p:Nat} (h:qA l = .tok k len n):K6 ⟨k,p,bs (l.take len),n⟩ := by
 unfold K6;simp only[yE]
 cases l with
 | nil=>simp[qA] at h
 | cons c r =>
  cases hL:isL c
  ·cases hD:kY c
   ·have h3:k=3/\(len=1 ∨ len=2):=by
     cases h3:j9 o8 (bs ((c :: r).take 2))
     ·cases h4:j9 sO (bs [c])
      ·simp only[qA,hL,hD,h3,h4] at h
       cases h
      ·simp only[qA,hL,hD,h3,h4] at h
       cases h;exact⟨rfl,.inl rfl⟩
     ·simp only[qA,hL,hD,h3] at h
      cases h;exact⟨rfl,.inr rfl⟩
    right;left
    refine⟨h3.1,c,r.take (len-1),?_,by unfold kW;rw[hL,hD];rfl⟩
    rcases h3.2 with e | e <;> rw[e] <;> rfl
   ·simp only[qA,hL,hD] at h
    split at h
    ·cases h
    ·cases h
     exact .inr (.inr (.inr ⟨rfl,c,r.take (jD kY r),List.take_succ_cons,hD⟩))
  ·simp only[qA,hL] at h
   split at h
   ·cases h
   ·cases h
    left
    refine⟨rfl,c,r.take (jD kW r),List.take_succ_cons,hL,fun x hx => ?_⟩
    rcases List.mem_cons.1 hx with rfl | hx
    ·unfold kW;rw[hL];rfl
    ·exact mA kW r x hx
theorem uR:∀ (f p:Nat) (l:List UInt8),∀ t ∈ (x9 f p l).toks,K6 t
 | 0,p,l=>by simp[x9]
 | f+1,p,[]=>by simp[x9]
 | f+1,p,c :: r=>by
  rw[x9]
  split
  ·exact uR f _ _
  ·split
   ·exact uR f _ _
   ·cases ht:qA (c :: r) with
    | bad e=>simp
    | tok k len n =>
     intro t hm;simp only[Lx.cons,List.mem_cons] at hm
     rcases hm with rfl | hm
     ·exact jru ht
     ·exact uR f _ _ t hm
theorem jmP {s:ByteArray} (he:(qN s).err=none):∀ t ∈ iP s,K6 t:=fun t ht=>by
 rw[gG he,List.mem_append] at ht
 rcases ht with ht | ht
 ·exact uR _ _ _ t ht
 ·rw[List.mem_singleton.1 ht];exact .inr (.inr (.inl ⟨rfl,rfl⟩))
theorem jhO {c:UInt8} (h:kW c=true):c ≠ 32:=fun e=>by subst e;revert h;decide
theorem jma {t:Tk} (h:K6 t):wOk t:=fun hk=>by
 rcases h with ⟨_,c,r,h1,_,h3⟩ | ⟨h1,_⟩ | ⟨h1,_⟩ | ⟨h1,_⟩
 ·rw[h1];exact⟨by simp,fun x hx=>jhO (h3 x hx)⟩
 ·omega
 ·omega
 ·omega
theorem jjI {s:ByteArray} (hs:s.size<=3000) (he:(qN s).err=none):TkP (iP s):=⟨joO hs he,fun t ht=>jma (jmP he t ht)⟩
def okE (x e:Int):Prop:=(0<=x/\x<=1000000000)/\0<e/\e<=100
def mF (p:Pn):Prop:=match p with
 | .bad x e=>okE x e
 | _=>True
def bJ (op:List Tk->Pn):Prop := ∀ ts,TkP ts->mF (op ts)
theorem TkP.hp {ts:List Tk} (h:TkP ts):(Vm.hd ts).pos<=1000000000:=h.good.2.2.2.2.2
theorem bT {ts:List Tk} (h:TkP ts) {e:Int} (he:0<e/\e<=100):mF (.bad (hd ts).pos e):=⟨⟨by omega,by have:=h.hp;omega⟩,he⟩
theorem qT {p:Pn} {k:Nt->List Tk->Pn} (h:mF p) (hk:∀ f r,p = .ok f r->mF (k f r)):mF (p.andThen k):=by
 cases p with
 | ok f r=>exact hk f r rfl
 | bad x e=>exact h
theorem wP {s:ByteArray} {ts:List Tk} {k:List Tk->Pn} (h:TkP ts) (hk:TkP ts.tail->mF (k ts.tail)):mF (xpt s ts k):=by
 unfold xpt
 by_cases hs:zK s ts=true
 ·rw[if_pos hs];exact hk (h.is hs).1
 ·rw[if_neg hs];exact bT h (by decide)
theorem jeI {lim:Int} {ts:List Tk} {k:Int->List Tk->Pn} (h:TkP ts) (hk:TkP ts.tail->mF (k (hd ts).n ts.tail)):mF (aU lim ts k):=by
 unfold aU
 by_cases h1:(hd ts).kind ≠ 2
 ·rw[if_pos h1];exact bT h (by decide)
 ·rw[if_neg h1]
  by_cases h2:lim<=(hd ts).n
  ·rw[if_pos h2];exact bT h (by decide)
  ·rw[if_neg h2];exact hk (h.tail (by rw[Decidable.not_not.1 h1];decide)).1
theorem lX {ts:List Tk} (h:TkP ts):mF (synE ts):=bT h (by decide)
def jc1 (low:Option Pa):Prop := ∀ p,low=some p->bJ p.no/\bJ p.un/\bJ p.ex/\bJ p.bl
theorem jgA {low:Option Pa} (hg:cD low) (hl:jc1 low):bJ (cT low):=fun ts h=>by
 unfold cT
 by_cases hs:zK pLp ts=true
 ·rw[if_pos hs]
  cases low with
  | none=>exact bT h (by decide)
  | some p =>
   have q:=(h.is hs).1
   exact qT ((hl p rfl).2.2.1 _ q) fun f r e=>wP ((hg p rfl).2.2.1 _ _ _ q e).1 fun _=>trivial
 ·rw[if_neg hs];exact lX h
theorem qP {c:Prop} [Decidable c] {a b:Pn} (h1:c->mF a) (h2 : ¬ c->mF b):mF (if c then a else b):=by
 by_cases h:c
 ·rw[if_pos h];exact h1 h
 ·rw[if_neg h];exact h2 h
theorem jmZ {low:Option Pa} (hg:cD low) (hl:jc1 low):bJ (fI low):=fun ts h=>by
 unfold fI
 refine qP (fun hs=>jgA hg hl ts h) fun _ => ?_
 refine qP (fun hs=>qT (jgA hg hl _ (h.is hs).1) fun _ _ _=>trivial) fun _ => ?_
 refine qP (fun hs=>trivial) fun _ => ?_
 refine qP (fun hs=>trivial) fun _ => ?_
 refine qP (fun hs=>trivial) fun _ => ?_
 refine qP (fun hs=>trivial) fun _ => ?_
 exact qP (fun hs=>trivial) fun _=>lX h
theorem jjO {s:ByteArray} {op:Option (List Tk->Pn)} (hl:∀ f,op=some f->bJ f) {ts:List Tk} (h:TkP ts) (hs:zK s ts=true):mF (uD s op ts):=by
 cases op with
 | none=>exact bT h (by decide)
 | some f=>exact qT (hl f rfl _ (h.is hs).1) fun _ _ _=>trivial
theorem jjQ {low:Option Pa} (hg:cD low) (hl:jc1 low):bJ (aC low):=fun ts h=>by
 unfold aC
 refine qP (fun hs=>jjO (fun f hf => ?_) h hs) fun _=>jmZ hg hl ts h
 obtain⟨p,hp,rfl⟩ := Option.map_eq_some_iff.1 hf
 exact (hl p hp).2.1
theorem jdp {op:List Tk->Pn} (hg:qQ op) (ho:bJ op) (signs:List ByteArray):∀ (n:Nat) (l:Nt) (ts:List Tk),TkP ts->mF (xB op signs n l ts)
 | 0,l,ts,h=>trivial
 | n+1,l,ts,h=>by
  rw[xB]
  refine qP (fun hs => ?_) fun _=>trivial
  obtain⟨s,hs⟩ := dM hs
  have q:=(h.is hs).1
  exact qT (ho _ q) fun f r e=>jdp hg ho signs n _ _ (hg _ _ _ q e).1
theorem u5 {op:List Tk->Pn} (hg:qQ op) (ho:bJ op) (signs:List ByteArray):bJ (wD op signs):=fun ts h=>by
 unfold wD
 exact qT (ho _ h) fun f r e=>jdp hg ho signs _ _ _ (hg _ _ _ h e).1
theorem jjP {low:Option Pa} (hg:cD low) (hl:jc1 low):bJ (jcj low):=u5 (xD (gS hg) _) (u5 (gS hg) (jjQ hg hl) _) _
theorem jjN {low:Option Pa} (hg:cD low) (hl:jc1 low):bJ (uU low):=fun ts h=>by
 unfold uU
 refine qP (fun hs=>jjO (fun f hf => ?_) h hs) fun _ => ?_
 ·obtain⟨p,hp,rfl⟩ := Option.map_eq_some_iff.1 hf
  exact (hl p hp).1
 ·refine qT (jjP hg hl _ h) fun l r e => ?_
  have q:=(f9 hg _ _ _ h e).1
  refine qP (fun hs => ?_) fun _=>trivial
  obtain⟨s,hs⟩ := dM hs
  exact qT (jjP hg hl _ (q.is hs).1) fun _ _ _=>trivial
theorem jjM {low:Option Pa} (hg:cD low) (hl:jc1 low):bJ (jhB low):=u5 (xD (gR hg) _) (u5 (gR hg) (jjN hg hl) _) _
theorem jrn {ex bl:List Tk->Pn} (gex:qQ ex) (gbl:qQ bl) (hex:bJ ex) (hbl:bJ bl):bJ (stG ex bl):=fun ts h=>by
 unfold stG
 refine qP (fun hn => ?_) fun _ => ?_
 ·have q:=(h.tail (by rw[yT hn];decide)).1
  exact wP q fun q=>qT (hex _ q) fun f r e=>wP (gex _ _ _ q e).1 fun _=>trivial
 refine qP (fun _=>lX h) fun hk => ?_
 have q:=(h.tail (by rw[Decidable.not_not.1 hk];decide)).1
 refine qP (fun _=>qT (hex _ q) fun f r e=>qT (hbl _ (gex _ _ _ q e).1) fun f2 r2 e2=>qP (fun hs=>qT (hbl _ ((gbl _ _ _ (gex _ _ _ q e).1 e2).1.is hs).1) fun _ _ _=>trivial) fun _=>trivial) fun _ => ?_
 refine qP (fun _=>qT (hex _ q) fun f r e=>qT (hbl _ (gex _ _ _ q e).1) fun _ _ _=>trivial) fun _ => ?_
 refine qP (fun _=>qT (hex _ q) fun f r e=>wP (gex _ _ _ q e).1 fun q=>jeI q fun q=>wP q fun q=>qT (hex _ q) fun f r e=>wP (gex _ _ _ q e).1 fun q=>qT (hex _ q) fun f r e=>wP (gex _ _ _ q e).1 fun _=>trivial) fun _ => ?_
 refine qP (fun _=>jeI q fun q=>wP q fun _=>trivial) fun _ => ?_
 refine qP (fun _=>jeI q fun q=>wP q fun _=>trivial) fun _ => ?_
 refine qP (fun _=>wP q fun _=>trivial) fun _ => ?_
 refine qP (fun _=>qT (hex _ q) fun f r e=>wP (gex _ _ _ q e).1 fun q=>qT (hex _ q) fun f r e=>wP (gex _ _ _ q e).1 fun _=>trivial) fun _ => ?_
 refine qP (fun _=>qT (hex _ q) fun f r e=>wP (gex _ _ _ q e).1 fun _=>trivial) fun _ => ?_
 exact qP (fun _=>wP q fun _=>trivial) fun _=>lX h
theorem jgz {st:List Tk->Pn} (gst:GoesS st) (hst:bJ st):∀ (n:Nat) (acc:List Nt) (ts:List Tk),TkP ts->mF (mG st n acc ts)
 | 0,acc,ts,h=>lX h
 | n+1,acc,ts,h=>by
  rw[mG]
  exact qP (fun _=>trivial) fun _=>qT (hst _ h) fun f r e=>jgz gst hst n _ _ (gst _ _ _ h e).1
theorem jrl {st:List Tk->Pn} (gst:GoesS st) (hst:bJ st):bJ (bkF st):=fun ts h=>by
 unfold bkF
 exact wP h fun q=>jgz gst hst _ _ _ q
theorem jmX {low:Option Pa} (hl:jc1 low):bJ (jmf low):=by
 cases low with
 | none=>exact fun ts h=>qP (fun _=>bT h (by decide)) fun _=>lX h
 | some p=>exact (hl p rfl).2.2.2
theorem jmY {low:Option Pa} (hg:cD low) (hl:jc1 low):jc1 (some (paG low)):=fun p hp=>by
 cases hp
 exact⟨jjN hg hl,jjQ hg hl,jjM hg hl,jrl (pY (gQ hg) (v6 hg)) (jrn (gQ hg) (v6 hg) (jjM hg hl) (jmX hl))⟩
theorem jew:∀ d,cD (some (pa d))/\jc1 (some (pa d))
 | 0=>⟨jee (fun _ h=>by cases h),jmY (fun _ h=>by cases h) (fun _ h=>by cases h)⟩
 | d+1=>⟨jee (jew d).1,jmY (jew d).1 (jew d).2⟩
theorem joP:bJ (pa 19).bl:=((jew 19).2 _ rfl).2.2.2
theorem xJ {ts:List Tk} (h:TkP ts) {e:Int} (he:0<e/\e<=100):okE (hd ts).pos e:=bT h he
theorem jgB {lim off:Int} {ts:List Tk} (h:TkP ts) {x e:Int} (k:mH lim off ts = .bad x e):okE x e:=by
 unfold mH at k
 split at k
 ·cases k;exact xJ h (by decide)
 ·split at k
  ·cases k;exact xJ h (by decide)
  ·cases k
theorem jrm {hs:List (Int × Nt)} {ts:List Tk} (h:TkP ts) {x e:Int} (k:tK hs ts = .bad x e):okE x e:=by
 unfold tK at k
 cases hh:tM ts with
 | bad x2 e2 =>
  rw[hh] at k
  cases k
  unfold tM at hh
  by_cases h1:zK nL ts=true
  ·rw[if_pos h1] at hh;cases hh
  rw[if_neg h1] at hh
  by_cases h2:zK wRequest ts=true
  ·rw[if_pos h2] at hh;cases hh
  rw[if_neg h2] at hh
  by_cases h3:zK wTimer ts=true
  ·rw[if_pos h3] at hh;exact jgB (h.is h3).1 hh
  rw[if_neg h3] at hh
  by_cases h4:zK wMessage ts=true
  ·rw[if_pos h4] at hh;exact jgB (h.is h4).1 hh
  rw[if_neg h4] at hh
  cases hh
  exact xJ h (by decide)
 | ok k2 r2 =>
  rw[hh] at k
  simp only at k
  split at k
  ·cases k;exact xJ h (by decide)
  ·cases k
theorem jmW (du vo:List ByteArray):∀ (n:Nat) (hs:List (Int × Nt)) (ts:List Tk) (x e:Int),TkP ts->sD du vo n hs ts = .bad x e->okE x e
 | 0,hs,ts,x,e,h,k=>by cases k;exact xJ h (by decide)
 | n+1,hs,ts,x,e,h,k=>by
  rw[uO] at k
  by_cases hk:(hd ts).kind=0
  ·rw[if_pos hk] at k;cases k
  rw[if_neg hk] at k
  by_cases ho:zK wOn ts=false
  ·rw[if_pos ho] at k;cases k;exact xJ h (by decide)
  rw[if_neg ho] at k
  have q:=(h.tail hk).1
  cases hh:tK hs ts.tail with
  | bad x2 e2=>rw[hh] at k;cases k;exact jrm q hh
  | ok k2 r =>
   rw[hh] at k
   simp only at k
   obtain⟨_,q2,_⟩ := jhK q hh
   have hb:=joP _ q2
   cases hbl:(pa 19).bl r with
   | bad x2 e2=>rw[hbl] at k hb;cases k;exact hb
   | ok b r2 =>
    rw[hbl] at k;exact jmW du vo n _ _ _ _ (fU _ _ _ q2 hbl).1 k
theorem jit:∀ (n:Nat) (nm out:List ByteArray) (ts:List Tk) (x e:Int),TkP ts->(hd ts).kind ≠ 0->aO n nm out ts = .bad x e->okE x e
 | 0,nm,out,ts,x,e,h,hk,k=>by cases k;exact xJ h (by decide)
 | n+1,nm,out,ts,x,e,h,hk,k=>by
  rw[uM] at k
  have q:=(h.tail hk).1
  by_cases hn:wV ts.tail=false
  ·rw[if_pos hn] at k;cases k;exact xJ q (by decide)
  rw[if_neg hn] at k
  by_cases hh:j9 nm (hd ts.tail).text=true
  ·rw[if_pos hh] at k;cases k;exact xJ q (by decide)
  rw[if_neg hh] at k
  by_cases h6:nm.length=16
  ·rw[if_pos h6] at k;cases k;exact xJ q (by decide)
  rw[if_neg h6] at k
  have q3:=(q.tail (by rw[yT (by simpa using hn)];decide)).1
  unfold deH at k
  by_cases hc:zK j0 ts.tail.tail=true
  ·rw[if_pos hc] at k;exact jit n _ _ _ _ _ q3 (yM hc) k
  ·rw[if_neg hc] at k
   by_cases hs:zK jQ ts.tail.tail=true
   ·rw[if_pos hs] at k;cases k
   ·rw[if_neg hs] at k;cases k;exact xJ q3 (by decide)
theorem jis:∀ (n:Nat) (nm du vo:List ByteArray) (ts:List Tk) (x e:Int),TkP ts->nm.length<=16->jau n nm du vo ts = .bad x e->okE x e
 | 0,nm,du,vo,ts,x,e,h,h16,k=>by cases k;exact xJ h (by decide)
 | n+1,nm,du,vo,ts,x,e,h,h16,k=>by
  rw[jau] at k
  by_cases h1:zK xH ts=true
  ·rw[if_pos h1] at k
   cases hd:aO ts.length nm [] ts with
   | bad x2 e2=>rw[hd] at k;cases k;exact jit _ _ _ _ _ _ h (yM h1) hd
   | ok nm2 out r =>
    rw[hd] at k
    obtain⟨k1,k2,k3,k4⟩ := xR _ _ _ _ _ _ _ h (yM h1) h16 hd
    exact jis n _ _ _ _ _ _ k1 k3 k
  rw[if_neg h1] at k
  by_cases h2:zK x8 ts=true
  ·rw[if_pos h2] at k
   cases hd:aO ts.length nm [] ts with
   | bad x2 e2=>rw[hd] at k;cases k;exact jit _ _ _ _ _ _ h (yM h2) hd
   | ok nm2 out r =>
    rw[hd] at k
    obtain⟨k1,k2,k3,k4⟩ := xR _ _ _ _ _ _ _ h (yM h2) h16 hd
    exact jis n _ _ _ _ _ _ k1 k3 k
  rw[if_neg h2] at k;exact jmW _ _ _ _ _ _ _ h k
theorem jmF {ts:List Tk} (h:TkP ts) {x e:Int} (k:jmE ts = .bad x e):okE x e:=jis _ _ _ _ _ _ _ h (Nat.zero_le _) k
end Go.Proofs.YtfbifdccmabdbaaGreatDoor.Vm
namespace Go.Proofs.YtfbifdccmabdbaaGreatDoor.Vm
open Go.RowKit
section
def ClD (P:Program) (f:Nat) (u u':FrameMode):Array Value->World->(Ending->World->Prop)->Prop:=fun vs w R=>CallsD P f vs u w fun e m w' => m=u'/\R e w'
theorem ClD.mono {P:Program} {f:Nat} {u u':FrameMode} {vs:Array Value} {w:World} {R R':Ending->World->Prop} (h:∀ e w',R e w'->R' e w') (k:ClD P f u u' vs w R):ClD P f u u' vs w R' :=
 CallsD.mono k fun e m w' ⟨h1,h2⟩=>⟨h1,h _ _ h2⟩
@[irreducible] def jnR (P:Program) (u u':FrameMode) (f:Nat) (args:List A) (s:S) (K:S->Prop):Prop :=
 (∀ vs w,(callFunc f vs).run P w = .ok (.enter f vs) w) ∧
 ∃ (X ids:List Nat) (ins:List (List A)) (args':List A) (post:List (List A)->A->Prop),X.Nodup/\(∀ i ∈ X,i<s.bx.length) ∧
  g9 X (jA s.rw ids) (X.map fun i=>s.bx.getD i [])=some ins/\qY X (jA s.rw ids) args=some args'/\(nF args'->jcp (ClD P f u u') ins args' post fun _=>False) ∧
  ∀ outs r,post outs r->outs.length=X.length->fM X s.bx X outs fun bx' => zO (back X r) fun _=>j7 (jA s.rw ids) fun rw' => kN s bx' rw' K
def dY (c:Cx) (rv:List ResultVar) (post:List (List A)->A->Prop):List (Nat × List A)->FrameMode->S->Prop
 | [],.returning,s=>jim c rv post s
 | [],_,_=>False
 | (f,args) :: r,u,s=>u ≠ .run /\ ∃ u',jnR c.P u u' f args s fun s' => dY c rv post r (settle u') s'
section
variable {c:Cx} {w0:W0} {C0:Rd} {β0:List Nat}
theorem lN {fn:Func} {post:List (List A)->A->Prop} {R:Ending->World->Prop} {tmps:Array Value} (hfin:∀ s' w',jim c fn.results.toList post s'->Inv [] w0 C0 β0 s' { tmps:=tmps,defers:=[] } w' -> ∃ v,(results fn tmps).run c.P w' = .ok v w'/\R (.returned v) w') :
  ∀ (dr:List (Nat × List A)) (ds:List Deferred) (u:FrameMode) (s:S) (E:Env) (w:World),repD dr E ds->Hp w0 C0 β0 s.bx s.rw w E->A.repL s.t E tmps.toList->dY c fn.results.toList post dr u s->Leaves c.P fn tmps R ds u w
 | [],ds,u,s,E,w,hd,hp,ht,h=>by
  obtain rfl:ds=[]:=hd
  cases u with
  | returning=>exact hfin s w h ⟨E,hp,ht,rfl⟩
  | run=>exact h.elim
  | panicking ch=>exact h.elim
 | (f,args) :: r,ds,u,s,E,w,⟨d,ds',cap,hds,htg,hargs,hrest⟩,hp,ht,h=>by
  subst hds
  obtain⟨hu,u',h⟩ := h
  unfold jnR at h
  obtain⟨hcall,X,ids,ins,args',post',hn,hX,hins,hargs',hspec,hk⟩ := h
  have hcx:=jam (pan:=fun _ _=>False) (Xr:=fun _=>true) (K:=fun _ s' => dY c fn.results.toList post r (settle u') s') (Cl:=ClD c.P f u u') ClD.mono hp hargs hn (fun _ _=>rfl) hX hins hargs' hspec (fun outs r hp hl=>hk outs r hp hl) (fun ch bx' h _ _=>h.elim)
  obtain⟨t,da⟩ := d
  simp only at htg hargs hcx
  subst htg;refine leaves_cons (f:=f) (args:=da++cap) hu (by simp[invoke,hcall]) ?_
  have hcx':CallsD c.P f (da++cap) u w fun e m w' => m=u'/\((∃ y,e = .returned y/\Left w0 C0 β0 (fun _=>true) s E w (fun _ s' => dY c fn.results.toList post r (settle u') s') y w') ∨ ∃ (ch:List PanicEntry) (s':S) (E':Env),e = .panicked ch/\False/\s'.t=s.t/\E.le E'/\Hp w0 C0 β0 s'.bx s'.rw w' E'):=hcx
  refine CallsD.mono hcx' ?_;rintro e m w' ⟨rfl,⟨y,rfl,⟨⟨r0,s',E',h1,h2,h3,h4,h5,_⟩⟩⟩ | ⟨ch,s',E',_,h,_⟩⟩
  ·exact lN hfin r ds' _ s' E' w' (hrest.mono h3) h4 (by rw[h2];exact A.repL.mono _ h3 ht) h1
  ·exact h.elim
@[irreducible] def OkT (P:Program) (np:Nat) (pt:List (Nat × List A)->List PanicEntry->S->Prop) (qt:List (Nat × List A)->Exit->S->Prop) (dr:List (Nat × List A)) (x:Code) (s:S):Prop :=
 ∀ (w0:W0) (C0:Rd) (β0:List Nat) (a:Act) (w:World) (Q:Exit->Act->World->Prop),β0.length=np->Inv dr w0 C0 β0 s a w->(∀ dr' ch s' a' w',pt dr' ch s'->Inv dr' w0 C0 β0 s' a' w'->Q (.panic ch) a' w')->(∀ dr' e s' a' w',qt dr' e s'->Inv dr' w0 C0 β0 s' a' w'->Q e a' w')->x.wp P Q a w
def tQ (P:Program) (np:Nat) (pt:List (Nat × List A)->List PanicEntry->S->Prop) (qt:List (Nat × List A)->Exit->S->Prop) (dr:List (Nat × List A)) (y:Code) (e:Exit) (s:S):Prop:=match e with
 | .normal=>OkT P np pt qt dr y s
 | e=>qt dr e s
variable {pt:List (Nat × List A)->List PanicEntry->S->Prop} {qt:List (Nat × List A)->Exit->S->Prop} {dr:List (Nat × List A)} {s:S}
theorem jgc {x:Code} (hc:c.ok) (hdr:∃ n,yH n dr=true) (hl:yH c.np dr=true ∨ y7 x=true) (ho:kE c.ord x=true) (hp:∀ ch s',c.pan ch s'->pt dr ch s') (h:rW c x s (qt dr)):OkT c.P c.np pt qt dr x s:=by
 unfold OkT
 exact fun w0 C0 β0 a w Q hn hi hx hk=>nG hc hn hdr x hl (fun ch s' a' w' h1 h2=>hx dr ch s' a' w' (hp ch s' h1) h2) ho hi h fun e s' a' w' h1 h2=>hk dr e s' a' w' h1 h2
theorem z7 {x y:Code} (hc:c.ok) (hdr:∃ n,yH n dr=true) (hl:yH c.np dr=true ∨ y7 x=true) (ho:kE c.ord x=true) (hp:∀ ch s',c.pan ch s'->pt dr ch s') (h:rW c x s (tQ c.P c.np pt qt dr y)):OkT c.P c.np pt qt dr (.seq x y) s:=by
 unfold OkT;intro w0 C0 β0 a w Q hn hi hx hk;refine wp_seq (nG hc hn hdr x hl (fun ch s' a' w' h1 h2=>hx dr ch s' a' w' (hp ch s' h1) h2) ho hi h fun e s' a' w' h1 h2 => ?_)
 cases e with
 | normal =>
  have h1:OkT c.P c.np pt qt dr y s':=h1
  unfold OkT at h1;exact h1 w0 C0 β0 a' w' Q hn h2 hx hk
 | _=>exact hk dr _ _ _ _ h1 h2
def js6 (s:S) (fo:Operand) (xs:List Operand) (K:Nat->List A->Prop):Prop:=match ev s fo with
 | .clo f caps=>K f (xs.map (ev s)++caps)
 | .bm f fs=>K f (fs++xs.map (ev s))
 | _=>False
theorem u7 {ops l2:List Oper} {Q:Exit->Act->World->Prop} (hc:c.ok) (hdr:∃ n,yH n dr=true) (hx:∀ ch s' a' w',c.pan ch s'->Inv dr w0 C0 β0 s' a' w'->Q (.panic ch) a' w'):∀ {l:List Oper} {s:S} {a:Act} {w:World} {K:S->Prop},Inv dr w0 C0 β0 s a w->m8 c ops l s K->(∀ s' a' w',K s'->Inv dr w0 C0 β0 s' a' w'->wpList c.P ops.toArray Q l2 a' w')->wpList c.P ops.toArray Q (l++l2) a w
 | [],s,a,w,K,hi,h,hk=>hk s a w h hi
 | o :: r,s,a,w,K,hi,h,hk=>by
  obtain⟨E,hp,ht,hd⟩ := hi
  change bF ops o s (ado c (fun _=>true) s o fun s' => m8 c ops r s' K) (kX s o.dst (.tup []) fun s' => m8 c ops r s' K) at h
  refine wpList_step fun Kc hKc => ?_
  rcases vR ht h with ⟨h1,h2⟩ | ⟨h1,h2⟩
  ·rw[if_pos h1]
   exact jft hc hdr ⟨E,hp,ht,hd⟩ h2 hx fun s' a' w' h3 h4=>hKc _ _ (u7 hc hdr hx h4 h3 hk)
  ·rw[if_neg (by rw[h1];simp)]
   obtain⟨s2,k1,k2,k3,k4,k5⟩ := qV (a:=a) hp ht hd (wH _) h2
   exact hKc _ _ (u7 hc hdr hx ⟨E,by rw[k2,k3];exact hp,k4,k5⟩ k1 hk)
theorem jkw {id:Nat} {l:List Oper} {od:Oper} {fo:Operand} {xs:Array Operand} {ts:Array TypeId} {y:Code} (hc:c.ok) (hdr:∃ n,yH n dr=true) (hp:∀ ch s',c.pan ch s'->pt dr ch s') (hop:od.op = .defer ⟨.value fo,xs,ts⟩) (hg:od.guard=none) (hd:od.dst=none)
  (h:m8 c (l++[od]) l s fun s' => js6 s' fo xs.toList fun f args=>OkT c.P c.np pt qt ((f,args) :: dr) y s'):OkT c.P c.np pt qt dr (.seq (.region id (l++[od]).toArray false) y) s:=by
 unfold OkT;intro w0 C0 β0 a w Q hn hi hx hk;refine wp_seq (wp_region_lit (u7 (l2:=[od]) (Q:=Exit.then (y.wp c.P Q) Q) hc hdr (fun ch s' a' w' h1 h2=>hx dr ch s' a' w' (hp ch s' h1) h2) hi h fun s' a' w' h1 h2 => ?_))
 refine wpList_step fun Kc hKc => ?_
 rw[if_pos (by simp[Region.wanted,hg])]
 obtain⟨E,hpp,ht,hdd⟩ := h2
 unfold js6 at h1
 split at h1
 ·rename_i f caps hev
  have hf:=jO ht fo
  rw[hev] at hf;unfold A.rep at hf
  obtain⟨us,hf,hcaps⟩ := hf
  have hrun:(execOp a'.eval od).run c.P w' = .ok (.defer { target := .fn (.func f) us,args:=xs.map a'.eval }) w':=by simp[execOp,hop,resolve,Deferred.ofValue,hf,Result.andThen]
  unfold Oper.wp;rw[hrun,Oper.upon_defer];rw[hd];unfold OkT at h1;refine hKc _ _ (h1 w0 C0 β0 _ w' Q hn ⟨E,hpp,ht,{ target := .fn (.func f) us,args:=xs.map a'.eval },a'.defers,us,rfl,rfl,?_,hdd⟩ hx hk)
  have:=A.repL_append (gP ht xs.toList) hcaps
  simpa using this
 ·rename_i f fs hev
  have hf:=jO ht fo
  rw[hev] at hf;unfold A.rep at hf
  obtain⟨us,hf,hcaps⟩ := hf
  have hrun:(execOp a'.eval od).run c.P w' = .ok (.defer { target := .fn (.func f) #[],args:=us++xs.map a'.eval }) w':=by simp[execOp,hop,resolve,Deferred.ofValue,hf,Result.andThen]
  unfold Oper.wp;rw[hrun,Oper.upon_defer];rw[hd];unfold OkT at h1;refine hKc _ _ (h1 w0 C0 β0 _ w' Q hn ⟨E,hpp,ht,{ target := .fn (.func f) #[],args:=us++xs.map a'.eval },a'.defers,#[],rfl,rfl,?_,hdd⟩ hx hk)
  have:=A.repL_append hcaps (gP ht xs.toList)
  simpa using this
 ·exact h1.elim
theorem jcT {n:Nat} {ins:List (List A)} {args:List A} {w:World} {C:Rd} {β:List Nat} {vals:List Value} (h0:Gok C w) (h1:Sub C (kL w)) (h2:β.Nodup) (h3:∀ b ∈ β,∀ o sp,C ⟨b,o,sp⟩ = none) (h4:ins.length=β.length)
  (h5:∀ (i b:Nat) (cs:List A),β[i]? = some b->ins[i]? = some cs->boxAt w ⟨C,β,[]⟩ b cs) (h6:A.repL args ⟨C,β,[]⟩ vals) :
  Inv [] (.of w) C β ⟨args++List.replicate (n-args.length) .dead,ins,[]⟩ { tmps:=vals.toArray++Array.replicate (n-vals.toArray.size) undef,defers:=[] } w:=by
 have hl:=A.repL_len h6
 refine⟨⟨C,β,[]⟩,⟨h1,Sub.refl _,fun _ _ hc => .inl hc,⟨[],by simp,by simp⟩,h2,h3,h4,h5,rfl,fun g r y hg=>by simp at hg,fun g e k n cs y b hg=>by simp at hg,fun g e k n cs y h' e' k' n' cs' z b _ hg=>by simp at hg,fun g y hg=>by simp at hg,Keeps.refl _ _,jhJ h0⟩,?_,rfl⟩
 have:(vals.toArray++Array.replicate (n-vals.toArray.size) undef).toList=vals++List.replicate (n-args.length) undef:=by simp[hl]
 rw[this];exact A.repL_append h6 (gE _ _)
theorem jnd {f:Nat} {fn:Func} {x:Code} {ins:List (List A)} {args:List A} {post:List (List A)->A->Prop} (hc:c.ok) (hf:c.P.funcs[f]? = some fn) (hb:fn.body=some x) (hname:(fn.name == "runtime.NumGoroutine")=false)
  (hn:ins.length=c.np) (h:nF args->yL args (fn.ntmps-args.length) fun t=>OkT c.P c.np (fun dr ch s=>dY c fn.results.toList post dr (.panicking ch) s) (fun dr e s=>(e = .normal ∨ e = .ret)/\dY c fn.results.toList post dr .returning s) [] x ⟨t,ins,[]⟩):Spec c.P f ins args post:=by
 refine⟨aM hf hb hname,fun w C β vals h0 h1 h2 h3 h4 h5 h6 => ?_⟩;refine calls_of_wp_defers hf hb ?_
 have hinit:=initK_iff.1 (h (wA _ h6))
 have hinv:=jcT (n:=fn.ntmps) h0 h1 h2 h3 h4 h5 h6
 unfold OkT at hinit
 have hfin:∀ (tmps:Array Value) (s':S) (w':World),jim c fn.results.toList post s'->Inv [] (.of w) C β s' { tmps:=tmps,defers:=[] } w' -> ∃ v,(results fn tmps).run c.P w' = .ok v w' /\ ∃ outs r v',Ending.returned v = .returned v'/\post outs r/\Keeps β w w'/\outs.length=β.length ∧
   (∀ (i b:Nat) (cs:List A),β[i]? = some b->outs[i]? = some cs->boxAt w' ⟨qU C w w',β,[]⟩ b cs)/\r.rep ⟨qU C w w',β,[]⟩ v':=fun tmps s' w' hr hi =>
  (jhD (w:=w) (C:=C) (β:=β) (fn:=fn) (post:=post) hc h1 (by rw[<- h4,hn]) hr hi).2
 refine hinit (.of w) C β _ w _ (by rw[<- h4,hn]) hinv (fun dr ch s' a' w' hl ⟨E,hp,ht,hd⟩ => ?_) (fun dr e s' a' w' hl ⟨E,hp,ht,hd⟩ => ?_)
 ·exact lN (hfin a'.tmps) dr a'.defers _ s' E w' hd hp ht hl
 ·obtain⟨he,hl⟩ := hl
  rcases he with rfl | rfl
  ·exact lN (hfin a'.tmps) dr a'.defers _ s' E w' hd hp ht hl
  ·exact lN (hfin a'.tmps) dr a'.defers _ s' E w' hd hp ht hl
theorem jcg {c0:Frame} {cs:List Frame} (h:c0.mode = .returning):recoverD (c0 :: cs)=none:=by
 simp[recoverD,h]
theorem jcf {c0:Frame} {cs:List Frame} {v:Value} {older:List PanicEntry} (h:c0.mode = .panicking (⟨v,false,false⟩ :: older)):recoverD (c0 :: cs)=some (v,{ c0 with mode := .panicking (⟨v,true,false⟩ :: older) } :: cs):=by
 simp[recoverD,h]
theorem jjE {f id d0:Nat} {fn:Func} {o0:Oper} {ts:Array TypeId} {rest:Code} {ins:List (List A)} {args:List A} {post:List (List A)->A->Prop} {u u':FrameMode} {rv:Value} (hc:c.ok) (hq:∀ ch s,¬ c.pan ch s) (hf:c.P.funcs[f]? = some fn) (hb:fn.body=some (.seq (.region id #[o0] false) rest))
  (k0:o0.op = .call ⟨.builtin .recover,#[],ts⟩ /\ o0.guard=none/\o0.dst=some d0) (hd0:d0<fn.ntmps) (hv:eC rv)
  (hu:(u = .returning/\u' = .returning/\rv = .nilIface) ∨ ∃ v older,u = .panicking (⟨v,false,false⟩ :: older)/\u' = .panicking (⟨v,true,false⟩ :: older)/\rv=v)
  (hn:ins.length=c.np) (h:nF args->yL args (fn.ntmps-args.length) fun t=>Ok c rest ⟨t.set d0 (.v rv),ins,[]⟩ (jhy c fn.results.toList post)):jcp (ClD c.P f u u') ins args post fun _=>False:=by
 intro w C β vals h0 h1 h2 h3 h4 h5 h6;unfold ClD
 refine callsD_of_wpS hf hb fun c0 cs hu0=>wpS_seq (wpS_region ?_)
 have hinit:=initK_iff.1 (h (wA _ h6))
 have hinv:=jcT (n:=fn.ntmps) h0 h1 h2 h3 h4 h5 h6
 have hnp:β.length=c.np:=by rw[<- h4,hn]
 generalize hA:({ tmps:=vals.toArray++Array.replicate (fn.ntmps-vals.toArray.size) undef,defers:=[] } : Act)=a0 at *
 have hsz:d0<a0.tmps.size:=by rw[<- hA];simp;omega
 obtain⟨E,hp,ht,hd⟩ := hinv
 have hi2:Inv [] (.of w) C β ⟨(args++List.replicate (fn.ntmps-args.length) A.dead).set d0 (.v rv),ins,[]⟩ (a0.put (some d0) rv) w:=by
  refine⟨E,hp,?_,hd⟩
  show A.repL _ E (a0.tmps.setIfInBounds d0 rv).toList
  rw[Array.toList_setIfInBounds];exact A.repL_set ht d0 (A.rep_v hv)
 have e0:(execOp a0.eval o0).run c.P w = .ok .recover w:=by
  simp[execOp,k0.1,resolve,invoke,Result.andThen]
  rfl
 have hrange:List.range (#[o0]:Array Oper).size=[0]:=rfl
 rw[hrange]
 have g0:(#[o0]:Array Oper)[0]? = some o0:=rfl
 have w0':∀ y,Region.wanted o0 y=true:=fun y=>by simp[Region.wanted,k0.2.1]
 simp only[wpOpsS,g0,w0',if_true,e0];unfold Ok OkD at hinit
 have fin:∀ cs',cs' = { c0 with mode:=u' } :: cs->rest.wpS c.P (bodyPostS c.P fn c0 cs fun e m w' => m=u'/\((∃ outs r v,e = .returned v/\post outs r/\Keeps β w w'/\outs.length=β.length ∧
   (∀ (i b:Nat) (cs:List A),β[i]? = some b->outs[i]? = some cs->boxAt w' ⟨qU C w w',β,[]⟩ b cs)/\r.rep ⟨qU C w w',β,[]⟩ v) ∨
   ∃ (ch:List PanicEntry) (ns:List Nat),e = .panicked ch/\False/\Keeps β w w'/\ns.length=β.length /\ ∀ (i b n:Nat),β[i]? = some b->ns[i]? = some n->boxAt w' ⟨C,β,[]⟩ b (List.replicate n .dead))) (a0.put (some d0) rv) cs' w:=fun cs' hcs=>by
  subst hcs;refine wpS_of_wp ?_
  refine hinit (.of w) C β _ w _ hnp hi2 (fun ch s' _ _ hh _=>absurd hh (hq ch s')) fun e s' a' w' he hi => ?_
  have ff:=fun (hr:jim c fn.results.toList post s')=>jhD (w:=w) (C:=C) (β:=β) (fn:=fn) (post:=post) hc h1 hnp hr hi
  cases e with
  | normal=>obtain⟨q1,v,q2,q3⟩ := ff he;exact⟨q1,u',rfl,v,q2,rfl,.inl q3⟩
  | ret=>obtain⟨q1,v,q2,q3⟩ := ff he;exact⟨q1,u',rfl,v,q2,rfl,.inl q3⟩
  | _=>exact he.elim
 rcases hu with ⟨rfl,rfl,rfl⟩ | ⟨v,older,rfl,rfl,rfl⟩
 ·rw[jcg hu0];simp only[k0.2.2];exact fin _ (by rw[<- hu0])
 ·rw[jcf hu0];simp only[k0.2.2];exact fin _ rfl
end
end
end Go.Proofs.YtfbifdccmabdbaaGreatDoor.Vm
namespace Go.Proofs.YtfbifdccmabdbaaGreatDoor.Vm
open Go.RowKit Go.Shelf
theorem jib (u:Ut):jcp (ClD Tryz.prog 101 .returning .returning) [eZ u,[intA 0],[intA 0]] [.box 0 0,.box 1 0,.box 2 0] (fun o r=>o=[eZ u,[intA 0],[intA 0]]/\r = .tup []) fun _=>False:=by
 refine jjE (qB jmv (fun _=>[0,1,2]) 3) (fun _ _ h=>h) Tryz.func101 rfl (d0:=6) ⟨rfl,rfl,rfl⟩ (by decide) (rv := .nilIface) trivial (.inl ⟨rfl,rfl,rfl⟩) rfl ?_;intro _;conv=>whnf
 refine kF (qB _ _ _) (by kernel_rfl) ?_;conv=>whnf
 exact⟨rfl,rfl⟩
theorem jia (x e:Int) (hx:okE x e) (c0 c1 c2 b1 b2:A):jcp (ClD Tryz.prog 101 (.panicking (qO x e)) (.panicking [⟨.iface 142 (.agg #[.int .i64 x,.int .i64 e]),true,false⟩])) [[c0,c1,c2],[b1],[b2]] [.box 0 0,.box 1 0,.box 2 0]
  (fun o r=>o=[bW,[intA x],[intA e]]/\r = .tup []) fun _=>False:=by
 obtain⟨hx,he⟩ := hx
 refine jjE (qB jmv (fun _=>[0,1,2]) 3) (fun _ _ h=>h) Tryz.func101 rfl (d0:=6) ⟨rfl,rfl,rfl⟩ (by decide) (rv := .iface 142 (.agg #[.int .i64 x,.int .i64 e])) trivial (.inr ⟨_,[],rfl,rfl,rfl⟩) rfl ?_;intro _;conv=>whnf
 refine kF (qB _ _ _) (by kernel_rfl) ?_;conv=>whnf
 refine⟨?_,?_⟩
 ·intro u hu
  simp at hu
  rcases hu with rfl | rfl
  ·exact okV_int.2 (jJ (by omega))
  ·exact okV_int.2 (jJ (by omega))
 conv=>whnf
 exact⟨rfl,rfl⟩
def jjC:PU->A
 | .ok u => .tup [.agg (eZ u),intA 0,intA 0]
 | .bad x e => .tup [.agg bW,intA x,intA e]
def jpO (p:PU) (ch:List PanicEntry) (s:S):Prop := ∃ (x e:Int) (c0 c1 c2:A) (bx:List (List A)) (a b:A) (t:List A),p = .bad x e/\okE x e/\ch=qO x e/\s.bx=bW :: [intA 0] :: [intA 0] :: bx/\s.t=a :: b :: .box 0 0 :: .box 1 0 :: .box 2 0 :: t/\s.rw=[]
theorem js0 {l:List (List A)} {a b c d:List A} (h:l.length=4) (k:∀ j,j ≠ 3->l[j]? = [a,b,c,d][j]?):∃ d',l=[a,b,c,d']:=by
 match l,h with
 | [x,y,z,w],_ =>
  have h0:=k 0 (by decide)
  have h1:=k 1 (by decide)
  have h2:=k 2 (by decide)
  simp at h0 h1 h2
  exact⟨w,by rw[h0,h1,h2]⟩
def mS (id:Nat):Tr:=match Nat.beq id 5 with
 | true => .q 0 3 (.alt 1 2 (.alt 2 2 (.alt 3 2 (.alt 4 2 (.alt 5 2 .nil .nil) .nil) .nil) (.alt 3 2 (.alt 2 2 (.alt 4 2 (.alt 5 2 .nil .nil) .nil) (.alt 4 2 (.alt 2 2 (.alt 5 2 .nil .nil) .nil) .nil)) .nil)) (.alt 2 2 (.alt 1 2 (.alt 3 2 (.alt 4 2 (.alt 5 2 .nil .nil) .nil) .nil) (.alt 3 2 (.alt 1 2 (.alt 4 2 (.alt 5 2 .nil .nil) .nil) .nil) .nil)) (.alt 3 2 (.alt 1 2 (.alt 2 2 (.alt 4 2 (.alt 5 2 .nil .nil) .nil) (.alt 4 2 (.alt 2 2 (.alt 5 2 .nil .nil) .nil) .nil)) (.alt 2 2 (.alt 1 2 (.alt 4 2 (.alt 5 2 .nil .nil) .nil) .nil) .nil)) .nil)))
 | false => .nil
theorem jie (s:ByteArray) (hs:s.size<=1000000000):Spec Tryz.prog 55 [] [jX s] fun _ r=>r=jjC (i7 s):=by
 obtain⟨R,hR⟩ : ∃ R,i7 s=R:=⟨_,rfl⟩
 rw[hR]
 have htk:=jh3 s hs
 have hpan:∀ (ch:List PanicEntry) (s':S),jpO R ch s'->dY ⟨Tryz.prog,tab,mS,fun _=>[0],0,fun _ _=>False⟩ Tryz.f55.results.toList (fun _ r=>r=jjC R) [(101,[.box 0 0,.box 1 0,.box 2 0])] (.panicking ch) s':=fun ch s' hP=>by
  obtain⟨x,e,c0,c1,c2,bx,a,b,t0,hRe,hran,rfl,hbx,ht,hrw⟩ := hP
  obtain⟨t,bx',rw'⟩ := s'
  simp only at hbx hrw ht
  subst hbx hrw ht;subst hRe;unfold dY;refine⟨(fun h=>by cases h),FrameMode.panicking [⟨.iface 142 (.agg #[.int .i64 x,.int .i64 e]),true,false⟩],?_⟩;unfold jnR;refine⟨fun vs w=>rfl,[0,1,2],[],[bW,[intA 0],[intA 0]],[.box 0 0,.box 1 0,.box 2 0],fun o r=>o=[bW,[intA x],[intA e]]/\r = .tup [],by decide,?_,rfl,rfl,fun _=>jia x e hran _ _ _ _ _,?_⟩
  ·intro i hi;simp only[List.length_cons]
   simp at hi
   omega
  rintro o r ⟨rfl,rfl⟩ _;conv=>whnf
  rfl
 refine jnd (qB mS (fun _=>[0]) 0) Tryz.func55 rfl (by kernel_rfl) rfl ?_;intro _;conv=>whnf
 refine z7 (qB mS (fun _=>[0]) 0) (dr:=[]) ⟨0,rfl⟩ (.inl rfl) (by kernel_rfl) (fun _ _ h=>h.elim) ?_;conv=>whnf
 refine z7 (qB mS (fun _=>[0]) 0) (dr:=[]) ⟨0,rfl⟩ (.inl rfl) (by kernel_rfl) (fun _ _ h=>h.elim) ?_;conv=>whnf
 unfold i7 at hR
 by_cases hbig:3000<s.size
 ·rw[if_pos hbig] at hR;rw[jK (by omega)];conv=>whnf
  refine⟨.inr rfl,?_⟩;conv=>whnf
  subst hR;rfl
 rw[if_neg hbig] at hR;rw[jG (by omega)];conv=>whnf
 refine z7 (qB mS (fun _=>[0]) 0) (dr:=[]) ⟨0,rfl⟩ (.inl rfl) (by kernel_rfl) (fun _ _ h=>h.elim) ?_;conv=>whnf
 refine kU [] htk ?_;rintro r rfl
 have htb:=fun h=>jjI (s:=s) (by omega) h
 unfold sK
 cases herr:(qN s).err with
 | some pe =>
  obtain⟨p,e⟩ := pe
  rw[herr] at hR
  simp only at hR
  have hne:=(gM (s.data.toList.length+1) 0 s.data.toList).2 p e herr
  conv=>whnf
  refine z7 (qB mS (fun _=>[0]) 0) (dr:=[]) ⟨0,rfl⟩ (.inl rfl) (by kernel_rfl) (fun _ _ h=>h.elim) ?_;conv=>whnf
  rw[jG hne.2.1];conv=>whnf
  apply lJ
  ·repeat' (first | (with_reducible refine And.intro ?_ ?_) | (conv=>whnf))
  conv=>whnf
  refine⟨.inr rfl,?_⟩;conv=>whnf
  subst hR;rfl
 | none =>
  rw[herr] at hR
  simp only at hR
  have htb:=htb herr
  have hrl:=gG herr
  rw[<- hrl]
  have hln:(qN s).toks.length+1=(iP s).length:=by rw[hrl];simp
  rw[hln];generalize iP s=T at *;conv=>whnf
  refine z7 (qB mS (fun _=>[0]) 0) (dr:=[]) ⟨0,rfl⟩ (.inl rfl) (by kernel_rfl) (fun _ _ h=>h.elim) ?_;conv=>whnf
  refine jkw (qB mS (fun _=>[0]) 0) ⟨0,rfl⟩ (fun _ _ h=>h.elim) (l:=[_]) rfl rfl rfl ?_;conv=>whnf
  have hpg:=jeC T htb
  have hsan:=fun x e=>jmF htb (x:=x) (e:=e)
  rw[hR] at hpg;refine z7 (c:=⟨Tryz.prog,tab,mS,fun _=>[0],0,jpO R⟩) (wE _ _ _ _) ⟨3,rfl⟩ (.inr (by kernel_rfl)) (by kernel_rfl) hpan ?_;conv=>whnf
  refine jnZ 3 [] rfl rfl rfl rfl (fun _=>hpg) (fun ch bx' hp hbl hbx => ?_) ?_
  ·unfold puQ at hp
   split at hp
   ·rename_i x e
    obtain⟨d',rfl⟩ := js0 hbl hbx
    exact⟨x,e,.dead,.dead,.dead,_,_,_,_,rfl,hsan _ _ hR,hp,rfl,rfl,rfl⟩
   ·exact hp.elim
  rintro o r ⟨⟨nm,ts1,ho⟩,huo⟩;cases ho;unfold uoQ at huo
  split at huo
  rotate_left
  ·exact huo.elim
  rename_i u
  subst huo;conv=>whnf
  refine jgc (c:=⟨Tryz.prog,tab,mS,fun _=>[0],0,jpO (.ok u)⟩) (wE _ _ _ _) ⟨3,rfl⟩ (.inr (by kernel_rfl)) (by kernel_rfl) hpan ?_;conv=>whnf
  refine⟨.inr rfl,?_⟩;unfold dY;refine⟨(fun h=>by cases h),FrameMode.returning,?_⟩;unfold jnR;refine⟨fun vs w=>rfl,[0,1,2],[],[eZ u,[intA 0],[intA 0]],[.box 0 0,.box 1 0,.box 2 0],fun o r=>o=[eZ u,[intA 0],[intA 0]]/\r = .tup [],by decide,?_,rfl,rfl,fun _=>jib u,?_⟩
  ·intro i hi;simp only[List.length_cons]
   simp at hi
   omega
  rintro o r ⟨rfl,rfl⟩ _;conv=>whnf
  rfl
def opAll:List ByteArray:=[vI,pOr,cZ,pMinus,vU,yB,pLt,pLe,pGt,pGe,jmB,pNe]
def arN (k:Int) (s:ByteArray) (m:Nat):Bool :=
 if k=11 then decide (m<=3002)
 else if k=12 ∨ k=13 ∨ k=14 ∨ k=5 ∨ k=6 ∨ k=7 ∨ k=10 then decide (m=0)
 else if k=15 then decide (m=0) && builtL.any fun x=>decide (s=x)
 else if k=16 ∨ k=1 ∨ k=9 then decide (m=1)
 else if k=17 then decide (m=1) && (decide (s=pMinus) || decide (s=pNot))
 else if k=18 then decide (m=2) && opAll.any fun x=>decide (s=x)
 else if k=8 ∨ k=3 then decide (m=2)
 else if k=2 ∨ k=4 then decide (m=3)
 else false
theorem jhm {k:Int} {s:ByteArray} {m:Nat} (h:arN k s m=true):m<=3002:=by
 unfold arN at h
 repeat' split at h
 all_goals (try rw[Bool.and_eq_true] at h);(try simp only[decide_eq_true_eq] at h);(first | omega | (have:=h.1;omega) | cases h)
def isX (f:Nt):Bool:=decide (12<=f.k)
def clN (k:Int) (l:List Nt):Bool :=
 if k=11 then l.all fun f => !isX f
 else if k=2 ∨ k=3 then (l.take 1).all isX && (l.drop 1).all fun f => !isX f
 else l.all isX
mutual
def rT:Nt->Prop
 | .mk k n s kids=>arN k s kids.length=true/\jeT kids/\clN k kids=true
def jeT:List Nt->Prop
 | []=>True
 | f :: l=>rT f/\jeT l
end
theorem lB:∀ {l:List Nt} {f:Nt},jeT l->f ∈ l->rT f
 | x :: r,f,h,hf=>by
  unfold jeT at h
  rcases List.mem_cons.1 hf with rfl | hf
  ·exact h.1
  ·exact lB h.2 hf
theorem jk0:∀ {l:List Nt},(∀ f ∈ l,rT f)->jeT l
 | [],_=>by unfold jeT;trivial
 | x :: r,h=>by
  unfold jeT;exact⟨h x List.mem_cons_self,jk0 fun f hf=>h f (List.mem_cons_of_mem _ hf)⟩
theorem jbW {k n:Int} {s:ByteArray} {kids:List Nt} (h:arN k s kids.length=true) (hc:clN k kids=true) (hk:∀ f ∈ kids,rT f):rT (.mk k n s kids):=by
 unfold rT;exact⟨h,jk0 hk,hc⟩
def Wc (c:Bool) (f:Nt):Prop:=rT f/\isX f=c
theorem wx0 {k n:Int} {s:ByteArray} (h:arN k s 0=true):rT (.mk k n s []):=jbW h (by unfold clN;(repeat' split) <;> rfl) (by simp)
theorem jo1 {k:Int} {l:List Nt} (hk:k ≠ 11/\k ≠ 2/\k ≠ 3):clN k l=l.all isX:=by
 unfold clN;rw[if_neg hk.1,if_neg (fun h=>h.elim hk.2.1 hk.2.2)]
theorem wx1 {k n:Int} {s:ByteArray} {f:Nt} (h:arN k s 1=true) (hk:k ≠ 11/\k ≠ 2/\k ≠ 3) (hf:Wc true f):rT (.mk k n s [f]):=jbW h (by rw[jo1 hk];simp[hf.2]) fun x hx=>by rw[List.mem_singleton.1 hx];exact hf.1
theorem jh4 {f g h:Nt} (hf:rT f) (hg:rT g) (hh:h ∈ [f,g]):rT h:=by
 simp only[List.mem_cons,List.not_mem_nil,or_false] at hh
 rcases hh with rfl | rfl <;> assumption
theorem jbL {f g h i:Nt} (hf:rT f) (hg:rT g) (hh:rT h) (hi:i ∈ [f,g,h]):rT i:=by
 simp only[List.mem_cons,List.not_mem_nil,or_false] at hi
 rcases hi with rfl | rfl | rfl <;> assumption
theorem wx2 {k n:Int} {s:ByteArray} {f g:Nt} (h:arN k s 2=true) (hk:k ≠ 11/\k ≠ 2/\k ≠ 3) (hf:Wc true f) (hg:Wc true g):rT (.mk k n s [f,g]):=jbW h (by rw[jo1 hk];simp[hf.2,hg.2]) fun x hx=>jh4 hf.1 hg.1 hx
theorem wx3 {k n:Int} {s:ByteArray} {f g c:Nt} (h:arN k s 3=true) (hk:k ≠ 11/\k ≠ 2/\k ≠ 3) (hf:Wc true f) (hg:Wc true g) (hc:Wc true c):rT (.mk k n s [f,g,c]):=jbW h (by rw[jo1 hk];simp[hf.2,hg.2,hc.2]) fun x hx=>jbL hf.1 hg.1 hc.1 hx
theorem wi2 {n:Int} {s:ByteArray} {c b:Nt} (hc:Wc true c) (hb:Wc false b):Wc false (.mk 3 n s [c,b]):=⟨jbW rfl (by unfold clN;simp[hc.2,hb.2]) fun x hx=>jh4 hc.1 hb.1 hx,rfl⟩
theorem wi3 {n:Int} {s:ByteArray} {c b o:Nt} (hc:Wc true c) (hb:Wc false b) (ho:Wc false o):Wc false (.mk 2 n s [c,b,o]):=⟨jbW rfl (by unfold clN;simp[hc.2,hb.2,ho.2]) fun x hx=>jbL hc.1 hb.1 ho.1 hx,rfl⟩
theorem wbk {n:Int} {s:ByteArray} {l:List Nt} (hl:l.length<=3002) (h:∀ f ∈ l,Wc false f):Wc false (.mk 11 n s l):=⟨jbW (jK hl) (by
 unfold clN;rw[if_pos rfl,List.all_eq_true]
 exact fun f hf=>by rw[(h f hf).2];rfl) fun f hf=>(h f hf).1,rfl⟩
mutual
def qW:Nt->Nat
 | .mk _ _ _ kids=>3+zF kids
def zF:List Nt->Nat
 | []=>0
 | f :: l=>qW f+zF l
end
theorem jdF (s:Nt):∀ l:List Nt,zF (l++[s])=zF l+qW s
 | []=>by show qW s+0=0+qW s;omega
 | f :: l=>by show qW f+zF (l++[s])=qW f+zF l+qW s;rw[jdF s l];omega
def WP (c:Bool) (z:Nat) (op:List Tk->Pn):Prop := ∀ ts f r,ts.length<=3002->op ts = .ok f r->Wc c f /\ ∃ a,ts=a++r/\qW f<=z+9*a.length
def WPt (c:Bool) (z:Nat) (op:List Tk->Pn):Prop := ∀ ts f r,ts ≠ []->ts.length<=3002->op ts = .ok f r->Wc c f /\ ∃ a,ts=a++r/\qW f<=z+9*a.length
theorem WP.syn {c:Bool} {z:Nat} : WP c z synE:=fun ts f r _ h=>by cases h
theorem WP.bad {c:Bool} {z:Nat} (x:List Tk->Int) (y:Int):WP c z (fun ts => .bad (x ts) y):=fun ts f r _ h=>by cases h
theorem WP.mono {c:Bool} {z y:Nat} {op:List Tk->Pn} (h:WP c z op) (hz:z<=y):WP c y op:=fun ts f r h1 h2=>by
 obtain⟨a1,a,a2,a3⟩ := h ts f r h1 h2
 exact⟨a1,a,a2,by omega⟩
theorem WP.okT {c:Bool} {z:Nat} {f:Nt} (hf:Wc c f) (hz:qW f<=z:=by first | omega | (simp only[qW,zF,wL];omega)):WP c z (fun r => .ok f r):=fun ts g r _ h=>by cases h;exact⟨hf,[],rfl,by simpa using hz⟩
theorem WP.andThen {c d:Bool} {z:Nat} {op:List Tk->Pn} {k:Nt->List Tk->Pn} (h1:WP c 0 op) (h2:∀ f,Wc c f->WP d (z+qW f) (k f)):WP d z (fun ts=>(op ts).andThen k):=fun ts f r hz h=>by
 cases ho:op ts with
 | bad x y=>simp only[ho] at h;cases h
 | ok g u =>
  simp only[ho] at h
  obtain⟨a1,a,a2,a3⟩ := h1 ts g u hz ho
  have hu:u.length<=3002:=by rw[a2,List.length_append] at hz;omega
  obtain⟨b1,b,b2,b3⟩ := h2 g a1 u f r hu h
  exact⟨b1,a++b,by rw[a2,b2,List.append_assoc],by rw[List.length_append];omega⟩
theorem WP.tail {c:Bool} {z:Nat} {op:List Tk->Pn} (h:WP c (z+9) op):WPt c z (fun ts=>op ts.tail):=fun ts f r hne hz ho=>by
 obtain⟨a1,a,a2,a3⟩ := h _ f r (by rw[List.length_tail];omega) ho
 cases ts with
 | nil=>exact absurd rfl hne
 | cons t ts=>exact⟨a1,t :: a,by simpa using a2,by rw[List.length_cons];omega⟩
theorem WP.itc {d:Bool} {z:Nat} (c:List Tk->Prop) [DecidablePred c] (hc : ¬ c []) {op1 op2:List Tk->Pn} (h1:WPt d z op1) (h2:WP d z op2):WP d z (fun ts=>if c ts then op1 ts else op2 ts):=fun ts f r hz h=>by
 dsimp only at h
 split at h
 ·rename_i hcc
  exact h1 ts f r (fun e=>hc (e ▸ hcc)) hz h
 ·exact h2 ts f r hz h
theorem WP.ite {d:Bool} {z:Nat} (c:List Tk->Prop) [DecidablePred c] {op1 op2:List Tk->Pn} (h1:WP d z op1) (h2:WP d z op2):WP d z (fun ts=>if c ts then op1 ts else op2 ts):=fun ts f r hz h=>by
 dsimp only at h
 split at h
 ·exact h1 ts f r hz h
 ·exact h2 ts f r hz h
theorem gK (s:ByteArray) : ¬ zK s []=true:=by
 unfold zK;rw[show (decide ((hd []).kind=1) || decide ((hd []).kind=3))=false from rfl,Bool.and_false];exact Bool.false_ne_true
theorem jf4 (l:List ByteArray) : ¬ cE l []=true:=fun h=>by
 obtain⟨s,-,h2⟩ := List.any_eq_true.1 h
 exact gK s h2
theorem WP.xpt {c:Bool} {z:Nat} (s:ByteArray) {k:List Tk->Pn} (h:WP c (z+9) k):WP c z (fun ts=>Vm.xpt s ts k):=WP.itc (fun ts=>zK s ts=true) (gK s) h.tail WP.syn
theorem WP.num {c:Bool} {z:Nat} (limit:Int) {k:Int->List Tk->Pn} (h:∀ n,WP c (z+9) (k n)):WP c z (fun ts=>aU limit ts k):=fun ts f r hz ho=>by
 unfold aU at ho
 dsimp only at ho
 split at ho
 ·cases ho
 ·rename_i h2
  split at ho
  ·cases ho
  ·exact (h _).tail ts f r (fun e=>h2 (by rw[e];decide)) hz ho
structure WPa (p:Pa):Prop where
 no:WP true 0 p.no
 un:WP true 0 p.un
 ex:WP true 0 p.ex
 bl:WP false 0 p.bl
def jhi (low:Option Pa):Prop := ∀ p,low=some p->WPa p
theorem WP.nest {low:Option Pa} (hl:jhi low):WP true 0 (cT low):=by
 cases low with
 | none=>exact WP.ite (fun ts=>zK pLp ts=true) (WP.bad _ _) WP.syn
 | some p=>exact WP.itc (fun ts=>zK pLp ts=true) (gK _) (((hl p rfl).ex.andThen fun n hn=>WP.xpt pRp (WP.okT hn)).tail) WP.syn
theorem WP.tok {c:Bool} {z:Nat} {op:Tk->List Tk->Pn} (h:∀ t,WP c (z+9) (op t)):WPt c z (fun ts=>op (hd ts) ts.tail):=fun ts f r hne hz ho=>(h (hd ts)).tail ts f r hne hz ho
theorem jfS:wV []=false:=rfl
theorem WP.prim {low:Option Pa} (hl:jhi low):WP true 0 (fI low):=by
 refine WP.ite (fun ts=>zK pLp ts=true) (WP.nest hl) <|
  WP.itc (fun ts=>zK jbT ts=true) (gK _) (((WP.nest hl).andThen fun n hn=>WP.okT ⟨wx1 rfl (by decide) hn,rfl⟩).tail) <|
  WP.itc (fun ts=>(hd ts).kind=2) (by decide) (WP.tok (op:=fun t r => .ok (.mk 12 t.n eB []) r) fun t=>WP.okT ⟨wx0 rfl,rfl⟩) <|
  WP.itc (fun ts=>zK jbU ts=true) (gK _) (WP.okT ⟨wx0 rfl,rfl⟩).tail <|
  WP.itc (fun ts=>zK pA ts=true) (gK _) (WP.okT ⟨wx0 rfl,rfl⟩).tail <|
  WP.itc (fun ts=>wV ts=true) (by rw[jfS];exact Bool.false_ne_true) (WP.tok (op:=fun t r => .ok (.mk 14 0 t.text []) r) fun t=>WP.okT ⟨wx0 rfl,rfl⟩) ?_
 intro ts f r hz h
 dsimp only at h
 by_cases hb:jhN ts=true
 ·rw[if_pos hb] at h
  cases h
  refine⟨⟨wx0 ?_,rfl⟩,?_⟩
  ·unfold jhN at hb;rw[Bool.and_eq_true] at hb
   show (decide (0=0) && _)=true
   rw[hb.2];rfl
  ·cases ts with
   | nil=>cases hb
   | cons t ts=>exact⟨[t],rfl,by show 3+0<=0+9*1;decide⟩
 ·rw[if_neg hb] at h
  cases h
theorem jlh {s:ByteArray} (h:s=pMinus ∨ s=pNot):arN 17 s 1=true:=by
 show (decide (1=1) && (decide (s=pMinus) || decide (s=pNot)))=true
 rcases h with rfl | rfl <;> simp
theorem WP.pre (s:ByteArray) (hs:s=pMinus ∨ s=pNot) {op:Option (List Tk->Pn)} (h:∀ f,op=some f->WP true 0 f) {op2:List Tk->Pn} (h2:WP true 0 op2):WP true 0 (fun ts=>if zK s ts=true then uD s op ts else op2 ts):=by
 cases op with
 | none=>exact WP.ite (fun ts=>zK s ts=true) (WP.bad _ _) h2
 | some f=>exact WP.itc (fun ts=>zK s ts=true) (gK _) (((h f rfl).andThen fun n hn=>WP.okT ⟨wx1 (jlh hs) (by decide) hn,rfl⟩).tail) h2
theorem WP.una {low:Option Pa} (hl:jhi low):WP true 0 (aC low) :=
 WP.pre pMinus (.inl rfl) (op:=low.map fun p:Pa=>p.un) (fun f hf=>by
  cases low with
  | none=>cases hf
  | some p=>cases hf;exact (hl p rfl).un) (WP.prim hl)
theorem jiV {signs:List ByteArray} {ts:List Tk} (hs:∀ s ∈ signs,(opAll.any fun x=>decide (s=x))=true) (h:cE signs ts=true):(opAll.any fun x=>decide ((hd ts).text=x))=true:=by
 unfold cE at h;rw[List.any_eq_true] at h
 obtain⟨s,h1,h2⟩ := h
 unfold zK at h2;rw[Bool.and_eq_true,decide_eq_true_eq] at h2;rw[h2.1];exact hs s h1
theorem jad {s:ByteArray} (h:(opAll.any fun x=>decide (s=x))=true):arN 18 s 2=true:=by
 show (decide (2=2) && _)=true
 rw[h];rfl
theorem WP.chn {op:List Tk->Pn} {signs:List ByteArray} (hs:∀ s ∈ signs,(opAll.any fun x=>decide (s=x))=true) (h:WP true 0 op):WP true 0 (wD op signs):=by
 have go:∀ (n:Nat) (l:Nt),Wc true l->WP true (qW l) (xB op signs n l):=fun n=>by
  induction n with
  | zero=>intro l hl;exact WP.okT hl
  | succ n ih =>
   intro l hl ts f r hz ho;rw[xB] at ho
   by_cases ha:cE signs ts=true
   ·rw[if_pos ha] at ho;exact (h.andThen (k:=fun f r=>xB op signs n (.mk 18 0 (hd ts).text [l,f]) r) fun g hg=>(ih _ ⟨wx2 (jad (jiV hs ha)) (by decide) hl hg,rfl⟩).mono (by simp only[qW,zF];omega)).tail ts f r (fun e=>jf4 signs (by rw[<- e];exact ha)) hz ho
   ·rw[if_neg ha] at ho;exact WP.okT hl (Nat.le_refl _) ts f r hz ho
 exact h.andThen (k:=fun f r=>xB op signs r.length f r) fun f hf ts g r hz ho=>(go _ f hf).mono (by omega) ts g r hz ho
theorem WP.sum {low:Option Pa} (hl:jhi low):WP true 0 (jcj low):=WP.chn (by decide) (WP.chn (by decide) (WP.una hl))
theorem WP.nt {low:Option Pa} (hl:jhi low):WP true 0 (uU low) :=
 WP.pre pNot (.inr rfl) (op:=low.map fun p:Pa=>p.no) (fun f hf=>by
  cases low with
  | none=>cases hf
  | some p=>cases hf;exact (hl p rfl).no) <| (WP.sum hl).andThen fun l hw=>fun r f r' hz ho=>by
   by_cases ha:cE cmpL r=true
   ·rw[if_pos ha] at ho;exact ((WP.sum hl).andThen (k:=fun m r' => .ok (.mk 18 0 (hd r).text [l,m]) r') fun g hg=>WP.okT ⟨wx2 (jad (jiV (by decide) ha)) (by decide) hw hg,rfl⟩).tail r f r' (fun e=>jf4 cmpL (by rw[<- e];exact ha)) hz ho
   ·rw[if_neg ha] at ho;exact WP.okT hw (by omega) r f r' hz ho
theorem WP.exp {low:Option Pa} (hl:jhi low):WP true 0 (jhB low):=WP.chn (by decide) (WP.chn (by decide) (WP.nt hl))
theorem jms {c:Bool} {f g:Nt} (hf:Wc c f) (hg:g ∈ [f]):Wc c g:=by rw[List.mem_singleton.1 hg];exact hf
theorem WP.stm {ex bl:List Tk->Pn} (hx:WP true 0 ex) (hb:WP false 0 bl):WP false 0 (stG ex bl):=by
 have semi:∀ (z:Nat) (f:Nt),Wc false f->qW f<=z+9->WP false z (fun r=>Vm.xpt jQ r fun r => .ok f r):=fun z f hf hz=>WP.xpt jQ (WP.okT hf hz)
 exact WP.itc (fun ts=>wV ts=true) (by rw[jfS];exact Bool.false_ne_true) (WP.tok (op:=fun t ts=>Vm.xpt pEq ts fun r=>(ex r).andThen fun e r=>Vm.xpt jQ r fun r => .ok (.mk 1 0 t.text [e]) r) fun t=>WP.xpt pEq (hx.andThen fun e he=>semi _ _ ⟨wx1 rfl (by decide) he,rfl⟩ (by simp only[qW,zF];omega))) <|
  WP.ite (fun ts=>(hd ts).kind ≠ 1) WP.syn <|
  WP.itc (fun ts=>(hd ts).text=wIf) (by decide) ((hx.andThen fun c hc=>hb.andThen fun b hb2=>WP.itc (fun r=>zK lA r=true) (gK _) ((hb.andThen fun o ho=>WP.okT (wi3 hc hb2 ho)).tail) (WP.okT (wi3 hc hb2 ⟨wx0 rfl,rfl⟩))).tail) <|
  WP.itc (fun ts=>(hd ts).text=wWhile) (by decide) ((hx.andThen fun c hc=>hb.andThen fun b hb2=>WP.okT (wi2 hc hb2)).tail) <|
  WP.itc (fun ts=>(hd ts).text=nE) (by decide) ((hx.andThen fun t ht=>WP.xpt j0 (WP.num 30 fun n=>WP.xpt j0 (hx.andThen fun a ha=>WP.xpt j0 (hx.andThen fun b hb2=>semi _ _ ⟨wx3 rfl (by decide) ht ha hb2,rfl⟩ (by simp only[qW,zF];omega))))).tail) <|
  WP.itc (fun ts=>(hd ts).text=wTimer) (by decide) ((WP.num 8 fun n=>semi _ _ ⟨wx0 rfl,rfl⟩ (by simp only[qW,zF];omega)).tail) <|
  WP.itc (fun ts=>(hd ts).text=kT) (by decide) ((WP.num 8 fun n=>semi _ _ ⟨wx0 rfl,rfl⟩ (by simp only[qW,zF];omega)).tail) <|
  WP.itc (fun ts=>(hd ts).text=wSync) (by decide) ((semi _ _ ⟨wx0 rfl,rfl⟩ (by simp only[qW,zF];omega)).tail) <|
  WP.itc (fun ts=>(hd ts).text=yR) (by decide) ((hx.andThen fun a ha=>WP.xpt j0 (hx.andThen fun b hb2=>semi _ _ ⟨wx2 rfl (by decide) ha hb2,rfl⟩ (by simp only[qW,zF];omega))).tail) <|
  WP.itc (fun ts=>(hd ts).text=wFail) (by decide) ((hx.andThen fun a ha=>semi _ _ ⟨wx1 rfl (by decide) ha,rfl⟩ (by simp only[qW,zF];omega)).tail) <|
  WP.itc (fun ts=>(hd ts).text=wStop) (by decide) ((semi _ _ ⟨wx0 rfl,rfl⟩ (by simp only[qW,zF];omega)).tail) WP.syn
theorem WP.blk {st:List Tk->Pn} (h:WP false 0 st):WP false 0 (bkF st):=by
 have go:∀ (n:Nat) (acc:List Nt),(∀ f ∈ acc,Wc false f)->acc.length+n<=3002->WP false (9+zF acc) (mG st n acc):=fun n=>by
  induction n with
  | zero=>intro acc ha hz ts f r _ ho;cases ho
  | succ n ih =>
   intro acc ha hz ts f r hz2 ho;rw[mG] at ho
   by_cases hp:zK pRb ts=true
   ·rw[if_pos hp] at ho;cases ho;refine⟨wbk (by omega) ha,?_⟩
    cases ts with
    | nil=>exact absurd hp (gK _)
    | cons t ts=>exact⟨[t],rfl,by show 3+zF acc<=9+zF acc+9*1;omega⟩
   ·rw[if_neg hp] at ho
    exact h.andThen (k:=fun s r=>mG st n (acc++[s]) r) (fun s hs=>(ih (acc++[s]) (fun f hf=>by
     rcases List.mem_append.1 hf with hf | hf
     ·exact ha f hf
     ·exact jms hs hf) (by rw[List.length_append,List.length_singleton];omega)).mono (by rw[jdF];omega)) ts f r hz2 ho
 exact WP.xpt pLb (k:=fun r=>mG st r.length [] r) fun ts f r hz ho=>go ts.length [] (by simp) (by simpa using hz) ts f r hz ho
theorem WP.bkN:WP false 0 bkN:=WP.ite (fun ts=>zK pLb ts=true) (WP.bad _ _) WP.syn
theorem WPa.pa {low:Option Pa} (hl:jhi low):WPa (paG low) where
 no:=WP.nt hl
 un:=WP.una hl
 ex:=WP.exp hl
 bl:=WP.blk (WP.stm (WP.exp hl) (by
  cases low with
  | none=>exact WP.bkN
  | some p=>exact (hl p rfl).bl))
theorem wpa:∀ n,WPa (pa n)
 | 0=>WPa.pa fun p h=>by cases h
 | n+1=>WPa.pa fun p h=>by cases h;exact wpa n
def mW:List (Int × Nt)->Nat
 | []=>0
 | h :: r=>qW h.2+1+mW r
structure uH (u:Ut):Prop where
 du:u.du.length+u.vo.length<=16
 on:∀ h ∈ u.on,0<=h.1/\h.1<40/\rT h.2
 st:∀ h ∈ u.on,isX h.2=false
 nd:u.on.Pairwise fun a b=>a.1 ≠ b.1
 ol:u.on.length<=4000
mutual
def toD:Nt->Nd
 | .mk k n s kids => .mk k n s (jgZ kids)
def jgZ:List Nt->List Nd
 | []=>[]
 | f :: l=>toD f :: jgZ l
end
theorem jh0:∀ l:List Nt,jgZ l=l.map toD
 | []=>rfl
 | f :: l=>by rw[jgZ,jh0 l];rfl
def toU (u:Ut):Un:=⟨u.du,u.vo,u.on.map fun h=>(h.1,toD h.2)⟩
def jl6 (C D:Rd):Prop := ∀ b o u,C ⟨b,o,none⟩ = some u->D ⟨b,o,none⟩ = some u
theorem eM {E:Env} {b:Nat} : ∀ {l m:List A} {off:Nat},A.repAt (l++m) E b off ↔ A.repAt l E b off/\A.repAt m E b (off+l.length)
 | [],m,off=>by simp[A.repAt]
 | a :: r,m,off=>by
  simp only[List.cons_append,A.repAt];rw[eM (l:=r)];simp only[List.length_cons,Nat.add_assoc,Nat.add_comm 1]
  constructor
  ·rintro⟨h1,h2,h3⟩;exact⟨⟨h1,h2⟩,h3⟩
  ·rintro⟨⟨h1,h2⟩,h3⟩;exact⟨h1,h2,h3⟩
theorem jjH {E:Env} {n:Int} {u:Value} : (A.v (.int .i64 n)).rep E u ↔ u = .int .i64 n/\(-9223372036854775808<=n/\n<=9223372036854775807):=by
 rw[A.rep_v_iff]
 constructor
 ·rintro⟨h1,h2⟩;exact⟨h1,okV_int.1 h2⟩
 ·rintro⟨h1,h2⟩;exact⟨h1,okV_int.2 h2⟩
theorem rep_vsC {E:Env} {n:ByteArray} {u:Value} : (A.v (.string n)).rep E u ↔ u = .string n/\n.size<=maxLen:=by
 rw[A.rep_v_iff];exact Iff.rfl
mutual
theorem jpz:∀ (t:Nt) {E:Env} {D:Rd} {v:Value},jl6 E.C D->rT t->(A.agg (nt0 t)).rep E v->(toD t).At D v
 | .mk k n s kids,E,D,v,hD,hs,h=>by
  unfold rT at hs
  have hl:kids.length<=3002:=jhm hs.1
  unfold A.rep nt0 at h
  obtain⟨us,rfl,h⟩ := h
  obtain⟨us⟩ := us
  simp only[A.repC] at h
  obtain⟨_,_,rfl,-,g1,_,_,rfl,-,g2,_,_,rfl,-,g3,_,_,rfl,-,g4,rfl⟩ := h
  unfold intA at g1 g2;unfold jX at g3;rw[jjH] at g1 g2;rw[rep_vsC] at g3
  obtain⟨rfl,g1⟩ := g1
  obtain⟨rfl,g2⟩ := g2
  obtain⟨rfl,g3⟩ := g3
  unfold A.rep at g4
  obtain⟨_,_,p,b,off,cap,rfl,h6,h7,h8,h9⟩ := g4
  unfold toD Nd.At
  have hlen:(jgZ kids).length=kids.length:=by rw[jh0,List.length_map]
  rw[hlen];refine⟨g1,g2,g3,by omega,p,b,off,cap,rfl,h6,?_,h8,jpA kids (E:=E.per) hD hs.2.1 h9⟩
  rcases h7 with h7 | h7
  ·exact .inl (List.eq_nil_of_length_eq_zero (by rw[hlen];exact h7))
  ·exact .inr h7
theorem jpA:∀ (l:List Nt) {E:Env} {D:Rd} {b off:Nat},jl6 E.C D->jeT l->A.repAt (ji5 l) E b off->Nd.In D b (jgZ l) off
 | [],_,_,_,_,_,_,_=>by unfold jgZ Nd.In;trivial
 | t :: ts,E,D,b,off,hD,hs,h=>by
  unfold jeT at hs;unfold ji5 at h
  have hl4:(nt0 t).length=4:=by rw[ji4];rfl
  rw[eM,hl4] at h
  obtain⟨h1,h2⟩ := h
  unfold jgZ Nd.In;refine⟨?_,jpA ts hD hs.2 h2⟩
  obtain⟨us,k1,k2⟩ := A.repAt_vals h1
  have hl:=A.repC_len k1
  rw[hl4] at hl
  match us,hl,k1,k2 with
  | [v0,v1,v2,v3],_,k1,k2 =>
   refine⟨v0,v1,v2,v3,hD _ _ _ (k2 0 v0 rfl),hD _ _ _ (k2 1 v1 rfl),hD _ _ _ (k2 2 v2 rfl),hD _ _ _ (k2 3 v3 rfl),jpz t (E:=E) hD hs.1 ?_⟩;unfold A.rep;exact⟨_,rfl,k1⟩
end
theorem jbm {α:Type} {E:Env} {b:Nat} (f:α->Value) (hf:∀ x,(f x).oneCell'=true):∀ {l:List α} {off:Nat},A.repAt (l.map fun x => .v (f x)) E b off ↔ ∀ i (hi:i<l.length),E.C ⟨b,off+i,none⟩ = some (f l[i])/\eC (f l[i])
 | [],off=>by simp[A.repAt]
 | x :: l,off=>by
  simp only[List.map_cons,A.repAt];rw[jbm f hf (l:=l)]
  constructor
  ·rintro⟨⟨u,h1,-,h3⟩,h4⟩ i hi;rw[A.rep_v_iff] at h3
   cases i with
   | zero=>rw[Nat.add_zero,h1,h3.1];exact⟨rfl,h3.2⟩
   | succ i =>
    have:=h4 i (by simpa using hi)
    rw[show off+(i+1)=off+1+i by omega];exact this
  ·intro h;refine⟨⟨f x,by have:=(h 0 (by simp)).1;simpa using this,hf x,A.rep_v_iff.2 ⟨rfl,(h 0 (by simp)).2⟩⟩,fun i hi => ?_⟩
   have:=h (i+1) (by simpa using hi)
   rw[show off+1+i=off+(i+1) by omega];exact this
theorem jgr {E:Env} {D:Rd} {v:Value} {l:List ByteArray} (hD:jl6 E.C D) (hl:l.length<=1000000000) (h:(A.sl 1 l.length (vV l)).rep E v):StrsAt D v l:=by
 unfold vV jX at h;unfold A.rep at h
 obtain⟨_,_,p,b,off,cap,rfl,h6,h7,h8,h9⟩ := h
 have h9:=(jbm (E:=E.per) Value.string (fun _=>rfl)).1 h9
 refine⟨hl,fun s hs => ?_,p,b,off,cap,rfl,h6,?_,h8,fun i hi => ?_⟩
 ·obtain⟨i,hi,rfl⟩ := List.mem_iff_getElem.1 hs
  exact (h9 i hi).2
 ·rcases h7 with h7 | h7
  ·exact .inl (List.eq_nil_of_length_eq_zero h7)
  ·exact .inr h7
 ·have:=(h9 i hi).1
  simp[List.getD_eq_getElem?_getD,hi]
  exact hD _ _ _ this
theorem jbl {α:Type} {E:Env} {b k:Nat} (f:α->List A) (hf:∀ x,(f x).length=k):∀ {l:List α} {off:Nat},A.repAt (l.flatMap f) E b off ↔ ∀ i (hi:i<l.length),A.repAt (f l[i]) E b (off+i*k)
 | [],off=>by simp[A.repAt]
 | x :: l,off=>by
  rw[List.flatMap_cons,eM,jbl f hf (l:=l),hf]
  constructor
  ·rintro⟨h1,h2⟩ i hi
   cases i with
   | zero=>simpa using h1
   | succ i =>
    have:=h2 i (by simpa using hi)
    rw[show off+(i+1)*k=off+k+i*k by rw[Nat.add_mul];omega];exact this
  ·intro h;refine⟨by have:=h 0 (by simp);rw[Nat.zero_mul,Nat.add_zero] at this;exact this,fun i hi => ?_⟩
   have:=h (i+1) (by simpa using hi)
   rw[show off+k+i*k=off+(i+1)*k by rw[Nat.add_mul];omega];exact this
theorem jmN {E:Env} {D:Rd} {v:Value} {u:Ut} (hD:jl6 E.C D) (hs:uH u) (h:(A.agg (eZ u)).rep E v):jrR D v (toU u):=by
 unfold A.rep eZ at h
 obtain⟨us,rfl,h⟩ := h
 obtain⟨us⟩ := us
 simp only[A.repC] at h
 obtain⟨dv,_,rfl,-,g1,vv,_,rfl,-,g2,ov,_,rfl,-,g3,rfl⟩ := h
 refine⟨dv,vv,ov,rfl,jgr (l:=u.du) hD (by have:=hs.du;omega) g1,jgr (l:=u.vo) hD (by have:=hs.du;omega) g2,?_⟩;unfold A.rep at g3
 obtain⟨_,_,p,b,off,cap,rfl,h6,h7,h8,h9⟩ := g3
 have hlen:(toU u).on.length=u.on.length:=List.length_map ..
 unfold jrN;rw[hlen];refine⟨by have:=hs.ol;omega,p,b,off,cap,rfl,h6,?_,h8,fun i hi => ?_⟩
 ·rcases h7 with h7 | h7
  ·exact .inl (List.eq_nil_of_length_eq_zero (by rw[hlen];exact h7))
  ·exact .inr h7
 ·rw[hlen] at hi
  have hon:(toU u).on[i]=(u.on[i].1,toD u.on[i].2):=by simp[toU]
  rw[hon];unfold z6 at h9
  have h10:=(jbl (E:=E.per) (k:=5) hnA (fun _=>rfl)).1 h9 i hi
  obtain⟨us,k1,k2⟩ := A.repAt_vals h10
  have hl:=A.repC_len k1
  rw[show (hnA u.on[i]).length=5 from rfl] at hl
  match us,hl,k1,k2 with
  | [v0,v1,v2,v3,v4],_,k1,k2 =>
   unfold hnA intA A.repC at k1
   obtain⟨_,_,e,-,g1,k3⟩ := k1
   cases e
   rw[jjH] at g1
   obtain⟨rfl,g4,g5⟩ := g1
   refine⟨g4,g5,v1,v2,v3,v4,hD _ _ _ (k2 0 _ rfl),hD _ _ _ (k2 1 v1 rfl),hD _ _ _ (k2 2 v2 rfl),hD _ _ _ (k2 3 v3 rfl),hD _ _ _ (k2 4 v4 rfl),jpz u.on[i].2 (E:=E) hD (hs.on _ (List.getElem_mem hi)).2.2 ?_⟩;unfold A.rep;rw[ji4];exact⟨_,rfl,A.repC.mono _ E.per_le k3⟩
theorem jg7 {w:World} {C:Rd} (h:Sub C (kL w)):jl6 C w.cell? := fun b o u hc=>h _ _ hc
def jW (u:Ut) (s:ByteArray):Int:=vG u.du u.vo s
theorem jrr (u:Ut) (hu:uH u):Spec Tryz.prog 28 [] [.agg (eZ u)] fun _ r=>r=intA (dU (toU u)):=by
 refine iW (dR Tryz.func28 rfl (by kernel_rfl)) fun w C vals h0 h1 h2 => ?_
 unfold A.repL at h2
 obtain⟨v,us,rfl,h2,h3⟩ := h2
 unfold A.repL at h3;subst h3;refine (jka (toU u) v w (jmN (jg7 h1) hu h2)).mono ?_;rintro e w' ⟨rfl,hx⟩;exact⟨_,rfl,hx,A.rep_v (okV_int.2 (by unfold dU;split <;> decide))⟩
theorem jgi (l:List ByteArray) (s:ByteArray) : -1<=nX l s/\nX l s<=l.length:=by
 have:=jez l s
 omega
theorem jok {u:Ut} (hu:uH u) (s:ByteArray) : -1<=jW u s/\jW u s<=100:=by
 have h1:=jgi u.du s
 have h2:=jgi u.vo s
 have h3:=hu.du
 unfold jW vG
 repeat' split
 all_goals omega
theorem jrs (u:Ut) (hu:uH u) (s:ByteArray):Spec Tryz.prog 62 [] [.agg (eZ u),jX s] fun _ r=>r=intA (jW u s):=by
 have hb:=jok hu s
 refine iW (dR Tryz.func62 rfl (by kernel_rfl)) fun w C vals h0 h1 h2 => ?_
 unfold A.repL at h2
 obtain⟨v,us,rfl,h2,h3⟩ := h2
 unfold A.repL at h3
 obtain⟨v2,us2,rfl,h3,h4⟩ := h3
 unfold A.repL at h4;subst h4
 obtain⟨rfl,-⟩ := rep_vsC.1 h3
 obtain⟨dv,vv,ov,rfl,g1,g2,g3⟩ := jmN (jg7 h1) hu h2
 refine (jcP dv vv ov u.du u.vo s w g1 g2).mono ?_;rintro e w' ⟨rfl,hx⟩;exact⟨_,rfl,hx,A.rep_v (by have h:=(okA_int (n:=jW u s)).2 (by omega);unfold okA at h;exact h)⟩
theorem jfP (x:Int × Nt):∀ l:List (Int × Nt),(gU x l).Perm (x :: l)
 | [] => .refl _
 | y :: l=>by
  rw[gU]
  split
  ·exact .refl _
  ·exact ((jfP x l).cons y).trans (.swap x y l)
theorem aJ:∀ l:List (Int × Nt),(vM l).Perm l
 | [] => .refl _
 | x :: l=>(jfP x (vM l)).trans ((aJ l).cons x)
theorem jno {l m:List (Int × Nt)} (h:l.Perm m):mW l=mW m:=by
 induction h with
 | nil=>rfl
 | cons x _ ih=>show _+mW _=_+mW _;rw[ih]
 | swap x y l=>show qW y.2+1+(qW x.2+1+mW l)=qW x.2+1+(qW y.2+1+mW l);omega
 | trans _ _ i j=>exact i.trans j
theorem jgW (x:Int × Nt):∀ l:List (Int × Nt),mW (l++[x])=mW l+(qW x.2+1)
 | []=>by show qW x.2+1+0=0+(qW x.2+1);omega
 | f :: l=>by show qW f.2+1+mW (l++[x])=qW f.2+1+mW l+(qW x.2+1);rw[jgW x l];omega
structure WfH (l:List (Int × Nt)):Prop where
 on:∀ h ∈ l,0<=h.1/\h.1<40/\rT h.2
 st:∀ h ∈ l,isX h.2=false
 nd:l.Pairwise fun a b=>a.1 ≠ b.1
theorem WfH.sort {l:List (Int × Nt)} (h:WfH l):WfH (vM l) where
 on:=fun x hx=>h.on x ((aJ l).mem_iff.1 hx)
 st:=fun x hx=>h.st x ((aJ l).mem_iff.1 hx)
 nd:=((aJ l).pairwise_iff (fun {a b} hab=>fun e=>hab e.symm)).2 h.nd
def TkN (ts:List Tk):Prop := ∀ t ∈ ts,0<=t.n
theorem TkN.suf {a r:List Tk} (h:TkN (a++r)):TkN r:=fun t ht=>h t (List.mem_append_right _ ht)
theorem TkN.tail {ts:List Tk} (h:TkN ts):TkN ts.tail:=fun t ht=>h t (List.mem_of_mem_tail ht)
theorem TkN.hd {ts:List Tk} (h:TkN ts):0<=(Vm.hd ts).n:=by
 cases ts with
 | nil=>exact Int.le_refl 0
 | cons t ts=>exact h t List.mem_cons_self
theorem jse {ts r:List Tk} {n:Int} (hz:TkN ts) (h:tM ts = .ok n r):0<=n/\n<40 /\ ∃ a,ts=a++r:=by
 have suf:∀ ts:List Tk,∃ a,ts=a++ts.tail:=fun ts=>by
  cases ts with
  | nil=>exact⟨[],rfl⟩
  | cons t ts=>exact⟨[t],rfl⟩
 have num:∀ (limit off:Int) (q:List Tk),TkN q->mH limit off q = .ok n r->off<=n/\n<off+limit /\ ∃ a,q=a++r:=fun limit off q hq h=>by
  unfold mH at h
  split at h
  ·cases h
  ·split at h
   ·cases h
   ·cases h
    have:=hq.hd
    exact⟨by omega,by omega,suf q⟩
 obtain⟨a,ha⟩ := suf ts
 unfold tM at h
 split at h
 ·cases h;exact⟨by omega,by omega,suf ts⟩
 ·split at h
  ·cases h;exact⟨by omega,by omega,suf ts⟩
  ·split at h
   ·obtain⟨h1,h2,b,h3⟩ := num 8 2 _ hz.tail h
    exact⟨by omega,by omega,a++b,by rw[List.append_assoc,<- h3];exact ha⟩
   ·split at h
    ·obtain⟨h1,h2,b,h3⟩ := num 30 10 _ hz.tail h
     exact⟨by omega,by omega,a++b,by rw[List.append_assoc,<- h3];exact ha⟩
    ·cases h
theorem jps (du vo:List ByteArray) (hn:du.length+vo.length<=16):∀ (n:Nat) (hs:List (Int × Nt)) (ts:List Tk) (u:Ut),mW hs+10*ts.length<=40000->TkN ts->ts.length<=3002->hs.length+n<=4000->WfH hs->sD du vo n hs ts = .ok u->uH u/\mW u.on<=40000
 | 0,hs,ts,u,_,_,_,_,_,h=>by cases h
 | n+1,hs,ts,u,hs0,hz,hl,hb,hw,h=>by
  rw[sD] at h
  split at h
  ·cases h
   exact⟨⟨hn,hw.sort.on,hw.sort.st,hw.sort.nd,by show (vM hs).length<=_;rw[(aJ hs).length_eq];omega⟩,by show mW (vM hs)<=_;rw[jno (aJ hs)];omega⟩
  ·split at h
   ·cases h
   ·rename_i hon
    have hne:ts ≠ []:=fun e=>hon (by rw[e];exact Bool.eq_false_iff.2 (gK _))
    cases hh:tM ts.tail with
    | bad x y=>rw[hh] at h;cases h
    | ok k r =>
     rw[hh] at h
     obtain⟨k0,k1,a,ha⟩ := jse hz.tail hh
     dsimp only at h
     split at h
     ·cases h
     ·rename_i hdup
      cases hbl:(pa 19).bl r with
      | bad x y=>rw[hbl] at h;cases h
      | ok b r2 =>
       rw[hbl] at h
       have hr:r.length<=3002:=by
        have:=congrArg List.length ha
        rw[List.length_append,List.length_tail] at this;omega
       obtain⟨wb,a2,ha2,hsb⟩ := (wpa 19).bl r b r2 hr hbl
       have hzr:TkN r:=by
        have h1:=hz.tail
        rw[ha] at h1;exact h1.suf
       refine jps du vo hn n (hs++[(k,b)]) r2 u (by
        have h1:=congrArg List.length ha
        have h2:=congrArg List.length ha2
        have h3:=List.length_pos_iff.2 hne
        rw[List.length_append] at h1 h2;rw[List.length_tail] at h1;rw[jgW]
        show mW hs+(qW b+1)+_<=_
        omega) (by rw[ha2] at hzr;exact hzr.suf) (by
        rw[ha2,List.length_append] at hr;omega) (by rw[List.length_append,List.length_singleton];omega) ?_ h
       refine⟨fun x hx => ?_,fun x hx => ?_,List.pairwise_append.2 ⟨hw.nd,List.pairwise_singleton _ _,fun x hx y hy => ?_⟩⟩
       ·rcases List.mem_append.1 hx with hx | hx
        ·exact hw.on x hx
        ·rw[List.mem_singleton.1 hx];exact⟨k0,k1,wb.1⟩
       ·rcases List.mem_append.1 hx with hx | hx
        ·exact hw.st x hx
        ·rw[List.mem_singleton.1 hx];exact wb.2
       ·rw[List.mem_singleton.1 hy];intro e;refine hdup ?_;rw[List.any_eq_true];exact⟨x,hx,jK e⟩
theorem jlH:∀ (n:Nat) (names out:List ByteArray) (ts:List Tk) (names' out':List ByteArray) (r:List Tk),names.length<=16->aO n names out ts = .ok names' out' r->names'.length<=16/\names'.length+out.length=names.length+out'.length /\ ∃ a,ts=a++r
 | 0,names,out,ts,names',out',r,_,h=>by cases h
 | n+1,names,out,ts,names',out',r,hl,h=>by
  have suf:∀ ts:List Tk,∃ a,ts=a++ts.tail:=fun ts=>by
   cases ts with
   | nil=>exact⟨[],rfl⟩
   | cons t ts=>exact⟨[t],rfl⟩
  obtain⟨a1,h1⟩ := suf ts
  obtain⟨a2,h2⟩ := suf ts.tail
  obtain⟨a3,h3⟩ := suf ts.tail.tail
  rw[aO] at h
  split at h
  ·cases h
  ·split at h
   ·cases h
   ·split at h
    ·cases h
    ·split at h
     ·obtain⟨g1,g2,b,g3⟩ := jlH n _ _ _ _ _ _ (by rw[List.length_append,List.length_singleton];omega) h
      rw[List.length_append,List.length_append,List.length_singleton] at g2;exact⟨g1,by omega,a1++(a2++b),by rw[List.append_assoc,List.append_assoc,<- g3,<- h2];exact h1⟩
     ·split at h
      ·cases h
       refine⟨by rw[List.length_append,List.length_singleton];omega,by rw[List.length_append,List.length_append,List.length_singleton];omega,a1++(a2++a3),by rw[List.append_assoc,List.append_assoc,<- h3,<- h2];exact h1⟩
      ·cases h
theorem jlF:∀ (n:Nat) (names du vo:List ByteArray) (ts:List Tk) (u:Ut),TkN ts->ts.length<=3002->names.length<=16->names.length=du.length+vo.length->jau n names du vo ts = .ok u->uH u/\mW u.on<=40000
 | 0,names,du,vo,ts,u,_,_,_,_,h=>by cases h
 | n+1,names,du,vo,ts,u,hz,hl,hn,he,h=>by
  rw[jau] at h
  split at h
  ·cases hd:aO ts.length names [] ts with
   | bad x y=>rw[hd] at h;cases h
   | ok names' out r =>
    rw[hd] at h
    obtain⟨g1,g2,b,g3⟩ := jlH _ _ _ _ _ _ _ hn hd
    rw[List.length_nil] at g2;rw[g3] at hz hl;exact jlF n names' (du++out) vo r u hz.suf (by rw[List.length_append] at hl;omega) g1 (by rw[List.length_append];omega) h
  ·split at h
   ·cases hd:aO ts.length names [] ts with
    | bad x y=>rw[hd] at h;cases h
    | ok names' out r =>
     rw[hd] at h
     obtain⟨g1,g2,b,g3⟩ := jlH _ _ _ _ _ _ _ hn hd
     rw[List.length_nil] at g2;rw[g3] at hz hl;exact jlF n names' du (vo++out) r u hz.suf (by rw[List.length_append] at hl;omega) g1 (by rw[List.length_append];omega) h
   ·exact jps du vo (by omega) _ [] ts u (by show 0+_<=_;omega) hz hl (by simp;omega) ⟨by simp,by simp,.nil⟩ h
theorem jjZ {s:ByteArray} {u:Ut} (h:i7 s = .ok u):uH u/\mW u.on<=40000:=by
 unfold i7 at h
 split at h
 ·cases h
 ·rename_i hsz
  cases he:(qN s).err with
  | some p=>rw[he] at h;cases h
  | none =>
   rw[he] at h
   have hok:=joN s (by omega)
   have hlen:(iP s).length<=3002:=by
    have h1:=(gM (s.data.toList.length+1) 0 s.data.toList).1
    rw[gG he,List.length_append,List.length_singleton]
    have h2:(qN s).toks.length<=s.data.toList.length:=h1
    rw[zM] at h2;omega
   refine jlF _ [] [] [] (iP s) u (fun t ht => ?_) hlen (by simp) rfl h
   rcases hok t ht with h3 | h3
   ·exact h3.2.2.2.1
   ·rw[h3.2.2.2];exact Int.le_refl 0
abbrev Ic:=Int × Int
def icA (i:Ic):List A:=[intA i.1,intA i.2]
@[irreducible] def qC (l:List Ic):List A:=l.flatMap icA
theorem p6:qC []=[]:=by unfold qC;rfl
theorem kI (l m:List Ic):qC (l++m)=qC l++qC m:=by unfold qC;rw[List.flatMap_append]
theorem vF (i:Ic):qC [i]=icA i:=by unfold qC;rw[List.flatMap_cons,List.flatMap_nil,List.append_nil]
theorem sF (l:List Ic) (a b:Int):qC (l++[(a,b)])=qC l++[intA a,intA b]:=by rw[kI,vF];rfl
theorem lI (l:List Ic):qC l=l.flatMap icA:=by unfold qC;rfl
theorem aH (l:List Ic) (i:Nat) (hi:i<l.length):jC 2 i (qC l)=icA l[i]:=by rw[lI];exact xN icA (fun _=>rfl) l i hi
theorem jm0 (l:List Ic):(qC l).length=l.length*2:=by
 rw[lI]
 induction l with
 | nil=>rfl
 | cons a l ih=>rw[List.flatMap_cons,List.length_append,ih,List.length_cons];simp only[icA,List.length_cons,List.length_nil];omega
def noI:Int->List Ic:=fun _=>[]
def pO (c y n:Int->List Ic) (at':Int):List Ic :=
 let l:=c at'
 let f:=at'+l.length+1+(y (at'+l.length+1)).length+1
 l++(16,f) :: (y (at'+l.length+1)++(15,f+(n f).length) :: n f)
def zQ:List (Int->List Ic)->Int->List Ic
 | [],_=>[]
 | g :: r,at' => g at'++zQ r (at'+(g at').length)
def biF (s:ByteArray):Int:=match builtL.findIdx? (fun x=>decide (x=s)) with
 | some i=>i
 | none => -1
def opC (s:ByteArray):List Ic :=
 if s=cZ then [(6,0)] else if s=pMinus then [(7,0)] else if s=vU then [(8,0)] else if s=yB then [(9,0)]
 else if s=pLt then [(11,0)] else if s=pLe then [(12,0)] else if s=jmB then [(13,0)] else if s=pGt then [(12,0),(14,0)]
 else if s=pGe then [(11,0),(14,0)] else [(13,0),(14,0)]
def kQ (ix:ByteArray->Int) (k n:Int) (s:ByteArray) (g:List (Int->List Ic)) (at':Int):List Ic :=
 if k=12 ∨ k=13 then [(1,n)]
 else if k=14 then [(2,ix s)]
 else if k=15 then [(4,biF s)]
 else if k=2 then pO (g.getD 0 noI) (g.getD 1 noI) (g.getD 2 noI) at'
 else if k=5 then [(18,n)]
 else if k=6 then [(19,n)]
 else if k=7 then [(20,0)]
 else if k=10 then [(23,0)]
 else if k=3 then
  let c:=(g.getD 0 noI) at'
  let b:=(g.getD 1 noI) (at'+c.length+1)
  c++(16,at'+c.length+b.length+2) :: (b++[(15,at')])
 else if k=18/\s=vI then pO (g.getD 0 noI) (g.getD 1 noI) (fun _=>[(1,0)]) at'
 else if k=18/\s=pOr then pO (g.getD 0 noI) (fun _=>[(1,1)]) (g.getD 1 noI) at'
 else zQ g at'++(if k=18 then opC s else if k=16 then [(5,0)] else if k=17 then (if s=pMinus then [(10,0)] else [(14,0)]) else if k=1 then [(3,ix s)] else if k=4 then [(17,n)] else if k=8 then [(21,0)] else if k=9 then [(22,0)] else [])
mutual
def jI (ix:ByteArray->Int):Nt->Int->List Ic
 | .mk k n s kids,at' => kQ ix k n s (jF ix kids) at'
def jF (ix:ByteArray->Int):List Nt->List (Int->List Ic)
 | []=>[]
 | f :: l=>jI ix f :: jF ix l
end
theorem wM (ix:ByteArray->Int):∀ l:List Nt,jF ix l=l.map (jI ix)
 | []=>rfl
 | f :: l=>by rw[jF,wM ix l];rfl
def qG (k:Int):Int:=if k=3 ∨ k=5 ∨ k=10 ∨ k=14 ∨ k=16 ∨ k=22 then 1 else if 6<=k/\k<=9 ∨ 11<=k/\k<=13 ∨ k=21 then 2 else if k=17 then 3 else 0
def qD (k:Int):Int:=if k=1 ∨ k=2 ∨ 4<=k/\k<=14 then 1 else 0
def nxI (a:Int) (i:Ic):List Int:=if i.1=23 then [] else if i.1=15 then [i.2] else if i.1=16 then [a+1,i.2] else [a+1]
structure Fs where
 dm:List (Int × Int)
 wk:List Int
 er:Bool
def dF (dm:List (Int × Int)) (k:Int):Option Int:=(dm.find? fun p=>decide (k=p.1)).map (·.2)
def jc9 (n:Nat) (af:Int) (s:Fs) (k:Int):Option Fs :=
 if (n:Int)<=k then none else match dF s.dm k with
 | some d=>some ⟨s.dm,s.wk,s.er || decide (d ≠ af)⟩
 | none=>some ⟨s.dm++[(k,af)],s.wk++[k],s.er⟩
def gV (n:Nat) (af:Int):List Int->Fs->Option Fs
 | [],s=>some s
 | k :: l,s=>match jc9 n af s k with
  | none=>none
  | some s' => gV n af l s'
def afF (code:List Ic) (dm:List (Int × Int)) (a:Int):Int:=(dF dm a).getD 0-qG (code.getD a.toNat (0,0)).1+qD (code.getD a.toNat (0,0)).1
def uB (code:List Ic) (dm:List (Int × Int)) (a:Int):Bool:=decide ((dF dm a).getD 0<qG (code.getD a.toNat (0,0)).1) || decide (16<afF code dm a)
def t8 (code:List Ic) (dm:List (Int × Int)) (wk:List Int) (er:Bool) (a:Int):Option Fs :=
 gV code.length (afF code dm a) (nxI a (code.getD a.toNat (0,0))) ⟨dm,wk,er || uB code dm a⟩
def joe (er:Bool):Int:=if er=true then 13 else 0
def jhF (code:List Ic):Nat->Fs->Int
 | 0,s=>joe s.er
 | m+1,s=>match s.wk.getLast? with
  | none=>joe s.er
  | some a=>match t8 code s.dm s.wk.dropLast s.er a with
   | none=>12
   | some s' => jhF code m s'
def kC (code:List Ic) (entry:Int):Int:=if entry<0 then 0 else jhF code (code.length+1) ⟨[(entry,0)],[entry],false⟩
def cC (code:List Ic):Prop := ∀ i ∈ code,i.1=15 ∨ i.1=16->0<=i.2
structure ja2 (n:Nat) (s:Fs):Prop where
 rng:∀ p ∈ s.dm,0<=p.1/\p.1<n
 nd:(s.dm.map (·.1)).Nodup
 wk:∀ k ∈ s.wk,∃ d,(k,d) ∈ s.dm
 dep:∀ p ∈ s.dm,-(3*(s.dm.length:Int))<=p.2/\p.2<=3*s.dm.length
theorem jat {dm:List (Int × Int)} {k d:Int} (h:dF dm k=some d):(k,d) ∈ dm:=by
 unfold dF at h
 cases hf:dm.find? (fun p=>decide (k=p.1)) with
 | none=>rw[hf] at h;cases h
 | some p =>
  rw[hf] at h
  cases h
  have h1:=List.find?_some hf
  have h2:=List.mem_of_find?_eq_some hf
  rw[decide_eq_true_eq] at h1;rw[h1];exact h2
theorem je5 {dm:List (Int × Int)} {k d:Int} (h:(k,d) ∈ dm):∃ d',dF dm k=some d':=by
 unfold dF
 cases hf:dm.find? (fun p=>decide (k=p.1)) with
 | none=>rw[List.find?_eq_none] at hf;exact absurd (hf _ h) (by simp)
 | some p=>exact⟨_,rfl⟩
theorem jj4 {dm:List (Int × Int)} {k:Int} (h:dF dm k=none):∀ p ∈ dm,k ≠ p.1:=by
 unfold dF at h;rw[Option.map_eq_none_iff,List.find?_eq_none] at h
 exact fun p hp=>by simpa using h p hp
theorem rH:∀ (n:Nat) (l:List Int),l.Nodup->(∀ a ∈ l,0<=a/\a<(n:Int))->l.length<=n
 | 0,l,_,h=>by
  cases l with
  | nil=>exact Nat.le_refl _
  | cons a l=>have:=h a List.mem_cons_self;omega
 | n+1,l,hn,h=>by
  have h1:(l.erase (n:Int)).length<=n:=rH n (l.erase (n:Int)) (hn.erase _) fun a ha=>by
   have h2:=h a (List.mem_of_mem_erase ha)
   have h3:a ≠ n:=(hn.mem_erase_iff.1 ha).1
   omega
  rw[List.length_erase] at h1
  split at h1 <;> omega
theorem uQ {n:Nat} {dm:List (Int × Int)} (h:∀ p ∈ dm,0<=p.1/\p.1<(n:Int)) (hn:(dm.map (·.1)).Nodup):dm.length<=n:=by
 have:=rH n _ hn fun a ha=>by
  obtain⟨p,hp,rfl⟩ := List.mem_map.1 ha
  exact h p hp
 simpa using this
theorem jeh {n:Nat} {af k:Int} {s s':Fs} (h:ja2 n s) (hk:0<=k) (ha : -(3*(s.dm.length:Int))-3<=af/\af<=3*s.dm.length+3) (e:jc9 n af s k=some s'):ja2 n s'/\s'.wk.length+s.dm.length=s.wk.length+s'.dm.length/\s.dm.length<=s'.dm.length:=by
 unfold jc9 at e
 split at e
 ·cases e
 split at e
 ·cases e;exact⟨⟨h.rng,h.nd,h.wk,h.dep⟩,rfl,Nat.le_refl _⟩
 ·rename_i hd
  have hne:=jj4 hd
  cases e
  refine⟨⟨fun p hp => ?_,?_,fun j hj => ?_,fun p hp => ?_⟩,by simp only[List.length_append,List.length_singleton];omega,by simp⟩
  ·rcases List.mem_append.1 hp with hp | hp
   ·exact h.rng p hp
   ·rw[List.mem_singleton.1 hp];exact⟨hk,by simp only;omega⟩
  ·rw[List.map_append,List.map_singleton,List.nodup_append];refine⟨h.nd,by simp,fun a ha b hb => ?_⟩
   obtain⟨p,hp,rfl⟩ := List.mem_map.1 ha
   rw[List.mem_singleton.1 hb];exact Ne.symm (hne p hp)
  ·rcases List.mem_append.1 hj with hj | hj
   ·obtain⟨d,hd⟩ := h.wk j hj
    exact⟨d,List.mem_append_left _ hd⟩
   ·rw[List.mem_singleton.1 hj];exact⟨af,List.mem_append_right _ List.mem_cons_self⟩
  ·simp only[List.length_append,List.length_singleton]
   rcases List.mem_append.1 hp with hp | hp
   ·have:=h.dep p hp;omega
   ·rw[List.mem_singleton.1 hp];simp only;omega
theorem jfW {n:Nat} {af:Int} : ∀ (l:List Int) {s s':Fs} (B:Nat),ja2 n s->B<=s.dm.length->(∀ k ∈ l,0<=k)->(-(3*(B:Int))-3<=af/\af<=3*B+3)->gV n af l s=some s'->ja2 n s'/\s'.wk.length+s.dm.length=s.wk.length+s'.dm.length/\s.dm.length<=s'.dm.length
 | [],s,s',B,h,hB,hk,ha,e=>by
  unfold gV at e
  cases e
  exact⟨h,rfl,Nat.le_refl _⟩
 | k :: l,s,s',B,h,hB,hk,ha,e=>by
  unfold gV at e
  split at e
  ·cases e
  ·rename_i s1 e1
   obtain⟨h1,h2,h3⟩ := jeh h (hk k List.mem_cons_self) ⟨by omega,by omega⟩ e1
   obtain⟨h4,h5,h6⟩ := jfW l B h1 (by omega) (fun j hj=>hk j (List.mem_cons_of_mem _ hj)) ha e
   exact⟨h4,by omega,by omega⟩
theorem rJ (k:Int):0<=qG k/\qG k<=3:=by unfold qG;repeat' split <;> omega
theorem dB (k:Int):0<=qD k/\qD k<=1:=by unfold qD;split <;> omega
theorem jmI (k:Int) : -3<=qD k-qG k/\qD k-qG k<=1:=by
 have:=rJ k
 have:=dB k
 omega
theorem jga {code:List Ic} (hj:cC code) {a:Int} (ha:0<=a/\a<code.length):∀ k ∈ nxI a (code.getD a.toNat (0,0)),0<=k:=by
 have hm:code.getD a.toNat (0,0) ∈ code:=by
  have h:a.toNat<code.length:=by omega
  rw[List.getD_eq_getElem?_getD,List.getElem?_eq_getElem h];exact List.getElem_mem h
 have hjm:=hj _ hm
 generalize code.getD a.toNat (0,0)=i at *;intro k hk;unfold nxI at hk
 split at hk
 ·cases hk
 ·split at hk
  ·rw[List.mem_singleton.1 hk];exact hjm (.inl (by assumption))
  ·split at hk
   ·rcases List.mem_cons.1 hk with rfl | hk
    ·omega
    ·rw[List.mem_singleton.1 hk];exact hjm (.inr (by assumption))
   ·rw[List.mem_singleton.1 hk];omega
theorem jpS {n:Nat} {code:List Ic} {s:Fs} (h:ja2 n s) {a:Int} : -(3*(s.dm.length:Int))-3<=afF code s.dm a/\afF code s.dm a<=3*s.dm.length+3:=by
 have hp:=jmI (code.getD a.toNat (0,0)).1
 unfold afF
 cases hd:dF s.dm a with
 | none=>simp only[Option.getD_none];omega
 | some d =>
  have:=h.dep _ (jat hd)
  simp only[Option.getD_some];omega
theorem jjU {code:List Ic} (hj:cC code) {dm:List (Int × Int)} {pre:List Int} {a:Int} {er:Bool} {s':Fs} (h:ja2 code.length ⟨dm,pre++[a],er⟩) (e:t8 code dm pre er a=some s'):ja2 code.length s'/\s'.wk.length+(code.length-s'.dm.length)+1=(pre++[a]).length+(code.length-dm.length)/\dm.length<=s'.dm.length:=by
 have h0:ja2 code.length ⟨dm,pre,er || uB code dm a⟩ := ⟨h.rng,h.nd,fun k hk=>h.wk k (List.mem_append_left _ hk),h.dep⟩
 obtain⟨d,hd⟩ := h.wk a (List.mem_append_right _ List.mem_cons_self)
 have hr:=h.rng _ hd
 obtain⟨h1,h2,h3⟩ := jfW _ dm.length h0 (Nat.le_refl _) (jga hj hr) (jpS h) e
 have hl:=uQ h1.rng h1.nd
 have hl0:=uQ h.rng h.nd
 simp only[List.length_append,List.length_singleton] at h2 h3 hl0 ⊢;exact⟨h1,by omega,h3⟩
def dmA (dm:List (Int × Int)):List (Int × A):=dm.map fun p=>(p.1,intA p.2)
theorem jfw (dm:List (Int × Int)) (k:Int):wF (dmA dm) k=(dF dm k).map intA:=by
 unfold wF dmA dF;rw[List.find?_map]
 cases h:dm.find? ((fun p:Int × A=>decide (k=p.1)) ∘ fun p:Int × Int=>(p.1,intA p.2)) with
 | none =>
  have:dm.find? (fun p:Int × Int=>decide (k=p.1))=none:=h
  rw[this];rfl
 | some p =>
  have:dm.find? (fun p:Int × Int=>decide (k=p.1))=some p:=h
  rw[this];rfl
theorem jlK (dm:List (Int × Int)) (k d:Int):dmA (dm++[(k,d)])=dmA dm++[(k,intA d)]:=by unfold dmA;rw[List.map_append];rfl
def pgE (e:Nat->Int) (du vo:Int):List A:=[intA (e 0),intA (e 1),intA (e 2),intA (e 3),intA (e 4),intA (e 5),intA (e 6),intA (e 7),intA (e 8),intA (e 9),intA (e 10),intA (e 11),intA (e 12),intA (e 13),intA (e 14),intA (e 15),intA (e 16),intA (e 17),intA (e 18),intA (e 19),intA (e 20),intA (e 21),intA (e 22),intA (e 23),intA (e 24),intA (e 25),intA (e 26),intA (e 27),intA (e 28),intA (e 29),intA (e 30),intA (e 31),intA (e 32),intA (e 33),intA (e 34),intA (e 35),intA (e 36),intA (e 37),intA (e 38),intA (e 39),intA du,intA vo]
def pgL (code:List Ic) (e:Nat->Int) (du vo:Int):List A := .sl 2 code.length (qC code) :: pgE e du vo
def tT (code:List Ic) (e:Nat->Int) (du vo:Int):A := .agg (pgL code e du vo)
structure Sh where
 po:Int
 pu:Int
 lo:Int
 hi:Int
def shA (s:Sh):A := .agg [intA s.po,intA s.pu,intA s.lo,intA s.hi]
def shL (v l:Int):List (Int × Sh):=[(1,⟨0,1,(-2147483647),2147483647⟩),(2,⟨0,1,0,v⟩),(3,⟨1,0,0,v⟩),(4,⟨0,1,0,8⟩),(5,⟨1,1,0,0⟩),(6,⟨2,1,0,0⟩),(7,⟨2,1,0,0⟩),(8,⟨2,1,0,0⟩),(9,⟨2,1,0,0⟩),(10,⟨1,1,0,0⟩),(11,⟨2,1,0,0⟩),(12,⟨2,1,0,0⟩),(13,⟨2,1,0,0⟩),(14,⟨1,1,0,0⟩),(15,⟨0,0,0,l⟩),(16,⟨1,0,0,l⟩),(17,⟨3,0,0,29⟩),(18,⟨0,0,0,7⟩),(19,⟨0,0,0,7⟩),(20,⟨0,0,0,0⟩),(21,⟨2,0,0,0⟩),(22,⟨1,0,0,0⟩),(23,⟨0,0,0,0⟩)]
def shP (v l:Int):List (Int × A):=(shL v l).map fun p=>(p.1,shA p.2)
def shM (v l:Int):A := .mp (uT (shP v l)) (pF (shP v l))
theorem t6 (code:List Ic) (e:Nat->Int) (du vo:Int) (hd : -100<=du/\du<=100) (hv : -100<=vo/\vo<=100) (hl:code.length<=1000000):Spec Tryz.prog 57 [] [tT code e du vo] fun _ r=>r=shM (du+vo-1) (code.length-1):=by
 refine aZ (qB jsH j5 0) (fun _ _ h=>h) Tryz.func57 rfl (by kernel_rfl) rfl ?_;intro _;refine yG (qB _ _ _) (by kernel_rfl) ?_;conv=>whnf
 refine yG (qB _ _ _) (by kernel_rfl) ?_;conv=>whnf
 refine⟨jJ (by omega),?_⟩;conv=>whnf
 refine⟨jJ (by omega),?_⟩;conv=>whnf
 refine⟨jJ (by omega),?_⟩;conv=>whnf
 refine yG (qB _ _ _) (by kernel_rfl) ?_;conv=>whnf
 refine jeq 0 ?_;conv=>whnf
 refine kF (qB _ _ _) (by kernel_rfl) ?_;conv=>whnf
 unfold shM uT pF shP shL;rfl
theorem jlU (v l k:Int) (hk:1<=k/\k<=23):∃ lo hi,wF (shP v l) k=some (.agg [intA (qG k),intA (qD k),intA lo,intA hi]):=by
 have h:k=1 ∨ k=2 ∨ k=3 ∨ k=4 ∨ k=5 ∨ k=6 ∨ k=7 ∨ k=8 ∨ k=9 ∨ k=10 ∨ k=11 ∨ k=12 ∨ k=13 ∨ k=14 ∨ k=15 ∨ k=16 ∨ k=17 ∨ k=18 ∨ k=19 ∨ k=20 ∨ k=21 ∨ k=22 ∨ k=23:=by omega
 rcases h with rfl | rfl | rfl | rfl | rfl | rfl | rfl | rfl | rfl | rfl | rfl | rfl | rfl | rfl | rfl | rfl | rfl | rfl | rfl | rfl | rfl | rfl | rfl
 all_goals exact⟨_,_,rfl⟩
theorem jhX (v l k:Int) (hk:1<=k/\k<=23) {K:A->Prop} {n:Prop} (h:∀ lo hi,K (.agg [intA (qG k),intA (qD k),intA lo,intA hi])):gN false (uT (shP v l)) (pF (shP v l)) (.int .i64 k) K n:=by
 refine kD _ _ ?_
 obtain⟨lo,hi,e⟩ := jlU v l k hk
 rw[e];exact h lo hi
def jeY (i:Ic):Prop:=(1<=i.1/\i.1<=23)/\(i.1=15 ∨ i.1=16->0<=i.2)
def GOk (g:Int->List Ic):Prop := ∀ at':Int,0<=at' -> ∀ i ∈ g at',jeY i
theorem GOk.no:GOk noI:=fun _ _ i hi=>by cases hi
theorem GOk.one {i:Ic} (h:jeY i):GOk fun _=>[i]:=fun _ _ j hj=>by rw[List.mem_singleton.1 hj];exact h
theorem GOk.seq:∀ {l:List (Int->List Ic)},(∀ g ∈ l,GOk g)->GOk (zQ l)
 | [],_,_,_,i,hi=>by cases hi
 | g :: r,h,at',ha,i,hi=>by
  unfold zQ at hi
  rcases List.mem_append.1 hi with hi | hi
  ·exact h g List.mem_cons_self at' ha i hi
  ·exact GOk.seq (fun x hx=>h x (List.mem_cons_of_mem _ hx)) _ (by omega) i hi
theorem GOk.br {c y n:Int->List Ic} (hc:GOk c) (hy:GOk y) (hn:GOk n):GOk (pO c y n):=fun at' ha i hi=>by
 unfold pO at hi;simp only[List.mem_append,List.mem_cons] at hi
 rcases hi with hi | rfl | hi | rfl | hi
 ·exact hc at' ha i hi
 ·exact⟨by simp,fun _=>by simp only;omega⟩
 ·exact hy _ (by omega) i hi
 ·exact⟨by simp,fun _=>by simp only;omega⟩
 ·exact hn _ (by omega) i hi
theorem GOk.get {l:List (Int->List Ic)} (h:∀ g ∈ l,GOk g) (k:Nat):GOk (l.getD k noI):=by
 rw[List.getD_eq_getElem?_getD]
 cases hk:l[k]? with
 | none=>exact GOk.no
 | some g=>exact h g (List.mem_of_getElem? hk)
theorem jqX (s:ByteArray):∀ i ∈ opC s,jeY i:=by
 unfold opC
 repeat' split
 all_goals (intro i hi;simp only[List.mem_cons,List.not_mem_nil,or_false] at hi)
 all_goals first
  | (rcases hi with rfl | rfl <;> exact⟨by simp,fun h=>by simp at h⟩)
  | (subst hi;exact⟨by simp,fun h=>by simp at h⟩)
theorem GOk.body (ix:ByteArray->Int) (k n:Int) (s:ByteArray) {l:List (Int->List Ic)} (h:∀ g ∈ l,GOk g):GOk (kQ ix k n s l):=fun at' ha i hi=>by
 have g0:=GOk.get h 0
 have g1:=GOk.get h 1
 have g2:=GOk.get h 2
 have sq:=GOk.seq h
 have one:∀ {a b:Int},1<=a->a<=23->a ≠ 15->a ≠ 16->i ∈ [((a,b):Ic)]->jeY i:=fun h1 h2 h3 h4 hi=>by
  rw[List.mem_singleton.1 hi];exact⟨⟨h1,h2⟩,fun h=>by rcases h with h | h;exact absurd h h3;exact absurd h h4⟩
 unfold kQ at hi
 by_cases c1:k=12 ∨ k=13
 ·rw[if_pos c1] at hi;exact one (by decide) (by decide) (by decide) (by decide) hi
 rw[if_neg c1] at hi
 by_cases c2:k=14
 ·rw[if_pos c2] at hi;exact one (by decide) (by decide) (by decide) (by decide) hi
 rw[if_neg c2] at hi
 by_cases c3:k=15
 ·rw[if_pos c3] at hi;exact one (by decide) (by decide) (by decide) (by decide) hi
 rw[if_neg c3] at hi
 by_cases c4:k=2
 ·rw[if_pos c4] at hi;exact GOk.br g0 g1 g2 at' ha i hi
 rw[if_neg c4] at hi
 by_cases c5:k=5
 ·rw[if_pos c5] at hi;exact one (by decide) (by decide) (by decide) (by decide) hi
 rw[if_neg c5] at hi
 by_cases c6:k=6
 ·rw[if_pos c6] at hi;exact one (by decide) (by decide) (by decide) (by decide) hi
 rw[if_neg c6] at hi
 by_cases c7:k=7
 ·rw[if_pos c7] at hi;exact one (by decide) (by decide) (by decide) (by decide) hi
 rw[if_neg c7] at hi
 by_cases c8:k=10
 ·rw[if_pos c8] at hi;exact one (by decide) (by decide) (by decide) (by decide) hi
 rw[if_neg c8] at hi
 by_cases c9:k=3
 ·rw[if_pos c9] at hi;simp only[List.mem_append,List.mem_cons,List.not_mem_nil,or_false] at hi
  rcases hi with hi | rfl | hi | rfl
  ·exact g0 at' ha i hi
  ·exact⟨by simp,fun _=>by simp only;omega⟩
  ·exact g1 _ (by omega) i hi
  ·exact⟨by simp,fun _=>ha⟩
 rw[if_neg c9] at hi
 by_cases ca:k=18/\s=vI
 ·rw[if_pos ca] at hi;exact GOk.br g0 g1 (GOk.one ⟨by simp,fun h=>by simp at h⟩) at' ha i hi
 rw[if_neg ca] at hi
 by_cases cb:k=18/\s=pOr
 ·rw[if_pos cb] at hi;exact GOk.br g0 (GOk.one ⟨by simp,fun h=>by simp at h⟩) g1 at' ha i hi
 rw[if_neg cb] at hi
 rcases List.mem_append.1 hi with hi | hi
 ·exact sq at' ha i hi
 by_cases d1:k=18
 ·rw[if_pos d1] at hi;exact jqX s i hi
 rw[if_neg d1] at hi
 by_cases d2:k=16
 ·rw[if_pos d2] at hi;exact one (by decide) (by decide) (by decide) (by decide) hi
 rw[if_neg d2] at hi
 by_cases d3:k=17
 ·rw[if_pos d3] at hi
  by_cases d4:s=pMinus
  ·rw[if_pos d4] at hi;exact one (by decide) (by decide) (by decide) (by decide) hi
  ·rw[if_neg d4] at hi;exact one (by decide) (by decide) (by decide) (by decide) hi
 rw[if_neg d3] at hi
 by_cases d5:k=1
 ·rw[if_pos d5] at hi;exact one (by decide) (by decide) (by decide) (by decide) hi
 rw[if_neg d5] at hi
 by_cases d6:k=4
 ·rw[if_pos d6] at hi;exact one (by decide) (by decide) (by decide) (by decide) hi
 rw[if_neg d6] at hi
 by_cases d7:k=8
 ·rw[if_pos d7] at hi;exact one (by decide) (by decide) (by decide) (by decide) hi
 rw[if_neg d7] at hi
 by_cases d8:k=9
 ·rw[if_pos d8] at hi;exact one (by decide) (by decide) (by decide) (by decide) hi
 rw[if_neg d8] at hi
 cases hi
theorem pR (ix:ByteArray->Int):∀ f:Nt,GOk (jI ix f)
 | .mk k n s kids=>by
  have h:∀ f ∈ kids,GOk (jI ix f):=fun f hf=>pR ix f
  rw[show jI ix (.mk k n s kids)=kQ ix k n s (jF ix kids) by funext at';rw[jI]]
  refine GOk.body ix k n s fun g hg => ?_
  rw[wM] at hg
  obtain⟨f,hf,rfl⟩ := List.mem_map.1 hg
  exact h f hf
def oH (ix:ByteArray->Int):List (Int × Nt)->List Ic->(Nat->Int)->List Ic × (Nat->Int)
 | [],c,e=>(c,e)
 | (h,b) :: r,c,e=>oH ix r (c++jI ix b c.length++[(23,0)]) (fun j=>if j=h.toNat then (c.length:Int) else e j)
theorem jlX (ix:ByteArray->Int):∀ (l:List (Int × Nt)) (c:List Ic) (e:Nat->Int),(∀ i ∈ c,jeY i) -> ∀ i ∈ (oH ix l c e).1,jeY i
 | [],c,e,hc=>hc
 | (h,b) :: r,c,e,hc=>by
  unfold oH
  refine jlX ix r _ _ fun i hi => ?_
  rcases List.mem_append.1 hi with hi | hi
  ·rcases List.mem_append.1 hi with hi | hi
   ·exact hc i hi
   ·exact pR ix b _ (by omega) i hi
  ·rw[List.mem_singleton.1 hi];exact⟨by simp,fun h=>by simp at h⟩
def mM (code:List Ic) (e:Nat->Int):Nat->Nat->Int
 | _,0=>0
 | j,m+1=>if kC code (e j) ≠ 0 then kC code (e j) else mM code e (j+1) m
def noE:Nat->Int:=fun _ => -1
def zE:Nat->Int:=fun _=>0
def yS (u:Ut):List Ic × (Nat->Int):=oH (jW u) u.on [] noE
def uC (u:Ut):Int:=if 400<(yS u).1.length then 2 else mM (yS u).1 (yS u).2 0 40
def fK:List A := .v (.slice none 0 0) :: pgE zE 0 0
def jc5 (u:Ut):A:=if uC u=0 then .tup [tT (yS u).1 (yS u).2 u.du.length u.vo.length,intA 0] else .tup [.agg fK,intA (uC u)]
def okI (v l:Int) (i:Ic):Bool:=match (shL v l).find? (fun p=>decide (i.1=p.1)) with
 | none=>false
 | some p=>decide (p.2.lo<=i.2) && decide (i.2<=p.2.hi)
def mI (n:Nat) (x:Int):Bool:=decide (-1<=x) && decide (x<(n:Int))
def pH (p:Int->Bool) (e:Nat->Int):Nat->Nat->Bool
 | _,0=>true
 | j,m+1=>p (e j) && pH p e (j+1) m
def jp7 (code:List Ic) (e:Nat->Int):Nat->Nat->Int->Int
 | _,0,r=>r
 | j,m+1,r=>if kC code (e j)=12 then 12 else jp7 code e (j+1) m (if kC code (e j)=13 then 13 else r)
def jp8 (code:List Ic) (e:Nat->Int) (du vo:Int):Int :=
 if 400<code.length then 2
 else if du<0 ∨ vo<0 ∨ 16<du ∨ 16-du<vo then 12
 else if (code.all (okI (du+vo-1) (code.length-1)))=false then 12
 else if pH (mI code.length) e 0 40=false then 12
 else jp7 code e 0 40 0
def uV (code:List Ic) (a:Int):Int:=(code.getD a.toNat (0,0)).1
def sc (code:List Ic) (a:Int):List Int:=nxI a (code.getD a.toNat (0,0))
def lv (code:List Ic) (a d:Int):Int:=d-qG (uV code a)+qD (uV code a)
inductive Rch (code:List Ic) (x:Int):Int->Prop
 | here:Rch code x x
 | next {a k:Int} (h:Rch code x a) (hk:k ∈ sc code a) (hn:k<code.length):Rch code x k
structure ja1 (code:List Ic) (x:Int) (D:Int->Int):Prop where
 st:D x=0
 po:∀ a,Rch code x a->qG (uV code a)<=D a
 nx:∀ a,Rch code x a -> ∀ k ∈ sc code a,k<code.length->D k=lv code a (D a)
def Good (code:List Ic) (x:Int) (D:Int->Int):Prop:=ja1 code x D /\ ∀ a,Rch code x a->lv code a (D a)<=16
theorem Rch.rng {code:List Ic} (hj:cC code) {x:Int} (hx:0<=x/\x<code.length) {a:Int} (h:Rch code x a):0<=a/\a<code.length:=by
 induction h with
 | here=>exact hx
 | next h hk hn ih=>exact⟨jga hj ih _ hk,hn⟩
theorem Good.le {code:List Ic} {x:Int} {D:Int->Int} (h:Good code x D) {a:Int} (ha:Rch code x a):D a<=16:=by
 cases ha with
 | here=>rw[h.1.st];decide
 | next h1 hk hn=>rw[h.1.nx _ h1 _ hk hn];exact h.2 _ h1
theorem jaT {n:Nat} {af:Int} : ∀ (l:List Int) (s s':Fs),gV n af l s=some s' -> ∃ t:List (Int × Int),s'.dm=s.dm++t/\s'.wk=s.wk++t.map (·.1)/\(∀ p ∈ t,p.1 ∈ l/\p.2=af)/\(∀ k ∈ l,k<n /\ ∃ d,(k,d) ∈ s'.dm)/\(s'.er=false->s.er=false /\ ∀ k ∈ l,(k,af) ∈ s'.dm)/\((s.er=false /\ ∀ k ∈ l,∀ d,(k,d) ∈ s.dm->d=af)->s'.er=false)
 | [],s,s',e=>by
  unfold gV at e
  cases e
  exact⟨[],by simp,by simp,by simp,by simp,fun h=>⟨h,by simp⟩,fun h=>h.1⟩
 | k :: l,s,s',e=>by
  unfold gV jc9 at e
  by_cases hk:(n:Int)<=k
  ·rw[if_pos hk] at e;cases e
  rw[if_neg hk] at e
  cases hd:dF s.dm k with
  | some d =>
   rw[hd] at e
   simp only at e
   obtain⟨t,h1,h2,h3,h4,h5,h6⟩ := jaT l _ s' e
   have hm:=jat hd
   refine⟨t,h1,h2,fun p hp=>⟨List.mem_cons_of_mem _ (h3 p hp).1,(h3 p hp).2⟩,?_,?_,?_⟩
   ·intro j hj'
    rcases List.mem_cons.1 hj' with rfl | hj'
    ·exact⟨by omega,d,by rw[h1];exact List.mem_append_left _ hm⟩
    ·exact h4 j hj'
   ·intro he
    obtain⟨q1,q2⟩ := h5 he
    simp only[Bool.or_eq_false_iff,decide_eq_false_iff_not,ne_eq,Decidable.not_not] at q1;refine⟨q1.1,fun j hj' => ?_⟩
    rcases List.mem_cons.1 hj' with rfl | hj'
    ·rw[h1,<- q1.2];exact List.mem_append_left _ hm
    ·exact q2 j hj'
   ·rintro⟨q1,q2⟩;refine h6 ⟨?_,fun j hj' d' hd' => q2 j (List.mem_cons_of_mem _ hj') d' hd'⟩;simp only[Bool.or_eq_false_iff,decide_eq_false_iff_not,ne_eq,Decidable.not_not];exact⟨q1,q2 k List.mem_cons_self d hm⟩
  | none =>
   rw[hd] at e
   simp only at e
   obtain⟨t,h1,h2,h3,h4,h5,h6⟩ := jaT l _ s' e
   simp only at h1 h2 h5 h6
   refine⟨(k,af) :: t,by rw[h1,List.append_assoc];rfl,by rw[h2,List.append_assoc];rfl,?_,?_,?_,?_⟩
   ·intro p hp
    rcases List.mem_cons.1 hp with rfl | hp
    ·exact⟨List.mem_cons_self,rfl⟩
    ·exact⟨List.mem_cons_of_mem _ (h3 p hp).1,(h3 p hp).2⟩
   ·intro j hj'
    rcases List.mem_cons.1 hj' with rfl | hj'
    ·exact⟨by omega,af,by rw[h1];exact List.mem_append_left _ (List.mem_append_right _ List.mem_cons_self)⟩
    ·exact h4 j hj'
   ·intro he
    obtain⟨q1,q2⟩ := h5 he
    refine⟨q1,fun j hj' => ?_⟩
    rcases List.mem_cons.1 hj' with rfl | hj'
    ·rw[h1];exact List.mem_append_left _ (List.mem_append_right _ List.mem_cons_self)
    ·exact q2 j hj'
   ·rintro⟨q1,q2⟩;refine h6 ⟨q1,fun j hj' d' hd' => ?_⟩
    rcases List.mem_append.1 hd' with hd' | hd'
    ·exact q2 j (List.mem_cons_of_mem _ hj') d' hd'
    ·rw[List.mem_singleton] at hd';exact (Prod.mk.inj hd').2
theorem sH {n:Nat} {af:Int} : ∀ (l:List Int) (s:Fs),gV n af l s=none -> ∃ k ∈ l,(n:Int)<=k
 | [],s,e=>by unfold gV at e;cases e
 | k :: l,s,e=>by
  unfold gV jc9 at e
  by_cases hk:(n:Int)<=k
  ·exact⟨k,List.mem_cons_self,hk⟩
  rw[if_neg hk] at e
  cases hd:dF s.dm k with
  | some d =>
   rw[hd] at e
   obtain⟨j,h1,h2⟩ := sH l _ e
   exact⟨j,List.mem_cons_of_mem _ h1,h2⟩
  | none =>
   rw[hd] at e
   obtain⟨j,h1,h2⟩ := sH l _ e
   exact⟨j,List.mem_cons_of_mem _ h1,h2⟩
theorem jpy {dm:List (Int × Int)} (h:(dm.map (·.1)).Nodup) {k d d':Int} (h1:(k,d) ∈ dm) (h2:(k,d') ∈ dm):d=d':=by
 induction dm with
 | nil=>cases h1
 | cons p l ih =>
  rw[List.map_cons,List.nodup_cons] at h
  rcases List.mem_cons.1 h1 with e1 | h1
  ·rcases List.mem_cons.1 h2 with e2 | h2
   ·rw[<- e1] at e2;exact (Prod.mk.inj e2).2.symm
   ·exact absurd (List.mem_map.2 ⟨_,h2,by rw[<- e1]⟩) h.1
  ·rcases List.mem_cons.1 h2 with e2 | h2
   ·exact absurd (List.mem_map.2 ⟨_,h1,by rw[<- e2]⟩) h.1
   ·exact ih h.2 h1 h2
structure Fi (code:List Ic) (x:Int) (s:Fs):Prop where
 ok:ja2 code.length s
 rc:∀ p ∈ s.dm,Rch code x p.1
 st:(x,0) ∈ s.dm
 pr:∀ p ∈ s.dm,p.1 ∉ s.wk -> ∀ k ∈ sc code p.1,k<code.length /\ ∃ d,(k,d) ∈ s.dm
 gd:s.er=false -> ∀ p ∈ s.dm,p.1 ∉ s.wk->qG (uV code p.1)<=p.2/\lv code p.1 p.2<=16 /\ ∀ k ∈ sc code p.1,(k,lv code p.1 p.2) ∈ s.dm
 gu:∀ D,Good code x D->s.er=false /\ ∀ p ∈ s.dm,p.2=D p.1
theorem joc {code:List Ic} (hj:cC code) {x:Int} {dm:List (Int × Int)} {pre:List Int} {a:Int} {er:Bool} {s':Fs} (h:Fi code x ⟨dm,pre++[a],er⟩) (e:t8 code dm pre er a=some s'):Fi code x s':=by
 obtain⟨ok',-,-⟩ := jjU hj h.ok e
 obtain⟨d0,hd0⟩ := h.ok.wk a (List.mem_append_right _ List.mem_cons_self)
 obtain⟨d,hd⟩ := je5 hd0
 have hm:(a,d) ∈ dm:=jat hd
 have ha:Rch code x a:=h.rc _ hm
 unfold t8 at e
 obtain⟨t,h1,h2,h3,h4,h5,h6⟩ := jaT _ _ _ e
 have haf:afF code dm a=lv code a d:=by unfold afF;rw[hd];rfl
 have hbd:uB code dm a=(decide (d<qG (uV code a)) || decide (16<lv code a d)):=by unfold uB;rw[haf,hd];rfl
 rw[haf] at h3 h5 h6;rw[hbd] at h5 h6
 simp only at h1 h2 h5 h6
 change ∀ k ∈ sc code a,_ at h4
 change ∀ p ∈ t,p.1 ∈ sc code a/\_ at h3
 have hsub:∀ p ∈ dm,p ∈ s'.dm:=fun p hp=>by rw[h1];exact List.mem_append_left _ hp
 have hold:∀ p ∈ s'.dm,p.1 ∉ s'.wk->p.1 ≠ a->p ∈ dm/\p.1 ∉ pre++[a]:=fun p hp hw hne=>by
  rw[h2] at hw;rw[h1] at hp
  rcases List.mem_append.1 hp with hp | hp
  ·refine⟨hp,fun hq => ?_⟩
   rcases List.mem_append.1 hq with hq | hq
   ·exact hw (List.mem_append_left _ hq)
   ·exact hne (List.mem_singleton.1 hq)
  ·exact absurd (List.mem_append_right _ (List.mem_map.2 ⟨p,hp,rfl⟩)) hw
 refine⟨ok',fun p hp => ?_,hsub _ h.st,fun p hp hw => ?_,fun he p hp hw => ?_,fun D hD => ?_⟩
 ·rw[h1] at hp
  rcases List.mem_append.1 hp with hp | hp
  ·exact h.rc p hp
  ·exact .next ha (h3 p hp).1 (h4 _ (h3 p hp).1).1
 ·by_cases hpa:p.1=a
  ·rw[hpa];exact h4
  ·obtain⟨q1,q2⟩ := hold p hp hw hpa
   intro k hk
   obtain⟨q3,d',q4⟩ := h.pr p q1 q2 k hk
   exact⟨q3,d',hsub _ q4⟩
 ·obtain⟨q1,q2⟩ := h5 he
  simp only[Bool.or_eq_false_iff,decide_eq_false_iff_not] at q1
  by_cases hpa:p.1=a
  ·have hpd:p.2=d:=jpy ok'.nd (k:=a) (by rw[<- hpa];exact hp) (hsub _ hm)
   rw[hpa,hpd];exact⟨by omega,by omega,q2⟩
  ·obtain⟨w1,w2⟩ := hold p hp hw hpa
   obtain⟨w3,w4,w5⟩ := h.gd q1.1 p w1 w2
   exact⟨w3,w4,fun k hk=>hsub _ (w5 k hk)⟩
 ·obtain⟨q1,q2⟩ := h.gu D hD
  simp only at q1 q2
  have hda:d=D a:=q2 _ hm
  have hpo:=hD.1.po a ha
  have hle:=hD.2 a ha
  have hnx:∀ k ∈ sc code a,D k=lv code a d:=fun k hk=>by rw[hda];exact hD.1.nx a ha k hk (h4 k hk).1
  refine⟨h6 ⟨?_,fun k hk d' hd' => ?_⟩,fun p hp => ?_⟩
  ·rw[q1,jG (show ¬ d<qG (uV code a) by omega),jG (show ¬ 16<lv code a d by rw[hda];omega)];rfl
  ·exact (q2 _ hd').trans (hnx k hk)
  ·rw[h1] at hp
   rcases List.mem_append.1 hp with hp | hp
   ·exact q2 p hp
   ·rw[(h3 p hp).2,hnx _ (h3 p hp).1]
def jrL (code:List Ic) (x f:Int):Prop :=
 (f=12 /\ ∃ a,Rch code x a /\ ∃ k ∈ sc code a,(code.length:Int)<=k) ∨ ((∀ a,Rch code x a -> ∀ k ∈ sc code a,k<(code.length:Int))/\((f=0 /\ ∃ D,Good code x D) ∨ (f=13 /\ ¬ ∃ D,Good code x D)))
theorem jjd {code:List Ic} (hj:cC code) {x:Int} : ∀ (m:Nat) (s:Fs),Fi code x s->s.wk.length+(code.length-s.dm.length)+1<=m->jrL code x (jhF code m s)
 | 0,s,h,hm=>by omega
 | m+1,⟨dm,wk,er⟩,h,hm=>by
  rw[jhF]
  rcases List.eq_nil_or_concat wk with rfl | ⟨pre,a,hw⟩
  ·simp only[List.getLast?_nil]
   have hall:∀ a,Rch code x a -> ∃ d,(a,d) ∈ dm:=fun a ha=>by
    induction ha with
    | here=>exact⟨0,h.st⟩
    | next h1 hk hn ih =>
     obtain⟨d,hd⟩ := ih
     exact (h.pr _ hd (by simp) _ hk).2
   refine .inr ⟨fun a ha k hk => ?_,?_⟩
   ·obtain⟨d,hd⟩ := hall a ha
    exact (h.pr _ hd (by simp) k hk).1
   ·cases er with
    | true =>
     refine .inr ⟨rfl,fun ⟨D,hD⟩ => ?_⟩
     have:=(h.gu D hD).1
     cases this
    | false =>
     refine .inl ⟨rfl,fun k=>(dF dm k).getD 0,?_⟩
     have hget:∀ k d,(k,d) ∈ dm->(dF dm k).getD 0=d:=fun k d hd=>by
      obtain⟨d',hd'⟩ := je5 hd
      rw[hd'];exact jpy h.ok.nd (jat hd') hd
     have hgd:=h.gd rfl
     refine⟨⟨hget _ _ h.st,fun a ha => ?_,fun a ha k hk hn => ?_⟩,fun a ha => ?_⟩
     ·obtain⟨d,hd⟩ := hall a ha
      rw[hget a d hd];exact (hgd _ hd (by simp)).1
     ·obtain⟨d,hd⟩ := hall a ha
      rw[hget a d hd];exact hget _ _ ((hgd _ hd (by simp)).2.2 k hk)
     ·obtain⟨d,hd⟩ := hall a ha
      show lv code a ((dF dm a).getD 0)<=16
      rw[hget a d hd];exact (hgd _ hd (by simp)).2.1
  ·rw[List.concat_eq_append] at hw;subst hw;simp only[List.getLast?_append,List.getLast?_singleton,Option.some_or,List.dropLast_append_cons,List.dropLast_singleton,List.append_nil]
   cases hs:t8 code dm pre er a with
   | none =>
    obtain⟨d0,hd0⟩ := h.ok.wk a (List.mem_append_right _ List.mem_cons_self)
    unfold t8 at hs
    obtain⟨k,hk,hn⟩ := sH _ _ hs
    exact .inl ⟨rfl,a,h.rc _ hd0,k,hk,hn⟩
   | some s' =>
    obtain⟨ok',q2,q3⟩ := jjU hj h.ok hs
    refine jjd hj m s' (joc hj h hs) ?_;simp only[List.length_append,List.length_singleton] at hm q2;omega
theorem jhG {code:List Ic} (hj:cC code) {x:Int} (hx:0<=x/\x<code.length):jrL code x (kC code x):=by
 unfold kC;rw[if_neg (by omega)];refine jjd hj _ _ ⟨⟨?_,?_,?_,?_⟩,?_,List.mem_singleton.2 rfl,?_,?_,?_⟩ ?_
 ·intro p hp;rw[List.mem_singleton.1 hp];exact hx
 ·simp
 ·intro k hk;rw[List.mem_singleton.1 hk];exact⟨0,List.mem_singleton.2 rfl⟩
 ·intro p hp;rw[List.mem_singleton.1 hp];simp only[List.length_singleton];omega
 ·intro p hp;rw[List.mem_singleton.1 hp];exact .here
 ·intro p hp hw;rw[List.mem_singleton.1 hp] at hw
  simp at hw
 ·intro _ p hp hw;rw[List.mem_singleton.1 hp] at hw
  simp at hw
 ·intro D hD;refine⟨rfl,fun p hp => ?_⟩;rw[List.mem_singleton.1 hp];exact hD.1.st.symm
 ·simp only[List.length_singleton];omega
def shI (a:Int) (i:Ic):Ic:=if i.1=15 ∨ i.1=16 then (i.1,i.2+a) else i
theorem jjh (ix:ByteArray->Int):∀ (l m:List (Int × Nt)) (c:List Ic) (e:Nat->Int),oH ix (l++m) c e=oH ix m (oH ix l c e).1 (oH ix l c e).2
 | [],m,c,e=>rfl
 | (h,b) :: l,m,c,e=>by rw[List.cons_append,oH,oH,jjh ix l m]
theorem jji (ix:ByteArray->Int):∀ (l:List (Int × Nt)) (c:List Ic) (e:Nat->Int),∃ t,(oH ix l c e).1=c++t
 | [],c,e=>⟨[],by rw[List.append_nil];rfl⟩
 | (h,b) :: l,c,e=>by
  obtain⟨t,ht⟩ := jji ix l (c++jI ix b c.length++[(23,0)]) (fun j=>if j=h.toNat then (c.length:Int) else e j)
  exact⟨jI ix b c.length++[(23,0)]++t,by rw[oH,ht];simp⟩
theorem jaM (ix:ByteArray->Int) (j:Nat):∀ (l:List (Int × Nt)) (c:List Ic) (e:Nat->Int),(∀ p ∈ l,p.1.toNat ≠ j)->(oH ix l c e).2 j=e j
 | [],c,e,_=>rfl
 | (h,b) :: l,c,e,hn=>by
  rw[oH,jaM ix j l _ _ fun p hp=>hn p (List.mem_cons_of_mem _ hp)]
  have:=hn _ List.mem_cons_self
  exact if_neg (Ne.symm this)
theorem jlY (u:Ut) (k:Nat) (hk:k<u.on.length) (hnn:∀ p ∈ u.on,0<=p.1) (hnd:u.on.Pairwise fun a b=>a.1 ≠ b.1):∃ c1 t,(yS u).1=c1++(jI (jW u) (u.on[k]).2 c1.length++[(23,0)])++t/\(yS u).2 (u.on[k]).1.toNat=(c1.length:Int):=by
 have hsp:u.on=u.on.take k++u.on[k] :: u.on.drop (k+1):=by
  rw[<- List.drop_eq_getElem_cons hk,List.take_append_drop]
 have hd:∀ p ∈ u.on.drop (k+1),p.1.toNat ≠ (u.on[k]).1.toNat:=fun p hp=>by
  have h1:=hnn p (List.mem_of_mem_drop hp)
  have h2:=hnn _ (List.getElem_mem hk)
  rw[hsp,List.pairwise_append] at hnd
  have h3:=hnd.2.1
  rw[List.pairwise_cons] at h3
  have h4:=h3.1 p hp
  omega
 obtain⟨x,hx⟩ : ∃ x,u.on[k]=x:=⟨_,rfl⟩
 rw[hx] at hsp hd ⊢
 obtain⟨h,b⟩ := x
 unfold yS;rw[show oH (jW u) u.on [] noE=oH (jW u) (u.on.take k++(h,b) :: u.on.drop (k+1)) [] noE by rw[<- hsp],jjh,oH]
 obtain⟨t,ht⟩ := jji (jW u) (u.on.drop (k+1)) ((oH (jW u) (u.on.take k) [] noE).1++jI (jW u) b (oH (jW u) (u.on.take k) [] noE).1.length++[(23,0)]) (fun j=>if j=h.toNat then ((oH (jW u) (u.on.take k) [] noE).1.length:Int) else (oH (jW u) (u.on.take k) [] noE).2 j)
 refine⟨(oH (jW u) (u.on.take k) [] noE).1,t,by rw[ht];simp,?_⟩;rw[jaM (jW u) h.toNat _ _ _ hd];exact if_pos rfl
structure jtm (code sub:List Ic) (a:Nat):Prop where
 sp:∃ c1 t,c1.length=a/\code=c1++sub.map (shI a)++t
 cl:∀ x:Int,0<=x->x<sub.length -> ∀ k ∈ sc sub x,0<=k/\k<sub.length
def og (out:List Int) (i:Int):Int:=out.getD i.toNat (-1)
def cN (out:List Int):Nat:=out.countP fun v=>decide (0<=v)
theorem ji6 {out:List Int} {i:Int} (h:0<=i) (hn:i<out.length):∃ h2:i.toNat<out.length,og out i=out[i.toNat]:=by
 have h2:i.toNat<out.length:=by omega
 exact⟨h2,by unfold og;rw[List.getD_eq_getElem?_getD,List.getElem?_eq_getElem h2];rfl⟩
theorem jba {out:List Int} {k j d:Int} (hk:0<=k/\k<out.length) (hj:0<=j):og (out.set k.toNat d) j=if j=k then d else og out j:=by
 unfold og;rw[List.getD_eq_getElem?_getD,List.getElem?_set]
 by_cases h:j=k
 ·subst h;rw[if_pos rfl,if_pos rfl,if_pos (by omega)];rfl
 ·rw[if_neg (by omega),if_neg h,<- List.getD_eq_getElem?_getD]
theorem jhu:∀ (out:List Int) (k:Nat) (hk:k<out.length) (d:Int),out[k]<0->0<=d->cN (out.set k d)=cN out+1
 | [],k,hk,d,h1,h2=>by simp at hk
 | v :: l,0,hk,d,h1,h2=>by
  unfold cN;rw[List.set_cons_zero,List.countP_cons,List.countP_cons];simp only[List.getElem_cons_zero] at h1;rw[jK h2,jG (show ¬ 0<=v by omega)]
  simp
 | v :: l,k+1,hk,d,h1,h2=>by
  have ih:=jhu l k (by simpa using hk) d (by simpa using h1) h2
  unfold cN at ih ⊢;rw[List.set_cons_succ,List.countP_cons,List.countP_cons,ih];omega
theorem jcy (out:List Int):cN out<=out.length:=List.countP_le_length
structure Di (code:List Ic) (x:Int) (out:List Int) (ok:Bool):Prop where
 ln:out.length=code.length
 bd:∀ v ∈ out,-1<=v/\v+1<=(cN out:Int)
 x0:og out x=0
 re:∀ i:Int,0<=i->i<code.length->0<=og out i->Rch code x i
 uq:∀ D,ja1 code x D->ok=true /\ ∀ i:Int,0<=i->i<code.length->0<=og out i->og out i=D i
def Pds (code:List Ic) (out:List Int) (ok:Bool) (j:Int) (l:List Int):Prop:=(ok=true->qG (uV code j)<=og out j) /\ ∀ k ∈ l,0<=k->k<code.length->0<=og out k/\(ok=true->og out k=lv code j (og out j))
theorem Di.bnd {code:List Ic} {x:Int} {out:List Int} {ok:Bool} (h:Di code x out ok) {i:Int} (hi:0<=i/\i<code.length) : -1<=og out i/\og out i+1<=cN out:=by
 obtain⟨h2,e⟩ := ji6 hi.1 (by rw[h.ln];exact hi.2)
 rw[e];exact h.bd _ (List.getElem_mem h2)
theorem Di.init {code:List Ic} {x:Int} (hx:0<=x/\x<code.length):Di code x ((List.replicate code.length (-1)).set x.toNat 0) true:=by
 have hl:(List.replicate code.length (-1:Int)).length=code.length:=List.length_replicate
 have hog:∀ i,0<=i->og (List.replicate code.length (-1)) i = -1:=fun i hi=>by
  unfold og;rw[List.getD_eq_getElem?_getD,List.getElem?_replicate]
  split <;> rfl
 have hc:cN ((List.replicate code.length (-1:Int)).set x.toNat 0)=1:=by
  rw[jhu _ _ (by rw[hl];omega) _ (by rw[List.getElem_replicate];decide) (by decide)];unfold cN;rw[List.countP_replicate];rfl
 have hos:∀ i,0<=i->og ((List.replicate code.length (-1:Int)).set x.toNat 0) i=if i=x then 0 else -1:=fun i hi=>by
  rw[jba (by rw[hl];exact hx) hi,hog i hi]
 refine⟨by rw[List.length_set,hl],fun v hv => ?_,?_,fun i h1 h2 h3 => ?_,fun D hD=>⟨rfl,fun i h1 h2 h3 => ?_⟩⟩
 ·rw[hc]
  rcases List.mem_or_eq_of_mem_set hv with h | h
  ·rw[List.eq_of_mem_replicate h];omega
  ·rw[h];omega
 ·rw[hos x hx.1,if_pos rfl]
 ·rw[hos i h1] at h3
  by_cases e:i=x
  ·rw[e];exact .here
  ·rw[if_neg e] at h3;omega
 ·rw[hos i h1] at h3 ⊢
  by_cases e:i=x
  ·rw[if_pos e,e];exact hD.st.symm
  ·rw[if_neg e] at h3;omega
theorem Di.put {code:List Ic} {x:Int} {out:List Int} {ok:Bool} (h:Di code x out ok) {i k d:Int} (hi:0<=i/\i<code.length) (hr:0<=og out i) (hk:k ∈ sc code i) (hkr:0<=k/\k<code.length) (hlt:og out k<0) (hd:0<=d/\d<=cN out) (hD:∀ D,ja1 code x D->d=D k):Di code x (out.set k.toNat d) ok/\cN (out.set k.toNat d)=cN out+1:=by
 have hkl:0<=k/\k<out.length:=by rw[h.ln];exact hkr
 obtain⟨h2,e2⟩ := ji6 hkl.1 hkl.2
 have hc:=jhu out k.toNat h2 d (by rw[<- e2];exact hlt) hd.1
 have hkx:x ≠ k:=fun e=>by rw[<- e,h.x0] at hlt;omega
 refine⟨⟨by rw[List.length_set,h.ln],fun v hv => ?_,?_,fun j h1 h2 h3 => ?_,fun D hC=>⟨(h.uq D hC).1,fun j h1 h2 h3 => ?_⟩⟩,hc⟩
 ·rw[hc]
  rcases List.mem_or_eq_of_mem_set hv with h | h'
  ·have:=Di.bd ‹_› v h;omega
  ·rw[h'];omega
 ·by_cases hx:0<=x
  ·rw[jba hkl hx,if_neg hkx];exact h.x0
  ·unfold og
   have e:=h.x0
   unfold og at e;rw[List.getD_eq_getElem?_getD,List.getElem?_set] at *
   by_cases q:k.toNat=x.toNat
   ·exfalso
    have:og out k=og out x:=by unfold og;rw[q]
    rw[h.x0] at this;omega
   ·rw[if_neg q];exact e
 ·rw[jba hkl h1] at h3
  by_cases e:j=k
  ·rw[e];exact .next (h.re i hi.1 hi.2 hr) hk hkr.2
  ·rw[if_neg e] at h3;exact h.re j h1 h2 h3
 ·rw[jba hkl h1] at h3 ⊢
  by_cases e:j=k
  ·rw[if_pos e,e];exact hD D hC
  ·rw[if_neg e] at h3 ⊢;exact (h.uq D hC).2 j h1 h2 h3
theorem Di.no {code:List Ic} {x:Int} {out:List Int} {ok:Bool} (h:Di code x out ok) (hD:∀ D,¬ ja1 code x D):Di code x out false:=⟨h.ln,h.bd,h.x0,h.re,fun D hC=>absurd hC (hD D)⟩
structure Dp (code:List Ic) (x:Int) (out:List Int) (ok:Bool):Prop where
 ln:out.length=code.length
 bd:∀ i:Int,0<=i->i<code.length -> -1<=og out i/\og out i<=code.length
 re:∀ i:Int,0<=i->i<code.length->(0<=og out i ↔ Rch code x i)
 con:ok=true->ja1 code x (og out)
 uq:∀ D,ja1 code x D->ok=true /\ ∀ i,Rch code x i->og out i=D i
theorem Dp.of {code:List Ic} (hj:cC code) {x:Int} (hx:0<=x/\x<code.length) {out:List Int} {ok:Bool} (h:Di code x out ok) (hp:∀ j:Int,0<=j->j<code.length->0<=og out j->Pds code out ok j (sc code j)):Dp code x out ok:=by
 have hc:cN out<=code.length:=by have:=jcy out;rw[h.ln] at this;exact this
 have hr:∀ a,Rch code x a->0<=og out a:=fun a ha=>by
  induction ha with
  | here=>rw[h.x0];exact Int.le_refl 0
  | next h1 hk hn ih =>
   have q:=h1.rng hj hx
   exact ((hp _ q.1 q.2 ih).2 _ hk (jga hj q _ hk) hn).1
 refine⟨h.ln,fun i h1 h2 => ?_,fun i h1 h2=>⟨h.re i h1 h2,hr i⟩,fun hok=>⟨h.x0,fun a ha => ?_,fun a ha k hk hn => ?_⟩,fun D hD=>⟨(h.uq D hD).1,fun i hi => ?_⟩⟩
 ·have:=h.bnd ⟨h1,h2⟩;omega
 ·have q:=ha.rng hj hx
  exact (hp a q.1 q.2 (hr a ha)).1 hok
 ·have q:=ha.rng hj hx
  exact ((hp a q.1 q.2 (hr a ha)).2 k hk (jga hj q _ hk) hn).2 hok
 ·have q:=hi.rng hj hx
  exact (h.uq D hD).2 i q.1 q.2 (hr i hi)
theorem jo3 {code:List Ic} {x:Int} {out out2:List Int} {ok ok2:Bool} (h:Dp code x out ok) (h2:Dp code x out2 ok2):(ok=true /\ ∀ i,Rch code x i->og out2 i<=16/\lv code i (og out2 i)<=16) ↔ ∃ D,Good code x D:=by
 constructor
 ·rintro⟨hok,hb⟩
  have hc:=h.con hok
  refine⟨og out,hc,fun a ha => ?_⟩;rw[<- (h2.uq _ hc).2 a ha];exact (hb a ha).2
 ·rintro⟨D,hD⟩;refine⟨(h.uq D hD.1).1,fun i hi => ?_⟩;rw[(h2.uq D hD.1).2 i hi];exact⟨hD.le hi,hD.2 i hi⟩
def AtL:List Ic->Int->Int->Ic->Prop
 | [],_,_,_=>False
 | j :: l,a,x,i=>(x=a/\i=j) ∨ AtL l (a+1) x i
theorem dN:∀ (l m:List Ic) (a x:Int) (i:Ic),AtL (l++m) a x i ↔ AtL l a x i ∨ AtL m (a+l.length) x i
 | [],m,a,x,i=>by
  show AtL m a x i ↔ False ∨ AtL m (a+((0:Nat):Int)) x i
  rw[show a+((0:Nat):Int)=a by omega];simp
 | j :: l,m,a,x,i=>by
  rw[List.cons_append,AtL,AtL,dN l m,or_assoc,List.length_cons,show a+1+(l.length:Int)=a+((l.length+1:Nat):Int) by omega]
theorem bX:∀ {l:List Ic} {a x:Int} {i:Ic},AtL l a x i->a<=x/\x<a+l.length
 | [],_,_,_,h=>h.elim
 | j :: l,a,x,i,h=>by
  rw[List.length_cons]
  rcases h with ⟨h,-⟩ | h
  ·omega
  ·have:=bX h;omega
theorem jll:∀ (l:List Ic) (n:Nat) (a:Int),n<l.length->AtL l a (a+n) (l.getD n (0,0))
 | [],n,a,h=>by simp at h
 | j :: l,0,a,h => .inl ⟨by omega,rfl⟩
 | j :: l,n+1,a,h=>by
  have:=jll l n (a+1) (by simpa using h)
  rw[show a+1+(n:Int)=a+((n+1:Nat):Int) by omega] at this;exact .inr this
structure Fit (b:Bool) (l:List Ic) (a d e:Int) (D:Int->Int):Prop where
 st:D a=d
 en:D (a+l.length)=d+e
 go:∀ x i,AtL l a x i->qG i.1<=D x/\(∀ k ∈ nxI x i,a<=k/\k<=a+l.length/\D k=D x-qG i.1+qD i.1)/\(i.1=23->b=true/\D x=d)
def FitG (b:Bool) (m e:Int) (g:Int->List Ic):Prop := ∀ a d:Int,m<=d -> ∃ D,Fit b (g a) a d e D
theorem FitG.cast {b:Bool} {m e e':Int} {g:Int->List Ic} (h:FitG b m e g) (he:e=e'):FitG b m e' g:=he ▸ h
theorem FitG.nil {b:Bool} {m:Int} : FitG b m 0 fun _=>[]:=fun a d hd=>⟨fun _=>d,rfl,by omega,fun x i h=>h.elim⟩
theorem FitG.one {b:Bool} {m:Int} {i:Ic} (h1:i.1 ≠ 15) (h2:i.1 ≠ 16) (h3:i.1 ≠ 23) (hm:qG i.1<=m):FitG b m (qD i.1-qG i.1) fun _=>[i]:=fun a d hd=>by
 refine⟨fun x=>if x=a then d else d+(qD i.1-qG i.1),if_pos rfl,?_,fun x j h => ?_⟩
 ·rw[List.length_singleton];exact if_neg (by omega)
 ·rcases h with ⟨rfl,rfl⟩ | h
  ·rw[if_pos rfl];refine⟨by omega,fun k hk => ?_,fun h=>absurd h h3⟩;unfold nxI at hk;rw[if_neg h3,if_neg h1,if_neg h2,List.mem_singleton] at hk;rw[hk,List.length_singleton,if_neg (by omega)];exact⟨by omega,by omega,by omega⟩
  ·exact h.elim
theorem FitG.stop:FitG true 0 0 fun _=>[(23,0)]:=fun a d hd=>by
 refine⟨fun _=>d,rfl,by omega,fun x j h => ?_⟩
 rcases h with ⟨rfl,rfl⟩ | h
 ·exact⟨hd,fun k hk=>(by cases hk),fun _=>⟨rfl,rfl⟩⟩
 ·exact h.elim
theorem FitG.app {b b1 b2:Bool} {m m2 e1 e2:Int} {g h:Int->List Ic} (hg:FitG b1 m e1 g) (hh:FitG b2 m2 e2 h) (hm:m2<=m+e1) (hb1:b1=true->b=true) (hb2:b2=true->b=true/\e1=0):FitG b m (e1+e2) fun a=>g a++h (a+(g a).length):=fun a d hd=>by
 obtain⟨D1,s1,n1,g1⟩ := hg a d hd
 obtain⟨D2,s2,n2,g2⟩ := hh (a+(g a).length) (d+e1) (by omega)
 obtain⟨p,hp⟩ : ∃ p,a+((g a).length:Int)=p:=⟨_,rfl⟩
 have hl:a+((g a++h p).length:Int)=p+(h p).length:=by rw[List.length_append];omega
 rw[hp] at n1 s2 n2 g2 g1
 have q1:∀ x,x<=p->(if x<p then D1 x else D2 x)=D1 x:=fun x hx=>by
  by_cases h:x<p
  ·exact if_pos h
  ·rw[if_neg h,show x=p by omega,s2,n1]
 have q2:∀ x,p<=x->(if x<p then D1 x else D2 x)=D2 x:=fun x hx=>if_neg (by omega)
 show ∃ D,Fit b (g a++h (a+(g a).length)) a d (e1+e2) D
 rw[hp];refine⟨fun x=>if x<p then D1 x else D2 x,(q1 a (by omega)).trans s1,?_,fun x i hi => ?_⟩
 ·rw[hl];exact (q2 _ (by omega)).trans (by rw[n2];omega)
 ·rw[hl]
  rcases (dN _ _ _ _ _).1 hi with hi | hi
  ·have hr:=bX hi
   obtain⟨w1,w2,w3⟩ := g1 x i hi
   simp only[q1 x (by omega)];refine⟨w1,fun k hk => ?_,fun h=>⟨hb1 (w3 h).1,(w3 h).2⟩⟩
   obtain⟨v1,v2,v3⟩ := w2 k hk
   rw[q1 k (by omega)];exact⟨v1,by omega,v3⟩
  ·rw[hp] at hi
   have hr:=bX hi
   obtain⟨w1,w2,w3⟩ := g2 x i hi
   simp only[q2 x (by omega)];refine⟨w1,fun k hk => ?_,fun h=>⟨(hb2 (w3 h).1).1,by rw[(w3 h).2,(hb2 (w3 h).1).2];omega⟩⟩
   obtain⟨v1,v2,v3⟩ := w2 k hk
   rw[q2 k (by omega)];exact⟨by omega,v2,v3⟩
theorem FitG.two {b:Bool} {i j:Int} (h1:qG i=2/\qD i=1) (h2:qG j=1/\qD j=1):FitG b 2 (-1) fun _=>[(i,0),(j,0)]:=by
 have n1:∀ k,qG k ≠ 0->k ≠ 15/\k ≠ 23:=fun k h=>⟨fun e=>h (by rw[e];rfl),fun e=>h (by rw[e];rfl)⟩
 have n2:∀ k,qD k ≠ 0->k ≠ 16:=fun k h e=>h (by rw[e];rfl)
 have p1:=n1 i (by omega)
 have p2:=n2 i (by omega)
 have p3:=n1 j (by omega)
 have p4:=n2 j (by omega)
 have hi:FitG b 2 (qD i-qG i) fun _=>[(i,0)]:=FitG.one (i:=(i,0)) p1.1 p2 p1.2 (by show qG i<=2;omega)
 have hj:FitG false 1 (qD j-qG j) fun _=>[(j,0)]:=FitG.one (i:=(j,0)) p3.1 p4 p3.2 (by show qG j<=1;omega)
 exact (FitG.app hi hj (by omega) (fun h=>h) (fun h=>by cases h)).cast (by omega)
theorem FitG.seq {b:Bool} {e:Int} (hb:b=true->e=0) (he:0<=e):∀ {l:List (Int->List Ic)},(∀ g ∈ l,FitG b 0 e g)->FitG b 0 (l.length*e) (zQ l)
 | [],_=>FitG.nil.cast (by simp)
 | g :: r,h=>(FitG.app (h g List.mem_cons_self) (FitG.seq hb he fun x hx=>h x (List.mem_cons_of_mem _ hx)) (by omega) (fun h=>h) (fun h=>⟨h,hb h⟩)).cast (by rw[List.length_cons,Int.natCast_succ,Int.add_mul];omega)
theorem FitG.br {b:Bool} {e:Int} (he:0<=e) {c y n:Int->List Ic} (hc:FitG false 0 1 c) (hy:FitG b 0 e y) (hn:FitG b 0 e n):FitG b 0 e (pO c y n):=fun a d hd=>by
 obtain⟨p,hp⟩ : ∃ p,a+((c a).length:Int)+1=p:=⟨_,rfl⟩
 obtain⟨f,hf⟩ : ∃ f,p+((y p).length:Int)+1=f:=⟨_,rfl⟩
 obtain⟨q,hq⟩ : ∃ q,f+((n f).length:Int)=q:=⟨_,rfl⟩
 obtain⟨D1,s1,n1,g1⟩ := hc a d hd
 obtain⟨D2,s2,n2,g2⟩ := hy p d hd
 obtain⟨D3,s3,n3,g3⟩ := hn f d hd
 rw[show a+((c a).length:Int)=p-1 by omega] at n1 g1;rw[show p+((y p).length:Int)=f-1 by omega] at n2 g2;rw[hq] at n3 g3
 have e0:pO c y n a=c a++(16,f) :: (y p++(15,q) :: n f):=by unfold pO;simp only;rw[hp,hf,hq]
 have hl:a+((c a++((16,f):Ic) :: (y p++(15,q) :: n f)).length:Int)=q:=by simp only[List.length_append,List.length_cons];omega
 rw[e0]
 have q1:∀ x,x<p->(if x<p then D1 x else if x<f then D2 x else D3 x)=D1 x:=fun x hx=>if_pos hx
 have q2:∀ x,p<=x->x<f->(if x<p then D1 x else if x<f then D2 x else D3 x)=D2 x:=fun x h1 h2=>by rw[if_neg (by omega),if_pos h2]
 have q3:∀ x,f<=x->(if x<p then D1 x else if x<f then D2 x else D3 x)=D3 x:=fun x h1=>by rw[if_neg (by omega),if_neg (by omega)]
 refine⟨fun x=>if x<p then D1 x else if x<f then D2 x else D3 x,(q1 a (by omega)).trans s1,?_,fun x i hi => ?_⟩
 ·rw[hl];exact (q3 q (by omega)).trans n3
 rw[hl];rw[dN,AtL,dN,AtL] at hi;rw[show a+((c a).length:Int)+1=p from hp,show a+((c a).length:Int)=p-1 by omega,show p+((y p).length:Int)+1=f from hf,show p+((y p).length:Int)=f-1 by omega] at hi
 rcases hi with hi | ⟨rfl,rfl⟩ | hi | ⟨rfl,rfl⟩ | hi
 ·have hr:=bX hi
  obtain⟨w1,w2,w3⟩ := g1 x i hi
  simp only[q1 x (by omega)];refine⟨w1,fun k hk => ?_,fun h=>by have:=(w3 h).1;cases this⟩
  obtain⟨v1,v2,v3⟩ := w2 k hk
  rw[q1 k (by omega)];exact⟨v1,by omega,v3⟩
 ·simp only[q1 (p-1) (by omega)];rw[n1,show qG 16=1 from rfl,show qD 16=0 from rfl];refine⟨by omega,fun k hk => ?_,fun h=>by cases h⟩;rw[show nxI (p-1) (16,f)=[p-1+1,f] from rfl] at hk;simp only[List.mem_cons,List.not_mem_nil,or_false] at hk
  rcases hk with hk | hk
  ·rw[show k=p by omega,q2 p (by omega) (by omega),s2];exact⟨by omega,by omega,by omega⟩
  ·rw[hk,q3 f (by omega),s3];exact⟨by omega,by omega,by omega⟩
 ·have hr:=bX hi
  obtain⟨w1,w2,w3⟩ := g2 x i hi
  simp only[q2 x (by omega) (by omega)];refine⟨w1,fun k hk => ?_,w3⟩
  obtain⟨v1,v2,v3⟩ := w2 k hk
  rw[q2 k (by omega) (by omega)];exact⟨by omega,by omega,v3⟩
 ·simp only[q2 (f-1) (by omega) (by omega)];rw[n2,show qG 15=0 from rfl,show qD 15=0 from rfl];refine⟨by omega,fun k hk => ?_,fun h=>by cases h⟩
  ·rw[show nxI (f-1) (15,q)=[q] from rfl,List.mem_singleton] at hk;rw[hk,q3 q (by omega),n3];exact⟨by omega,by omega,by omega⟩
 ·have hr:=bX hi
  obtain⟨w1,w2,w3⟩ := g3 x i hi
  simp only[q3 x (by omega)];refine⟨w1,fun k hk => ?_,w3⟩
  obtain⟨v1,v2,v3⟩ := w2 k hk
  rw[q3 k (by omega)];exact⟨by omega,by omega,v3⟩
theorem FitG.wh {c bd:Int->List Ic} (hc:FitG false 0 1 c) (hb:FitG true 0 0 bd):FitG true 0 0 fun at' => c at'++(16,at'+(c at').length+(bd (at'+(c at').length+1)).length+2) :: (bd (at'+(c at').length+1)++[(15,at')]):=fun a d hd=>by
 obtain⟨p,hp⟩ : ∃ p,a+((c a).length:Int)+1=p:=⟨_,rfl⟩
 obtain⟨q,hq⟩ : ∃ q,p+((bd p).length:Int)+1=q:=⟨_,rfl⟩
 obtain⟨D1,s1,n1,g1⟩ := hc a d hd
 obtain⟨D2,s2,n2,g2⟩ := hb p d hd
 rw[show a+((c a).length:Int)=p-1 by omega] at n1 g1;rw[show p+((bd p).length:Int)=q-1 by omega] at n2 g2
 have hl:a+((c a++((16,q):Ic) :: (bd p++[(15,a)])).length:Int)=q:=by simp only[List.length_append,List.length_cons,List.length_nil];omega
 show ∃ D,Fit true (c a++(16,a+(c a).length+(bd (a+(c a).length+1)).length+2) :: (bd (a+(c a).length+1)++[(15,a)])) a d 0 D
 rw[hp,show a+((c a).length:Int)+((bd p).length:Int)+2=q by omega]
 have q1:∀ x,x<p->(if x<p then D1 x else if x<q then D2 x else d)=D1 x:=fun x hx=>if_pos hx
 have q2:∀ x,p<=x->x<q->(if x<p then D1 x else if x<q then D2 x else d)=D2 x:=fun x h1 h2=>by rw[if_neg (by omega),if_pos h2]
 have q3:(if q<p then D1 q else if q<q then D2 q else d)=d:=by rw[if_neg (by omega),if_neg (by omega)]
 refine⟨fun x=>if x<p then D1 x else if x<q then D2 x else d,(q1 a (by omega)).trans s1,?_,fun x i hi => ?_⟩
 ·rw[hl];exact q3.trans (by omega)
 rw[hl];rw[dN,AtL,dN,AtL] at hi;rw[hp,show a+((c a).length:Int)=p-1 by omega,show p+((bd p).length:Int)=q-1 by omega] at hi
 rcases hi with hi | ⟨rfl,rfl⟩ | hi | ⟨rfl,rfl⟩ | hi
 ·have hr:=bX hi
  obtain⟨w1,w2,w3⟩ := g1 x i hi
  simp only[q1 x (by omega)];refine⟨w1,fun k hk => ?_,fun h=>by have:=(w3 h).1;cases this⟩
  obtain⟨v1,v2,v3⟩ := w2 k hk
  rw[q1 k (by omega)];exact⟨v1,by omega,v3⟩
 ·simp only[q1 (p-1) (by omega)];rw[n1,show qG 16=1 from rfl,show qD 16=0 from rfl];refine⟨by omega,fun k hk => ?_,fun h=>by cases h⟩;rw[show nxI (p-1) (16,q)=[p-1+1,q] from rfl] at hk;simp only[List.mem_cons,List.not_mem_nil,or_false] at hk
  rcases hk with hk | hk
  ·rw[show k=p by omega,q2 p (by omega) (by omega),s2];exact⟨by omega,by omega,by omega⟩
  ·rw[hk,q3];exact⟨by omega,by omega,by omega⟩
 ·have hr:=bX hi
  obtain⟨w1,w2,w3⟩ := g2 x i hi
  simp only[q2 x (by omega) (by omega)];refine⟨w1,fun k hk => ?_,fun h=>⟨trivial,(w3 h).2⟩⟩
  obtain⟨v1,v2,v3⟩ := w2 k hk
  rw[q2 k (by omega) (by omega)];exact⟨by omega,by omega,v3⟩
 ·simp only[q2 (q-1) (by omega) (by omega)];rw[n2,show qG 15=0 from rfl,show qD 15=0 from rfl];refine⟨by omega,fun k hk => ?_,fun h=>by cases h⟩;rw[show nxI (q-1) (15,a)=[a] from rfl,List.mem_singleton] at hk;rw[hk,q1 a (by omega),s1];exact⟨by omega,by omega,by omega⟩
 ·exact hi.elim
def eX (b:Bool):Int:=if b=true then 1 else 0
def FitN (ix:ByteArray->Int) (f:Nt):Prop:=FitG (!isX f) 0 (eX (isX f)) (jI ix f)
theorem FitN.x {ix:ByteArray->Int} {f:Nt} (h:FitN ix f) (hx:isX f=true):FitG false 0 1 (jI ix f):=by
 unfold FitN at h;rw[hx] at h;exact h
theorem FitN.s {ix:ByteArray->Int} {f:Nt} (h:FitN ix f) (hx:isX f=false):FitG true 0 0 (jI ix f):=by
 unfold FitN at h;rw[hx] at h;exact h
theorem joz (s:ByteArray):FitG false 2 (-1) fun _=>opC s:=by
 unfold opC
 repeat' split
 all_goals first
  | exact FitG.two (by decide) (by decide)
  | exact (FitG.one (by decide) (by decide) (by decide) (by decide)).cast (by decide)
theorem FitG.tl {b:Bool} {l:List (Int->List Ic)} {t:List Ic} {n e:Int} (hl:∀ g ∈ l,FitG false 0 1 g) (hn:(l.length:Int)=n) (ht:FitG false n e fun _=>t):FitG b 0 (n+e) fun a=>zQ l a++t :=
 (FitG.app (b:=b) (FitG.seq (b:=false) (e:=1) (fun h=>by cases h) (by decide) hl) ht (by omega) (fun h=>by cases h) (fun h=>by cases h)).cast (by omega)
theorem jlV (ix:ByteArray->Int) (k n:Int) (s:ByteArray) (kids:List Nt) (ha:arN k s kids.length=true) (hc:clN k kids=true) (hk:∀ f ∈ kids,FitN ix f):FitG (!decide (12<=k)) 0 (eX (decide (12<=k))) (kQ ix k n s (jF ix kids)):=by
 have hx:(k ≠ 11/\k ≠ 2/\k ≠ 3) -> ∀ g ∈ jF ix kids,FitG false 0 1 g:=fun h g hg=>by
  rw[jo1 h,List.all_eq_true] at hc;rw[wM] at hg
  obtain⟨f,hf,rfl⟩ := List.mem_map.1 hg
  exact (hk f hf).x (hc f hf)
 have hlen:(jF ix kids).length=kids.length:=by rw[wM,List.length_map]
 have one:∀ {b:Bool} {m e o:Int},o ≠ 15/\o ≠ 16/\o ≠ 23/\qG o<=m/\qD o-qG o=e -> ∀ x:Int,FitG b m e fun _=>[(o,x)]:=fun h x=>(FitG.one (i:=(_,x)) h.1 h.2.1 h.2.2.1 h.2.2.2.1).cast h.2.2.2.2
 unfold arN at ha
 by_cases h11:k=11
 ·subst h11
  have hs:∀ g ∈ jF ix kids,FitG true 0 0 g:=fun g hg=>by
   unfold clN at hc;rw[if_pos rfl,List.all_eq_true] at hc;rw[wM] at hg
   obtain⟨f,hf,rfl⟩ := List.mem_map.1 hg
   exact (hk f hf).s (by simpa using hc f hf)
  exact (FitG.app (b:=true) (FitG.seq (b:=true) (e:=0) (fun _=>rfl) (by decide) hs) (FitG.nil (b:=false) (m:=0)) (by omega) (fun h=>h) (fun h=>by cases h)).cast (by show _=(0:Int);omega)
 rw[if_neg h11] at ha
 by_cases h0:k=12 ∨ k=13 ∨ k=14 ∨ k=5 ∨ k=6 ∨ k=7 ∨ k=10
 ·rw[if_pos h0,decide_eq_true_eq] at ha
  obtain rfl:=List.eq_nil_of_length_eq_zero ha
  rcases h0 with rfl | rfl | rfl | rfl | rfl | rfl | rfl
  all_goals first
   | exact FitG.stop
   | exact one (by decide) _
 rw[if_neg h0] at ha
 by_cases h15:k=15
 ·subst h15;exact one (by decide) _
 rw[if_neg h15] at ha
 by_cases h1:k=16 ∨ k=1 ∨ k=9
 ·rw[if_pos h1,decide_eq_true_eq] at ha
  rcases h1 with rfl | rfl | rfl
  ·exact FitG.tl (n:=1) (e:=0) (hx (by decide)) (by rw[hlen,ha];rfl) (one (o:=5) (by decide) 0)
  ·exact FitG.tl (n:=1) (e := -1) (hx (by decide)) (by rw[hlen,ha];rfl) (one (o:=3) (by decide) (ix s))
  ·exact FitG.tl (n:=1) (e := -1) (hx (by decide)) (by rw[hlen,ha];rfl) (one (o:=22) (by decide) 0)
 rw[if_neg h1] at ha
 by_cases h17:k=17
 ·rw[if_pos h17,Bool.and_eq_true,decide_eq_true_eq] at ha
  replace ha:=ha.1
  subst h17
  have ht:FitG false 1 0 fun _=>(if s=pMinus then [((10,0):Ic)] else [(14,0)]):=by
   split <;> exact one (by decide) _
  exact FitG.tl (n:=1) (hx (by decide)) (by rw[hlen,ha];rfl) ht
 rw[if_neg h17] at ha
 by_cases h18:k=18
 ·rw[if_pos h18,Bool.and_eq_true,decide_eq_true_eq] at ha;subst h18
  have hx18:=hx (by decide)
  obtain⟨ha,-⟩ := ha
  match kids,ha with
  | [c,d],_ =>
   have hc1:=hx18 (jI ix c) (by rw[jF,jF];simp)
   have hd1:=hx18 (jI ix d) (by rw[jF,jF,jF];simp)
   by_cases hA:s=vI
   ·have he:kQ ix 18 n s (jF ix [c,d])=pO (jI ix c) (jI ix d) (fun _=>[(1,0)]):=by
     funext at';simp[kQ,hA,jF]
    rw[he];exact FitG.br (by decide) hc1 hd1 (one (by decide) _)
   by_cases hO:s=pOr
   ·have he:kQ ix 18 n s (jF ix [c,d])=pO (jI ix c) (fun _=>[(1,1)]) (jI ix d):=by
     funext at';simp[kQ,hA,hO,jF]
     exact fun h=>absurd h (by decide)
    rw[he];exact FitG.br (by decide) hc1 (one (by decide) _) hd1
   have he:kQ ix 18 n s (jF ix [c,d])=fun a=>zQ (jF ix [c,d]) a++opC s:=by
    funext at';simp[kQ,hA,hO]
   rw[he];exact FitG.tl (n:=2) hx18 rfl (joz s)
 rw[if_neg h18] at ha
 by_cases h8:k=8 ∨ k=3
 ·rw[if_pos h8,decide_eq_true_eq] at ha
  rcases h8 with rfl | rfl
  ·exact FitG.tl (n:=2) (e := -2) (hx (by decide)) (by rw[hlen,ha];rfl) (one (o:=21) (by decide) 0)
  ·match kids,ha with
   | [c,d],_ =>
    unfold clN at hc
    simp at hc
    exact FitG.wh ((hk c (by simp)).x hc.1) ((hk d (by simp)).s hc.2)
 rw[if_neg h8] at ha
 by_cases h2:k=2 ∨ k=4
 ·rw[if_pos h2,decide_eq_true_eq] at ha
  rcases h2 with rfl | rfl
  ·match kids,ha with
   | [c,d,e],_ =>
    unfold clN at hc
    simp at hc
    exact FitG.br (by decide) ((hk c (by simp)).x hc.1) ((hk d (by simp)).s hc.2.1) ((hk e (by simp)).s hc.2.2)
  ·exact FitG.tl (n:=3) (e := -3) (hx (by decide)) (by rw[hlen,ha];rfl) (one (o:=17) (by decide) n)
 rw[if_neg h2] at ha
 cases ha
theorem jjb (ix:ByteArray->Int):∀ f:Nt,rT f->FitN ix f
 | .mk k n s kids,hw=>by
  unfold rT at hw
  obtain⟨ha,hwk,hcl⟩ := hw
  have hk:∀ f ∈ kids,FitN ix f:=fun f hf=>jjb ix f (lB hwk hf)
  have:=jlV ix k n s kids ha hcl hk
  unfold FitN;rw[show jI ix (.mk k n s kids)=kQ ix k n s (jF ix kids) by funext at';rw[jI]];exact this
theorem jnV {l:List Ic} {a:Int} (h0:0<=a) (h:a<l.length):AtL l 0 a (l.getD a.toNat (0,0)):=by
 have:=jll l a.toNat 0 (by omega)
 rw[show (0:Int)+(a.toNat:Int)=a by omega] at this;exact this
def EntO (code:List Ic) (x:Int):Prop:=0<=x/\x<code.length /\ ∃ D,ja1 code x D /\ ∀ a,Rch code x a->(uV code a=23->D a=0) /\ ∀ k ∈ sc code a,k<(code.length:Int)
theorem jo7 (ix:ByteArray->Int) (b:Nt) (hb:rT b) (hs:isX b=false) (c1 t:List Ic):EntO (c1++(jI ix b c1.length++[(23,0)])++t) c1.length:=by
 obtain⟨D,g1,g2,g3⟩ := (jjb ix b hb).s hs c1.length 0 (Int.le_refl 0)
 obtain⟨B,hB⟩ : ∃ B,jI ix b c1.length=B:=⟨_,rfl⟩
 rw[hB] at g2 g3 ⊢
 have hl:(c1++(B++[((23,0):Ic)])++t).length=c1.length+B.length+1+t.length:=by simp only[List.length_append,List.length_cons,List.length_nil];omega
 obtain⟨code,hcode⟩ : ∃ code,c1++(B++[((23,0):Ic)])++t=code:=⟨_,rfl⟩
 have hm:∀ a:Int,c1.length<=a->a<=c1.length+B.length->(AtL B c1.length a (code.getD a.toNat (0,0))) ∨ (a=c1.length+B.length/\(code.getD a.toNat (0,0)).1=23):=fun a h1 h2=>by
  have h:=jnV (l:=code) (a:=a) (by omega) (by rw[<- hcode,hl];omega)
  generalize code.getD a.toNat (0,0)=i at *;rw[<- hcode,dN,dN,dN] at h
  rcases h with (h | h | h) | h
  ·have:=bX h;omega
  ·left;rw[Int.zero_add] at h;exact h
  ·rcases h with ⟨h3,h4⟩ | h
   ·exact .inr ⟨by omega,by rw[h4]⟩
   ·exact h.elim
  ·have:=bX h
   simp only[List.length_append,List.length_cons,List.length_nil] at this;omega
 rw[hcode] at hl ⊢
 have hgo:∀ a:Int,c1.length<=a->a<=c1.length+B.length->qG (uV code a)<=D a/\(∀ k ∈ sc code a,(c1.length:Int)<=k/\k<=c1.length+B.length/\D k=lv code a (D a))/\(uV code a=23->D a=0):=fun a h1 h2=>by
  rcases hm a h1 h2 with h | ⟨h,h23⟩
  ·obtain⟨w1,w2,w3⟩ := g3 a _ h
   exact⟨w1,w2,fun h=>(w3 h).2⟩
  ·have hD:D a=0:=by rw[h,g2];rfl
   refine⟨?_,fun k hk => ?_,fun _=>hD⟩
   ·unfold uV;rw[h23,hD];decide
   ·unfold sc nxI at hk;rw[if_pos h23] at hk
    cases hk
 have hr:∀ a,Rch code c1.length a->(c1.length:Int)<=a/\a<=c1.length+B.length:=fun a ha=>by
  induction ha with
  | here=>omega
  | next h1 hk hn ih =>
   obtain⟨v1,v2,-⟩ := (hgo _ ih.1 ih.2).2.1 _ hk
   exact⟨v1,v2⟩
 refine⟨by omega,by omega,D,⟨g1,fun a ha=>(hgo a (hr a ha).1 (hr a ha).2).1,fun a ha k hk _=>((hgo a (hr a ha).1 (hr a ha).2).2.1 k hk).2.2⟩,fun a ha=>⟨(hgo a (hr a ha).1 (hr a ha).2).2.2,fun k hk => ?_⟩⟩
 obtain⟨v1,v2,-⟩ := (hgo a (hr a ha).1 (hr a ha).2).2.1 k hk
 omega
theorem jml (ix:ByteArray->Int) (j:Nat) {l:List (Int × Nt)} (h:∀ p ∈ l,p.1.toNat ≠ j):(oH ix l [] noE).2 j = -1:=jaM ix j l [] noE h
theorem jea {u:Ut} (hu:uH u) (j:Nat):(yS u).2 j = -1/\(∀ p ∈ u.on,p.1.toNat ≠ j) ∨ EntO (yS u).1 ((yS u).2 j) /\ ∃ p ∈ u.on,p.1.toNat=j:=by
 by_cases h:∃ p ∈ u.on,p.1.toNat=j
 ·refine .inr ⟨?_,h⟩
  obtain⟨p,hp,rfl⟩ := h
  obtain⟨k,hk,rfl⟩ := List.getElem_of_mem hp
  obtain⟨c1,t,h1,h2⟩ := jlY u k hk (fun p hp=>(hu.on p hp).1) hu.nd
  rw[h2,h1];exact jo7 (jW u) _ (hu.on _ hp).2.2 (hu.st _ hp) c1 t
 ·have hn:∀ p ∈ u.on,p.1.toNat ≠ j:=fun p hp e=>h ⟨p,hp,e⟩
  exact .inl ⟨jml _ j hn,hn⟩
theorem jj2 (u:Ut):cC (yS u).1:=fun i hi=>(jlX (jW u) u.on [] noE (fun i hi=>by cases hi) i hi).2
theorem EntO.fol {code:List Ic} (hj:cC code) {x:Int} (h:EntO code x):(kC code x=0 /\ ∃ D,Good code x D) ∨ (kC code x=13 /\ ¬ ∃ D,Good code x D):=by
 obtain⟨h1,h2,D,hD,ho⟩ := h
 rcases jhG hj ⟨h1,h2⟩ with ⟨_,a,ha,k,hk,hn⟩ | ⟨_,h⟩
 ·have:=(ho a ha).2 k hk;omega
 ·exact h
section
end
def jst (i:Int):Nt := .mk 12 i eB []
theorem jhM (l:List Int) (a:Int):jV (l++[a])=jV l++[intA a]:=by unfold jV;rw[List.map_append];rfl
theorem jg2 {dm:List (Int × Int)} {k:Int} {K:A->Prop} {n:Prop} (hd:dF dm k=none) (h:n):gN false (uT (dmA dm)) (pF (dmA dm)) (.int .i64 k) K n:=by
 refine kD _ _ ?_;rw[jfw,hd];exact h
theorem iI {dm:List (Int × Int)} {k d:Int} {K:A->Prop} {n:Prop} (hd:dF dm k=some d) (h:K (intA d)):gN false (uT (dmA dm)) (pF (dmA dm)) (.int .i64 k) K n:=by
 refine kD _ _ ?_;rw[jfw,hd];exact h
theorem joi {dm:List (Int × Int)} {k d:Int} {n:Nat} {K:List A->List A->Nat->Prop} (hd:dF dm k=none) (h:K (mkA (dmA (dm++[(k,d)]))) (pF (dmA (dm++[(k,d)]))) (n+1)):jhL false (.int .i64 k) (.v (.int .i64 d)) (mkA (dmA dm)) (pF (dmA dm)) n K:=by
 rw[jlK] at h;refine jcQ (fun p hp => ?_) h;unfold dmA at hp
 obtain⟨q,hq,rfl⟩ := List.mem_map.1 hp
 exact jj4 hd q hq
theorem jri (t:Nat) (dm:List (Int × Int)) (k d:Int):Row.live t 0 (dm.length+1) [.clo 0 (mkA (dmA (dm++[(k,d)]))),.clo 0 (pF (dmA (dm++[(k,d)])))]=Row.live t 0 (dm++[(k,d)]).length [.clo 0 (mkA (dmA (dm++[(k,d)]))),.clo 0 (pF (dmA (dm++[(k,d)])))]:=by rw[List.length_append];rfl
theorem jrk (t:Nat) (wk:List Int) (k:Int):Row.live t 1 (wk.length+1) (jV wk++[intA k])=Row.live t 1 (wk++[k]).length (jV (wk++[k])):=by rw[List.length_append,jhM];rfl
theorem sP {α:Type} (o:Option α):o=none ∨ ∃ a,o=some a:=by cases o with
 | none=>exact .inl rfl
 | some a=>exact .inr ⟨a,rfl⟩
def jtj (id:Nat):List Nat:=match Nat.beq id 1000003 with | true=>[1000003] | false=>[]
def flR (dm:List (Int × Int)) (wk:List Int):List Row:=[.live 123 0 dm.length [.clo 0 (mkA (dmA dm)),.clo 0 (pF (dmA dm))],.live 3 1 wk.length (jV wk)]
theorem tJ (code:List Ic) (e:Nat->Int) (du vo entry:Int) (hd : -100<=du/\du<=100) (hv : -100<=vo/\vo<=100) (hl:code.length<=1000000) (hj:cC code) (ho:∀ i ∈ code,1<=i.1/\i.1<=23) (he:entry<code.length):Spec Tryz.prog 41 [] [tT code e du vo,intA entry] fun _ r=>r=intA (kC code entry):=by
 have hsh:=t6 code e du vo hd hv hl
 obtain⟨R,hR⟩ : ∃ R,kC code entry=R:=⟨_,rfl⟩
 rw[hR];unfold kC at hR;refine eN jR jtj 0 Tryz.func41 rfl ?_;intro _;conv=>whnf
 by_cases h0:entry<0
 ·rw[jK h0];rw[if_pos h0] at hR;conv=>whnf
  rw[<- hR];rfl
 rw[jG h0];rw[if_neg h0] at hR;conv=>whnf
 refine kU [] hsh ?_;rintro r rfl;conv=>whnf
 refine jB [2,5,6,8] ?_;conv=>whnf
 refine jH (fun x:Nat × Fs=>[(7,intA (joe x.2.er))]) (fun _=>[pgL code e du vo]) (fun x=>flR x.2.dm x.2.wk)
  (fun x=>ja2 code.length x.2/\x.2.wk.length+(code.length-x.2.dm.length)+1<=x.1/\x.1<=code.length+1/\jhF code x.1 x.2=R) (fun x=>x.1) (code.length+1,⟨[(entry,0)],[entry],false⟩) ?_ ⟨⟨?_,?_,?_,?_⟩,?_,Nat.le_refl _,hR⟩ ?_
 ·repeat' constructor
  unfold mkA pF dmA;rfl
 ·intro p hp;rw[List.mem_singleton.1 hp];exact⟨by simp only;omega,he⟩
 ·simp
 ·intro k hk;rw[List.mem_singleton.1 hk];exact⟨0,List.mem_singleton.2 rfl⟩
 ·intro p hp;rw[List.mem_singleton.1 hp];simp only[List.length_singleton];omega
 ·simp only[List.length_singleton];omega
 rintro⟨m0,dm,wk,er⟩ ⟨g1,g2,g3,hR⟩
 simp only at g1 g2 g3 hR
 obtain⟨m,rfl⟩ : ∃ m,m0=m+1:=⟨m0-1,by omega⟩
 have hwl:wk.length<=1000000:=by omega
 rcases List.eq_nil_or_concat wk with rfl | ⟨pre,a,hw⟩
 ·conv=>whnf
  rw[jhF] at hR;simp only[List.getLast?_nil] at hR;rw[<- hR];rfl
 rw[List.concat_eq_append] at hw;subst hw;rw[jhF] at hR;simp only[List.getLast?_append,List.getLast?_singleton,Option.some_or,List.dropLast_append_cons,List.dropLast_singleton,List.append_nil] at hR
 have hlen:(pre++[a]).length=pre.length+1:=by simp
 have htk:(jV (pre++[a])).take (pre.length*1)=jV pre:=by unfold jV;rw[List.map_append,Nat.mul_one];exact List.take_left' (by simp)
 have hdr:(jV (pre++[a])).drop ((((pre++[a]).length:Int)-1).toNat*1)=[intA a]:=by
  have e1:(((pre++[a]).length:Int)-1).toNat*1=pre.length:=by omega
  rw[e1];unfold jV;rw[List.map_append];exact List.drop_left' (by simp)
 obtain⟨d,hda⟩ := g1.wk a (List.mem_append_right _ List.mem_cons_self)
 have ha:=g1.rng _ hda
 simp only at ha
 obtain⟨d',hd'⟩ := je5 hda
 have hdr':=g1.dep _ (jat hd')
 simp only at hdr'
 have hdl:=uQ g1.rng g1.nd
 simp only at hdl
 have hpp:=rJ (code.getD a.toNat (0,0)).1
 have hps:=dB (code.getD a.toNat (0,0)).1
 have hnn:=jga hj ha
 have hst:t8 code dm pre er a=gV code.length (d'-qG (code.getD a.toNat (0,0)).1+qD (code.getD a.toNat (0,0)).1) (nxI a (code.getD a.toNat (0,0))) ⟨dm,pre,er || (decide (d'<qG (code.getD a.toNat (0,0)).1) || decide (16<d'-qG (code.getD a.toNat (0,0)).1+qD (code.getD a.toNat (0,0)).1))⟩ := by
  unfold t8 uB afF;rw[hd'];rfl
 rw[hst] at hR
 have hil:a.toNat<code.length:=by omega
 have hgi:code.getD a.toNat (0,0)=code[a.toNat]:=by rw[List.getD_eq_getElem?_getD,List.getElem?_eq_getElem hil];rfl
 have hcr:jC 2 a.toNat (qC code)=icA (code.getD a.toNat (0,0)):=by rw[hgi];exact aH code _ hil
 have hio:1<=(code.getD a.toNat (0,0)).1/\(code.getD a.toNat (0,0)).1<=23:=by rw[hgi];exact ho _ (List.getElem_mem hil)
 generalize code.getD a.toNat (0,0)=i at *
 obtain⟨op,n⟩ := i
 simp only at hpp hps hio hR hnn
 unfold icA at hcr
 simp only at hcr
 conv=>whnf
 rw[jK (show (0:Int)<((pre++[a]).length:Int) by rw[hlen];omega)];conv=>whnf
 refine⟨show lo .i64<=((pre++[a]).length:Int)-1/\((pre++[a]).length:Int)-1<=hi .i64 from jJ (by omega),?_⟩;conv=>whnf
 refine⟨show (0:Int)<=((pre++[a]).length:Int)-1/\((pre++[a]).length:Int)-1<((pre++[a]).length:Nat) from ⟨by omega,by omega⟩,?_⟩;conv=>whnf
 rw[hdr];conv=>whnf
 refine⟨show lo .i64<=((pre++[a]).length:Int)-1/\((pre++[a]).length:Int)-1<=hi .i64 from jJ (by omega),?_⟩;conv=>whnf
 refine⟨pre.length,jV pre,⟨show ((pre++[a]).length:Int)-1=(pre.length:Nat) by omega,show pre.length<=(pre++[a]).length by omega,htk.symm⟩,?_⟩;conv=>whnf
 refine⟨ha,?_⟩;conv=>whnf
 (generalize hrq:jC _ _ (qC code)=rq;obtain rfl:rq=[intA op,intA n]:=hrq.symm.trans (hcr);clear hrq;conv=>whnf)
 conv=>whnf
 refine jhX _ _ _ hio fun slo shi => ?_
 conv=>whnf
 refine aQ _ ?_;conv=>whnf
 refine iI hd' ?_;conv=>whnf
 refine⟨jJ (by omega),?_⟩;conv=>whnf
 refine⟨jJ (by omega),?_⟩;conv=>whnf
 refine aQ _ ?_;conv=>whnf
 refine iI hd' ?_;conv=>whnf
 rcases (show d'<qG op ∨ ¬ d'<qG op/\16<d'-qG op+qD op ∨ ¬ d'<qG op /\ ¬ 16<d'-qG op+qD op by omega) with hb1 | ⟨hb1,hb2⟩ | ⟨hb1,hb2⟩
 rw[jK hb1] at hR ⊢;rw[Bool.true_or,Bool.or_true] at hR
 rotate_left
 rw[jG hb1,jK hb2] at hR;rw[jG hb1];rw[Bool.or_true,Bool.or_true] at hR;conv=>whnf
 rw[jK hb2]
 rotate_left
 rw[jG hb1] at hR ⊢;conv=>whnf
 rw[jG hb2] at hR ⊢;rw[Bool.or_self,Bool.or_false] at hR
 all_goals
  conv=>whnf
  unfold nxI at hR hnn
  simp only at hR hnn
  by_cases hc1:op=23
  ·rw[jK hc1];rw[if_pos hc1] at hR hnn;unfold gV at hR
   have hF:=hR
   simp only at hF
   conv=>whnf
   refine jB [2,5,6,7,8,88,89,90] ?_;conv=>whnf
   refine jH (fun _:Unit=>[]) (fun _=>[pgL code e du vo]) (fun _=>flR dm pre) (fun _=>True) (fun _=>0) () ?_ trivial ?_
   ·repeat' constructor
   rintro⟨⟩ -;conv=>whnf
   refine⟨(m,⟨dm,pre,_⟩),jE [0,1] ?_,⟨⟨g1.rng,g1.nd,fun k hk=>g1.wk k (List.mem_append_left _ hk),g1.dep⟩,show pre.length+(code.length-dm.length)+1<=m by omega,show m<=code.length+1 by omega,hF⟩,show m<m+1 by omega⟩;conv=>whnf
   repeat' constructor
  rw[jG hc1];rw[if_neg hc1] at hR hnn;conv=>whnf
  generalize hL:ite (op=15) _ _=L at hR hnn
  rcases (show op=15 ∨ ¬ op=15/\op=16 ∨ ¬ op=15 /\ ¬ op=16 by omega) with hc2 | ⟨hc2,hc3⟩ | ⟨hc2,hc3⟩
  rw[jK hc2];rw[if_pos hc2] at hL
  have hl1:L.length=1:=by rw[<- hL];rfl
  have hM:[A.v (.int .i64 n)]=L.map intA:=by rw[<- hL];rfl
  conv=>whnf
  rotate_left
  rw[jG hc2];rw[if_neg hc2,if_pos hc3] at hL
  have hl1:L.length=2:=by rw[<- hL];rfl
  have hM:[A.v (.int .i64 (a+1)),A.v (.int .i64 n)]=L.map intA:=by rw[<- hL];rfl
  conv=>whnf
  rw[jK hc3];conv=>whnf
  refine⟨show lo .i64<=a+1/\a+1<=hi .i64 from jJ (by omega),?_⟩;conv=>whnf
  rotate_left
  rw[jG hc2];rw[if_neg hc2,if_neg hc3] at hL
  have hl1:L.length=1:=by rw[<- hL];rfl
  have hM:[A.v (.int .i64 (a+1))]=L.map intA:=by rw[<- hL];rfl
  conv=>whnf
  rw[jG hc3];conv=>whnf
  refine⟨show lo .i64<=a+1/\a+1<=hi .i64 from jJ (by omega),?_⟩;conv=>whnf
  all_goals
   generalize hF:gV _ _ L _=F at hR;refine gX [2] ?_;conv=>whnf
   refine jB [2,5,6,8,12,88,89] ?_;conv=>whnf
   refine jH (fun x:Nat × Fs=>[(7,intA (joe x.2.er)),(90,.v (.int .i64 x.1))]) (fun _=>[pgL code e du vo]) (fun x=>flR x.2.dm x.2.wk++[.pub 1 L.length (L.map intA)])
    (fun x=>x.1<=L.length/\ja2 code.length x.2/\x.2.wk.length+dm.length=pre.length+x.2.dm.length/\dm.length<=x.2.dm.length/\gV code.length (d'-qG op+qD op) (L.drop x.1) x.2=F) (fun x=>L.length-x.1) (0,⟨dm,pre,_⟩) ?_ ⟨Nat.zero_le _,⟨g1.rng,g1.nd,fun k hk=>g1.wk k (List.mem_append_left _ hk),g1.dep⟩,rfl,Nat.le_refl _,hF⟩ ?_
   ·repeat' constructor
    all_goals (rw[<- hL];rfl)
   clear hF;rintro⟨j,dm1,wk1,er1⟩ ⟨f1,f2,f3,f4,hF⟩
   simp only at f1 f2 f3 f4 hF
   have hdl1:=uQ f2.rng f2.nd
   simp only at hdl1
   rcases Nat.lt_or_ge j L.length with hjL | hjL
   ·have hrw:=yY intA L j hjL
    have hk0:=hnn _ (List.getElem_mem hjL)
    rw[List.drop_eq_getElem_cons hjL] at hF;unfold gV at hF;generalize L[j]=k at hrw hk0 hF;conv=>whnf
    rw[jK]
    rotate_left
    ·omega
    conv=>whnf
    refine⟨⟨by omega,by omega⟩,?_⟩;conv=>whnf
    generalize hrq:jC _ _ _=rq
    obtain rfl:rq=[intA k]:=hrq.symm.trans (by show jC 1 j _=_;rw[hM];exact hrw)
    clear hrq;conv=>whnf
    by_cases hge:(code.length:Int)<=k
    ·unfold jc9 at hF;rw[if_pos hge] at hF;rw[<- hF] at hR;rw[jK hge];conv=>whnf
     rw[<- hR];rfl
    rw[jG hge];conv=>whnf
    refine aQ _ ?_;conv=>whnf
    rcases sP (dF dm1 k) with hdk | ⟨d2,hdk⟩
    ·have hkf:jc9 code.length (d'-qG op+qD op) ⟨dm1,wk1,er1⟩ k=some ⟨dm1++[(k,d'-qG op+qD op)],wk1++[k],er1⟩ := by unfold jc9;rw[if_neg hge];simp only;rw[hdk]
     obtain⟨q1,q2,q3⟩ := jeh f2 hk0 ⟨by simp only;omega,by simp only;omega⟩ hkf
     rw[hkf] at hF
     simp only at hF
     refine jg2 hdk ?_;conv=>whnf
     refine joi hdk ?_;conv=>whnf
     refine⟨⟨show wk1.length+1<=maxLen by unfold maxLen;omega,show (wk1.length+1)*8<=140737488355328 by omega⟩,?_⟩;conv=>whnf
     refine jN j (by omega) ?_;conv=>whnf
     refine⟨(j+1,⟨dm1++[(k,d'-qG op+qD op)],wk1++[k],er1⟩),jE [0,1,2] ?_,⟨show j+1<=L.length by omega,q1,show _+_=_+_ by simp only at q2 ⊢;omega,show _<=_ by simp only at q3 ⊢;omega,hF⟩,show L.length-(j+1)<L.length-j by omega⟩;conv=>whnf
     repeat' constructor
     ·exact jri _ _ _ _
     ·exact jrk _ _ _
    ·have hkf:jc9 code.length (d'-qG op+qD op) ⟨dm1,wk1,er1⟩ k=some ⟨dm1,wk1,er1 || decide (d2 ≠ d'-qG op+qD op)⟩ := by unfold jc9;rw[if_neg hge];simp only;rw[hdk]
     obtain⟨q1,q2,q3⟩ := jeh f2 hk0 ⟨by simp only;omega,by simp only;omega⟩ hkf
     rw[hkf] at hF
     simp only at hF
     refine iI hdk ?_;conv=>whnf
     rcases (show d2=d'-qG op+qD op ∨ d2 ≠ d'-qG op+qD op by omega) with heq | heq
     ·rw[jK heq];rw[jG (fun h=>h heq),Bool.or_false] at hF q1;conv=>whnf
      refine jN j (by omega) ?_;conv=>whnf
      refine⟨(j+1,⟨dm1,wk1,er1⟩),jE [0,1,2] ?_,⟨show j+1<=L.length by omega,q1,show _+_=_+_ by simp only at q2 ⊢;omega,show _<=_ by simp only at q3 ⊢;omega,hF⟩,show L.length-(j+1)<L.length-j by omega⟩;conv=>whnf
      repeat' constructor
     ·rw[jG heq];rw[jK heq,Bool.or_true] at hF q1;conv=>whnf
      refine jN j (by omega) ?_;conv=>whnf
      refine⟨(j+1,⟨dm1,wk1,true⟩),jE [0,1,2] ?_,⟨show j+1<=L.length by omega,q1,show _+_=_+_ by simp only at q2 ⊢;omega,show _<=_ by simp only at q3 ⊢;omega,hF⟩,show L.length-(j+1)<L.length-j by omega⟩;conv=>whnf
      repeat' constructor
   rw[List.drop_eq_nil_of_le hjL] at hF;unfold gV at hF;rw[<- hF] at hR
   simp only at hR
   conv=>whnf
   rw[jG]
   rotate_left
   ·omega
   conv=>whnf
   refine⟨(m,⟨dm1,wk1,er1⟩),jE [0,1] ?_,⟨f2,show wk1.length+(code.length-dm1.length)+1<=m by omega,show m<=code.length+1 by omega,hR⟩,show m<m+1 by omega⟩;conv=>whnf
   repeat' constructor
def enL (e:Nat->Int):List A:=(List.range 40).map fun j=>intA (e j)
theorem je9 (e:Nat->Int) (j:Nat) (hj:j<40):(enL e)[((j:Int)).toNat*1]? = some (intA (e j)):=by
 rw[Int.toNat_natCast,Nat.mul_one];unfold enL;rw[List.getElem?_map,List.getElem?_range hj];rfl
theorem sW (c:List Ic) (e:Nat->Int) (du vo:Int) (hl:c.length<=1000000):Spec Tryz.prog 16 [] [tT c e du vo,tT c e du vo] fun _ r=>r=qR true:=by
 refine eN jsC j5 0 Tryz.func16 rfl ?_;intro _;conv=>whnf
 refine⟨by kernel_rfl,?_⟩;conv=>whnf
 generalize hq:(decide (e 0=e 0) && _)=b
 obtain rfl:b=true:=by rw[<- hq];simp
 clear hq;conv=>whnf
 rw[jK (rfl:du=du)];conv=>whnf
 rw[jK (rfl:vo=vo)];conv=>whnf
 rw[jK (rfl:(c.length:Int)=c.length)];conv=>whnf
 refine jB [2,3] ?_;conv=>whnf
 refine jH (fun j:Nat=>[(5,.v (.int .i64 j))]) (fun _=>[pgL c e du vo,pgL c e du vo]) (fun _=>[]) (fun j=>j<=c.length) (fun j=>c.length-j) 0 ?_ (by omega) ?_
 ·repeat' constructor
 intro j hj;conv=>whnf
 rcases Nat.lt_or_ge j c.length with hlt | hge
 ·have hrow:jC 2 j (qC c)=icA c[j]:=aH c j hlt
  generalize c[j]=i at hrow
  obtain⟨op,n⟩ := i
  unfold icA at hrow
  simp only at hrow
  rw[jK (show (j:Int)<(c.length:Int) by omega)];conv=>whnf
  refine⟨show (0:Int)<=(j:Int)/\(j:Int)<(c.length:Nat) from ⟨by omega,by omega⟩,?_⟩;conv=>whnf
  (generalize hrq:jC _ _ (qC c)=rq;obtain rfl:rq=[intA op,intA n]:=hrq.symm.trans (hrow);clear hrq;conv=>whnf)
  refine⟨show (0:Int)<=(j:Int)/\(j:Int)<(c.length:Nat) from ⟨by omega,by omega⟩,?_⟩;conv=>whnf
  (generalize hrq:jC _ _ (qC c)=rq;obtain rfl:rq=[intA op,intA n]:=hrq.symm.trans (hrow);clear hrq;conv=>whnf)
  refine⟨by kernel_rfl,?_⟩;conv=>whnf
  generalize hq:(decide (op=op) && _)=b
  obtain rfl:b=true:=by rw[<- hq];simp
  clear hq;conv=>whnf
  refine jN j (by omega) ?_;conv=>whnf
  refine⟨j+1,jE [] ?_,show j+1<=c.length by omega,show c.length-(j+1)<c.length-j by omega⟩;conv=>whnf
  repeat' constructor
 rw[jG (show ¬ (j:Int)<(c.length:Int) by omega)];conv=>whnf
 rfl
theorem jg3 (v l k:Int) {K:A->Prop} {n:Prop} (h:match (shL v l).find? (fun p=>decide (k=p.1)) with | some p=>K (shA p.2) | none=>n):gN false (uT (shP v l)) (pF (shP v l)) (.int .i64 k) K n:=by
 refine kD _ _ ?_
 have e:wF (shP v l) k=((shL v l).find? fun p=>decide (k=p.1)).map fun p=>shA p.2:=by
  unfold wF shP;rw[List.find?_map]
  show ((((shL v l).find? fun p=>decide (k=p.1)).map _).map _)=_
  cases (shL v l).find? fun p=>decide (k=p.1) <;> rfl
 rw[e]
 revert h
 cases (shL v l).find? fun p=>decide (k=p.1) <;> exact id
theorem jqV {v l:Int} {i:Ic} (h:okI v l i=true):(1<=i.1/\i.1<=23)/\(i.1=15 ∨ i.1=16->0<=i.2):=by
 unfold okI at h
 rcases sP ((shL v l).find? fun p=>decide (i.1=p.1)) with hf | ⟨p,hf⟩
 ·rw[hf] at h;cases h
 rw[hf] at h
 have hk:=List.find?_some hf
 have hm:=List.mem_of_find?_eq_some hf
 simp only[decide_eq_true_eq] at hk;simp only[Bool.and_eq_true,decide_eq_true_eq] at h
 obtain⟨a,b⟩ := i
 simp only at hk h ⊢
 subst hk;unfold shL at hm;simp only[List.mem_cons,List.not_mem_nil,or_false] at hm
 rcases hm with rfl | rfl | rfl | rfl | rfl | rfl | rfl | rfl | rfl | rfl | rfl | rfl | rfl | rfl | rfl | rfl | rfl | rfl | rfl | rfl | rfl | rfl | rfl
 all_goals (simp only at h ⊢;omega)
theorem jf2 (p:Int->Bool) (e:Nat->Int):∀ (m j:Nat),pH p e j m=true -> ∀ i,j<=i->i<j+m->p (e i)=true
 | 0,j,h,i,h1,h2=>by omega
 | m+1,j,h,i,h1,h2=>by
  unfold pH at h;rw[Bool.and_eq_true] at h
  by_cases q:i=j
  ·rw[q];exact h.1
  ·exact jf2 p e m (j+1) h.2 i (by omega) (by omega)
theorem jh9 (code:List Ic) (e:Nat->Int) (du vo:Int) (hl:code.length<=1000000):Spec Tryz.prog 25 [] [tT code e du vo] fun _ r=>r=intA (jp8 code e du vo):=by
 obtain⟨R,hR⟩ : ∃ R,jp8 code e du vo=R:=⟨_,rfl⟩
 rw[hR];unfold jp8 at hR;refine eN jR j5 0 Tryz.func25 rfl ?_;intro _;conv=>whnf
 by_cases h0:400<code.length
 ·rw[jK (show (400:Int)<(code.length:Int) by omega)];rw[if_pos h0] at hR;conv=>whnf
  rw[<- hR];rfl
 rw[jG (show ¬ (400:Int)<(code.length:Int) by omega)];rw[if_neg h0] at hR;conv=>whnf
 by_cases h1:du<0
 ·rw[jK h1];rw[if_pos (.inl h1)] at hR;conv=>whnf
  rw[<- hR];rfl
 rw[jG h1];conv=>whnf
 by_cases h2:vo<0
 ·rw[jK h2];rw[if_pos (.inr (.inl h2))] at hR;conv=>whnf
  rw[<- hR];rfl
 rw[jG h2];conv=>whnf
 by_cases h3:16<du
 ·rw[jK h3];rw[if_pos (.inr (.inr (.inl h3)))] at hR;conv=>whnf
  rw[<- hR];rfl
 rw[jG h3];conv=>whnf
 refine⟨jJ (by omega),?_⟩;conv=>whnf
 by_cases h4:16-du<vo
 ·rw[jK h4];rw[if_pos (.inr (.inr (.inr h4)))] at hR;conv=>whnf
  rw[<- hR];rfl
 rw[jG h4];rw[if_neg (by omega)] at hR
 have hsh:=t6 code e du vo (by omega) (by omega) hl
 conv=>whnf
 refine kU [] hsh ?_;rintro r rfl;conv=>whnf
 refine jB [1,3,42,43] ?_;conv=>whnf
 refine jH (fun j:Nat=>[(44,.v (.int .i64 j))]) (fun _=>[pgL code e du vo]) (fun _=>[]) (fun j=>j<=code.length/\(code.take j).all (okI (du+vo-1) (code.length-1))=true) (fun j=>code.length-j) 0 ?_ ⟨Nat.zero_le _,by rw[List.take_zero];rfl⟩ ?_
 ·repeat' constructor
 rintro j ⟨hj,hall⟩;conv=>whnf
 rcases Nat.lt_or_ge j code.length with hlt | hge
 ·have hrow:jC 2 j (qC code)=icA code[j]:=aH code j hlt
  have htk:(code.take (j+1)).all (okI (du+vo-1) (code.length-1))=okI (du+vo-1) (code.length-1) code[j]:=by
   rw[List.take_succ_eq_append_getElem hlt,List.all_append,hall,Bool.true_and,List.all_cons,List.all_nil,Bool.and_true]
  have hcn:okI (du+vo-1) (code.length-1) code[j]=false->R=12:=fun hb=>by
   have h5:code.all (okI (du+vo-1) (code.length-1))=false:=by
    rw[List.all_eq_false];exact⟨code[j],List.getElem_mem hlt,by rw[hb];simp⟩
   rw[<- hR,if_pos h5]
  unfold okI at htk hcn;generalize code[j]=i at hrow htk hcn
  obtain⟨op,n⟩ := i
  unfold icA at hrow
  simp only at hrow
  rw[jK (show (j:Int)<(code.length:Int) by omega)];conv=>whnf
  refine⟨show (0:Int)<=(j:Int)/\(j:Int)<(code.length:Nat) from ⟨by omega,by omega⟩,?_⟩;conv=>whnf
  (generalize hrq:jC _ _ (qC code)=rq;obtain rfl:rq=[intA op,intA n]:=hrq.symm.trans (hrow);clear hrq;conv=>whnf)
  refine jg3 _ _ _ ?_
  rcases sP ((shL (du+vo-1) (code.length-1)).find? fun p=>decide (op=p.1)) with hf | ⟨⟨pk,po,pu,plo,rV⟩,hf⟩
  ·rw[hf] at hcn ⊢
   have hcn:=hcn rfl
   conv=>whnf
   rw[hcn];rfl
  rw[hf] at htk hcn ⊢
  simp only at htk hcn
  conv=>whnf
  by_cases hlo:n<plo
  ·rw[jK hlo]
   have hcn:=hcn (by rw[jG (by omega)];rfl)
   conv=>whnf
   rw[hcn];rfl
  rw[jG hlo];conv=>whnf
  by_cases hhi:rV<n
  ·rw[jK hhi]
   have hcn:=hcn (by rw[jG (show ¬ n<=rV by omega),Bool.and_false])
   conv=>whnf
   rw[hcn];rfl
  rw[jG hhi];conv=>whnf
  refine jN j (by omega) ?_;conv=>whnf
  refine⟨j+1,jE [] ?_,⟨show j+1<=code.length by omega,htk.trans (by rw[jK (show plo<=n by omega),jK (show n<=rV by omega)];rfl)⟩,show code.length-(j+1)<code.length-j by omega⟩;conv=>whnf
  repeat' constructor
 rw[jG (show ¬ (j:Int)<(code.length:Int) by omega)]
 have hall2:code.all (okI (du+vo-1) (code.length-1))=true:=by
  have:=hall
  rw[List.take_of_length_le hge] at this;exact this
 rw[hall2,if_neg (by decide)] at hR
 have hops:=fun i hi=>jqV (List.all_eq_true.1 hall2 i hi)
 clear hall;conv=>whnf
 refine jB [1,73] ?_;conv=>whnf
 refine jH (fun j:Nat=>[(74,.v (.int .i64 j))]) (fun _=>[pgL code e du vo]) (fun _=>[]) (fun j=>j<=40/\pH (mI code.length) e j (40-j)=pH (mI code.length) e 0 40) (fun j=>40-j) 0 ?_ ⟨Nat.zero_le _,rfl⟩ ?_
 ·repeat' constructor
 clear hge hj j;rintro j ⟨hj,hall⟩;conv=>whnf
 rcases Nat.lt_or_ge j 40 with hlt | hge
 ·rw[jK (show (j:Int)<40 by omega)]
  have hst:pH (mI code.length) e j (40-j)=(mI code.length (e j) && pH (mI code.length) e (j+1) (40-(j+1))):=by
   rw[show 40-j=(40-(j+1))+1 by omega];rfl
  have hall':pH (mI code.length) e j (40-j)=pH (mI code.length) e 0 40:=hall
  conv=>whnf
  refine⟨⟨show (0:Int)<=(j:Int) by omega,show (j:Int)<((40:Nat):Int) by omega⟩,intA (e j),je9 e j hlt,?_⟩;conv=>whnf
  by_cases hlo:e j < -1
  ·rw[jK hlo];rw[if_pos (by rw[<- hall',hst];unfold mI;rw[jG (show ¬ -1<=e j by omega)];rfl)] at hR;conv=>whnf
   rw[<- hR];rfl
  rw[jG hlo];conv=>whnf
  by_cases hhi:(code.length:Int)<=e j
  ·rw[jK hhi];rw[if_pos (by rw[<- hall',hst];unfold mI;rw[jG (show ¬ e j<code.length by omega),Bool.and_false];rfl)] at hR;conv=>whnf
   rw[<- hR];rfl
  rw[jG hhi];conv=>whnf
  refine jN j (by omega) ?_;conv=>whnf
  refine⟨j+1,jE [] ?_,⟨show j+1<=40 by omega,?_⟩,show 40-(j+1)<40-j by omega⟩
  ·conv=>whnf
   repeat' constructor
  ·show pH (mI code.length) e (j+1) (40-(j+1))=_
   rw[<- hall',hst];unfold mI;rw[jK (show -1<=e j by omega),jK (show e j<code.length by omega)];rfl
 obtain rfl:j=40:=by omega
 have hall2:pH (mI code.length) e 0 40=true:=by
  have:pH (mI code.length) e 40 (40-40)=pH (mI code.length) e 0 40:=hall
  rw[<- this];rfl
 rw[jG (show ¬ ((40:Nat):Int)<40 by omega)];rw[hall2,if_neg (by decide)] at hR
 have hent:=jf2 _ _ _ _ hall2
 clear hall hge hj;conv=>whnf
 refine jB [1,88] ?_;conv=>whnf
 refine jH (fun x:Nat × Int=>[(10,intA x.2),(89,.v (.int .i64 x.1))]) (fun _=>[pgL code e du vo]) (fun _=>[]) (fun x=>x.1<=40/\jp7 code e x.1 (40-x.1) x.2=R) (fun x=>40-x.1) (0,0) ?_ ⟨Nat.zero_le _,hR⟩ ?_
 ·repeat' constructor
 rintro⟨j,q⟩ ⟨hj,hv⟩
 simp only at hj hv
 conv=>whnf
 rcases Nat.lt_or_ge j 40 with hlt | hge
 ·rw[jK (show (j:Int)<40 by omega)];rw[show 40-j=(40-(j+1))+1 by omega] at hv;unfold jp7 at hv
  have hq:=hent j (by omega) (by omega)
  unfold mI at hq;rw[Bool.and_eq_true,decide_eq_true_eq,decide_eq_true_eq] at hq
  have hfo:=tJ code e du vo (e j) (by omega) (by omega) hl (fun i hi=>(hops i hi).2) (fun i hi=>(hops i hi).1) hq.2
  conv=>whnf
  refine⟨⟨show (0:Int)<=(j:Int) by omega,show (j:Int)<((40:Nat):Int) by omega⟩,intA (e j),je9 e j hlt,?_⟩;conv=>whnf
  refine kU [] hfo ?_;rintro r rfl;generalize kC code (e j)=f at hv;conv=>whnf
  by_cases h12:f=12
  ·rw[jK h12];rw[if_pos h12] at hv;conv=>whnf
   rw[<- hv,<- h12];rfl
  rw[jG h12];rw[if_neg h12] at hv;conv=>whnf
  by_cases h13:f=13
  ·rw[jK h13];rw[if_pos h13] at hv;conv=>whnf
   refine jN j (by omega) ?_;conv=>whnf
   refine⟨(j+1,13),jE [] ?_,⟨show j+1<=40 by omega,hv⟩,show 40-(j+1)<40-j by omega⟩;conv=>whnf
   repeat' constructor
   rw[h13]
  rw[jG h13];rw[if_neg h13] at hv;conv=>whnf
  refine jN j (by omega) ?_;conv=>whnf
  refine⟨(j+1,q),jE [] ?_,⟨show j+1<=40 by omega,hv⟩,show 40-(j+1)<40-j by omega⟩;conv=>whnf
  repeat' constructor
 obtain rfl:j=40:=by omega
 rw[jG (show ¬ ((40:Nat):Int)<40 by omega)];conv=>whnf
 rw[<- hv];rfl
end Go.Proofs.YtfbifdccmabdbaaGreatDoor.Vm
namespace Go.Proofs.YtfbifdccmabdbaaGreatDoor.Vm
open Go.RowKit
section
theorem jdk {X:List Nat} {rw:List Row} {a a':A} (ha:ren X rw a=some a'):∀ {l l':List A},qY X rw l=some l'->qY X rw (l++[a])=some (l'++[a'])
 | [],l',h=>by
  unfold qY at h
  cases h
  simp only[List.nil_append,qY,ha]
 | x :: l,l',h=>by
  unfold qY at h;rw[List.cons_append];unfold qY
  split at h
  ·rename_i y hy
   split at h
   ·rename_i r hr
    cases h
    rw[jdk ha hr];rfl
   ·cases h
  ·cases h
theorem jae (X:List Nat) (l:List A) (a:A):y6 X (l++[a])=y6 X l++[back X a]:=by
 rw[cI,cI,List.map_append];rfl
section
variable {w0:W0} {C0:Rd} {β0:List Nat} {bx:List (List A)} {rw:List Row} {w:World} {E:Env}
theorem Hp.last {i:Nat} {c:List A} {a a':A} (h:Hp w0 C0 β0 bx rw w E) (hi:bx[i]? = some (c++[a])) (ha:∀ t,a ≠ .adr t) (ha':∀ t,a' ≠ .adr t) (hl:∀ u,a.rep E u->a'.rep E u):Hp w0 C0 β0 (bx.set i (c++[a'])) rw w E:=by
 refine⟨h.sub,h.base,h.fresh,h.bp,h.bnd,h.bC,by rw[List.length_set];exact h.bl,fun j b cs h1 h2 => ?_,h.rl,h.rws,h.rC,h.rd,h.rs,h.keep,h.gk⟩
 by_cases e:i=j
 ·subst e;rw[List.getElem?_set_self (List.getElem?_eq_some_iff.1 hi).1] at h2
  cases h2
  obtain⟨T,arr,q1,q2⟩ := h.bxs i b _ h1 hi
  exact⟨T,arr,q1,lD ha ha' (fun us hu=>hu) (fun u hu _=>hl u hu) q2⟩
 ·rw[List.getElem?_set_ne e] at h2;exact h.bxs j b cs h1 h2
end
section
variable {P:Program} {pan:List PanicEntry->S->Prop} {Xr:Nat->Bool} {f:Nat} {s:S} {K:A->S->Prop} {post:List A->A->Prop}
theorem q8 (i g:Nat) {cA c1 args args':List A} {pn:List PanicEntry->Prop} (hX:Xr i=true) (hi:s.bx[i]? = some (cA++[.own g])) (hgl:g<s.rw.length) (h1:qY [i] s.rw cA=some c1) (h2:qY [i] s.rw args=some args')
  (hs:SpecV P f c1 args' post pn)
  (hpn:∀ ch bx',pn ch->bx'.length=s.bx.length->(∀ j,j ≠ i->bx'[j]? = s.bx[j]?)->pan ch ⟨s.t,bx',s.rw⟩)
  (hk:∀ c r,post c r->fM [i] s.bx [i] [c++[.own g]] fun bx' => zO (back [i] r) fun r' => j7 s.rw fun rw' => kN s bx' rw' (K r')):kH P pan Xr f args s K:=by
 unfold kH
 right;right;right;right;right
 have hil:=(List.getElem?_eq_some_iff.1 hi).1
 have key:∀ (w0:W0) (C0:Rd) (β0:List Nat) (E:Env) (w:World) (vals:List Value),Hp w0 C0 β0 s.bx s.rw w E->A.repL args E vals →
   ((∀ vs w,(callFunc f vs).run P w = .ok (.enter f vs) w)/\Calls P f vals.toArray w (fun e w' => (∃ y,e = .returned y/\Left w0 C0 β0 Xr s E w K y w') ∨ ∃ ch s' E',e = .panicked ch/\pan ch s'/\s'.t=s.t/\E.le E'/\Hp w0 C0 β0 s'.bx s'.rw w' E')):=fun w0 C0 β0 E w vals hp hargs=>by
  have hgr:g<E.ρ.length:=by rw[<- hp.rl];exact hgl
  obtain⟨y,hyg⟩ : ∃ y,E.ρ[g]? = some y:=⟨_,List.getElem?_eq_getElem hgr⟩
  have hy:eC y:=by
   rcases hp.rs g y hyg with ⟨_,_,_,rfl⟩ | ⟨_,rfl⟩ | ⟨_,rfl⟩ <;> exact trivial
  have hp2:=hp.last (a' := .v y) hi (fun t e=>by cases e) (fun t e=>by cases e) (fun u hu=>by
   unfold A.rep at hu
   have:y=u:=by rw[hyg] at hu;exact Option.some.inj hu
   subst this
   exact A.rep_v hy)
  have hc:=jal (s:=⟨s.t,s.bx.set i (cA++[.v y]),s.rw⟩) (pan:=pan) (pn:=pn) (X:=[i]) (ids:=[]) (ins:=[c1++[.v y]]) (post:=fun o r => ∃ c,o=[c++[.v y]]/\post c r) (Xr:=Xr) (args:=args) (args':=args') (vs:=vals)
   (K:=fun r s' => ∃ c bx',s' = ⟨s.t,bx'.set i (c++[.v y]),s.rw⟩ /\ bx'[i]? = some (c++[.own g])/\K r ⟨s.t,bx',s.rw⟩) hp2 hargs
   (by simp) (by simpa using hX) (by simpa using hil)
   (by
    have:(s.bx.set i (cA++[.v y])).getD i []=cA++[.v y]:=by simp[List.getD_eq_getElem?_getD,hil]
    simp only[List.map_cons,List.map_nil,this]
    show g9 [i] s.rw [cA++[.v y]]=_
    simp only[g9,jdk (a := .v y) (a' := .v y) (by unfold ren;rfl) h1])
   h2 (fun _=>hs y hy)
   (fun outs r ⟨c,ho,hpost⟩ _=>by
    subst ho
    obtain⟨_,bx',q1,q2,q3,q4⟩ := jbb (by simp) (hk c r hpost)
    rw[force_iff,qM,bG] at q1
    have q5:=q4 0 i _ rfl rfl
    rw[jae] at q5;unfold fM;rw[qJ];refine eU (by simpa using hil) ?_;unfold fM
    simp only
    rw[force_iff,qM,bG,<- cI,jae];refine⟨y6 [i] c,bx',?_,by rw[q5];simp[back],q1⟩;simp only[List.set_set,S.mk.injEq,true_and,and_true];refine⟨?_,rfl⟩
    apply List.ext_getElem?
    intro j
    by_cases e:i=j
    ·subst e;rw[List.getElem?_set_self hil,List.getElem?_set_self (by rw[q2];exact hil)]
     simp[back]
    ·rw[List.getElem?_set_ne e,List.getElem?_set_ne e,q3 j (by simpa using fun h=>e h.symm)])
   (fun ch bx' h k1 k2=>hpn ch bx' h (by simpa using k1) fun j hj=>by
    rw[k2 j (by simpa using hj),List.getElem?_set_ne (fun e=>hj e.symm)])
  refine⟨hc.1,hc.2.mono fun e w' hh => ?_⟩
  rcases hh with ⟨y2,rfl,⟨⟨r,s',E',⟨c,bx',rfl,hb,hK⟩,k1,k2,k3,k4,k5,k6⟩⟩⟩ | hh
  ·refine .inl ⟨y2,rfl,⟨⟨r,⟨s.t,bx',s.rw⟩,E',hK,rfl,k2,?_,k4,k5,k6⟩⟩⟩
   have hbl:=(List.getElem?_eq_some_iff.1 hb).1
   have hp3:=k3.last (i:=i) (c:=c) (a := .v y) (a' := .own g) (List.getElem?_set_self hbl) (fun t e=>by cases e) (fun t e=>by cases e) (fun u hu=>by
    obtain⟨rfl,-⟩ := A.rep_v_iff.1 hu
    unfold A.rep
    exact k2.ρ _ _ hyg)
   have e:(bx'.set i (c++[.v y])).set i (c++[.own g])=bx':=by
    rw[List.set_set]
    apply List.ext_getElem?
    intro j
    by_cases e:i=j
    ·subst e;rw[List.getElem?_set_self hbl,hb]
    ·rw[List.getElem?_set_ne e]
   rw[e] at hp3;exact hp3
  ·exact .inr hh
 refine⟨?_,fun w0 C0 β0 E w vals hp hargs=>(key w0 C0 β0 E w vals hp hargs).2⟩;exact (hs (.bool true) trivial).1
end
end
end Go.Proofs.YtfbifdccmabdbaaGreatDoor.Vm
namespace Go.Proofs.YtfbifdccmabdbaaGreatDoor.Vm
open Go.RowKit Go.Shelf
def dL (u:Ut):List A:=eZ u++[.own 0]
abbrev nM (f:Nat) (ins:List (List A)) (l:List Ic) (args:List A) (post:List (List A)->List Ic->A->Prop):Prop :=
 pG Tryz.prog f ins 52 2 l.length (qC l) args fun o n cs r => ∃ l',n=l'.length/\cs=qC l'/\post o l' r
theorem vZ (u:Ut) (l:List Ic) (op n:Int) (hl:l.length<=1000000):nM 40 [dL u] l [.box 0 0,intA op,intA n] fun o l' r=>o=[dL u]/\l'=l++[(op,n)]/\r=intA l.length:=by
 refine fX jR j5 1 Tryz.func40 rfl ?_;intro _;conv=>whnf
 refine⟨⟨by unfold maxLen;omega,by omega⟩,?_⟩;conv=>whnf
 refine⟨jJ (by omega),?_⟩;conv=>whnf
 refine⟨0,?_⟩;conv=>whnf
 refine⟨l++[(op,n)],by rw[List.length_append];rfl,?_,rfl,rfl,?_⟩
 ·rw[sF];rfl
 ·show intA (((l.length+1:Nat):Int)-1)=intA l.length
  congr 1;omega
theorem v7 (a:Ic) (l:List Ic):qC (a :: l)=icA a++qC l:=by rw[lI,List.flatMap_cons,lI]
theorem jfJ:∀ (l:List Ic) (k:Nat) (hk:k<l.length) (v:Int),(qC l).set (k*2+1) (intA v)=qC (l.set k (l[k].1,v))
 | [],k,hk,v=>by simp at hk
 | a :: l,0,hk,v=>by rw[List.set_cons_zero,v7,v7];rfl
 | a :: l,k+1,hk,v=>by
  rw[List.set_cons_succ,v7,v7]
  have h:=jfJ l k (by simpa using hk) v
  rw[show (k+1)*2+1=k*2+1+2 by omega]
  show intA a.1 :: intA a.2 :: (qC l).set (k*2+1) (intA v)=_
  rw[h];rfl
theorem sX:∀ (l:List (Int->List Ic)) (g:Int->List Ic) (at':Int),zQ (l++[g]) at'=zQ l at'++g (at'+(zQ l at').length)
 | [],g,at' => by
  show g at'++[]=[]++g (at'+((0:Nat):Int))
  rw[List.append_nil,List.nil_append,show at'+((0:Nat):Int)=at' by omega]
 | h :: l,g,at' => by
  show h at'++zQ (l++[g]) _=(h at'++zQ l _)++g _
  rw[sX l g,List.append_assoc]
  congr 3
  show _=at'+((h at'++zQ l _).length:Int)
  rw[List.length_append];omega
def zR (u:Ut) (f:Nt):Prop:=(∀ at':Int,(jI (jW u) f at').length<=qW f) /\ ∀ l:List Ic,l.length+qW f<=1000000->nM 39 [dL u] l [.box 0 0,.agg (ntA f)] fun o l' r=>o=[dL u]/\l'=l++jI (jW u) f l.length/\r = .tup []
theorem s7:∀ (l:List Nt) (j:Nat) (h:j<l.length),zF (l.take j)+qW l[j]<=zF l
 | [],j,h=>by simp at h
 | f :: l,0,h=>by show 0+qW f<=qW f+zF l;omega
 | f :: l,j+1,h=>by
  have hj:j<l.length:=by simpa using h
  have:=s7 l j hj
  show qW f+zF (l.take j)+qW (l[j]'hj)<=qW f+zF l
  omega
theorem jgX:∀ (l:List Nt) (j:Nat),zF (l.take j)<=zF l
 | [],j=>by rw[List.take_nil];exact Nat.le_refl _
 | f :: l,0=>Nat.zero_le _
 | f :: l,j+1=>by
  have:=jgX l j
  show qW f+zF (l.take j)<=qW f+zF l
  omega
theorem kS {u:Ut} : ∀ (l:List Nt) (at':Int),(∀ f ∈ l,zR u f)->(zQ (jF (jW u) l) at').length<=zF l
 | [],at',_=>Nat.zero_le _
 | f :: l,at',h=>by
  show (jI (jW u) f at'++zQ (jF (jW u) l) _).length<=qW f+zF l
  rw[List.length_append]
  have h1:=(h f List.mem_cons_self).1 at'
  have h2:=kS l (at'+(jI (jW u) f at').length) fun g hg=>h g (List.mem_cons_of_mem _ hg)
  omega
theorem lK (u:Ut) (k n:Int) (s:ByteArray) (kids:List Nt) (hm:kids.length<=3002) (hf:∀ f ∈ kids,zR u f) (l:List Ic) (hl:l.length+zF kids<=1000000):nM 80 [dL u] l [.box 0 0,.agg (ntA (.mk k n s kids))] fun o l' r=>o=[dL u]/\l'=l++zQ (jF (jW u) kids) l.length/\r = .tup []:=by
 obtain⟨S,hS⟩ : ∃ S:Nat->List Ic,∀ j,S j=l++zQ (jF (jW u) (kids.take j)) l.length:=⟨_,fun _=>rfl⟩
 have hS0:S 0=l:=by rw[hS];exact List.append_nil l
 have hSl:l++zQ (jF (jW u) kids) l.length=S kids.length:=by rw[hS,List.take_length]
 have hSn:∀ j (h:j<kids.length),S (j+1)=S j++jI (jW u) kids[j] (S j).length:=fun j h=>by
  rw[hS,hS,List.take_succ_eq_append_getElem h,wM,wM,List.map_append]
  show l++zQ (_++[jI (jW u) kids[j]]) _=_
  rw[sX,List.append_assoc,List.length_append]
  congr 3
 have hSz:∀ j (h:j<kids.length),(S j).length+qW kids[j]<=1000000:=fun j h=>by
  rw[hS,List.length_append]
  have h1:=kS (kids.take j) l.length fun f hf' => hf f (List.mem_of_mem_take hf')
  have h2:=s7 kids j h
  omega
 rw[hSl,<- hS0];simp only[ntA,Nt.k,Nt.n,Nt.s,Nt.kids];refine fX jR j5 1 Tryz.func80 rfl ?_;intro _;conv=>whnf
 refine jB [0,7,8] ?_;conv=>whnf
 refine jH (fun j:Nat=>[(9,.v (.int .i64 j))]) (fun _=>[dL u,[intA k,intA n,jX s,.sl 4 kids.length (qX kids)]]) (fun j=>[.live 52 2 (S j).length (qC (S j))]) (fun j=>j<=kids.length) (fun j=>kids.length-j) 0 ?_ (Nat.zero_le _) ?_
 ·repeat' constructor
 rintro j hj;conv=>whnf
 by_cases hlt:j<kids.length
 ·rw[jK (show (j:Int)<(kids.length:Int) by omega)]
  have hrow:=zX kids j hlt
  have hSn:=hSn j hlt
  have hSz:=hSz j hlt
  have hg:=hf _ (List.getElem_mem hlt)
  generalize kids[j]=g at *
  have hx:=hg.2 (S j) hSz
  generalize hcd:jI (jW u) g (S j).length=y at *;conv=>whnf
  refine⟨by omega,?_⟩;conv=>whnf
  (generalize hrq:jC _ _ (qX kids)=rq;obtain rfl:rq=ntA g:=hrq.symm.trans (hrow);clear hrq;conv=>whnf)
  refine yZ 0 0 1 [] hx ?_;rintro o n' cs' r ⟨s4,rfl,rfl,ho,hs4,rfl⟩;cases ho;conv=>whnf
  refine⟨jJ (by omega),?_⟩;conv=>whnf
  refine⟨j+1,jE [1] ?_,hlt,by omega⟩;conv=>whnf
  rw[hs4,show S (j+1)=_ from hSn]
  repeat' constructor
 ·rw[jG (show ¬ (j:Int)<(kids.length:Int) by omega)];conv=>whnf
  obtain rfl:j=kids.length:=by omega
  refine⟨0,?_⟩;conv=>whnf
  exact⟨_,rfl,rfl,rfl,rfl,rfl⟩
theorem jlv (s:ByteArray) (h:(builtL.any fun x=>decide (s=x))=true):Spec Tryz.prog 122 [] [jX s] fun _ r=>r=intA (biF s):=by
 have h:s ∈ builtL:=by
  rw[List.any_eq_true] at h
  obtain⟨x,h1,h2⟩ := h
  rw[decide_eq_true_eq] at h2;rw[h2];exact h1
 unfold builtL at h;simp only[List.mem_cons,List.not_mem_nil,or_false] at h
 rcases h with rfl | rfl | rfl | rfl | rfl | rfl | rfl | rfl | rfl
 all_goals
  refine eN jR j5 0 Tryz.func122 rfl ?_;intro _;conv=>whnf
  rfl
def jpw (ix:ByteArray->Int) (k n:Int) (s:ByteArray):Ic :=
 if k=12 ∨ k=13 then (1,n) else if k=14 then (2,ix s) else if k=15 then (4,biF s) else if k=1 then (3,ix s)
 else if k=4 then (17,n) else if k=5 then (18,n) else if k=6 then (19,n) else if k=16 then (5,0) else if k=7 then (20,0)
 else if k=10 then (23,0) else if k=8 then (21,0) else (22,0)
def cX (id:Nat):Tr:=match Nat.beq id 8 with | true => .q 0 3 (.q 1 3 (.q 2 3 (.q 3 3 (.q 5 3 (.q 6 0 (.alt 4 1 (.alt 7 1 (.alt 8 2 (.nil) (.nil)) (.nil)) (.nil))))))) | false=>match Nat.beq id 12 with | true => .q 0 3 (.q 1 3 (.q 2 3 (.q 3 3 (.q 5 3 (.q 6 0 (.alt 4 1 (.alt 7 1 (.alt 8 2 (.nil) (.nil)) (.nil)) (.nil))))))) | false => .nil
theorem jko (u:Ut) (hu:uH u) (k n:Int) (s:ByteArray) (kids:List Nt) (hm:kids.length<=3002) (hf:∀ f ∈ kids,zR u f) (hc:k=12 ∨ k=13 ∨ k=14 ∨ k=15/\(builtL.any fun x=>decide (s=x))=true ∨ k=1 ∨ k=4 ∨ k=5 ∨ k=6 ∨ k=16 ∨ k=7 ∨ k=10 ∨ k=8 ∨ k=9) (l:List Ic) (hl:l.length+zF kids+1<=1000000):nM 81 [dL u] l [.box 0 0,.agg (ntA (.mk k n s kids))] fun o l' r=>o=[dL u]/\l'=l++zQ (jF (jW u) kids) l.length++[jpw (jW u) k n s]/\r = .tup []:=by
 have hk:=lK u k n s kids hm hf l (by omega)
 simp only[ntA,Nt.k,Nt.n,Nt.s,Nt.kids] at hk
 have hz:=kS (u:=u) kids l.length hf
 have hem:=fun (l:List Ic) (op n:Int) (h:l.length<=1000000)=>vZ u l op n h
 have hix:=jrs u hu s
 generalize zQ (jF (jW u) kids) l.length=y at *
 have hly:(l++y).length<=999999:=by rw[List.length_append];omega
 generalize l++y=l3 at *
 rcases hc with rfl | rfl | rfl | ⟨rfl,hb⟩ | rfl | rfl | rfl | rfl | rfl | rfl | rfl | rfl | rfl
 ·simp only[ntA,Nt.k,Nt.n,Nt.s,Nt.kids];refine fX cX (fun _=>[0]) 1 Tryz.func81 rfl ?_;intro _;conv=>whnf
  refine yZ 0 0 1 [] hk ?_;rintro o n' cs' r ⟨l2,rfl,rfl,ho,hl2,rfl⟩;cases ho;conv=>whnf
  subst hl2;refine yZ 0 1 2 [] (hem l2 1 n (by omega)) ?_;rintro o n' cs' r ⟨l4,rfl,rfl,ho,hl4,rfl⟩;cases ho;conv=>whnf
  refine⟨2,?_⟩;conv=>whnf
  exact⟨l4,rfl,rfl,rfl,by rw[hl4];rfl,rfl⟩
 ·simp only[ntA,Nt.k,Nt.n,Nt.s,Nt.kids];refine fX cX (fun _=>[0]) 1 Tryz.func81 rfl ?_;intro _;conv=>whnf
  refine yZ 0 0 1 [] hk ?_;rintro o n' cs' r ⟨l2,rfl,rfl,ho,hl2,rfl⟩;cases ho;conv=>whnf
  subst hl2;refine yZ 0 1 2 [] (hem l2 1 n (by omega)) ?_;rintro o n' cs' r ⟨l4,rfl,rfl,ho,hl4,rfl⟩;cases ho;conv=>whnf
  refine⟨2,?_⟩;conv=>whnf
  exact⟨l4,rfl,rfl,rfl,by rw[hl4];rfl,rfl⟩
 ·simp only[ntA,Nt.k,Nt.n,Nt.s,Nt.kids];refine fX cX (fun _=>[0]) 1 Tryz.func81 rfl ?_;intro _;conv=>whnf
  refine yZ 0 0 1 [] hk ?_;rintro o n' cs' r ⟨l2,rfl,rfl,ho,hl2,rfl⟩;cases ho;conv=>whnf
  subst hl2
  (refine kU [] hix ?_;rintro r rfl;conv=>whnf)
  refine yZ 0 1 2 [] (hem l2 2 (jW u s) (by omega)) ?_;rintro o n' cs' r ⟨l4,rfl,rfl,ho,hl4,rfl⟩;cases ho;conv=>whnf
  refine⟨2,?_⟩;conv=>whnf
  exact⟨l4,rfl,rfl,rfl,by rw[hl4];rfl,rfl⟩
 ·have hbi:=jlv s hb
  simp only[ntA,Nt.k,Nt.n,Nt.s,Nt.kids];refine fX cX (fun _=>[0]) 1 Tryz.func81 rfl ?_;intro _;conv=>whnf
  refine yZ 0 0 1 [] hk ?_;rintro o n' cs' r ⟨l2,rfl,rfl,ho,hl2,rfl⟩;cases ho;conv=>whnf
  subst hl2
  (refine kU [] hbi ?_;rintro r rfl;conv=>whnf)
  refine yZ 0 1 2 [] (hem l2 4 (biF s) (by omega)) ?_;rintro o n' cs' r ⟨l4,rfl,rfl,ho,hl4,rfl⟩;cases ho;conv=>whnf
  refine⟨2,?_⟩;conv=>whnf
  exact⟨l4,rfl,rfl,rfl,by rw[hl4];rfl,rfl⟩
 ·simp only[ntA,Nt.k,Nt.n,Nt.s,Nt.kids];refine fX cX (fun _=>[0]) 1 Tryz.func81 rfl ?_;intro _;conv=>whnf
  refine yZ 0 0 1 [] hk ?_;rintro o n' cs' r ⟨l2,rfl,rfl,ho,hl2,rfl⟩;cases ho;conv=>whnf
  subst hl2
  (refine kU [] hix ?_;rintro r rfl;conv=>whnf)
  refine yZ 0 1 2 [] (hem l2 3 (jW u s) (by omega)) ?_;rintro o n' cs' r ⟨l4,rfl,rfl,ho,hl4,rfl⟩;cases ho;conv=>whnf
  refine⟨2,?_⟩;conv=>whnf
  exact⟨l4,rfl,rfl,rfl,by rw[hl4];rfl,rfl⟩
 ·simp only[ntA,Nt.k,Nt.n,Nt.s,Nt.kids];refine fX cX (fun _=>[0]) 1 Tryz.func81 rfl ?_;intro _;conv=>whnf
  refine yZ 0 0 1 [] hk ?_;rintro o n' cs' r ⟨l2,rfl,rfl,ho,hl2,rfl⟩;cases ho;conv=>whnf
  subst hl2;refine yZ 0 1 2 [] (hem l2 17 n (by omega)) ?_;rintro o n' cs' r ⟨l4,rfl,rfl,ho,hl4,rfl⟩;cases ho;conv=>whnf
  refine⟨2,?_⟩;conv=>whnf
  exact⟨l4,rfl,rfl,rfl,by rw[hl4];rfl,rfl⟩
 ·simp only[ntA,Nt.k,Nt.n,Nt.s,Nt.kids];refine fX cX (fun _=>[0]) 1 Tryz.func81 rfl ?_;intro _;conv=>whnf
  refine yZ 0 0 1 [] hk ?_;rintro o n' cs' r ⟨l2,rfl,rfl,ho,hl2,rfl⟩;cases ho;conv=>whnf
  subst hl2;refine yZ 0 1 2 [] (hem l2 18 n (by omega)) ?_;rintro o n' cs' r ⟨l4,rfl,rfl,ho,hl4,rfl⟩;cases ho;conv=>whnf
  refine⟨2,?_⟩;conv=>whnf
  exact⟨l4,rfl,rfl,rfl,by rw[hl4];rfl,rfl⟩
 ·simp only[ntA,Nt.k,Nt.n,Nt.s,Nt.kids];refine fX cX (fun _=>[0]) 1 Tryz.func81 rfl ?_;intro _;conv=>whnf
  refine yZ 0 0 1 [] hk ?_;rintro o n' cs' r ⟨l2,rfl,rfl,ho,hl2,rfl⟩;cases ho;conv=>whnf
  subst hl2;refine yZ 0 1 2 [] (hem l2 19 n (by omega)) ?_;rintro o n' cs' r ⟨l4,rfl,rfl,ho,hl4,rfl⟩;cases ho;conv=>whnf
  refine⟨2,?_⟩;conv=>whnf
  exact⟨l4,rfl,rfl,rfl,by rw[hl4];rfl,rfl⟩
 ·simp only[ntA,Nt.k,Nt.n,Nt.s,Nt.kids];refine fX cX (fun _=>[0]) 1 Tryz.func81 rfl ?_;intro _;conv=>whnf
  refine yZ 0 0 1 [] hk ?_;rintro o n' cs' r ⟨l2,rfl,rfl,ho,hl2,rfl⟩;cases ho;conv=>whnf
  subst hl2;refine yZ 0 1 3 [] (hem l2 5 0 (by omega)) ?_;rintro o n' cs' r ⟨l4,rfl,rfl,ho,hl4,rfl⟩;cases ho;conv=>whnf
  refine⟨3,?_⟩;conv=>whnf
  exact⟨l4,rfl,rfl,rfl,by rw[hl4];rfl,rfl⟩
 ·simp only[ntA,Nt.k,Nt.n,Nt.s,Nt.kids];refine fX cX (fun _=>[0]) 1 Tryz.func81 rfl ?_;intro _;conv=>whnf
  refine yZ 0 0 1 [] hk ?_;rintro o n' cs' r ⟨l2,rfl,rfl,ho,hl2,rfl⟩;cases ho;conv=>whnf
  subst hl2;refine yZ 0 1 3 [] (hem l2 20 0 (by omega)) ?_;rintro o n' cs' r ⟨l4,rfl,rfl,ho,hl4,rfl⟩;cases ho;conv=>whnf
  refine⟨3,?_⟩;conv=>whnf
  exact⟨l4,rfl,rfl,rfl,by rw[hl4];rfl,rfl⟩
 ·simp only[ntA,Nt.k,Nt.n,Nt.s,Nt.kids];refine fX cX (fun _=>[0]) 1 Tryz.func81 rfl ?_;intro _;conv=>whnf
  refine yZ 0 0 1 [] hk ?_;rintro o n' cs' r ⟨l2,rfl,rfl,ho,hl2,rfl⟩;cases ho;conv=>whnf
  subst hl2;refine yZ 0 1 3 [] (hem l2 23 0 (by omega)) ?_;rintro o n' cs' r ⟨l4,rfl,rfl,ho,hl4,rfl⟩;cases ho;conv=>whnf
  refine⟨3,?_⟩;conv=>whnf
  exact⟨l4,rfl,rfl,rfl,by rw[hl4];rfl,rfl⟩
 ·simp only[ntA,Nt.k,Nt.n,Nt.s,Nt.kids];refine fX cX (fun _=>[0]) 1 Tryz.func81 rfl ?_;intro _;conv=>whnf
  refine yZ 0 0 1 [] hk ?_;rintro o n' cs' r ⟨l2,rfl,rfl,ho,hl2,rfl⟩;cases ho;conv=>whnf
  subst hl2;refine yZ 0 1 3 [] (hem l2 21 0 (by omega)) ?_;rintro o n' cs' r ⟨l4,rfl,rfl,ho,hl4,rfl⟩;cases ho;conv=>whnf
  refine⟨3,?_⟩;conv=>whnf
  exact⟨l4,rfl,rfl,rfl,by rw[hl4];rfl,rfl⟩
 ·simp only[ntA,Nt.k,Nt.n,Nt.s,Nt.kids];refine fX cX (fun _=>[0]) 1 Tryz.func81 rfl ?_;intro _;conv=>whnf
  refine yZ 0 0 1 [] hk ?_;rintro o n' cs' r ⟨l2,rfl,rfl,ho,hl2,rfl⟩;cases ho;conv=>whnf
  subst hl2;refine yZ 0 1 3 [] (hem l2 22 0 (by omega)) ?_;rintro o n' cs' r ⟨l4,rfl,rfl,ho,hl4,rfl⟩;cases ho;conv=>whnf
  refine⟨3,?_⟩;conv=>whnf
  exact⟨l4,rfl,rfl,rfl,by rw[hl4];rfl,rfl⟩
end Go.Proofs.YtfbifdccmabdbaaGreatDoor.Vm
namespace Go.Proofs.YtfbifdccmabdbaaGreatDoor.Vm
open Go.RowKit
section
structure jhh (P:Program) (f:Nat) (ins:List (List A)) (e k n:Nat) (cs args:List A) (post:List (List A)->Nat->List A->A->Prop):Prop where
 r:pG P f ins e k n cs args post
 d:∀ u,jdP (ClD P f u u) ins e k n cs args post fun _=>False
section
variable {c:Cx} {s:S}
theorem jdz {f:Nat} {fn:Func} {x:Code} {ins:List (List A)} {e k n:Nat} {cs args:List A} {post:List (List A)->Nat->List A->A->Prop} (hc:c.ok) (hq:∀ ch s,¬ c.pan ch s) (hf:c.P.funcs[f]? = some fn) (hb:fn.body=some x) (hname:(fn.name == "runtime.NumGoroutine")=false)
  (hn:ins.length=c.np) (hord:kE c.ord x=true) (h:nF args->yL args (fn.ntmps-args.length) fun t=>rW c x ⟨t,ins,[.live e k n cs]⟩ (jo6 c e k fn.results.toList post)):jhh c.P f ins e k n cs args post:=by
 refine⟨rO hc (fun ch s h=>hq ch s h) hf hb hname hn hord h,fun u w C β vals y xs h0 h1 h2 h3 h4 h5 h6 h7 h8 h9 => ?_⟩;unfold ClD
 refine CallsD.mono (callsD_of_wp hf hb (R:=fun e' w' => (∃ (outs:List (List A)) (n':Nat) (cs':List A) (r:A) (v y':Value) (xs':List Value) (C':Rd),e' = .returned v/\post outs n' cs' r/\Keeps (β++(blk y).toList) w w'/\Sub C C'/\Sub C' (kL w')/\(∀ ad u,C' ad=some u->C ad=some u ∨ w.heap.size<=ad.block ∨ blk y=some ad.block)/\outs.length=β.length ∧
   (∀ (i b:Nat) (cs:List A),β[i]? = some b->outs[i]? = some cs->boxAt w' ⟨C',β,[y']⟩ b cs)/\owR w' e k y' n' xs'/\A.repC cs' ⟨C',[],[]⟩ xs'/\(∀ b,blk y'=some b->(∀ o sp,C' ⟨b,o,sp⟩ = none)/\(w.heap.size<=b ∨ blk y=some b))/\r.rep ⟨C',β,[y']⟩ v) ∨
   ∃ (ch:List PanicEntry) (ns:List Nat),e' = .panicked ch/\False/\Keeps (β++(blk y).toList) w w'/\ns.length=β.length /\ ∀ (i b n:Nat),β[i]? = some b->ns[i]? = some n->boxAt w' ⟨C,β,[]⟩ b (List.replicate n .dead)) ?_) fun e m w' hh=>hh
 have hinit:=initK_iff.1 (h (wA _ h9))
 have hinit:=kF hc hord hinit
 have hinv:=oJ (nt:=fn.ntmps) h0 h1 h2 h3 h4 h5 h6 h7 h8 h9
 unfold Ok OkD at hinit;refine hinit ⟨w,(blk y).toList⟩ C β _ w _ (by rw[<- h4,hn]) hinv (fun ch s' a' w' hpan hi=>absurd hpan (hq ch s')) ?_
 have fin:∀ (s':S) (a':Act) (w':World),(∃ g,jgt c e k g fn.results.toList post s')->Inv [] ⟨w,(blk y).toList⟩ C β s' a' w'->_:=fun s' a' w' ⟨g,hr⟩ hi=>jec (w:=w) (C:=C) (β:=β) (s':=s') (a':=a') (w':=w') (fn:=fn) (post:=post) (y:=y) hc (by rw[<- h4,hn]) hr hi
 intro e1 s' a' w' hq hi
 cases e1 with
 | normal=>obtain⟨k1,v,k2,k3⟩ := fin s' a' w' hq hi;exact⟨k1,v,k2,.inl k3⟩
 | ret=>obtain⟨k1,v,k2,k3⟩ := fin s' a' w' hq hi;exact⟨k1,v,k2,.inl k3⟩
 | _=>exact hq.elim
@[irreducible] def jnQ (P:Program) (f:Nat) (args:List A) (s:S) (K:S->Prop):Prop :=
 (∀ vs w,(callFunc f vs).run P w = .ok (.enter f vs) w) ∧
 ∃ (X ids:List Nat) (g e k n:Nat) (cs:List A) (ins:List (List A)) (args':List A) (post:List (List A)->Nat->List A->A->Prop),X.Nodup/\(∀ i ∈ X,i<s.bx.length)/\(jA s.rw ids)[g]? = some (.live e k n cs) ∧
  aV X g (jA s.rw ids) (X.map fun i=>s.bx.getD i [])=some ins/\z8 X g (jA s.rw ids) args=some args'/\(nF args'->jdP (ClD P f .returning .returning) ins e k n cs args' post fun _=>False) ∧
  ∀ outs n' cs' r,post outs n' cs' r->outs.length=X.length->fH X s.rw.length s.bx X outs fun bx' => zO (backG X s.rw.length r) fun r' => j7 ((jA s.rw ids).set g .gone++[.live e k n' cs']) fun rw' => kN s bx' rw' K
def iG (c:Cx) (e k:Nat) (rv:List ResultVar) (post:List (List A)->Nat->List A->A->Prop):List (Nat × List A)->S->Prop
 | [],s => ∃ g,jgt c e k g rv post s
 | (f,args) :: r,s=>jnQ c.P f args s fun s' => iG c e k rv post r s'
theorem jaY {w0:W0} {C0:Rd} {β0:List Nat} {e k:Nat} {fn:Func} {post:List (List A)->Nat->List A->A->Prop} {R:Ending->World->Prop} {tmps:Array Value} (hfin:∀ s' w',(∃ g,jgt c e k g fn.results.toList post s')->Inv [] w0 C0 β0 s' { tmps:=tmps,defers:=[] } w' -> ∃ v,(results fn tmps).run c.P w' = .ok v w'/\R (.returned v) w') :
  ∀ (dr:List (Nat × List A)) (ds:List Deferred) (s:S) (E:Env) (w:World),repD dr E ds->Hp w0 C0 β0 s.bx s.rw w E->A.repL s.t E tmps.toList->iG c e k fn.results.toList post dr s->Leaves c.P fn tmps R ds .returning w
 | [],ds,s,E,w,hd,hp,ht,h=>by
  obtain rfl:ds=[]:=hd
  exact hfin s w h ⟨E,hp,ht,rfl⟩
 | (f,args) :: r,ds,s,E,w,⟨d,ds',cap,hds,htg,hargs,hrest⟩,hp,ht,h=>by
  subst hds;unfold iG jnQ at h
  obtain⟨hcall,X,ids,g,e0,k0,n0,cs0,ins,args',post',hn,hX,hg,hins,hargs',hspec,hk⟩ := h
  obtain⟨-,hcx⟩ := jfd (pan:=fun _ _=>False) (Xr:=fun _=>true) (K:=fun _ s' => iG c e k fn.results.toList post r s') (Cl:=ClD c.P f .returning .returning) ClD.mono hp hargs rfl hn (fun _ _=>rfl) hX hg hins hargs' hspec (fun outs n' cs' r hp hl=>hk outs n' cs' r hp hl) (fun ch bx' h _ _=>h.elim)
  obtain⟨t,da⟩ := d
  simp only at htg hargs hcx
  subst htg;refine leaves_cons (f:=f) (args:=da++cap) (by simp) (by simp[invoke,hcall]) ?_
  have hcx':CallsD c.P f (da++cap) .returning w fun e' m w' => m = .returning/\((∃ y,e' = .returned y/\Left w0 C0 β0 (fun _=>true) s E w (fun _ s' => iG c e k fn.results.toList post r s') y w') ∨ ∃ (ch:List PanicEntry) (s':S) (E':Env),e' = .panicked ch/\False/\s'.t=s.t/\E.le E'/\Hp w0 C0 β0 s'.bx s'.rw w' E'):=hcx
  refine CallsD.mono hcx' ?_;rintro e' m w' ⟨rfl,⟨y,rfl,⟨⟨r0,s',E',h1,h2,h3,h4,h5,_⟩⟩⟩ | ⟨ch,s',E',_,h,_⟩⟩
  ·exact jaY hfin r ds' s' E' w' (hrest.mono h3) h4 (by rw[h2];exact A.repL.mono _ h3 ht) h1
  ·exact h.elim
theorem jdA {f:Nat} {fn:Func} {x:Code} {ins:List (List A)} {e k n:Nat} {cs args:List A} {post:List (List A)->Nat->List A->A->Prop} (hc:c.ok) (hf:c.P.funcs[f]? = some fn) (hb:fn.body=some x) (hname:(fn.name == "runtime.NumGoroutine")=false)
  (hn:ins.length=c.np) (h:nF args->yL args (fn.ntmps-args.length) fun t=>OkT c.P c.np (fun _ _ _=>False) (fun dr ex s=>(ex = .normal ∨ ex = .ret)/\iG c e k fn.results.toList post dr s) [] x ⟨t,ins,[.live e k n cs]⟩):pG c.P f ins e k n cs args post:=by
 refine⟨aM hf hb hname,fun w C β vals y xs h0 h1 h2 h3 h4 h5 h6 h7 h8 h9 => ?_⟩;refine calls_of_wp_defers hf hb ?_
 have hinit:=initK_iff.1 (h (wA _ h9))
 have hinv:=oJ (nt:=fn.ntmps) h0 h1 h2 h3 h4 h5 h6 h7 h8 h9
 unfold OkT at hinit;refine hinit ⟨w,(blk y).toList⟩ C β _ w _ (by rw[<- h4,hn]) hinv (fun dr ch s' a' w' hl _=>hl.elim) (fun dr ex s' a' w' hl ⟨E,hp,ht,hd⟩ => ?_)
 have key:=jaY (c:=c) (e:=e) (k:=k) (fn:=fn) (post:=post) (tmps:=a'.tmps) (R:=fun e' w' => (∃ (outs:List (List A)) (n':Nat) (cs':List A) (r:A) (v y':Value) (xs':List Value) (C':Rd),e' = .returned v/\post outs n' cs' r/\Keeps (β++(blk y).toList) w w'/\Sub C C'/\Sub C' (kL w')/\(∀ ad u,C' ad=some u->C ad=some u ∨ w.heap.size<=ad.block ∨ blk y=some ad.block)/\outs.length=β.length ∧
   (∀ (i b:Nat) (cs:List A),β[i]? = some b->outs[i]? = some cs->boxAt w' ⟨C',β,[y']⟩ b cs)/\owR w' e k y' n' xs'/\A.repC cs' ⟨C',[],[]⟩ xs'/\(∀ b,blk y'=some b->(∀ o sp,C' ⟨b,o,sp⟩ = none)/\(w.heap.size<=b ∨ blk y=some b))/\r.rep ⟨C',β,[y']⟩ v) ∨
   ∃ (ch:List PanicEntry) (ns:List Nat),e' = .panicked ch/\False/\Keeps (β++(blk y).toList) w w'/\ns.length=β.length /\ ∀ (i b n:Nat),β[i]? = some b->ns[i]? = some n->boxAt w' ⟨C,β,[]⟩ b (List.replicate n .dead))
  (fun s2 w2 ⟨g,hr⟩ hi=>by
   obtain⟨-,v,q1,q2⟩ := jec (w:=w) (C:=C) (β:=β) (fn:=fn) (post:=post) (y:=y) hc (by rw[<- h4,hn]) hr hi
   exact⟨v,q1,.inl q2⟩) dr a'.defers s' E w' hd hp ht hl.2
 rcases hl.1 with rfl | rfl
 ·exact key
 ·exact key
end
section
variable {c:Cx} {P:Program} {np:Nat} {pt:List (Nat × List A)->List PanicEntry->S->Prop} {qt:List (Nat × List A)->Exit->S->Prop} {dr:List (Nat × List A)} {s:S}
theorem jjy {x y:Code} (h:OkT P np pt (fun dr' e s' => tQ P np pt qt dr' y e s') dr x s):OkT P np pt qt dr (.seq x y) s:=by
 unfold OkT at h ⊢;intro w0 C0 β0 a w Q hn hi hx hk;refine wp_seq (h w0 C0 β0 a w _ hn hi (fun dr' ch s' a' w' h1 h2=>hx dr' ch s' a' w' h1 h2) fun dr' e s' a' w' h1 h2 => ?_)
 cases e with
 | normal =>
  have h1:OkT P np pt qt dr' y s':=h1
  unfold OkT at h1;exact h1 w0 C0 β0 a' w' Q hn h2 hx hk
 | _=>exact hk dr' _ _ _ _ h1 h2
def jpq (s:S) (ids:List Nat) (fo:Operand) (xs:List Operand) (K:Nat->List A->S->Prop):Prop :=
 match s with
 | ⟨t,bx,rw⟩=>j7 (jA rw ids) fun rw' => nW (eW rw') t fun t' => jbC rw' bx fun bx' => match ev ⟨t',bx',rw'⟩ fo with
  | .clo f caps=>nW (ev ⟨t',bx',rw'⟩) xs fun l=>K f (l++caps) ⟨t',bx',rw'⟩
  | _=>False
theorem oO {id:Nat} {l:List Oper} {od:Oper} {fo:Operand} {xs:Array Operand} {ts:Array TypeId} (ids:List Nat) (hc:c.ok) (hdr:∃ n,yH n dr=true) (hp:∀ ch s',c.pan ch s'->pt dr ch s') (hop:od.op = .defer ⟨.value fo,xs,ts⟩) (hg:od.guard=none) (hd:od.dst=none)
  (h:m8 c (l++[od]) l s fun s' => jpq s' ids fo xs.toList fun f args s'' => qt ((f,args) :: dr) .normal s''):OkT c.P c.np pt qt dr (.region id (l++[od]).toArray false) s:=by
 unfold OkT;intro w0 C0 β0 a w Q hn hi hx hk;refine wp_region_lit (u7 (l2:=[od]) (Q:=Q) hc hdr (fun ch s' a' w' h1 h2=>hx dr ch s' a' w' (hp ch s' h1) h2) hi h fun s' a' w' h1 h2 => ?_)
 refine wpList_step fun Kc hKc => ?_
 rw[if_pos (by simp[Region.wanted,hg])]
 obtain⟨t,bx,rw'⟩ := s'
 unfold jpq at h1
 simp only at h1
 rw[qM,qJ,mD] at h1
 have hle:Le (β0.length) ⟨t,bx,rw'⟩ _:=(jhT (np:=β0.length) (s:=⟨t,bx,rw'⟩) ids).trans jhU
 -- publishing keeps what is deferred
 obtain⟨E,hpp,ht,hdd⟩ := h2
 obtain⟨C',hp1,le1⟩ := hpp.pubs ids
 have ht1:=iX (E:=⟨C',E.β,E.ρ⟩) hp1 (A.repL.mono _ le1 ht)
 have hd1:=hdd.mono le1
 have hp2:Hp w0 C0 β0 (bx.map fun c=>c.map (eW (jA rw' ids))) (jA rw' ids) w' ⟨C',E.β,E.ρ⟩ := by
  refine⟨hp1.sub,hp1.base,hp1.fresh,hp1.bp,hp1.bnd,hp1.bC,by simpa using hp1.bl,fun i b cs h1 h2 => ?_,hp1.rl,hp1.rws,hp1.rC,hp1.rd,hp1.rs,hp1.keep,hp1.gk⟩;rw[List.getElem?_map,Option.map_eq_some_iff] at h2
  obtain⟨c0,h2,rfl⟩ := h2
  obtain⟨T',arr,h3,h4⟩ := hp1.bxs i b c0 h1 h2
  exact⟨T',arr,h3,h4.map (eW (jA rw' ids)) (fun l us k=>iX (E:=⟨C',E.β,E.ρ⟩) hp1 k) rfl (fun t=>rfl) fun a t e=>by
   unfold eW at e
   split at e
   ·split at e <;> cases e
   ·exact e⟩
 split at h1
 ·rename_i f caps hev
  rw[qJ] at h1
  have hf:=jO (s:=⟨t.map (eW (jA rw' ids)),bx.map fun c=>c.map (eW (jA rw' ids)),jA rw' ids⟩) ht1 fo
  rw[hev] at hf;unfold A.rep at hf
  obtain⟨us,hf,hcaps⟩ := hf
  have hrun:(execOp a'.eval od).run c.P w' = .ok (.defer { target := .fn (.func f) us,args:=xs.map a'.eval }) w':=by simp[execOp,hop,resolve,Deferred.ofValue,hf,Result.andThen]
  unfold Oper.wp;rw[hrun,Oper.upon_defer];rw[hd];refine hKc _ _ (hk _ _ _ _ _ h1 ⟨⟨C',E.β,E.ρ⟩,hp2,ht1,{ target := .fn (.func f) us,args:=xs.map a'.eval },a'.defers,us,rfl,rfl,?_,hd1⟩)
  have:=A.repL_append (gP (s:=⟨t.map (eW (jA rw' ids)),bx.map fun c=>c.map (eW (jA rw' ids)),jA rw' ids⟩) ht1 xs.toList) hcaps
  simpa using this
 ·exact h1.elim
end
theorem jlI {P:Program} {f:Nat} {args args':List A} {s:S} {K:S->Prop} {post:List (List A)->Nat->List A->A->Prop} (i g m:Nat) (ids:List Nat) (hm:s.rw.length=m) {e k n:Nat} {cs c0 c1:List A} (hi:s.bx[i]? = some c0) (hg:(jA s.rw ids)[g]? = some (.live e k n cs)) (h1:z8 [i] g (jA s.rw ids) c0=some c1) (h2:z8 [i] g (jA s.rw ids) args=some args') (hs:jhh P f [c1] e k n cs args' post)
  (hk:∀ o n' cs' r,post [o] n' cs' r->fH [i] m s.bx [i] [o] fun bx' => zO (backG [i] m r) fun r' => j7 ((jA s.rw ids).set g .gone++[.live e k n' cs']) fun rw' => kN s bx' rw' K):jnQ P f args s K:=by
 subst hm;unfold jnQ
 have hil:=(List.getElem?_eq_some_iff.1 hi).1
 refine⟨hs.r.1,[i],ids,g,e,k,n,cs,[c1],args',post,by simp,by simpa using hil,hg,?_,h2,fun _=>hs.d .returning,fun outs n' cs' r hp hl => ?_⟩
 ·have:s.bx.getD i []=c0:=by simp[List.getD_eq_getElem?_getD,hi]
  simp only[List.map_cons,List.map_nil,this,aV,h1]
 ·obtain⟨o,rfl⟩ : ∃ o,outs=[o]:=List.length_eq_one_iff.1 (by simpa using hl)
  exact hk o n' cs' r hp
end
end Go.Proofs.YtfbifdccmabdbaaGreatDoor.Vm
namespace Go.Proofs.YtfbifdccmabdbaaGreatDoor.Vm
open Go.RowKit Go.Shelf
section
section
variable {P:Program} {pan:List PanicEntry->S->Prop} {Xr:Nat->Bool} {f:Nat} {args args':List A} {s:S} {K:A->S->Prop} {post:List (List A)->Nat->List A->A->Prop}
theorem jak (X:List Nat) (g m:Nat) (ids:List Nat) (hm:s.rw.length=m) {e k n:Nat} {cs:List A} {ins:List (List A)} (hf:Xr 1000000007=true) (hn:X.Nodup) (hX:∀ i ∈ X,Xr i=true) (hi:∀ i ∈ X,i<s.bx.length) (hg:(jA s.rw ids)[g]? = some (.live e k n cs)) (h1:aV X g (jA s.rw ids) (X.map fun i=>s.bx.getD i [])=some ins) (h2:z8 X g (jA s.rw ids) args=some args') (hs:nF args'->pG P f ins e k n cs args' post)
  (hk:∀ outs n' cs' r,post outs n' cs' r->outs.length=X.length->fH X m s.bx X outs fun bx' => zO (backG X m r) fun r' => j7 ((jA s.rw ids).set g .gone++[.live e k n' cs']) fun rw' => kN s bx' rw' (K r')):kH P pan Xr f args s K:=by
 subst hm;unfold kH
 right;right;right;right;left
 exact⟨hf,X,ids,g,e,k,n,cs,ins,args',post,_,hn,hX,hi,hg,h1,h2,hs,hk,fun ch bx' h _ _=>h.elim⟩
end
abbrev jhg (f:Nat) (ins:List (List A)) (l:List Ic) (args:List A) (post:List (List A)->List Ic->A->Prop):Prop :=
 jhh Tryz.prog f ins 52 2 l.length (qC l) args fun o n cs r => ∃ l',n=l'.length/\cs=qC l'/\post o l' r
theorem js8 (u:Ut) (l:List Ic) (op n:Int) (hl:l.length<=1000000):jhg 40 [dL u] l [.box 0 0,intA op,intA n] fun o l' r=>o=[dL u]/\l'=l++[(op,n)]/\r=intA l.length:=by
 refine jdz (qB jR j5 1) (fun _ _ h=>h) Tryz.func40 rfl (by kernel_rfl) rfl (by kernel_rfl) ?_;intro _;conv=>whnf
 refine⟨⟨by unfold maxLen;omega,by omega⟩,?_⟩;conv=>whnf
 refine⟨jJ (by omega),?_⟩;conv=>whnf
 refine⟨0,?_⟩;conv=>whnf
 refine⟨l++[(op,n)],by rw[List.length_append];rfl,?_,rfl,rfl,?_⟩
 ·rw[sF];rfl
 ·show intA (((l.length+1:Nat):Int)-1)=intA l.length
  congr 1;omega
theorem jsd (u:Ut) (l:List Ic) (k:Nat) (hk:k<l.length) (hl:l.length<=1000000):jhg 121 [dL u] l [.box 0 0,intA k] fun o l' r=>o=[dL u]/\l'=l.set k (l[k].1,l.length)/\r = .tup []:=by
 refine jdz (qB jr1 j5 1) (fun _ _ h=>h) Tryz.func121 rfl (by kernel_rfl) rfl (by kernel_rfl) ?_;intro _;conv=>whnf
 refine⟨⟨by omega,by omega⟩,?_⟩;conv=>whnf
 rw[show ((k:Int)).toNat=k from rfl];refine eU (by rw[jm0];omega) ?_;conv=>whnf
 refine⟨0,?_⟩;conv=>whnf
 refine⟨l.set k (l[k].1,l.length),by rw[List.length_set],?_,rfl,rfl,rfl⟩;exact jfJ l k hk l.length
theorem jfp (u:Ut) (n:Int) (s:ByteArray) (kids:List Nt) (hm:kids.length<=3002) (hf:∀ f ∈ kids,zR u f) (l:List Ic) (hl:l.length+zF kids+1<=1000000):nM 76 [dL u] l [.box 0 0,.agg (ntA (.mk 17 n s kids))] fun o l' r=>o=[dL u]/\l'=l++zQ (jF (jW u) kids) l.length++(if s=pMinus then [(10,0)] else [(14,0)])/\r = .tup []:=by
 have hk:=lK u 17 n s kids hm hf l (by omega)
 simp only[ntA,Nt.k,Nt.n,Nt.s,Nt.kids] at hk
 have hz:=kS (u:=u) kids l.length hf
 have hem:=fun (l:List Ic) (op n:Int) (h:l.length<=1000000)=>vZ u l op n h
 generalize zQ (jF (jW u) kids) l.length=y at *
 have hly:(l++y).length<=999999:=by rw[List.length_append];omega
 generalize l++y=l3 at *;simp only[ntA,Nt.k,Nt.n,Nt.s,Nt.kids];refine fX jR j5 1 Tryz.func76 rfl ?_;intro _;conv=>whnf
 refine yZ 0 0 1 [] hk ?_;rintro o n' cs' r ⟨l2,rfl,rfl,ho,hl2,rfl⟩;cases ho;subst hl2;conv=>whnf
 by_cases hs:s=pMinus
 ·rw[if_pos hs];refine j6 (b:=decide (s = ⟨#[45]⟩)) (jK hs) ?_;conv=>whnf
  refine yZ 0 1 2 [] (hem l2 10 0 (by omega)) ?_;rintro o n' cs' r ⟨l4,rfl,rfl,ho,hl4,rfl⟩;cases ho;conv=>whnf
  refine⟨2,?_⟩;conv=>whnf
  exact⟨l4,rfl,rfl,rfl,hl4,rfl⟩
 ·rw[if_neg hs];refine jU (b:=decide (s = ⟨#[45]⟩)) (jG hs) ?_;conv=>whnf
  refine yZ 0 1 2 [] (hem l2 14 0 (by omega)) ?_;rintro o n' cs' r ⟨l4,rfl,rfl,ho,hl4,rfl⟩;cases ho;conv=>whnf
  refine⟨2,?_⟩;conv=>whnf
  exact⟨l4,rfl,rfl,rfl,hl4,rfl⟩
theorem jjR {α:Type} : ∀ (a:List α) (x v:α) (b:List α),(a++x :: b).set a.length v=a++v :: b
 | [],x,v,b=>rfl
 | y :: a,x,v,b=>by
  show y :: (a++x :: b).set a.length v=_
  rw[jjR a x v b];rfl
theorem jlZ (u:Ut) (a b:List Ic) (op x:Int) (hl:(a++(op,x) :: b).length<=1000000):jhg 121 [dL u] (a++(op,x) :: b) [.box 0 0,intA a.length] fun o l' r=>o=[dL u]/\l'=a++(op,((a++(op,x) :: b).length:Int)) :: b/\r = .tup []:=by
 have hk:a.length<(a++(op,x) :: b).length:=by rw[List.length_append,List.length_cons];omega
 have h:=jsd u (a++(op,x) :: b) a.length hk hl
 have e:(a++(op,x) :: b)[a.length]=(op,x):=by simp
 rw[e,jjR] at h;exact h
def jnP (u:Ut) (nd:Nt) (f:Nat) (caps:List A) (g:Int->List Ic) (z:Nat):Prop:=(∀ at':Int,(g at').length<=z) /\ ∀ l:List Ic,l.length+z<=1000000->nM f [dL u,[.box 0 0],ntA nd] l caps fun o l' r=>o=[dL u,[.box 0 0],ntA nd]/\l'=l++g l.length/\r = .tup []
theorem choose_spec (u:Ut) (nd:Nt) (f:Nt) (hf:zR u f) (fy fn zy zn:Nat) (cy cn:List A) (gy gn:Int->List Ic) (hcy:cy=[.box 1 0,.box 2 0] ∨ cy=[.box 1 0]) (hcn:cn=[.box 1 0,.box 2 0] ∨ cn=[.box 1 0]) (hy:jnP u nd fy cy gy zy) (hn:jnP u nd fn cn gn zn) (l:List Ic) (hl:l.length+qW f+zy+zn+2<=1000000):nM 116 [dL u,[.box 0 0],ntA nd] l [.box 0 0,.agg (ntA f),.clo fy cy,.clo fn cn] fun o l' r=>o=[dL u,[.box 0 0],ntA nd]/\l'=l++pO (jI (jW u) f) gy gn l.length/\r = .tup []:=by
 have hz1:=hf.1 l.length
 have hN:=hf.2 l (by omega)
 have hem:=fun (l:List Ic) (op n:Int) (h:l.length<=1000000)=>vZ u l op n h
 generalize hC:jI (jW u) f l.length=C at *
 have e1:(l++C).length=l.length+C.length:=List.length_append
 have h1:=hem (l++C) 16 0 (by omega)
 have e2:(l++C++[(16,0)]).length=l.length+C.length+1:=by rw[List.length_append,e1];rfl
 have hz2:=hy.1 ((l++C++[((16:Int),(0:Int))]).length:Nat)
 have h2:=hy.2 (l++C++[(16,0)]) (by omega)
 generalize hY:gy ((l++C++[((16:Int),(0:Int))]).length:Nat)=Y at *
 have e3:(l++C++[(16,0)]++Y).length=l.length+C.length+1+Y.length:=by rw[List.length_append,e2]
 have h3:=hem (l++C++[(16,0)]++Y) 15 0 (by omega)
 have e4:l++C++[(16,0)]++Y++[(15,0)]=(l++C)++((16:Int),(0:Int)) :: (Y++[(15,0)]):=by simp
 have e5:((l++C)++((16:Int),(0:Int)) :: (Y++[((15:Int),(0:Int))])).length=l.length+C.length+1+Y.length+1:=by rw[<- e4,List.length_append,e3];rfl
 have h4:=jlZ u (l++C) (Y++[(15,0)]) 16 0 (by omega)
 rw[e5] at h4
 have e6:((l++C)++((16:Int),((l.length+C.length+1+Y.length+1:Nat):Int)) :: (Y++[((15:Int),(0:Int))])).length=l.length+C.length+1+Y.length+1:=by
  rw[List.length_append,List.length_cons,e1,List.length_append];simp;omega
 have hz3:=hn.1 ((l.length+C.length+1+Y.length+1:Nat):Int)
 have h5:=hn.2 ((l++C)++((16:Int),((l.length+C.length+1+Y.length+1:Nat):Int)) :: (Y++[((15:Int),(0:Int))])) (by omega)
 rw[e6] at h5;generalize hN2:gn ((l.length+C.length+1+Y.length+1:Nat):Int)=N at *
 have e7:(l++C)++((16:Int),((l.length+C.length+1+Y.length+1:Nat):Int)) :: (Y++[((15:Int),(0:Int))])++N=((l++C)++((16:Int),((l.length+C.length+1+Y.length+1:Nat):Int)) :: Y)++(15,0) :: N:=by simp
 have e8:((l++C)++((16:Int),((l.length+C.length+1+Y.length+1:Nat):Int)) :: Y).length=l.length+C.length+1+Y.length:=by
  rw[List.length_append,List.length_cons,e1];omega
 have e9:(((l++C)++((16:Int),((l.length+C.length+1+Y.length+1:Nat):Int)) :: Y)++((15:Int),(0:Int)) :: N).length=l.length+C.length+1+Y.length+1+N.length:=by
  rw[List.length_append,List.length_cons,e8];omega
 have h6:=jlZ u ((l++C)++((16:Int),((l.length+C.length+1+Y.length+1:Nat):Int)) :: Y) N 15 0 (by omega)
 rw[e8,e9] at h6
 have hfin:l++pO (jI (jW u) f) gy gn l.length=((l++C)++((16:Int),((l.length+C.length+1+Y.length+1:Nat):Int)) :: Y)++((15:Int),((l.length+C.length+1+Y.length+1+N.length:Nat):Int)) :: N:=by
  unfold pO;simp only[hC];rw[e2] at hY
  have k1:(l.length:Int)+(C.length:Int)+1=((l.length+C.length+1:Nat):Int):=by omega
  rw[k1,hY]
  have k2:((l.length+C.length+1:Nat):Int)+(Y.length:Int)+1=((l.length+C.length+1+Y.length+1:Nat):Int):=by omega
  rw[k2,hN2]
  have k3:((l.length+C.length+1+Y.length+1:Nat):Int)+(N.length:Int)=((l.length+C.length+1+Y.length+1+N.length:Nat):Int):=by omega
  rw[k3]
  simp
 rw[e3] at h3;rw[hfin];rw[e4] at h3;rw[e7] at h5
 rcases hcy with rfl | rfl <;> rcases hcn with rfl | rfl
 all_goals
  refine jdA (qB jR j5 3) Tryz.func116 rfl (by kernel_rfl) rfl ?_;intro _;conv=>whnf
  refine z7 (qB jR j5 3) (dr:=[]) ⟨0,rfl⟩ (.inl rfl) (by kernel_rfl) (fun _ _ h=>h.elim) ?_;conv=>whnf
  refine z7 (qB jR j5 3) (dr:=[]) ⟨0,rfl⟩ (.inl rfl) (by kernel_rfl) (fun _ _ h=>h.elim) ?_;conv=>whnf
  refine yZ 0 0 1 [] hN ?_;rintro o n' cs' r ⟨l2,rfl,rfl,ho,hl2,rfl⟩;cases ho;subst hl2;conv=>whnf
  refine z7 (qB jR j5 3) (dr:=[]) ⟨0,rfl⟩ (.inl rfl) (by kernel_rfl) (fun _ _ h=>h.elim) ?_;conv=>whnf
  refine yZ 0 1 2 [] h1 ?_;rintro o n' cs' r ⟨l3,rfl,rfl,ho,hl3,rfl⟩;cases ho;subst hl3;conv=>whnf
  refine z7 (qB jR j5 3) (dr:=[]) ⟨0,rfl⟩ (.inl rfl) (by kernel_rfl) (fun _ _ h=>h.elim) ?_;conv=>whnf
  refine jak [0,1,2] 2 3 [] rfl rfl (by decide) (by simp) (by simp) rfl rfl rfl (fun _=>h2) ?_;rintro o n' cs' r ⟨l4,rfl,rfl,ho,hl4,rfl⟩ _;cases ho;subst hl4;conv=>whnf
  refine z7 (qB jR j5 3) (dr:=[]) ⟨0,rfl⟩ (.inl rfl) (by kernel_rfl) (fun _ _ h=>h.elim) ?_;conv=>whnf
  refine yZ 0 3 4 [] h3 ?_;rintro o n' cs' r ⟨l5,rfl,rfl,ho,hl5,rfl⟩;cases ho;subst hl5;conv=>whnf
  refine jjy ?_;refine oO (l:=[_,_]) [] (qB jR j5 3) ⟨0,rfl⟩ (fun _ _ h=>h.elim) rfl rfl rfl ?_;conv=>whnf
  refine jgc (qB jR j5 3) ⟨1,rfl⟩ (.inl rfl) (by kernel_rfl) (fun _ _ h=>h.elim) ?_;conv=>whnf
  refine yZ 0 4 5 [] h4.r ?_;rintro o n' cs' r ⟨l6,rfl,rfl,ho,hl6,rfl⟩;cases ho;subst hl6;conv=>whnf
  refine jak [0,1,2] 5 6 [] rfl rfl (by decide) (by simp) (by simp) rfl rfl rfl (fun _=>h5) ?_;rintro o n' cs' r ⟨l7,rfl,rfl,ho,hl7,rfl⟩ _;cases ho;subst hl7;conv=>whnf
  refine⟨.inl rfl,?_⟩;unfold iG;refine jlI 0 6 7 [] rfl rfl rfl rfl rfl h6 ?_;rintro o n' cs' r ⟨l8,rfl,rfl,ho,hl8,rfl⟩;cases ho;conv=>whnf
  refine⟨7,?_⟩;conv=>whnf
  exact⟨l8,rfl,rfl,rfl,hl8,rfl⟩
end
theorem uK (u:Ut) (k n:Int) (s:ByteArray) (kids:List Nt) (i c:Nat) (hi:i<kids.length) (hf:zR u kids[i]) (hc:c=115/\i=1 ∨ c=119/\i=1 ∨ c=120/\i=2):jnP u (.mk k n s kids) c [.box 1 0,.box 2 0] (jI (jW u) kids[i]) (qW kids[i]):=by
 refine⟨hf.1,fun l hl => ?_⟩
 have hN:=hf.2 l hl
 have hrow:=zX kids i hi
 generalize kids[i]=g at *;simp only[ntA,Nt.k,Nt.n,Nt.s,Nt.kids]
 rcases hc with ⟨rfl,rfl⟩ | ⟨rfl,rfl⟩ | ⟨rfl,rfl⟩
 ·refine fX jqY j5 3 Tryz.func115 rfl ?_;intro _;conv=>whnf
  refine⟨by omega,?_⟩;conv=>whnf
  (generalize hrq:jC _ _ (qX kids)=rq;obtain rfl:rq=ntA g:=hrq.symm.trans (hrow);clear hrq;conv=>whnf)
  refine yZ 0 0 1 [] hN ?_;rintro o n' cs' r ⟨l2,rfl,rfl,ho,hl2,rfl⟩;cases ho;conv=>whnf
  refine⟨1,?_⟩;conv=>whnf
  exact⟨l2,rfl,rfl,rfl,hl2,rfl⟩
 ·refine fX jqZ j5 3 Tryz.func119 rfl ?_;intro _;conv=>whnf
  refine⟨by omega,?_⟩;conv=>whnf
  (generalize hrq:jC _ _ (qX kids)=rq;obtain rfl:rq=ntA g:=hrq.symm.trans (hrow);clear hrq;conv=>whnf)
  refine yZ 0 0 1 [] hN ?_;rintro o n' cs' r ⟨l2,rfl,rfl,ho,hl2,rfl⟩;cases ho;conv=>whnf
  refine⟨1,?_⟩;conv=>whnf
  exact⟨l2,rfl,rfl,rfl,hl2,rfl⟩
 ·refine fX jr0 j5 3 Tryz.func120 rfl ?_;intro _;conv=>whnf
  refine⟨by omega,?_⟩;conv=>whnf
  (generalize hrq:jC _ _ (qX kids)=rq;obtain rfl:rq=ntA g:=hrq.symm.trans (hrow);clear hrq;conv=>whnf)
  refine yZ 0 0 1 [] hN ?_;rintro o n' cs' r ⟨l2,rfl,rfl,ho,hl2,rfl⟩;cases ho;conv=>whnf
  refine⟨1,?_⟩;conv=>whnf
  exact⟨l2,rfl,rfl,rfl,hl2,rfl⟩
theorem jfk (u:Ut) (k n:Int) (s:ByteArray) (kids:List Nt) (c:Nat) (v:Int) (hc:c=117/\v=0 ∨ c=118/\v=1):jnP u (.mk k n s kids) c [.box 1 0] (fun _=>[(1,v)]) 1:=by
 refine⟨fun _=>Nat.le_refl _,fun l hl => ?_⟩
 have hN:=vZ u l 1 v (by omega)
 simp only[ntA,Nt.k,Nt.n,Nt.s,Nt.kids]
 rcases hc with ⟨rfl,rfl⟩ | ⟨rfl,rfl⟩
 ·refine fX jR j5 3 Tryz.func117 rfl ?_;intro _;conv=>whnf
  refine yZ 0 0 1 [] hN ?_;rintro o n' cs' r ⟨l2,rfl,rfl,ho,hl2,rfl⟩;cases ho;conv=>whnf
  refine⟨1,?_⟩;conv=>whnf
  exact⟨l2,rfl,rfl,rfl,hl2,rfl⟩
 ·refine fX jR j5 3 Tryz.func118 rfl ?_;intro _;conv=>whnf
  refine yZ 0 0 1 [] hN ?_;rintro o n' cs' r ⟨l2,rfl,rfl,ho,hl2,rfl⟩;cases ho;conv=>whnf
  refine⟨1,?_⟩;conv=>whnf
  exact⟨l2,rfl,rfl,rfl,hl2,rfl⟩
theorem cW (k n:Int) (s:ByteArray) (kids:List Nt):ntA (.mk k n s kids)=[intA k,intA n,jX s,.sl 4 kids.length (qX kids)]:=rfl
theorem jfb (u:Ut) (n:Int) (s:ByteArray) (kids:List Nt) (h3:kids.length=3) (hf:∀ f ∈ kids,zR u f) (l:List Ic) (hl:l.length+(kids.map qW).sum+2<=1000000):nM 78 [dL u] l [.box 0 0,.agg (ntA (.mk 2 n s kids))] fun o l' r=>o=[dL u]/\l'=l++pO (jI (jW u) (kids[0]'(by omega))) (jI (jW u) (kids[1]'(by omega))) (jI (jW u) (kids[2]'(by omega))) l.length/\r = .tup []:=by
 have h1:=uK u 2 n s kids 1 119 (by omega) (hf _ (List.getElem_mem _)) (.inr (.inl ⟨rfl,rfl⟩))
 have h2:=uK u 2 n s kids 2 120 (by omega) (hf _ (List.getElem_mem _)) (.inr (.inr ⟨rfl,rfl⟩))
 have hsum:qW (kids[0]'(by omega))+qW (kids[1]'(by omega))+qW (kids[2]'(by omega))<=(kids.map qW).sum:=by
  match kids,h3 with
  | [a,b,c],_=>simp;omega
 have hch:=choose_spec u _ (kids[0]'(by omega)) (hf _ (List.getElem_mem _)) _ _ _ _ _ _ _ _ (.inl rfl) (.inl rfl) h1 h2 l (by omega)
 have hrow:=zX kids 0 (by omega)
 generalize kids[0]'(by omega)=g at *;rw[cW] at hch ⊢;refine fX jsI j5 1 Tryz.func78 rfl ?_;intro _;conv=>whnf
 refine⟨by omega,?_⟩;conv=>whnf
 (generalize hrq:jC _ _ (qX kids)=rq;obtain rfl:rq=ntA g:=hrq.symm.trans (hrow);clear hrq;conv=>whnf)
 refine jak [0,1,2] 0 1 [] rfl rfl (by decide) (by simp) (by simp) rfl rfl rfl (fun _=>hch) ?_;rintro o n' cs' r ⟨l2,rfl,rfl,ho,hl2,rfl⟩ _;cases ho;conv=>whnf
 refine⟨1,?_⟩;conv=>whnf
 exact⟨l2,rfl,rfl,rfl,hl2,rfl⟩
theorem jnX (u:Ut) (n:Int) (kids:List Nt) (h3:kids.length=2) (hf:∀ f ∈ kids,zR u f) (l:List Ic) (hl:l.length+(kids.map qW).sum+3<=1000000):nM 77 [dL u] l [.box 0 0,.agg (ntA (.mk 18 n vI kids))] fun o l' r=>o=[dL u]/\l'=l++pO (jI (jW u) (kids[0]'(by omega))) (jI (jW u) (kids[1]'(by omega))) (fun _=>[(1,0)]) l.length/\r = .tup []:=by
 have h1:=uK u 18 n vI kids 1 115 (by omega) (hf _ (List.getElem_mem _)) (.inl ⟨rfl,rfl⟩)
 have h2:=jfk u 18 n vI kids 117 0 (.inl ⟨rfl,rfl⟩)
 have hsum:qW (kids[0]'(by omega))+qW (kids[1]'(by omega))<=(kids.map qW).sum:=by
  match kids,h3 with
  | [a,b],_=>simp
 have hch:=choose_spec u _ (kids[0]'(by omega)) (hf _ (List.getElem_mem _)) _ _ _ _ _ _ _ _ (.inl rfl) (.inr rfl) h1 h2 l (by omega)
 have hrow:=zX kids 0 (by omega)
 generalize kids[0]'(by omega)=g at *;rw[cW] at hch ⊢;refine fX fG j5 1 Tryz.func77 rfl ?_;intro _;conv=>whnf
 refine⟨by omega,?_⟩;conv=>whnf
 (generalize hrq:jC _ _ (qX kids)=rq;obtain rfl:rq=ntA g:=hrq.symm.trans (hrow);clear hrq;conv=>whnf)
 refine jak [0,1,2] 0 1 [] rfl rfl (by decide) (by simp) (by simp) rfl rfl rfl (fun _=>hch) ?_;rintro o n' cs' r ⟨l2,rfl,rfl,ho,hl2,rfl⟩ _;cases ho;conv=>whnf
 refine⟨1,?_⟩;conv=>whnf
 exact⟨l2,rfl,rfl,rfl,hl2,rfl⟩
theorem jq1 (u:Ut) (n:Int) (kids:List Nt) (h3:kids.length=2) (hf:∀ f ∈ kids,zR u f) (l:List Ic) (hl:l.length+(kids.map qW).sum+3<=1000000):nM 77 [dL u] l [.box 0 0,.agg (ntA (.mk 18 n pOr kids))] fun o l' r=>o=[dL u]/\l'=l++pO (jI (jW u) (kids[0]'(by omega))) (fun _=>[(1,1)]) (jI (jW u) (kids[1]'(by omega))) l.length/\r = .tup []:=by
 have h1:=uK u 18 n pOr kids 1 115 (by omega) (hf _ (List.getElem_mem _)) (.inl ⟨rfl,rfl⟩)
 have h2:=jfk u 18 n pOr kids 118 1 (.inr ⟨rfl,rfl⟩)
 have hsum:qW (kids[0]'(by omega))+qW (kids[1]'(by omega))<=(kids.map qW).sum:=by
  match kids,h3 with
  | [a,b],_=>simp
 have hch:=choose_spec u _ (kids[0]'(by omega)) (hf _ (List.getElem_mem _)) _ _ _ _ _ _ _ _ (.inr rfl) (.inl rfl) h2 h1 l (by omega)
 have hrow:=zX kids 0 (by omega)
 generalize kids[0]'(by omega)=g at *;rw[cW] at hch ⊢;refine fX fG j5 1 Tryz.func77 rfl ?_;intro _;conv=>whnf
 refine⟨by omega,?_⟩;conv=>whnf
 (generalize hrq:jC _ _ (qX kids)=rq;obtain rfl:rq=ntA g:=hrq.symm.trans (hrow);clear hrq;conv=>whnf)
 refine jak [0,1,2] 0 1 [] rfl rfl (by decide) (by simp) (by simp) rfl rfl rfl (fun _=>hch) ?_;rintro o n' cs' r ⟨l2,rfl,rfl,ho,hl2,rfl⟩ _;cases ho;conv=>whnf
 refine⟨1,?_⟩;conv=>whnf
 exact⟨l2,rfl,rfl,rfl,hl2,rfl⟩
def opBin:List ByteArray:=[cZ,pMinus,vU,yB,pLt,pLe,jmB,pGt,pGe,pNe]
theorem jq0 (u:Ut) (n:Int) (s:ByteArray) (hs:(opBin.any fun x=>decide (s=x))=true) (kids:List Nt) (hm:kids.length<=3002) (hf:∀ f ∈ kids,zR u f) (l:List Ic) (hl:l.length+zF kids+2<=1000000):nM 77 [dL u] l [.box 0 0,.agg (ntA (.mk 18 n s kids))] fun o l' r=>o=[dL u]/\l'=l++zQ (jF (jW u) kids) l.length++opC s/\r = .tup []:=by
 have hs:s ∈ opBin:=by
  rw[List.any_eq_true] at hs
  obtain⟨x,h1,h2⟩ := hs
  rw[decide_eq_true_eq] at h2;rw[h2];exact h1
 have hk:=lK u 18 n s kids hm hf l (by omega)
 have hz:=kS (u:=u) kids l.length hf
 have hem:=fun (l:List Ic) (op n:Int) (h:l.length<=1000000)=>vZ u l op n h
 generalize zQ (jF (jW u) kids) l.length=y at *
 have hly:(l++y).length<=999998:=by rw[List.length_append];omega
 generalize l++y=l3 at *;rw[cW] at hk ⊢;unfold opBin at hs;simp only[List.mem_cons,List.not_mem_nil,or_false] at hs
 rcases hs with rfl | rfl | rfl | rfl | rfl | rfl | rfl | rfl | rfl | rfl
 ·refine fX fG j5 1 Tryz.func77 rfl ?_;intro _;conv=>whnf
  refine yZ 0 0 1 [] hk ?_;rintro o n' cs' r ⟨l2,rfl,rfl,ho,hl2,rfl⟩;cases ho;subst hl2;conv=>whnf
  refine yZ 0 1 3 [] (hem l2 6 0 (by omega)) ?_;rintro o n' cs' r ⟨l4,rfl,rfl,ho,hl4,rfl⟩;cases ho;conv=>whnf
  refine⟨3,?_⟩;conv=>whnf
  exact⟨l4,rfl,rfl,rfl,hl4,rfl⟩
 ·refine fX fG j5 1 Tryz.func77 rfl ?_;intro _;conv=>whnf
  refine yZ 0 0 1 [] hk ?_;rintro o n' cs' r ⟨l2,rfl,rfl,ho,hl2,rfl⟩;cases ho;subst hl2;conv=>whnf
  refine yZ 0 1 3 [] (hem l2 7 0 (by omega)) ?_;rintro o n' cs' r ⟨l4,rfl,rfl,ho,hl4,rfl⟩;cases ho;conv=>whnf
  refine⟨3,?_⟩;conv=>whnf
  exact⟨l4,rfl,rfl,rfl,hl4,rfl⟩
 ·refine fX fG j5 1 Tryz.func77 rfl ?_;intro _;conv=>whnf
  refine yZ 0 0 1 [] hk ?_;rintro o n' cs' r ⟨l2,rfl,rfl,ho,hl2,rfl⟩;cases ho;subst hl2;conv=>whnf
  refine yZ 0 1 3 [] (hem l2 8 0 (by omega)) ?_;rintro o n' cs' r ⟨l4,rfl,rfl,ho,hl4,rfl⟩;cases ho;conv=>whnf
  refine⟨3,?_⟩;conv=>whnf
  exact⟨l4,rfl,rfl,rfl,hl4,rfl⟩
 ·refine fX fG j5 1 Tryz.func77 rfl ?_;intro _;conv=>whnf
  refine yZ 0 0 1 [] hk ?_;rintro o n' cs' r ⟨l2,rfl,rfl,ho,hl2,rfl⟩;cases ho;subst hl2;conv=>whnf
  refine yZ 0 1 3 [] (hem l2 9 0 (by omega)) ?_;rintro o n' cs' r ⟨l4,rfl,rfl,ho,hl4,rfl⟩;cases ho;conv=>whnf
  refine⟨3,?_⟩;conv=>whnf
  exact⟨l4,rfl,rfl,rfl,hl4,rfl⟩
 ·refine fX fG j5 1 Tryz.func77 rfl ?_;intro _;conv=>whnf
  refine yZ 0 0 1 [] hk ?_;rintro o n' cs' r ⟨l2,rfl,rfl,ho,hl2,rfl⟩;cases ho;subst hl2;conv=>whnf
  refine yZ 0 1 3 [] (hem l2 11 0 (by omega)) ?_;rintro o n' cs' r ⟨l4,rfl,rfl,ho,hl4,rfl⟩;cases ho;conv=>whnf
  refine⟨3,?_⟩;conv=>whnf
  exact⟨l4,rfl,rfl,rfl,hl4,rfl⟩
 ·refine fX fG j5 1 Tryz.func77 rfl ?_;intro _;conv=>whnf
  refine yZ 0 0 1 [] hk ?_;rintro o n' cs' r ⟨l2,rfl,rfl,ho,hl2,rfl⟩;cases ho;subst hl2;conv=>whnf
  refine yZ 0 1 3 [] (hem l2 12 0 (by omega)) ?_;rintro o n' cs' r ⟨l4,rfl,rfl,ho,hl4,rfl⟩;cases ho;conv=>whnf
  refine⟨3,?_⟩;conv=>whnf
  exact⟨l4,rfl,rfl,rfl,hl4,rfl⟩
 ·refine fX fG j5 1 Tryz.func77 rfl ?_;intro _;conv=>whnf
  refine yZ 0 0 1 [] hk ?_;rintro o n' cs' r ⟨l2,rfl,rfl,ho,hl2,rfl⟩;cases ho;subst hl2;conv=>whnf
  refine yZ 0 1 3 [] (hem l2 13 0 (by omega)) ?_;rintro o n' cs' r ⟨l4,rfl,rfl,ho,hl4,rfl⟩;cases ho;conv=>whnf
  refine⟨3,?_⟩;conv=>whnf
  exact⟨l4,rfl,rfl,rfl,hl4,rfl⟩
 ·refine fX fG j5 1 Tryz.func77 rfl ?_;intro _;conv=>whnf
  refine yZ 0 0 1 [] hk ?_;rintro o n' cs' r ⟨l2,rfl,rfl,ho,hl2,rfl⟩;cases ho;subst hl2;conv=>whnf
  refine yZ 0 1 3 [] (hem l2 12 0 (by omega)) ?_;rintro o n' cs' r ⟨l4,rfl,rfl,ho,hl4,rfl⟩;cases ho
  have hz4:l4.length<=1000000:=by rw[hl4,List.length_append,List.length_singleton];omega
  conv=>whnf
  refine yZ 0 3 4 [] (hem l4 14 0 hz4) ?_;rintro o n' cs' r ⟨l5,rfl,rfl,ho,hl5,rfl⟩;cases ho;conv=>whnf
  refine⟨4,?_⟩;conv=>whnf
  exact⟨l5,rfl,rfl,rfl,by rw[hl5,hl4,List.append_assoc];rfl,rfl⟩
 ·refine fX fG j5 1 Tryz.func77 rfl ?_;intro _;conv=>whnf
  refine yZ 0 0 1 [] hk ?_;rintro o n' cs' r ⟨l2,rfl,rfl,ho,hl2,rfl⟩;cases ho;subst hl2;conv=>whnf
  refine yZ 0 1 3 [] (hem l2 11 0 (by omega)) ?_;rintro o n' cs' r ⟨l4,rfl,rfl,ho,hl4,rfl⟩;cases ho
  have hz4:l4.length<=1000000:=by rw[hl4,List.length_append,List.length_singleton];omega
  conv=>whnf
  refine yZ 0 3 4 [] (hem l4 14 0 hz4) ?_;rintro o n' cs' r ⟨l5,rfl,rfl,ho,hl5,rfl⟩;cases ho;conv=>whnf
  refine⟨4,?_⟩;conv=>whnf
  exact⟨l5,rfl,rfl,rfl,by rw[hl5,hl4,List.append_assoc];rfl,rfl⟩
 ·refine fX fG j5 1 Tryz.func77 rfl ?_;intro _;conv=>whnf
  refine yZ 0 0 1 [] hk ?_;rintro o n' cs' r ⟨l2,rfl,rfl,ho,hl2,rfl⟩;cases ho;subst hl2;conv=>whnf
  refine yZ 0 1 3 [] (hem l2 13 0 (by omega)) ?_;rintro o n' cs' r ⟨l4,rfl,rfl,ho,hl4,rfl⟩;cases ho
  have hz4:l4.length<=1000000:=by rw[hl4,List.length_append,List.length_singleton];omega
  conv=>whnf
  refine yZ 0 3 4 [] (hem l4 14 0 hz4) ?_;rintro o n' cs' r ⟨l5,rfl,rfl,ho,hl5,rfl⟩;cases ho;conv=>whnf
  refine⟨4,?_⟩;conv=>whnf
  exact⟨l5,rfl,rfl,rfl,by rw[hl5,hl4,List.append_assoc];rfl,rfl⟩
def whC (c b:Int->List Ic) (at':Int):List Ic:=c at'++(16,at'+(c at').length+(b (at'+(c at').length+1)).length+2) :: (b (at'+(c at').length+1)++[(15,at')])
theorem jkr (u:Ut) (n:Int) (s:ByteArray) (kids:List Nt) (h3:kids.length=2) (hf:∀ f ∈ kids,zR u f) (l:List Ic) (hl:l.length+(kids.map qW).sum+2<=1000000):nM 79 [dL u] l [.box 0 0,.agg (ntA (.mk 3 n s kids))] fun o l' r=>o=[dL u]/\l'=l++whC (jI (jW u) (kids[0]'(by omega))) (jI (jW u) (kids[1]'(by omega))) l.length/\r = .tup []:=by
 have hsum:qW (kids[0]'(by omega))+qW (kids[1]'(by omega))<=(kids.map qW).sum:=by
  match kids,h3 with
  | [a,b],_=>simp
 have hem:=fun (l:List Ic) (op n:Int) (h:l.length<=1000000)=>vZ u l op n h
 have ha:=hf (kids[0]'(by omega)) (List.getElem_mem _)
 have hb:=hf (kids[1]'(by omega)) (List.getElem_mem _)
 have hr0:=zX kids 0 (by omega)
 have hr1:=zX kids 1 (by omega)
 generalize kids[0]'(by omega)=a at *;generalize kids[1]'(by omega)=b at *
 have hz1:=ha.1 l.length
 have h0:=ha.2 l (by omega)
 generalize hC:jI (jW u) a l.length=C at *
 have e1:(l++C).length=l.length+C.length:=List.length_append
 have h1:=hem (l++C) 16 0 (by omega)
 have e2:(l++C++[(16,0)]).length=l.length+C.length+1:=by rw[List.length_append,e1];rfl
 have hz2:=hb.1 ((l++C++[((16:Int),(0:Int))]).length:Nat)
 have h2:=hb.2 (l++C++[(16,0)]) (by omega)
 generalize hB:jI (jW u) b ((l++C++[((16:Int),(0:Int))]).length:Nat)=B at *
 have e3:(l++C++[(16,0)]++B).length=l.length+C.length+1+B.length:=by rw[List.length_append,e2]
 have h4:=js8 u (l++C++[(16,0)]++B) 15 l.length (by omega)
 have e4:l++C++[(16,0)]++B++[(15,(l.length:Int))]=(l++C)++((16:Int),(0:Int)) :: (B++[(15,(l.length:Int))]):=by simp
 have e5:((l++C)++((16:Int),(0:Int)) :: (B++[((15:Int),(l.length:Int))])).length=l.length+C.length+1+B.length+1:=by rw[<- e4,List.length_append,e3];rfl
 have h5:=jlZ u (l++C) (B++[(15,(l.length:Int))]) 16 0 (by omega)
 rw[e5] at h5;rw[e4] at h4
 have hfin:l++whC (jI (jW u) a) (jI (jW u) b) l.length=(l++C)++((16:Int),((l.length+C.length+1+B.length+1:Nat):Int)) :: (B++[((15:Int),(l.length:Int))]):=by
  unfold whC;simp only[hC];rw[e2] at hB
  have k1:(l.length:Int)+(C.length:Int)+1=((l.length+C.length+1:Nat):Int):=by omega
  rw[k1,hB]
  have k2:(l.length:Int)+(C.length:Int)+(B.length:Int)+2=((l.length+C.length+1+B.length+1:Nat):Int):=by omega
  rw[k2]
  simp
 rw[hfin];rw[cW];refine jdA (qB jR j5 1) Tryz.func79 rfl (by kernel_rfl) rfl ?_;intro _;conv=>whnf
 refine z7 (qB jR j5 1) (dr:=[]) ⟨0,rfl⟩ (.inl rfl) (by kernel_rfl) (fun _ _ h=>h.elim) ?_;conv=>whnf
 refine z7 (qB jR j5 1) (dr:=[]) ⟨0,rfl⟩ (.inl rfl) (by kernel_rfl) (fun _ _ h=>h.elim) ?_;conv=>whnf
 refine z7 (qB jR j5 1) (dr:=[]) ⟨0,rfl⟩ (.inl rfl) (by kernel_rfl) (fun _ _ h=>h.elim) ?_;conv=>whnf
 refine⟨by omega,?_⟩;conv=>whnf
 (generalize hrq:jC _ _ (qX kids)=rq;obtain rfl:rq=ntA a:=hrq.symm.trans (hr0);clear hrq;conv=>whnf)
 refine yZ 0 0 1 [] h0 ?_;rintro o n' cs' r ⟨l2,rfl,rfl,ho,hl2,rfl⟩;cases ho;subst hl2;conv=>whnf
 refine z7 (qB jR j5 1) (dr:=[]) ⟨0,rfl⟩ (.inl rfl) (by kernel_rfl) (fun _ _ h=>h.elim) ?_;conv=>whnf
 refine yZ 0 1 2 [] h1 ?_;rintro o n' cs' r ⟨l3,rfl,rfl,ho,hl3,rfl⟩;cases ho;subst hl3;conv=>whnf
 refine jjy ?_;refine oO (l:=[_,_]) [] (qB jR j5 1) ⟨0,rfl⟩ (fun _ _ h=>h.elim) rfl rfl rfl ?_;conv=>whnf
 refine z7 (qB jR j5 1) ⟨1,rfl⟩ (.inl rfl) (by kernel_rfl) (fun _ _ h=>h.elim) ?_;conv=>whnf
 refine⟨by omega,?_⟩;conv=>whnf
 (generalize hrq:jC _ _ (qX kids)=rq;obtain rfl:rq=ntA b:=hrq.symm.trans (hr1);clear hrq;conv=>whnf)
 refine yZ 0 2 3 [] h2 ?_;rintro o n' cs' r ⟨l4,rfl,rfl,ho,hl4,rfl⟩;cases ho;subst hl4;conv=>whnf
 refine oO (l:=[_,_]) [] (qB jR j5 1) ⟨1,rfl⟩ (fun _ _ h=>h.elim) rfl rfl rfl ?_;conv=>whnf
 refine⟨.inl rfl,?_⟩;unfold iG;refine jlI 0 3 4 [] rfl rfl rfl rfl rfl h4 ?_;rintro o n' cs' r ⟨l5,rfl,rfl,ho,hl5,rfl⟩;cases ho;subst hl5;conv=>whnf
 refine jlI 0 4 5 [] rfl rfl rfl rfl rfl h5 ?_;rintro o n' cs' r ⟨l6,rfl,rfl,ho,hl6,rfl⟩;cases ho;conv=>whnf
 refine⟨5,?_⟩;conv=>whnf
 exact⟨l6,rfl,rfl,rfl,hl6,rfl⟩
theorem jah {c y n:Int->List Ic} {a b d:Nat} (h1:∀ at':Int,(c at').length<=a) (h2:∀ at':Int,(y at').length<=b) (h3:∀ at':Int,(n at').length<=d) (at':Int):(pO c y n at').length<=a+b+d+2:=by
 unfold pO;simp only[List.length_append,List.length_cons]
 have q1:=h1 at'
 have q2:=h2 (at'+(c at').length+1)
 have q3:=h3 (at'+(c at').length+1+(y (at'+(c at').length+1)).length+1)
 omega
theorem jgd (s:ByteArray):(opC s).length<=2:=by
 unfold opC
 repeat' split
 all_goals decide
theorem jbF:∀ l:List Nt,zF l=(l.map qW).sum
 | []=>rfl
 | f :: l=>by rw[List.map_cons,List.sum_cons,<- jbF l];rfl
theorem bP (u:Ut) (k n:Int) (s:ByteArray) (kids:List Nt) (l:List Ic) (r:List Ic) (c:Nat) (hc:k=17/\c=76 ∨ k=18/\c=77 ∨ k=2/\c=78 ∨ k=3/\c=79 ∨ k=11/\c=80 ∨ (k ≠ 17/\k ≠ 18/\k ≠ 2/\k ≠ 3/\k ≠ 11)/\c=81)
  (h:nM c [dL u] l [.box 0 0,.agg (ntA (.mk k n s kids))] fun o l' q=>o=[dL u]/\l'=l++r/\q = .tup []):nM 39 [dL u] l [.box 0 0,.agg (ntA (.mk k n s kids))] fun o l' q=>o=[dL u]/\l'=l++r/\q = .tup []:=by
 rw[cW] at h ⊢
 rcases hc with ⟨rfl,rfl⟩ | ⟨rfl,rfl⟩ | ⟨rfl,rfl⟩ | ⟨rfl,rfl⟩ | ⟨rfl,rfl⟩ | ⟨⟨k1,k2,k3,k4,k5⟩,rfl⟩
 all_goals
  refine fX jR j5 1 Tryz.func39 rfl ?_;intro _;conv=>whnf
 all_goals try
  refine yZ 0 0 2 [] h ?_;rintro o n' cs' r ⟨l2,rfl,rfl,ho,hl2,rfl⟩;cases ho;conv=>whnf
  refine⟨2,?_⟩;conv=>whnf
  exact⟨l2,rfl,rfl,rfl,hl2,rfl⟩
 rw[jG k1];conv=>whnf
 rw[jG k2];conv=>whnf
 rw[jG k3];conv=>whnf
 rw[jG k4];conv=>whnf
 rw[jG k5];conv=>whnf
 refine yZ 0 0 2 [] h ?_;rintro o n' cs' r ⟨l2,rfl,rfl,ho,hl2,rfl⟩;cases ho;conv=>whnf
 refine⟨2,?_⟩;conv=>whnf
 exact⟨l2,rfl,rfl,rfl,hl2,rfl⟩
theorem jiU {l:List ByteArray} {s:ByteArray} (h:(l.any fun x=>decide (s=x))=true):s ∈ l:=by
 rw[List.any_eq_true] at h
 obtain⟨x,h1,h2⟩ := h
 rw[decide_eq_true_eq] at h2;rw[h2];exact h1
theorem jd9 {s:ByteArray} (h:(opAll.any fun x=>decide (s=x))=true) (h1:s ≠ vI) (h2:s ≠ pOr):(opBin.any fun x=>decide (s=x))=true:=by
 have h:=jiU h
 unfold opAll at h;simp only[List.mem_cons,List.not_mem_nil,or_false] at h
 rcases h with h | h | h | h | h | h | h | h | h | h | h | h
 ·exact absurd h h1
 ·exact absurd h h2
 all_goals (rw[h];decide)
theorem rG (u:Ut) (hu:uH u):∀ f:Nt,rT f->zR u f
 | .mk k n s kids,hw=>by
  unfold rT at hw
  obtain⟨ha,hwk,-⟩ := hw
  have hm:=jhm ha
  have hk:∀ f ∈ kids,zR u f:=fun f hf=>rG u hu f (lB hwk hf)
  have hsq:=fun at' => kS (u:=u) kids at' hk
  have hss:=jbF kids
  unfold zR
  show (∀ at':Int,(kQ (jW u) k n s (jF (jW u) kids) at').length<=3+zF kids) /\ ∀ l:List Ic,l.length+(3+zF kids)<=1000000->nM _ [dL u] l _ fun o l' r=>o=[dL u]/\l'=l++kQ (jW u) k n s (jF (jW u) kids) l.length/\r = .tup []
  have lf:∀ (hc:k=12 ∨ k=13 ∨ k=14 ∨ k=15/\(builtL.any fun x=>decide (s=x))=true ∨ k=1 ∨ k=4 ∨ k=5 ∨ k=6 ∨ k=16 ∨ k=7 ∨ k=10 ∨ k=8 ∨ k=9),(∀ at',kQ (jW u) k n s (jF (jW u) kids) at'=zQ (jF (jW u) kids) at'++[jpw (jW u) k n s])->(∀ at':Int,(kQ (jW u) k n s (jF (jW u) kids) at').length<=3+zF kids) /\ ∀ l:List Ic,l.length+(3+zF kids)<=1000000->nM 39 [dL u] l [.box 0 0,.agg (ntA (.mk k n s kids))] fun o l' r=>o=[dL u]/\l'=l++kQ (jW u) k n s (jF (jW u) kids) l.length/\r = .tup []:=fun hc he=>by
   refine⟨fun at' => ?_,fun l hl => ?_⟩
   ·have:=hsq at'
    rw[he,List.length_append,List.length_singleton];omega
   ·have h1:=jko u hu k n s kids hm hk hc l (by omega)
    rw[List.append_assoc,<- he] at h1;refine bP u k n s kids l _ _ (.inr (.inr (.inr (.inr (.inr ⟨?_,rfl⟩))))) h1;omega
  unfold arN at ha
  by_cases h11:k=11
  ·subst h11
   have he:∀ at',kQ (jW u) 11 n s (jF (jW u) kids) at'=zQ (jF (jW u) kids) at':=fun at' => List.append_nil _
   refine⟨fun at' => by rw[he];have:=hsq at';omega,fun l hl => ?_⟩;rw[he];exact bP u 11 n s kids l _ _ (.inr (.inr (.inr (.inr (.inl ⟨rfl,rfl⟩))))) (lK u 11 n s kids hm hk l (by omega))
  rw[if_neg h11] at ha
  by_cases h0:k=12 ∨ k=13 ∨ k=14 ∨ k=5 ∨ k=6 ∨ k=7 ∨ k=10
  ·rw[if_pos h0,decide_eq_true_eq] at ha
   obtain rfl:=List.eq_nil_of_length_eq_zero ha
   rcases h0 with rfl | rfl | rfl | rfl | rfl | rfl | rfl
   all_goals exact lf (by omega) fun at' => rfl
  rw[if_neg h0] at ha
  by_cases h15:k=15
  ·rw[if_pos h15,Bool.and_eq_true,decide_eq_true_eq] at ha;subst h15
   obtain⟨ha,hb⟩ := ha
   obtain rfl:=List.eq_nil_of_length_eq_zero ha
   exact lf (.inr (.inr (.inr (.inl ⟨rfl,hb⟩)))) fun at' => rfl
  rw[if_neg h15] at ha
  by_cases h1:k=16 ∨ k=1 ∨ k=9
  ·rcases h1 with rfl | rfl | rfl
   all_goals exact lf (by omega) fun at' => rfl
  rw[if_neg h1] at ha
  by_cases h17:k=17
  ·subst h17
   have he:∀ at',kQ (jW u) 17 n s (jF (jW u) kids) at'=zQ (jF (jW u) kids) at'++(if s=pMinus then [(10,0)] else [(14,0)]):=fun at' => rfl
   refine⟨fun at' => ?_,fun l hl => ?_⟩
   ·have:=hsq at'
    rw[he,List.length_append]
    split <;> simp only[List.length_singleton] <;> omega
   ·rw[he];refine bP u 17 n s kids l _ _ (.inl ⟨rfl,rfl⟩) ?_
    have h2:=jfp u n s kids hm hk l (by omega)
    rw[List.append_assoc] at h2;exact h2
  rw[if_neg h17] at ha
  by_cases h18:k=18
  ·rw[if_pos h18,Bool.and_eq_true,decide_eq_true_eq] at ha;subst h18
   obtain⟨ha,hb⟩ := ha
   have k0:=hk (kids[0]'(by omega)) (List.getElem_mem _)
   have k1:=hk (kids[1]'(by omega)) (List.getElem_mem _)
   have hsum:qW (kids[0]'(by omega))+qW (kids[1]'(by omega))<=(kids.map qW).sum:=by
    match kids,ha with
    | [a,b],_=>simp
   have g0:(jF (jW u) kids).getD 0 noI=jI (jW u) (kids[0]'(by omega)):=by
    match kids,ha with
    | [a,b],_=>rfl
   have g1:(jF (jW u) kids).getD 1 noI=jI (jW u) (kids[1]'(by omega)):=by
    match kids,ha with
    | [a,b],_=>rfl
   by_cases hA:s=vI
   ·subst hA
    have he:∀ at',kQ (jW u) 18 n vI (jF (jW u) kids) at'=pO (jI (jW u) (kids[0]'(by omega))) (jI (jW u) (kids[1]'(by omega))) (fun _=>[(1,0)]) at':=fun at' => by
     rw[<- g0,<- g1];rfl
    refine⟨fun at' => ?_,fun l hl => ?_⟩
    ·have:=jah k0.1 k1.1 (fun _=>Nat.le_refl 1) (n:=fun _=>[((1:Int),(0:Int))]) at'
     rw[he];omega
    ·rw[he];exact bP u 18 n vI kids l _ _ (.inr (.inl ⟨rfl,rfl⟩)) (jnX u n kids ha hk l (by omega))
   by_cases hO:s=pOr
   ·subst hO
    have he:∀ at',kQ (jW u) 18 n pOr (jF (jW u) kids) at'=pO (jI (jW u) (kids[0]'(by omega))) (fun _=>[(1,1)]) (jI (jW u) (kids[1]'(by omega))) at':=fun at' => by
     rw[<- g0,<- g1];rfl
    refine⟨fun at' => ?_,fun l hl => ?_⟩
    ·have:=jah k0.1 (fun _=>Nat.le_refl 1) k1.1 (y:=fun _=>[((1:Int),(1:Int))]) at'
     rw[he];omega
    ·rw[he];exact bP u 18 n pOr kids l _ _ (.inr (.inl ⟨rfl,rfl⟩)) (jq1 u n kids ha hk l (by omega))
   have he:∀ at',kQ (jW u) 18 n s (jF (jW u) kids) at'=zQ (jF (jW u) kids) at'++opC s:=fun at' => by
    unfold kQ;rw[if_neg (by decide),if_neg (by decide),if_neg (by decide),if_neg (by decide),if_neg (by decide),if_neg (by decide),if_neg (by decide),if_neg (by decide),if_neg (by decide),if_neg (fun h=>hA h.2),if_neg (fun h=>hO h.2),if_pos rfl]
   refine⟨fun at' => ?_,fun l hl => ?_⟩
   ·have:=hsq at'
    have:=jgd s
    rw[he,List.length_append];omega
   ·rw[he];refine bP u 18 n s kids l _ _ (.inr (.inl ⟨rfl,rfl⟩)) ?_
    have h2:=jq0 u n s (jd9 hb hA hO) kids hm hk l (by omega)
    rw[List.append_assoc] at h2;exact h2
  rw[if_neg h18] at ha
  by_cases h8:k=8 ∨ k=3
  ·rw[if_pos h8,decide_eq_true_eq] at ha
   rcases h8 with rfl | rfl
   ·exact lf (by omega) fun at' => rfl
   ·have k0:=hk (kids[0]'(by omega)) (List.getElem_mem _)
    have k1:=hk (kids[1]'(by omega)) (List.getElem_mem _)
    have hsum:qW (kids[0]'(by omega))+qW (kids[1]'(by omega))<=(kids.map qW).sum:=by
     match kids,ha with
     | [a,b],_=>simp
    have he:∀ at',kQ (jW u) 3 n s (jF (jW u) kids) at'=whC (jI (jW u) (kids[0]'(by omega))) (jI (jW u) (kids[1]'(by omega))) at':=fun at' => by
     match kids,ha with
     | [a,b],_=>rfl
    refine⟨fun at' => ?_,fun l hl => ?_⟩
    ·rw[he];unfold whC
     have q0:=k0.1 at'
     have q1:=k1.1 (at'+(jI (jW u) (kids[0]'(by omega)) at').length+1)
     simp only[List.length_append,List.length_cons,List.length_nil];omega
    ·rw[he];exact bP u 3 n s kids l _ _ (.inr (.inr (.inr (.inl ⟨rfl,rfl⟩)))) (jkr u n s kids ha hk l (by omega))
  rw[if_neg h8] at ha
  by_cases h2:k=2 ∨ k=4
  ·rw[if_pos h2,decide_eq_true_eq] at ha
   rcases h2 with rfl | rfl
   ·have k0:=hk (kids[0]'(by omega)) (List.getElem_mem _)
    have k1:=hk (kids[1]'(by omega)) (List.getElem_mem _)
    have k2:=hk (kids[2]'(by omega)) (List.getElem_mem _)
    have hsum:qW (kids[0]'(by omega))+qW (kids[1]'(by omega))+qW (kids[2]'(by omega))<=(kids.map qW).sum:=by
     match kids,ha with
     | [a,b,c],_=>simp;omega
    have he:∀ at',kQ (jW u) 2 n s (jF (jW u) kids) at'=pO (jI (jW u) (kids[0]'(by omega))) (jI (jW u) (kids[1]'(by omega))) (jI (jW u) (kids[2]'(by omega))) at':=fun at' => by
     match kids,ha with
     | [a,b,c],_=>rfl
    refine⟨fun at' => ?_,fun l hl => ?_⟩
    ·have:=jah k0.1 k1.1 k2.1 at'
     rw[he];omega
    ·rw[he];exact bP u 2 n s kids l _ _ (.inr (.inr (.inl ⟨rfl,rfl⟩))) (jfb u n s kids ha hk l (by omega))
   ·exact lf (by omega) fun at' => rfl
  rw[if_neg h2] at ha
  cases ha
theorem oR (e:Nat->Int) (du vo:Int):pgE e du vo=enL e++[intA du,intA vo]:=rfl
theorem jo5 (e:Nat->Int) (j:Nat) (v:Int):(enL e).set j (intA v)=enL fun i=>if i=j then v else e i:=by
 unfold enL
 apply List.ext_getElem (by simp)
 intro i h1 h2;rw[List.getElem_set,List.getElem_map,List.getElem_map,List.getElem_range]
 by_cases h:j=i
 ·simp only[if_pos h,if_pos h.symm]
 ·simp only[if_neg h,if_neg (fun q:i=j=>h q.symm)]
theorem joT (c0:A) (e:Nat->Int) (du vo v:Int) (j:Nat) (hj:j<40) {K:List A->Prop} (h:K (c0 :: pgE (fun i=>if i=j then v else e i) du vo)):aY (c0 :: pgE e du vo) (1+j*1) (intA v) K:=by
 have hl:(enL e).length=40:=by unfold enL;simp
 refine eU ?_ ?_
 ·rw[oR,List.length_cons,List.length_append,hl];omega
 ·rw[show 1+j*1=j+1 by omega,List.set_cons_succ,oR,List.set_append_left _ _ (by rw[hl];exact hj),jo5];exact h
theorem iU (c0:A) (e e':Nat->Int) (du vo v:Int) (j:Nat) (hj:j<40) (he:∀ i,i<40->(if i=j then v else e i)=e' i) {K:List A->Prop} (h:K (c0 :: pgE e' du vo)):aY (c0 :: pgE e du vo) (1+j*1) (intA v) K:=by
 refine joT c0 e du vo v j hj ?_
 have q:pgE (fun i=>if i=j then v else e i) du vo=pgE e' du vo:=by
  rw[oR,oR]
  congr 1
  unfold enL
  exact List.map_congr_left fun i hi=>by simp only[he i (List.mem_range.1 hi)]
 rw[q];exact h
def e1 (j:Nat):Nat->Int:=fun i=>if i<j then -1 else 0
theorem joC {e e':Nat->Int} (h:∀ i,i<40->e i=e' i) (du vo:Int):pgE e du vo=pgE e' du vo:=by
 rw[oR,oR]
 congr 1
 unfold enL
 exact List.map_congr_left fun i hi=>by rw[h i (List.mem_range.1 hi)]
theorem pS (u:Ut) (hu:uH u) (hz:mW u.on<=900000):Spec Tryz.prog 12 [] [.agg (eZ u)] fun _ r=>r=jc5 u:=by
 have hnode:=rG u hu
 have hdv:=hu.du
 have hol:=hu.ol
 refine eN jsz j5 0 Tryz.func12 rfl ?_;intro _;conv=>whnf
 refine jB [1,2,4] ?_;conv=>whnf
 refine jH (fun j:Nat=>[(19,.v (.int .i64 j))]) (fun j=>[eZ u,fK,.v (.slice none 0 0) :: pgE (e1 j) u.du.length u.vo.length]) (fun _=>[]) (fun j=>j<=40) (fun j=>40-j) 0 ?_ (by omega) ?_
 ·repeat' constructor
 intro j hj;conv=>whnf
 rcases Nat.lt_or_ge j 40 with hlt | hge
 ·rw[jK (show (j:Int)<40 by omega)];conv=>whnf
  refine⟨show (0:Int)<=(j:Int)/\(j:Int)<((40:Nat):Int) from ⟨by omega,by omega⟩,?_⟩;conv=>whnf
  refine iU (.v (.slice none 0 0)) (e1 j) (e1 (j+1)) u.du.length u.vo.length (-1) j hlt (fun i hi => ?_) ?_
  ·unfold e1
   by_cases h:i=j
   ·rw[if_pos h,if_pos (by omega)]
   ·rw[if_neg h]
    by_cases h2:i<j
    ·rw[if_pos h2,if_pos (by omega)]
    ·rw[if_neg h2,if_neg (by omega)]
  conv=>whnf
  refine jN j (by omega) ?_;conv=>whnf
  refine⟨j+1,jE [] ?_,show j+1<=40 by omega,show 40-(j+1)<40-j by omega⟩;conv=>whnf
  repeat' constructor
 rw[jG (show ¬ (j:Int)<40 by omega)]
 obtain rfl:j=40:=by omega
 conv=>whnf
 refine qS 52 2 [] [(3,3)] ?_;conv=>whnf
 refine⟨trivial,?_⟩;conv=>whnf
 refine jB [1,2,4,6,30,31] ?_;conv=>whnf
 refine jH (fun x:Nat × List Ic × (Nat->Int)=>[(32,.v (.int .i64 x.1))]) (fun x=>[eZ u,fK,.v (.slice none 0 0) :: pgE x.2.2 u.du.length u.vo.length,dL u]) (fun x=>[.live 52 2 x.2.1.length (qC x.2.1)])
  (fun x=>x.1<=u.on.length/\oH (jW u) (u.on.drop x.1) x.2.1 x.2.2=yS u/\x.2.1.length+mW (u.on.drop x.1)<=900000/\(∀ i ∈ x.2.1,jeY i) /\ ∀ i,x.2.2 i<x.2.1.length) (fun x=>u.on.length-x.1) (0,[],noE) ?_ ⟨Nat.zero_le _,rfl,by simpa using hz,(fun i hi=>by cases hi),fun i=>show (-1:Int)<0 by decide⟩ ?_
 ·repeat' constructor
  show Row.live _ 2 0 []=Row.live _ 2 0 (qC [])
  rw[p6]
 rintro⟨j,l,e⟩ ⟨g1,g2,g3,g4,g5⟩
 simp only at g1 g2 g3 g4 g5
 conv=>whnf
 rcases Nat.lt_or_ge j u.on.length with hlt | hge
 ·have hrow:jC 5 j (z6 u.on)=hnA u.on[j]:=gF u.on j hlt
  have hon:=hu.on _ (List.getElem_mem hlt)
  rw[List.drop_eq_getElem_cons hlt] at g2 g3;generalize u.on[j]=hb at hrow hon g2 g3
  obtain⟨h,b⟩ := hb
  obtain⟨o1,o2,o3⟩ := hon
  have hnd:=hnode b o3
  unfold oH at g2;unfold mW at g3
  simp only at o1 o2 g2 g3
  unfold hnA at hrow
  simp only at hrow
  rw[jK (show (j:Int)<(u.on.length:Int) by omega)];conv=>whnf
  refine⟨show (0:Int)<=(j:Int)/\(j:Int)<(u.on.length:Nat) from ⟨by omega,by omega⟩,?_⟩;conv=>whnf
  (generalize hrq:jC _ _ (z6 u.on)=rq;obtain rfl:rq=intA h :: ntA b:=hrq.symm.trans (hrow);clear hrq;conv=>whnf)
  refine⟨⟨o1,show h<((40:Nat):Int) by omega⟩,?_⟩;conv=>whnf
  refine iU (.v (.slice none 0 0)) e (fun i=>if i=h.toNat then (l.length:Int) else e i) u.du.length u.vo.length l.length h.toNat (by omega) (fun i hi=>rfl) ?_;conv=>whnf
  refine yZ 3 0 1 [] (hnd.2 l (by omega)) ?_;rintro o n' cs' r ⟨l2,rfl,rfl,ho,hl2,rfl⟩;cases ho
  have hl2:l2=l++jI (jW u) b l.length:=hl2
  have hsz:(jI (jW u) b l.length).length<=qW b:=hnd.1 l.length
  have hl2':l2.length<=l.length+qW b:=by rw[hl2,List.length_append];omega
  conv=>whnf
  have hem:=vZ u l2 23 0 (by omega)
  refine yZ 3 1 2 [] hem ?_;rintro o n' cs' r ⟨l3,rfl,rfl,ho,hl3,rfl⟩;cases ho;conv=>whnf
  refine jN j (by omega) ?_;conv=>whnf
  refine⟨(j+1,l3,fun i=>if i=h.toNat then (l.length:Int) else e i),jE [2] ?_,⟨show j+1<=u.on.length by omega,?_,?_,?_,?_⟩,show u.on.length-(j+1)<u.on.length-j by omega⟩
  ·conv=>whnf
   repeat' constructor
  ·rw[hl3,hl2];exact g2
  ·show l3.length+mW (u.on.drop (j+1))<=900000
   rw[hl3,List.length_append,List.length_singleton];omega
  ·intro i hi
   simp only at hi
   rw[hl3,hl2] at hi
   rcases List.mem_append.1 hi with hi | hi
   ·rcases List.mem_append.1 hi with hi | hi
    ·exact g4 i hi
    ·exact pR (jW u) b _ (by omega) i hi
   ·rw[List.mem_singleton.1 hi];exact⟨by simp,fun h=>by simp at h⟩
  ·intro i
   show (if i=h.toNat then (l.length:Int) else e i)<(l3.length:Int)
   have g5i:=g5 i
   have:l3.length=l.length+(jI (jW u) b l.length).length+1:=by rw[hl3,hl2,List.length_append,List.length_append,List.length_singleton]
   split <;> omega
 rw[jG (show ¬ (j:Int)<(u.on.length:Int) by omega)]
 have hcm:oH (jW u) [] l e=yS u:=by rw[<- g2,List.drop_of_length_le hge]
 have hcl:l.length<=900000:=by omega
 unfold oH at hcm;conv=>whnf
 unfold jc5 uC;rw[<- hcm]
 simp only
 by_cases hbig:400<l.length
 ·rw[jK (show (400:Int)<(l.length:Int) by omega)];conv=>whnf
  rw[if_pos hbig,if_neg (by decide)];rfl
 rw[jG (show ¬ (400:Int)<(l.length:Int) by omega)];rw[if_neg hbig];conv=>whnf
 refine gX [0] ?_;conv=>whnf
 refine jB [2,4,63] ?_;conv=>whnf
 obtain⟨E,hE⟩ : ∃ E,mM l e 0 40=E:=⟨_,rfl⟩
 rw[hE];refine jH (fun j:Nat=>[(64,.v (.int .i64 j))]) (fun _=>[eZ u,fK,pgL l e u.du.length u.vo.length,eZ u++[.sl 2 l.length (qC l)]]) (fun _=>[]) (fun j=>j<=40/\mM l e j (40-j)=E) (fun j=>40-j) 0 ?_ ⟨Nat.zero_le _,hE⟩ ?_
 ·repeat' constructor
  done
 clear hE hge g1 g2 g3 hcm;clear j;rintro j ⟨hj,hE⟩
 have hE:mM l e j (40-j)=E:=hE
 conv=>whnf
 rcases Nat.lt_or_ge j 40 with hlt | hge
 ·rw[jK (show (j:Int)<40 by omega)];rw[show 40-j=(40-(j+1))+1 by omega] at hE;unfold mM at hE
  have hfo:=tJ l e u.du.length u.vo.length (e j) (by omega) (by omega) (by omega) (fun i hi=>(g4 i hi).2) (fun i hi=>(g4 i hi).1) (g5 j)
  conv=>whnf
  refine⟨⟨show (0:Int)<=(j:Int) by omega,show (j:Int)<((40:Nat):Int) by omega⟩,intA (e j),je9 e j hlt,?_⟩;conv=>whnf
  refine kU [] hfo ?_;rintro r rfl;generalize kC l (e j)=f at hE;conv=>whnf
  by_cases h0:f=0
  ·rw[jK h0];rw[if_neg (fun h=>h h0)] at hE;conv=>whnf
   refine jN j (by omega) ?_;conv=>whnf
   refine⟨j+1,jE [] ?_,⟨show j+1<=40 by omega,hE⟩,show 40-(j+1)<40-j by omega⟩;conv=>whnf
   repeat' constructor
  rw[jG h0];rw[if_pos h0] at hE;conv=>whnf
  rw[<- hE,if_neg h0];rfl
 obtain rfl:j=40:=by omega
 rw[jG (show ¬ ((40:Nat):Int)<40 by omega)]
 obtain rfl:0=E:=hE
 conv=>whnf
 rw[if_pos rfl];rfl
theorem jq2 (s:ByteArray) (hs:s.size<=1000000000) (u:Ut) (hp:i7 s = .ok u) (hc:dU (toU u)=0):Spec Tryz.prog 21 [] [jX s] fun _ r=>r=jc5 u:=by
 have h1:=jie s hs
 rw[hp] at h1;unfold jjC at h1
 simp only at h1
 obtain⟨hu,hz⟩ := jjZ hp
 have h2:=jrr u hu
 rw[hc] at h2
 have h3:=pS u hu (by omega)
 unfold jc5 at h3 ⊢;refine eN jR j5 0 Tryz.func21 rfl ?_;intro _;conv=>whnf
 (refine kU [] h1 ?_;rintro r rfl;conv=>whnf)
 (refine kU [] h2 ?_;rintro r rfl;conv=>whnf)
 by_cases he:uC u=0
 ·rw[if_pos he] at h3 ⊢
  (refine kU [] h3 ?_;rintro r rfl;conv=>whnf)
  rfl
 ·rw[if_neg he] at h3 ⊢
  (refine kU [] h3 ?_;rintro r rfl;conv=>whnf)
  rfl
def exS:ByteArray:=⟨#[100,117,114,97,98,108,101,32,120,59,32,111,110,32,115,116,97,114,116,32,123,32,120,32,61,32,49,32,43,32,50,59,32,125]⟩
def exX:ByteArray:=⟨#[120]⟩
def exU:Ut:=⟨[exX],[],[(0,.mk 11 0 eB [.mk 1 0 exX [.mk 18 0 cZ [jst 1,jst 2]]])]⟩
def exI:List Ic:=[(1,1),(1,2),(6,0),(3,0),(23,0)]
def exE:Nat->Int:=fun j=>if j=0 then 0 else -1
theorem jqv:i7 exS = .ok exU:=by kernel_rfl
theorem jo9:dU (toU exU)=0:=by kernel_rfl
theorem joa:yS exU=(exI,exE):=by kernel_rfl
theorem job:uC exU=0:=by kernel_rfl
theorem jqw:jp8 exI exE 1 0=0:=by kernel_rfl
theorem jlR:Spec Tryz.prog 21 [] [jX exS] fun _ r=>r = .tup [tT exI exE 1 0,intA 0]:=by
 have h:=jq2 exS (by decide) exU jqv jo9
 unfold jc5 at h;rw[job,joa,if_pos rfl] at h;exact h
def e2 (j:Nat):Nat->Int:=fun i=>if 1<=i/\i<j then -1 else 0
theorem jhV:Spec Tryz.prog 17 [] [] fun _ r=>r=qR true:=by
 have h1:=jlR
 have h2:=sW exI exE 1 0 (by decide)
 have h3:=jh9 exI exE 1 0 (by decide)
 rw[jqw] at h3
 have hpe:pgE exE 1 0=pgE (e2 40) 1 0:=joC (fun i hi=>by
  unfold exE e2
  by_cases h:i=0
  ·rw[if_pos h,if_neg (by omega)]
  ·rw[if_neg h,if_pos (by omega)]) 1 0
 have hpa:tT exI exE 1 0=tT exI (e2 40) 1 0:=by unfold tT pgL;rw[hpe]
 rw[show [tT exI exE 1 0,tT exI exE 1 0]=[tT exI exE 1 0,tT exI (e2 40) 1 0] by rw[<- hpa]] at h2;clear hpe hpa;refine eN jR j5 0 Tryz.func17 rfl ?_;intro _;conv=>whnf
 (refine kU [] h1 ?_;rintro r rfl;conv=>whnf)
 refine gX [0] ?_;conv=>whnf
 refine jB [1,2,3] ?_;conv=>whnf
 refine jH (fun j:Nat=>[(4,.v (.int .i64 j))]) (fun j=>[pgL exI exE 1 0,pgL exI (e2 j) 1 0]) (fun _=>[]) (fun j=>1<=j/\j<=40) (fun j=>40-j) 1 ?_ ⟨by omega,by omega⟩ ?_
 ·repeat' constructor
  unfold qC;rfl
 rintro j ⟨hj1,hj⟩;conv=>whnf
 rcases Nat.lt_or_ge j 40 with hlt | hge
 ·rw[jK (show (j:Int)<40 by omega)];conv=>whnf
  refine⟨show (0:Int)<=(j:Int)/\(j:Int)<((40:Nat):Int) from ⟨by omega,by omega⟩,?_⟩;conv=>whnf
  refine iU (.sl 2 5 (qC exI)) (e2 j) (e2 (j+1)) 1 0 (-1) j hlt (fun i hi => ?_) ?_
  ·unfold e2
   by_cases h:i=j
   ·rw[if_pos h,if_pos (by omega)]
   ·rw[if_neg h]
    by_cases h2:1<=i/\i<j
    ·rw[if_pos h2,if_pos (by omega)]
    ·rw[if_neg h2,if_neg (by omega)]
  conv=>whnf
  refine jN j (by omega) ?_;conv=>whnf
  refine⟨j+1,jE [] ?_,⟨show 1<=j+1 by omega,show j+1<=40 by omega⟩,show 40-(j+1)<40-j by omega⟩;conv=>whnf
  repeat' constructor
 rw[jG (show ¬ (j:Int)<40 by omega)]
 obtain rfl:j=40:=by omega
 conv=>whnf
 (refine kU [] h2 ?_;rintro r rfl;conv=>whnf)
 (refine kU [] h3 ?_;rintro r rfl;conv=>whnf)
 rfl
theorem m9 (x s:ByteArray):(x == s)=decide (x=s):=by
 cases x with
 | mk a=>cases s with
  | mk b =>
   show (a == b)=_
   rw[Bool.eq_iff_iff,decide_eq_true_eq,beq_iff_eq];exact⟨fun h=>by rw[h],fun h=>by injection h⟩
theorem rN (l:List ByteArray) (i:Nat) (hi:i<l.length):jC 1 i (vV l)=[jX l[i]]:=yY jX l i hi
theorem jgu (l:List ByteArray) (s:ByteArray) (hl:l.length<=1000000):Spec Tryz.prog 82 [] [.sl 1 l.length (vV l),jX s] fun _ r=>r=intA (nX l s):=by
 refine eN jR j5 0 Tryz.func82 rfl ?_;intro _;conv=>whnf
 refine jB [0,1] ?_;conv=>whnf
 refine jH (fun j:Nat=>[(5,.v (.int .i64 j))]) (fun _=>[]) (fun _=>[]) (fun j=>j<=l.length /\ ∀ i (h:i<l.length),i<j->(l[i] == s)=false) (fun j=>l.length-j) 0 ?_ ⟨Nat.zero_le _,fun i h h2=>by omega⟩ ?_
 ·repeat' constructor
 rintro j ⟨hj,hn⟩;conv=>whnf
 rcases Nat.lt_or_ge j l.length with hlt | hge
 ·have hrow:=rN l j hlt
  rw[jK (show (j:Int)<(l.length:Int) by omega)];conv=>whnf
  refine⟨show (0:Int)<=(j:Int)/\(j:Int)<(l.length:Nat) from ⟨by omega,by omega⟩,?_⟩;conv=>whnf
  (generalize hrq:jC _ _ (vV l)=rq;obtain rfl:rq=[jX l[j]]:=hrq.symm.trans (hrow);clear hrq;conv=>whnf)
  by_cases he:l[j]=s
  ·rw[jK he];rw[rK hlt (fun i h h2=>hn i h h2) (by rw[m9,he,jK rfl])];conv=>whnf
   rfl
  rw[jG he];conv=>whnf
  refine jN j (by omega) ?_;conv=>whnf
  refine⟨j+1,jE [] ?_,⟨show j+1<=l.length by omega,fun i h h2 => ?_⟩,show l.length-(j+1)<l.length-j by omega⟩
  ·conv=>whnf
   repeat' constructor
  ·by_cases q:i=j
   ·subst q;rw[m9,jG he]
   ·exact hn i h (by omega)
 rw[lS fun i h=>hn i h (by omega)];rw[jG (show ¬ (j:Int)<(l.length:Int) by omega)];conv=>whnf
 rfl
theorem jbj:Spec Tryz.prog 83 [] [] fun _ r=>r = .sl 1 9 (vV builtL):=by
 refine eN jR j5 0 Tryz.func83 rfl ?_;intro _;conv=>whnf
 rfl
theorem jpZ (s:ByteArray):nX builtL s=biF s:=by
 unfold nX biF;rw[show (fun x:ByteArray=>x == s)=fun x=>decide (x=s) from funext fun x=>m9 x s]
 cases builtL.findIdx? (fun x=>decide (x=s)) <;> rfl
theorem uE (s:ByteArray) (h:(opBin.any fun x=>decide (s=x))=true):bM Tryz.prog 86 [jX s] fun e k n cs r=>e=52/\k=2/\n=(opC s).length/\cs=qC (opC s)/\r = .own 0:=by
 have h:=jiU h
 unfold opBin at h;simp only[List.mem_cons,List.not_mem_nil,or_false] at h
 rcases h with rfl | rfl | rfl | rfl | rfl | rfl | rfl | rfl | rfl | rfl
 all_goals
  refine uN jR j5 Tryz.func86 rfl ?_;intro _;conv=>whnf
  refine⟨0,?_⟩;conv=>whnf
  exact⟨rfl,rfl,rfl,by unfold qC;rfl,rfl⟩
def jhf (l:List Ic) (e k n:Nat) (cs:List A) (r:A):Prop:=e=52/\k=2/\n=l.length/\cs=qC l/\r = .own 0
def yI (u:Ut) (f:Nt):Prop := ∀ at':Int,0<=at'->at'+qW f<=1000000->bM Tryz.prog 42 [.agg (eZ u),.agg (ntA f),intA at'] (jhf (jI (jW u) f at'))
theorem jrj (t:Nat) (l m:List Ic):Row.live t 2 (l.length+m.length) (qC l++qC m)=Row.live t 2 (l++m).length (qC (l++m)):=by rw[List.length_append,kI]
theorem jkQ (ix:ByteArray->Int) (l:List Nt) (j:Nat) (h:j<l.length) (at':Int):zQ (jF ix (l.take (j+1))) at'=zQ (jF ix (l.take j)) at'++jI ix l[j] (at'+(zQ (jF ix (l.take j)) at').length):=by
 rw[List.take_succ_eq_append_getElem h,wM,wM,List.map_append,List.map_singleton,sX]
theorem xW (u:Ut) (kids:List Nt) (hm:kids.length<=3002) (hf:∀ f ∈ kids,zR u f) (hc:∀ f ∈ kids,yI u f) (at':Int) (h0:0<=at') (hz:at'+zF kids<=1000000):bM Tryz.prog 85 [.agg (eZ u),.sl 4 kids.length (qX kids),intA at'] (jhf (zQ (jF (jW u) kids) at')):=by
 have hsz:=fun j=>kS (u:=u) (kids.take j) at' fun f hf' => hf f (List.mem_of_mem_take hf')
 refine uN jsJ j5 Tryz.func85 rfl ?_;intro _;conv=>whnf
 refine qS 52 2 [7] [] ?_;conv=>whnf
 refine⟨trivial,?_⟩;conv=>whnf
 refine jB [1,2,3,7] ?_;conv=>whnf
 refine jH (fun j:Nat=>[(8,.v (.int .i64 j))]) (fun _=>[eZ u]) (fun j=>[.live 52 2 (zQ (jF (jW u) (kids.take j)) at').length (qC (zQ (jF (jW u) (kids.take j)) at'))]) (fun j=>j<=kids.length) (fun j=>kids.length-j) 0 ?_ (Nat.zero_le _) ?_
 ·repeat' constructor
  show Row.live _ 2 0 []=Row.live _ 2 0 (qC [])
  rw[p6]
 intro j hj
 have hpre:=jgX kids j
 have hszj:=hsz j
 conv=>whnf
 rcases Nat.lt_or_ge j kids.length with hlt | hge
 ·have hrow:jC 4 j (qX kids)=ntA kids[j]:=zX kids j hlt
  have htk:=s7 kids j hlt
  have hnx:=jkQ (jW u) kids j hlt at'
  have hcj:=hc _ (List.getElem_mem hlt)
  have hnj:=(hf _ (List.getElem_mem hlt)).1
  generalize kids[j]=f at hrow htk hnx hcj hnj
  obtain⟨l,hl⟩ : ∃ l,zQ (jF (jW u) (kids.take j)) at'=l:=⟨_,rfl⟩
  rw[hl] at hszj hnx
  have hcode:=hcj (at'+l.length) (by omega) (by omega)
  have hnl:=hnj (at'+l.length)
  generalize jI (jW u) f (at'+l.length)=m at hcode hnx hnl;rw[hl];rw[jK (show (j:Int)<(kids.length:Int) by omega)];conv=>whnf
  refine⟨show (0:Int)<=(j:Int)/\(j:Int)<(kids.length:Nat) from ⟨by omega,by omega⟩,?_⟩;conv=>whnf
  (generalize hrq:jC _ _ (qX kids)=rq;obtain rfl:rq=ntA f:=hrq.symm.trans (hrow);clear hrq;conv=>whnf)
  refine⟨jJ (by omega),?_⟩;conv=>whnf
  refine xA 1 [] rfl rfl (fun _=>hcode) ?_;rintro e k n cs r ⟨rfl,rfl,rfl,rfl,rfl⟩;conv=>whnf
  refine⟨⟨show l.length+m.length<=maxLen by unfold maxLen;omega,show (l.length+m.length)*16<=140737488355328 by omega⟩,?_⟩;conv=>whnf
  refine jN j (by omega) ?_;conv=>whnf
  refine⟨j+1,jE [0] ?_,show j+1<=kids.length by omega,show kids.length-(j+1)<kids.length-j by omega⟩;conv=>whnf
  rw[hnx]
  repeat' constructor
  exact jrj _ l m
 rw[jG (show ¬ (j:Int)<(kids.length:Int) by omega)];rw[List.take_of_length_le hge];conv=>whnf
 refine⟨0,?_⟩;conv=>whnf
 exact⟨rfl,rfl,rfl,rfl,rfl⟩
theorem jkB (u:Ut) (f:Nt) (hc:yI u f) (n at':Int) (h0:0<=at') (hz:at'+qW f<=1000000):bM Tryz.prog 123 [.agg (eZ u),.sl 4 1 (ntA f),intA n,intA at'] (jhf (jI (jW u) f at')):=by
 have hcode:=hc at' h0 hz
 have hrow:jC 4 0 (ntA f)=ntA f:=by unfold jC;rfl
 generalize jI (jW u) f at'=m at hcode;refine uN jmw j5 Tryz.func123 rfl ?_;intro _;conv=>whnf
 refine⟨by decide,?_⟩;conv=>whnf
 (generalize hrq:jC _ _ (ntA f)=rq;obtain rfl:rq=ntA f:=hrq.symm.trans (hrow);clear hrq;conv=>whnf)
 refine xA 0 [] rfl rfl (fun _=>hcode) ?_;rintro e k n cs r ⟨rfl,rfl,rfl,rfl,rfl⟩;conv=>whnf
 refine⟨0,?_⟩;conv=>whnf
 exact⟨rfl,rfl,rfl,rfl,rfl⟩
theorem jkA (u:Ut) (n at':Int):bM Tryz.prog 123 [.agg (eZ u),.v (.slice none 0 0),intA n,intA at'] (jhf [(1,n)]):=by
 refine uN jmw j5 Tryz.func123 rfl ?_;intro _;conv=>whnf
 refine⟨0,?_⟩;conv=>whnf
 exact⟨rfl,rfl,rfl,by unfold qC;rfl,rfl⟩
end Go.Proofs.YtfbifdccmabdbaaGreatDoor.Vm
