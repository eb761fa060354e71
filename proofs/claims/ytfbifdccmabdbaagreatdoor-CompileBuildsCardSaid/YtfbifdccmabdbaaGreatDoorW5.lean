/- Part 5 of the proof. -/
import Derived.Test.YtfbifdccmabdbaaGreatDoorW4
import Derived.Recover
set_option maxRecDepth 100000
set_option linter.unusedSimpArgs false
set_option linter.unusedVariables false
set_option maxHeartbeats 4000000
namespace Go.Proofs.YtfbifdccmabdbaaGreatDoor.Vm
open Go.RowKit
section
def ClD(P:Program)(f:Nat)(u u':FrameMode):Array Value->World->(Ending->World->Prop)->Prop:=fun vs w R=>CallsD P f vs u w fun e m w'=>m=u'/\R e w'
theorem ClD.mono{P:Program}{f:Nat}{u u':FrameMode}{vs:Array Value}{w:World}{R R':Ending->World->Prop}(h:∀e w',R e w'->R' e w')(k:ClD P f u u' vs w R):ClD P f u u' vs w R' :=
 CallsD.mono k fun e m w' ⟨h1,h2⟩=>⟨h1,h _ _ h2⟩
@[irreducible] def joI(P:Program)(u u':FrameMode)(f:Nat)(args:List A)(s:S)(K:S->Prop):Prop :=
 (∀vs w,(callFunc f vs).run P w=.ok (.enter f vs) w) ∧
 ∃(X ids:List Nat) (ins:List (List A)) (args':List A) (post:List (List A)->A->Prop),X.Nodup/\(∀i∈X,i<s.bx.length) ∧
  nF X (jB s.rw ids) (X.map fun i=>s.bx.getD i [])=some ins/\q8 X (jB s.rw ids) args=some args'/\(nK args'->jcN (ClD P f u u') ins args' post fun _=>False) ∧
  ∀outs r,post outs r->outs.length=X.length->iA X s.bx X outs fun bx'=>zT (back X r) fun _=>j9 (jB s.rw ids) fun rw'=>kS s bx' rw' K
def eZ(c:Cx)(rv:List ResultVar)(post:List (List A)->A->Prop):List (Nat×List A)->FrameMode->S->Prop
 |[],.returning,s=>jiP c rv post s
 |[],_,_=>False
 |(f,args)::r,u,s=>u≠.run/\∃u',joI c.P u u' f args s fun s'=>eZ c rv post r (settle u') s'
section
variable{c:Cx}{w0:W0}{C0:Rd}{β0:List Nat}
theorem mE{fn:Func}{post:List (List A)->A->Prop}{R:Ending->World->Prop}{tmps:Array Value}(hfin:∀s' w',jiP c fn.results.toList post s'->Inv [] w0 C0 β0 s' { tmps:=tmps,defers:=[] } w'->∃v,(results fn tmps).run c.P w'=.ok v w'/\R (.returned v) w') :
  ∀(dr:List (Nat×List A)) (ds:List Deferred) (u:FrameMode) (s:S) (E:Env) (w:World),repD dr E ds->Hp w0 C0 β0 s.bx s.rw w E->A.repL s.t E tmps.toList->eZ c fn.results.toList post dr u s->Leaves c.P fn tmps R ds u w
 |[],ds,u,s,E,w,hd,hp,ht,h=>by
  obtain rfl:ds=[]:=hd
  cases u with
  |returning=>exact hfin s w h ⟨E,hp,ht,rfl⟩
  |run=>exact h.elim
  |panicking ch=>exact h.elim
 |(f,args)::r,ds,u,s,E,w,⟨d,ds',cap,hds,htg,hargs,hrest⟩,hp,ht,h=>by
  subst hds;obtain⟨hu,u',h⟩:=h;unfold joI at h;obtain⟨hcall,X,ids,ins,args',post',hn,hX,hins,hargs',hspec,hk⟩:=h;have hcx:=jaG (pan:=fun _ _=>False) (Xr:=fun _=>true) (K:=fun _ s'=>eZ c fn.results.toList post r (settle u') s') (Cl:=ClD c.P f u u') ClD.mono hp hargs hn (fun _ _=>rfl) hX hins hargs' hspec (fun outs r hp hl=>hk outs r hp hl) (fun ch bx' h _ _=>h.elim);obtain⟨t,da⟩:=d
  simp only at htg hargs hcx
  subst htg;refine leaves_cons (f:=f) (args:=da++cap) hu (by simp[invoke,hcall]) ?_
  have hcx':CallsD c.P f (da++cap) u w fun e m w'=>m=u'/\((∃y,e=.returned y/\Left w0 C0 β0 (fun _=>true) s E w (fun _ s'=>eZ c fn.results.toList post r (settle u') s') y w')∨∃(ch:List PanicEntry) (s':S) (E':Env),e=.panicked ch/\False/\s'.t=s.t/\E.le E'/\Hp w0 C0 β0 s'.bx s'.rw w' E'):=hcx
  refine CallsD.mono hcx' ?_;rintro e m w' ⟨rfl,⟨y,rfl,⟨⟨r0,s',E',h1,h2,h3,h4,h5,_⟩⟩⟩|⟨ch,s',E',_,h,_⟩⟩
  ·exact mE hfin r ds' _ s' E' w' (hrest.mono h3) h4 (by rw[h2];exact A.repL.mono _ h3 ht) h1
  ·exact h.elim
@[irreducible] def OkT(P:Program)(np:Nat)(pt:List (Nat×List A)->List PanicEntry->S->Prop)(qt:List (Nat×List A)->Exit->S->Prop)(dr:List (Nat×List A))(x:Code)(s:S):Prop :=
 ∀(w0:W0) (C0:Rd) (β0:List Nat) (a:Act) (w:World) (Q:Exit->Act->World->Prop),β0.length=np->Inv dr w0 C0 β0 s a w->(∀dr' ch s' a' w',pt dr' ch s'->Inv dr' w0 C0 β0 s' a' w'->Q (.panic ch) a' w')->(∀dr' e s' a' w',qt dr' e s'->Inv dr' w0 C0 β0 s' a' w'->Q e a' w')->x.wp P Q a w
def tQ(P:Program)(np:Nat)(pt:List (Nat×List A)->List PanicEntry->S->Prop)(qt:List (Nat×List A)->Exit->S->Prop)(dr:List (Nat×List A))(y:Code)(e:Exit)(s:S):Prop:=match e with
 |.normal=>OkT P np pt qt dr y s
 |e=>qt dr e s
variable{pt:List (Nat×List A)->List PanicEntry->S->Prop}{qt:List (Nat×List A)->Exit->S->Prop}{dr:List (Nat×List A)}{s:S}
theorem jgH{x:Code}(hc:c.ok)(hdr:∃n,yP n dr=true)(hl:yP c.np dr=true∨xE x=true)(ho:kI c.ord x=true)(hp:∀ch s',c.pan ch s'->pt dr ch s')(h:sQ c x s (qt dr)):OkT c.P c.np pt qt dr x s:=by
 unfold OkT
 exact fun w0 C0 β0 a w Q hn hi hx hk=>nL hc hn hdr x hl (fun ch s' a' w' h1 h2=>hx dr ch s' a' w' (hp ch s' h1) h2) ho hi h fun e s' a' w' h1 h2=>hk dr e s' a' w' h1 h2
theorem kB{x y:Code}(hc:c.ok)(hdr:∃n,yP n dr=true)(hl:yP c.np dr=true∨xE x=true)(ho:kI c.ord x=true)(hp:∀ch s',c.pan ch s'->pt dr ch s')(h:sQ c x s (tQ c.P c.np pt qt dr y)):OkT c.P c.np pt qt dr (.seq x y) s:=by
 unfold OkT;intro w0 C0 β0 a w Q hn hi hx hk;refine wp_seq (nL hc hn hdr x hl (fun ch s' a' w' h1 h2=>hx dr ch s' a' w' (hp ch s' h1) h2) ho hi h fun e s' a' w' h1 h2=>?_)
 cases e with
 |normal =>
  have h1:OkT c.P c.np pt qt dr y s':=h1;unfold OkT at h1;exact h1 w0 C0 β0 a' w' Q hn h2 hx hk
 |_=>exact hk dr _ _ _ _ h1 h2
def jth(s:S)(fo:Operand)(xs:List Operand)(K:Nat->List A->Prop):Prop:=match ev s fo with
 |.clo f caps=>K f (xs.map (ev s)++caps)
 |.bm f fs=>K f (fs++xs.map (ev s))
 |_=>False
theorem jaj{ops l2:List Oper}{Q:Exit->Act->World->Prop}(hc:c.ok)(hdr:∃n,yP n dr=true)(hx:∀ch s' a' w',c.pan ch s'->Inv dr w0 C0 β0 s' a' w'->Q (.panic ch) a' w'):∀{l:List Oper} {s:S} {a:Act} {w:World} {K:S->Prop},Inv dr w0 C0 β0 s a w->oT c ops l s K->(∀s' a' w',K s'->Inv dr w0 C0 β0 s' a' w'->wpList c.P ops.toArray Q l2 a' w')->wpList c.P ops.toArray Q (l++l2) a w
 |[],s,a,w,K,hi,h,hk=>hk s a w h hi
 |o::r,s,a,w,K,hi,h,hk=>by
  obtain⟨E,hp,ht,hd⟩:=hi
  change bP ops o s (ado c (fun _=>true) s o fun s'=>oT c ops r s' K) (kZ s o.dst (.tup []) fun s'=>oT c ops r s' K) at h
  refine wpList_step fun Kc hKc=>?_
  rcases v7 ht h with ⟨h1,h2⟩|⟨h1,h2⟩
  ·rw[xtw3 h1]
   exact jfW hc hdr ⟨E,hp,ht,hd⟩ h2 hx fun s' a' w' h3 h4=>hKc _ _ (jaj hc hdr hx h4 h3 hk)
  ·rw[xtw2 (by rw[h1];simp)];obtain⟨s2,k1,k2,k3,k4,k5⟩:=qZ (a:=a) hp ht hd (wM _) h2;exact hKc _ _ (jaj hc hdr hx ⟨E,by rw[k2,k3];exact hp,k4,k5⟩ k1 hk)
theorem jla{id:Nat}{l:List Oper}{od:Oper}{fo:Operand}{xs:Array Operand}{ts:Array TypeId}{y:Code}(hc:c.ok)(hdr:∃n,yP n dr=true)(hp:∀ch s',c.pan ch s'->pt dr ch s')(hop:od.op=.defer ⟨.value fo,xs,ts⟩)(hg:od.guard=none)(hd:od.dst=none)
  (h:oT c (l++[od]) l s fun s'=>jth s' fo xs.toList fun f args=>OkT c.P c.np pt qt ((f,args)::dr) y s'):OkT c.P c.np pt qt dr (.seq (.region id (l++[od]).toArray false) y) s:=by
 unfold OkT;intro w0 C0 β0 a w Q hn hi hx hk;refine wp_seq (wp_region_lit (jaj (l2:=[od]) (Q:=Exit.then (y.wp c.P Q) Q) hc hdr (fun ch s' a' w' h1 h2=>hx dr ch s' a' w' (hp ch s' h1) h2) hi h fun s' a' w' h1 h2=>?_))
 refine wpList_step fun Kc hKc=>?_
 rw[xtw3 (by simp[Region.wanted,hg])];obtain⟨E,hpp,ht,hdd⟩:=h2;unfold jth at h1;split at h1
 ·rename_i f caps hev;have hf:=jS ht fo;rw[hev] at hf;unfold A.rep at hf;obtain⟨us,hf,hcaps⟩:=hf
  have hrun:(execOp a'.eval od).run c.P w'=.ok (.defer { target:=.fn (.func f) us,args:=xs.map a'.eval }) w':=by simp[execOp,hop,resolve,Deferred.ofValue,hf,Result.andThen]
  unfold Oper.wp;rw[hrun,Oper.upon_defer];rw[hd];unfold OkT at h1;refine hKc _ _ (h1 w0 C0 β0 _ w' Q hn ⟨E,hpp,ht,{ target:=.fn (.func f) us,args:=xs.map a'.eval },a'.defers,us,rfl,rfl,?_,hdd⟩ hx hk);have:=A.repL_append (gW ht xs.toList) hcaps;simpa using this
 ·rename_i f fs hev;have hf:=jS ht fo;rw[hev] at hf;unfold A.rep at hf;obtain⟨us,hf,hcaps⟩:=hf
  have hrun:(execOp a'.eval od).run c.P w'=.ok (.defer { target:=.fn (.func f) #[],args:=us++xs.map a'.eval }) w':=by simp[execOp,hop,resolve,Deferred.ofValue,hf,Result.andThen]
  unfold Oper.wp;rw[hrun,Oper.upon_defer];rw[hd];unfold OkT at h1;refine hKc _ _ (h1 w0 C0 β0 _ w' Q hn ⟨E,hpp,ht,{ target:=.fn (.func f) #[],args:=us++xs.map a'.eval },a'.defers,#[],rfl,rfl,?_,hdd⟩ hx hk);have:=A.repL_append hcaps (gW ht xs.toList);simpa using this
 ·exact h1.elim
theorem jdj{n:Nat}{ins:List (List A)}{args:List A}{w:World}{C:Rd}{β:List Nat}{vals:List Value}(h0:Gok C w)(h1:Sub C (kR w))(h2:β.Nodup)(h3:∀b∈β,∀o sp,C ⟨b,o,sp⟩=none)(h4:ins.length=β.length)
  (h5:∀(i b:Nat) (cs:List A),β[i]?=some b->ins[i]?=some cs->boxAt w ⟨C,β,[]⟩ b cs) (h6:A.repL args ⟨C,β,[]⟩ vals) :
  Inv [] (.of w) C β ⟨args++List.replicate (n-args.length) .dead,ins,[]⟩ { tmps:=vals.toArray++Array.replicate (n-vals.toArray.size) undef,defers:=[] } w:=by
 have hl:=A.repL_len h6;refine⟨⟨C,β,[]⟩,⟨h1,Sub.refl _,fun _ _ hc=>.inl hc,⟨[],by simp,by simp⟩,h2,h3,h4,h5,rfl,fun g r y hg=>by simp at hg,fun g e k n cs y b hg=>by simp at hg,fun g e k n cs y h' e' k' n' cs' z b _ hg=>by simp at hg,fun g y hg=>by simp at hg,Keeps.refl _ _,jie h0⟩,?_,rfl⟩
 have:(vals.toArray++Array.replicate (n-vals.toArray.size) undef).toList=vals++List.replicate (n-args.length) undef:=by simp[hl]
 rw[this];exact A.repL_append h6 (gN _ _)
theorem jo4{f:Nat}{fn:Func}{x:Code}{ins:List (List A)}{args:List A}{post:List (List A)->A->Prop}(hc:c.ok)(hf:c.P.funcs[f]?=some fn)(hb:fn.body=some x)(hname:(fn.name == "runtime.NumGoroutine")=false)
  (hn:ins.length=c.np) (h:nK args->yT args (fn.ntmps-args.length) fun t=>OkT c.P c.np (fun dr ch s=>eZ c fn.results.toList post dr (.panicking ch) s) (fun dr e s=>(e=.normal∨e=.ret)/\eZ c fn.results.toList post dr .returning s) [] x ⟨t,ins,[]⟩):Spec c.P f ins args post:=by
 refine⟨aS hf hb hname,fun w C β vals h0 h1 h2 h3 h4 h5 h6=>?_⟩;refine calls_of_wp_defers hf hb ?_;have hinit:=initK_iff.1 (h (wD _ h6));have hinv:=jdj (n:=fn.ntmps) h0 h1 h2 h3 h4 h5 h6;unfold OkT at hinit;have hfin:∀(tmps:Array Value) (s':S) (w':World),jiP c fn.results.toList post s'->Inv [] (.of w) C β s' { tmps:=tmps,defers:=[] } w'->∃v,(results fn tmps).run c.P w'=.ok v w'/\∃outs r v',Ending.returned v=.returned v'/\post outs r/\Keeps β w w'/\outs.length=β.length ∧
   (∀(i b:Nat) (cs:List A),β[i]?=some b->outs[i]?=some cs->boxAt w' ⟨qY C w w',β,[]⟩ b cs)/\r.rep ⟨qY C w w',β,[]⟩ v':=fun tmps s' w' hr hi =>
  (ji8 (w:=w) (C:=C) (β:=β) (fn:=fn) (post:=post) hc h1 (by rw[<- h4,hn]) hr hi).2
 refine hinit (.of w) C β _ w _ (by rw[<- h4,hn]) hinv (fun dr ch s' a' w' hl ⟨E,hp,ht,hd⟩=>?_) (fun dr e s' a' w' hl ⟨E,hp,ht,hd⟩=>?_)
 ·exact mE (hfin a'.tmps) dr a'.defers _ s' E w' hd hp ht hl
 ·obtain⟨he,hl⟩:=hl;rcases he with rfl|rfl
  ·exact mE (hfin a'.tmps) dr a'.defers _ s' E w' hd hp ht hl
  ·exact mE (hfin a'.tmps) dr a'.defers _ s' E w' hd hp ht hl
theorem jcF{c0:Frame}{cs:List Frame}(h:c0.mode=.returning):recoverD (c0::cs)=none:=by
 simp[recoverD,h]
theorem jcE{c0:Frame}{cs:List Frame}{v:Value}{older:List PanicEntry}(h:c0.mode=.panicking (⟨v,false,false⟩::older)):recoverD (c0::cs)=some (v,{ c0 with mode:=.panicking (⟨v,true,false⟩::older) }::cs):=by
 simp[recoverD,h]
theorem jkc{f id d0:Nat}{fn:Func}{o0:Oper}{ts:Array TypeId}{rest:Code}{ins:List (List A)}{args:List A}{post:List (List A)->A->Prop}{u u':FrameMode}{rv:Value}(hc:c.ok)(hq:∀ch s,¬c.pan ch s)(hf:c.P.funcs[f]?=some fn)(hb:fn.body=some (.seq (.region id #[o0] false) rest))
  (k0:o0.op=.call ⟨.builtin .recover,#[],ts⟩/\o0.guard=none/\o0.dst=some d0) (hd0:d0<fn.ntmps) (hv:fX rv)
  (hu:(u=.returning/\u'=.returning/\rv=.nilIface)∨∃v older,u=.panicking (⟨v,false,false⟩::older)/\u'=.panicking (⟨v,true,false⟩::older)/\rv=v)
  (hn:ins.length=c.np) (h:nK args->yT args (fn.ntmps-args.length) fun t=>Ok c rest ⟨t.set d0 (.v rv),ins,[]⟩ (ji3 c fn.results.toList post)):jcN (ClD c.P f u u') ins args post fun _=>False:=by
 intro w C β vals h0 h1 h2 h3 h4 h5 h6;unfold ClD
 refine callsD_of_wpS hf hb fun c0 cs hu0=>wpS_seq (wpS_region ?_)
 have hinit:=initK_iff.1 (h (wD _ h6));have hinv:=jdj (n:=fn.ntmps) h0 h1 h2 h3 h4 h5 h6
 have hnp:β.length=c.np:=by rw[<- h4,hn]
 generalize hA:({ tmps:=vals.toArray++Array.replicate (fn.ntmps-vals.toArray.size) undef,defers:=[] }:Act)=a0 at *
 have hsz:d0<a0.tmps.size:=by rw[<- hA];simp;omega
 obtain⟨E,hp,ht,hd⟩:=hinv
 have hi2:Inv [] (.of w) C β ⟨(args++List.replicate (fn.ntmps-args.length) A.dead).set d0 (.v rv),ins,[]⟩ (a0.put (some d0) rv) w:=by
  refine⟨E,hp,?_,hd⟩;show A.repL _ E (a0.tmps.setIfInBounds d0 rv).toList;rw[xtw91];exact A.repL_set ht d0 (A.rep_v hv)
 have e0:(execOp a0.eval o0).run c.P w=.ok .recover w:=by
  simp[execOp,k0.1,resolve,invoke,Result.andThen];rfl
 have hrange:List.range (#[o0]:Array Oper).size=[0]:=rfl;rw[hrange];have g0:(#[o0]:Array Oper)[0]?=some o0:=rfl
 have w0':∀y,Region.wanted o0 y=true:=fun y=>by simp[Region.wanted,k0.2.1]
 simp only[wpOpsS,g0,w0',xtw127,e0];unfold Ok OkD at hinit
 have fin:∀cs',cs'={ c0 with mode:=u' }::cs->rest.wpS c.P (bodyPostS c.P fn c0 cs fun e m w'=>m=u'/\((∃outs r v,e=.returned v/\post outs r/\Keeps β w w'/\outs.length=β.length ∧
   (∀(i b:Nat) (cs:List A),β[i]?=some b->outs[i]?=some cs->boxAt w' ⟨qY C w w',β,[]⟩ b cs)/\r.rep ⟨qY C w w',β,[]⟩ v) ∨
   ∃(ch:List PanicEntry) (ns:List Nat),e=.panicked ch/\False/\Keeps β w w'/\ns.length=β.length/\∀(i b n:Nat),β[i]?=some b->ns[i]?=some n->boxAt w' ⟨C,β,[]⟩ b (List.replicate n .dead))) (a0.put (some d0) rv) cs' w:=fun cs' hcs=>by
  subst hcs;refine wpS_of_wp ?_
  refine hinit (.of w) C β _ w _ hnp hi2 (fun ch s' _ _ hh _=>absurd hh (hq ch s')) fun e s' a' w' he hi=>?_
  have ff:=fun(hr:jiP c fn.results.toList post s')=>ji8 (w:=w) (C:=C) (β:=β) (fn:=fn) (post:=post) hc h1 hnp hr hi
  cases e with
  |normal=>obtain⟨q1,v,q2,q3⟩:=ff he;exact⟨q1,u',rfl,v,q2,rfl,.inl q3⟩
  |ret=>obtain⟨q1,v,q2,q3⟩:=ff he;exact⟨q1,u',rfl,v,q2,rfl,.inl q3⟩
  |_=>exact he.elim
 rcases hu with ⟨rfl,rfl,rfl⟩|⟨v,older,rfl,rfl,rfl⟩
 ·rw[jcF hu0];simp only[k0.2.2];exact fin _ (by rw[<- hu0])
 ·rw[jcE hu0];simp only[k0.2.2];exact fin _ rfl
end
end
end Go.Proofs.YtfbifdccmabdbaaGreatDoor.Vm
namespace Go.Proofs.YtfbifdccmabdbaaGreatDoor.Vm
open Go.RowKit Go.Shelf
theorem jiE(u:Ut):jcN (ClD Tryz.prog 101 .returning .returning) [cO u,[intA 0],[intA 0]] [.box 0 0,.box 1 0,.box 2 0] (fun o r=>o=[cO u,[intA 0],[intA 0]]/\r=.tup []) fun _=>False:=by
 refine jkc (qE jnh (fun _=>[0,1,2]) 3) (fun _ _ h=>h) Tryz.func101 rfl (d0:=6) ⟨rfl,rfl,rfl⟩ (by decide) (rv:=.nilIface) trivial (.inl ⟨rfl,rfl,rfl⟩) rfl ?_;intro _;conv=>whnf
 refine kK (qE _ _ _) (by kernel_rfl) ?_;conv=>whnf
 exact⟨rfl,rfl⟩
theorem jiD(x e:Int)(hx:okE x e)(c0 c1 c2 b1 b2:A):jcN (ClD Tryz.prog 101 (.panicking (qR x e)) (.panicking [⟨.iface 142 (.agg #[.int .i64 x,.int .i64 e]),true,false⟩])) [[c0,c1,c2],[b1],[b2]] [.box 0 0,.box 1 0,.box 2 0]
  (fun o r=>o=[eF,[intA x],[intA e]]/\r=.tup []) fun _=>False:=by
 obtain⟨hx,he⟩:=hx;refine jkc (qE jnh (fun _=>[0,1,2]) 3) (fun _ _ h=>h) Tryz.func101 rfl (d0:=6) ⟨rfl,rfl,rfl⟩ (by decide) (rv:=.iface 142 (.agg #[.int .i64 x,.int .i64 e])) trivial (.inr ⟨_,[],rfl,rfl,rfl⟩) rfl ?_;intro _;conv=>whnf
 refine kK (qE _ _ _) (by kernel_rfl) ?_;conv=>whnf
 refine⟨?_,?_⟩
 ·intro u hu;simp at hu;rcases hu with rfl|rfl
  ·exact okV_int.2 (jG (by omega))
  ·exact okV_int.2 (jG (by omega))
 conv=>whnf
 exact⟨rfl,rfl⟩
def jdE:PU->A
 |.ok u=>.tup [.agg (cO u),intA 0,intA 0]
 |.bad x e=>.tup [.agg eF,intA x,intA e]
def jqW(p:PU)(ch:List PanicEntry)(s:S):Prop:=∃(x e:Int) (c0 c1 c2:A) (bx:List (List A)) (a b:A) (t:List A),p=.bad x e/\okE x e/\ch=qR x e/\s.bx=eF::[intA 0]::[intA 0]::bx/\s.t=a::b::.box 0 0::.box 1 0::.box 2 0::t/\s.rw=[]
theorem jtb{l:List (List A)}{a b c d:List A}(h:l.length=4)(k:∀j,j≠3->l[j]?=[a,b,c,d][j]?):∃d',l=[a,b,c,d']:=by
 match l,h with
 |[x,y,z,w],_ =>
  have h0:=k 0 (by decide);have h1:=k 1 (by decide);have h2:=k 2 (by decide);simp at h0 h1 h2;exact⟨w,by rw[h0,h1,h2]⟩
def oF(id:Nat):Tr:=match Nat.beq id 5 with
 |true=>.q 0 3 (.alt 1 2 (.alt 2 2 (.alt 3 2 (.alt 4 2 (.alt 5 2 .nil .nil) .nil) .nil) (.alt 3 2 (.alt 2 2 (.alt 4 2 (.alt 5 2 .nil .nil) .nil) (.alt 4 2 (.alt 2 2 (.alt 5 2 .nil .nil) .nil) .nil)) .nil)) (.alt 2 2 (.alt 1 2 (.alt 3 2 (.alt 4 2 (.alt 5 2 .nil .nil) .nil) .nil) (.alt 3 2 (.alt 1 2 (.alt 4 2 (.alt 5 2 .nil .nil) .nil) .nil) .nil)) (.alt 3 2 (.alt 1 2 (.alt 2 2 (.alt 4 2 (.alt 5 2 .nil .nil) .nil) (.alt 4 2 (.alt 2 2 (.alt 5 2 .nil .nil) .nil) .nil)) (.alt 2 2 (.alt 1 2 (.alt 4 2 (.alt 5 2 .nil .nil) .nil) .nil) .nil)) .nil)))
 |false=>.nil
theorem jbD(s:ByteArray)(hs:s.size<=1000000000):Spec Tryz.prog 55 [] [jJ s] fun _ r=>r=jdE (eE s):=by
 obtain⟨R,hR⟩:∃R,eE s=R:=⟨_,rfl⟩
 rw[hR];have htk:=jhy s hs
 have hpan:∀(ch:List PanicEntry) (s':S),jqW R ch s'->eZ ⟨Tryz.prog,tab,oF,fun _=>[0],0,fun _ _=>False⟩ Tryz.f55.results.toList (fun _ r=>r=jdE R) [(101,[.box 0 0,.box 1 0,.box 2 0])] (.panicking ch) s':=fun ch s' hP=>by
  obtain⟨x,e,c0,c1,c2,bx,a,b,t0,hRe,hran,rfl,hbx,ht,hrw⟩:=hP;obtain⟨t,bx',rw'⟩:=s'
  simp only at hbx hrw ht
  subst hbx hrw ht;subst hRe;unfold eZ;refine⟨(fun h=>by cases h),FrameMode.panicking [⟨.iface 142 (.agg #[.int .i64 x,.int .i64 e]),true,false⟩],?_⟩;unfold joI;refine⟨fun vs w=>rfl,[0,1,2],[],[eF,[intA 0],[intA 0]],[.box 0 0,.box 1 0,.box 2 0],fun o r=>o=[eF,[intA x],[intA e]]/\r=.tup [],by decide,?_,rfl,rfl,fun _=>jiD x e hran _ _ _ _ _,?_⟩
  ·intro i hi;simp only[xtw6];simp at hi;omega
  rintro o r ⟨rfl,rfl⟩ _;conv=>whnf
  rfl
 refine jo4 (qE oF (fun _=>[0]) 0) Tryz.func55 rfl (by kernel_rfl) rfl ?_;intro _;conv=>whnf
 refine kB (qE oF (fun _=>[0]) 0) (dr:=[]) ⟨0,rfl⟩ (.inl rfl) (by kernel_rfl) (fun _ _ h=>h.elim) ?_;conv=>whnf
 refine kB (qE oF (fun _=>[0]) 0) (dr:=[]) ⟨0,rfl⟩ (.inl rfl) (by kernel_rfl) (fun _ _ h=>h.elim) ?_;conv=>whnf
 unfold eE at hR;by_cases hbig:3000<s.size
 ·rw[xtw3 hbig] at hR;rw[xtw1 (by omega)];conv=>whnf
  refine⟨.inr rfl,?_⟩;conv=>whnf
  subst hR;rfl
 rw[xtw2 hbig] at hR;rw[xtw0 (by omega)];conv=>whnf
 refine kB (qE oF (fun _=>[0]) 0) (dr:=[]) ⟨0,rfl⟩ (.inl rfl) (by kernel_rfl) (fun _ _ h=>h.elim) ?_;conv=>whnf
 refine jY [] htk ?_;rintro r rfl
 have htb:=fun h=>jfa (s:=s) (by omega) h
 unfold tI
 cases herr:(qM s).err with
 |some pe =>
  obtain⟨p,e⟩:=pe;rw[herr] at hR
  simp only at hR
  have hne:=(vS (s.data.toList.length+1) 0 s.data.toList).2 p e herr;conv=>whnf
  refine kB (qE oF (fun _=>[0]) 0) (dr:=[]) ⟨0,rfl⟩ (.inl rfl) (by kernel_rfl) (fun _ _ h=>h.elim) ?_;conv=>whnf
  rw[xtw0 hne.2.1];conv=>whnf
  apply mA
  ·repeat' (first|(with_reducible refine And.intro ?_ ?_)|(conv=>whnf))
  conv=>whnf
  refine⟨.inr rfl,?_⟩;conv=>whnf
  subst hR;rfl
 |none =>
  rw[herr] at hR
  simp only at hR
  have htb:=htb herr;have hrl:=gO herr;rw[<- hrl]
  have hln:(qM s).toks.length+1=(lH s).length:=by rw[hrl];simp
  rw[hln];generalize lH s=T at *;conv=>whnf
  refine kB (qE oF (fun _=>[0]) 0) (dr:=[]) ⟨0,rfl⟩ (.inl rfl) (by kernel_rfl) (fun _ _ h=>h.elim) ?_;conv=>whnf
  refine jla (qE oF (fun _=>[0]) 0) ⟨0,rfl⟩ (fun _ _ h=>h.elim) (l:=[_]) rfl rfl rfl ?_;conv=>whnf
  have hpg:=jf5 T htb
  have hsan:=fun x e=>jgP htb (x:=x) (e:=e)
  rw[hR] at hpg;refine kB (c:=⟨Tryz.prog,tab,oF,fun _=>[0],0,jqW R⟩) (wH _ _ _ _) ⟨3,rfl⟩ (.inr (by kernel_rfl)) (by kernel_rfl) hpan ?_;conv=>whnf
  refine joR 3 [] rfl rfl rfl rfl (fun _=>hpg) (fun ch bx' hp hbl hbx=>?_) ?_
  ·unfold puQ at hp;split at hp
   ·rename_i x e;obtain⟨d',rfl⟩:=jtb hbl hbx;exact⟨x,e,.dead,.dead,.dead,_,_,_,_,rfl,hsan _ _ hR,hp,rfl,rfl,rfl⟩
   ·exact hp.elim
  rintro o r ⟨⟨nm,ts1,ho⟩,huo⟩;cases ho;unfold uoQ at huo;split at huo
  rotate_left
  ·exact huo.elim
  rename_i u;subst huo;conv=>whnf
  refine jgH (c:=⟨Tryz.prog,tab,oF,fun _=>[0],0,jqW (.ok u)⟩) (wH _ _ _ _) ⟨3,rfl⟩ (.inr (by kernel_rfl)) (by kernel_rfl) hpan ?_;conv=>whnf
  refine⟨.inr rfl,?_⟩;unfold eZ;refine⟨(fun h=>by cases h),FrameMode.returning,?_⟩;unfold joI;refine⟨fun vs w=>rfl,[0,1,2],[],[cO u,[intA 0],[intA 0]],[.box 0 0,.box 1 0,.box 2 0],fun o r=>o=[cO u,[intA 0],[intA 0]]/\r=.tup [],by decide,?_,rfl,rfl,fun _=>jiE u,?_⟩
  ·intro i hi;simp only[xtw6];simp at hi;omega
  rintro o r ⟨rfl,rfl⟩ _;conv=>whnf
  rfl
def opAll:List ByteArray:=[yW,sD,bF,qB,vC,wK,pLt,pLe,pGt,pGe,jnn,pNe]
def arN(k:Int)(s:ByteArray)(m:Nat):Bool :=
 if k=11 then decide (m<=3002)
 else if k=12∨k=13∨k=14∨k=5∨k=6∨k=7∨k=10 then decide (m=0)
 else if k=15 then decide (m=0)&&builtL.any fun x=>decide (s=x)
 else if k=16∨k=1∨k=9 then decide (m=1)
 else if k=17 then decide (m=1)&&(decide (s=qB)||decide (s=bU))
 else if k=18 then decide (m=2)&&opAll.any fun x=>decide (s=x)
 else if k=8∨k=3 then decide (m=2)
 else if k=2∨k=4 then decide (m=3)
 else false
theorem sP{k:Int}{s:ByteArray}{m:Nat}(h:arN k s m=true):m<=3002:=by
 unfold arN at h
 repeat' split at h
 all_goals(try rw[xtw14] at h);(try simp only[xtw17] at h);(first|omega|(have:=h.1;omega)|cases h)
def isX(f:Nt):Bool:=decide (12<=f.k)
def clN(k:Int)(l:List Nt):Bool :=
 if k=11 then l.all fun f => !isX f
 else if k=2∨k=3 then(l.take 1).all isX&&(l.drop 1).all fun f => !isX f
 else l.all isX
mutual
def eJ:Nt->Prop
 |.mk k n s kids=>arN k s kids.length=true/\jfm kids/\clN k kids=true
def jfm:List Nt->Prop
 |[]=>True
 |f::l=>eJ f/\jfm l
end
theorem xQ:∀{l:List Nt} {f:Nt},jfm l->f∈l->eJ f
 |x::r,f,h,hf=>by
  unfold jfm at h;rcases xtw13.1 hf with rfl|hf
  ·exact h.1
  ·exact xQ h.2 hf
theorem jkA:∀{l:List Nt},(∀f∈l,eJ f)->jfm l
 |[],_=>by unfold jfm;trivial
 |x::r,h=>by
  unfold jfm;exact⟨h x xtw29,jkA fun f hf=>h f (xtw25 _ hf)⟩
theorem jcl{k n:Int}{s:ByteArray}{kids:List Nt}(h:arN k s kids.length=true)(hc:clN k kids=true)(hk:∀f∈kids,eJ f):eJ (.mk k n s kids):=by
 unfold eJ;exact⟨h,jkA hk,hc⟩
def Wc(c:Bool)(f:Nt):Prop:=eJ f/\isX f=c
theorem wx0{k n:Int}{s:ByteArray}(h:arN k s 0=true):eJ (.mk k n s []):=jcl h (by unfold clN;(repeat' split) <;> rfl) (by simp)
theorem jmf{k:Int}{l:List Nt}(hk:k≠11/\k≠2/\k≠3):clN k l=l.all isX:=by
 unfold clN;rw[xtw2 hk.1,xtw2 (fun h=>h.elim hk.2.1 hk.2.2)]
theorem wx1{k n:Int}{s:ByteArray}{f:Nt}(h:arN k s 1=true)(hk:k≠11/\k≠2/\k≠3)(hf:Wc true f):eJ (.mk k n s [f]):=jcl h (by rw[jmf hk];simp[hf.2]) fun x hx=>by rw[xtw16.1 hx];exact hf.1
theorem jhz{f g h:Nt}(hf:eJ f)(hg:eJ g)(hh:h∈[f,g]):eJ h:=by
 simp only[xtw13,xtw42,xtw81] at hh
 rcases hh with rfl|rfl <;> assumption
theorem jcb{f g h i:Nt}(hf:eJ f)(hg:eJ g)(hh:eJ h)(hi:i∈[f,g,h]):eJ i:=by
 simp only[xtw13,xtw42,xtw81] at hi
 rcases hi with rfl|rfl|rfl <;> assumption
theorem wx2{k n:Int}{s:ByteArray}{f g:Nt}(h:arN k s 2=true)(hk:k≠11/\k≠2/\k≠3)(hf:Wc true f)(hg:Wc true g):eJ (.mk k n s [f,g]):=jcl h (by rw[jmf hk];simp[hf.2,hg.2]) fun x hx=>jhz hf.1 hg.1 hx
theorem wx3{k n:Int}{s:ByteArray}{f g c:Nt}(h:arN k s 3=true)(hk:k≠11/\k≠2/\k≠3)(hf:Wc true f)(hg:Wc true g)(hc:Wc true c):eJ (.mk k n s [f,g,c]):=jcl h (by rw[jmf hk];simp[hf.2,hg.2,hc.2]) fun x hx=>jcb hf.1 hg.1 hc.1 hx
theorem wi2{n:Int}{s:ByteArray}{c b:Nt}(hc:Wc true c)(hb:Wc false b):Wc false (.mk 3 n s [c,b]):=⟨jcl rfl (by unfold clN;simp[hc.2,hb.2]) fun x hx=>jhz hc.1 hb.1 hx,rfl⟩
theorem wi3{n:Int}{s:ByteArray}{c b o:Nt}(hc:Wc true c)(hb:Wc false b)(ho:Wc false o):Wc false (.mk 2 n s [c,b,o]):=⟨jcl rfl (by unfold clN;simp[hc.2,hb.2,ho.2]) fun x hx=>jcb hc.1 hb.1 ho.1 hx,rfl⟩
theorem wbk{n:Int}{s:ByteArray}{l:List Nt}(hl:l.length<=3002)(h:∀f∈l,Wc false f):Wc false (.mk 11 n s l):=⟨jcl (xtw1 hl) (by
 unfold clN;rw[xtw3 rfl,xtw65]
 exact fun f hf=>by rw[(h f hf).2];rfl) fun f hf=>(h f hf).1,rfl⟩
mutual
def zN:Nt->Nat
 |.mk _ _ _ kids=>3+qX kids
def qX:List Nt->Nat
 |[]=>0
 |f::l=>zN f+qX l
end
theorem je8(s:Nt):∀l:List Nt,qX (l++[s])=qX l+zN s
 |[]=>by show zN s+0=0+zN s;omega
 |f::l=>by show zN f+qX (l++[s])=zN f+qX l+zN s;rw[je8 s l];omega
def WP(c:Bool)(z:Nat)(op:List Tk->Pn):Prop:=∀ts f r,ts.length<=3002->op ts=.ok f r->Wc c f/\∃a,ts=a++r/\zN f<=z+9*a.length
def WPt(c:Bool)(z:Nat)(op:List Tk->Pn):Prop:=∀ts f r,ts≠[]->ts.length<=3002->op ts=.ok f r->Wc c f/\∃a,ts=a++r/\zN f<=z+9*a.length
theorem WP.syn{c:Bool}{z:Nat}:WP c z synE:=fun ts f r _ h=>by cases h
theorem WP.bad{c:Bool}{z:Nat}(x:List Tk->Int)(y:Int):WP c z (fun ts=>.bad (x ts) y):=fun ts f r _ h=>by cases h
theorem WP.mono{c:Bool}{z y:Nat}{op:List Tk->Pn}(h:WP c z op)(hz:z<=y):WP c y op:=fun ts f r h1 h2=>by
 obtain⟨a1,a,a2,a3⟩:=h ts f r h1 h2;exact⟨a1,a,a2,by omega⟩
theorem WP.okT{c:Bool}{z:Nat}{f:Nt}(hf:Wc c f)(hz:zN f<=z:=by first|omega|(simp only[zN,qX,yG];omega)):WP c z (fun r=>.ok f r):=fun ts g r _ h=>by cases h;exact⟨hf,[],rfl,by simpa using hz⟩
theorem WP.andThen{c d:Bool}{z:Nat}{op:List Tk->Pn}{k:Nt->List Tk->Pn}(h1:WP c 0 op)(h2:∀f,Wc c f->WP d (z+zN f) (k f)):WP d z (fun ts=>(op ts).andThen k):=fun ts f r hz h=>by
 cases ho:op ts with
 |bad x y=>simp only[ho] at h;cases h
 |ok g u =>
  simp only[ho] at h;obtain⟨a1,a,a2,a3⟩:=h1 ts g u hz ho
  have hu:u.length<=3002:=by rw[a2,xtw4] at hz;omega
  obtain⟨b1,b,b2,b3⟩:=h2 g a1 u f r hu h;exact⟨b1,a++b,by rw[a2,b2,xtw40],by rw[xtw4];omega⟩
theorem WP.tail{c:Bool}{z:Nat}{op:List Tk->Pn}(h:WP c (z+9) op):WPt c z (fun ts=>op ts.tail):=fun ts f r hne hz ho=>by
 obtain⟨a1,a,a2,a3⟩:=h _ f r (by rw[List.length_tail];omega) ho
 cases ts with
 |nil=>exact absurd rfl hne
 |cons t ts=>exact⟨a1,t::a,by simpa using a2,by rw[xtw6];omega⟩
theorem WP.itc{d:Bool}{z:Nat}(c:List Tk->Prop)[DecidablePred c](hc:¬c []){op1 op2:List Tk->Pn}(h1:WPt d z op1)(h2:WP d z op2):WP d z (fun ts=>if c ts then op1 ts else op2 ts):=fun ts f r hz h=>by
 dsimp only at h
 split at h
 ·rename_i hcc;exact h1 ts f r (fun e=>hc (e ▸ hcc)) hz h
 ·exact h2 ts f r hz h
theorem WP.ite{d:Bool}{z:Nat}(c:List Tk->Prop)[DecidablePred c]{op1 op2:List Tk->Pn}(h1:WP d z op1)(h2:WP d z op2):WP d z (fun ts=>if c ts then op1 ts else op2 ts):=fun ts f r hz h=>by
 dsimp only at h
 split at h
 ·exact h1 ts f r hz h
 ·exact h2 ts f r hz h
theorem gT(s:ByteArray):¬zO s []=true:=by
 unfold zO;rw[show(decide ((hd []).kind=1)||decide ((hd []).kind=3))=false from rfl,xtw119];exact Bool.false_ne_true
theorem jfw(l:List ByteArray):¬cW l []=true:=fun h=>by
 obtain⟨s,-,h2⟩:=xtw34.1 h;exact gT s h2
theorem WP.xpt{c:Bool}{z:Nat}(s:ByteArray){k:List Tk->Pn}(h:WP c (z+9) k):WP c z (fun ts=>Vm.xpt s ts k):=WP.itc (fun ts=>zO s ts=true) (gT s) h.tail WP.syn
theorem WP.num{c:Bool}{z:Nat}(limit:Int){k:Int->List Tk->Pn}(h:∀n,WP c (z+9) (k n)):WP c z (fun ts=>bE limit ts k):=fun ts f r hz ho=>by
 unfold bE at ho
 dsimp only at ho
 split at ho
 ·cases ho
 ·rename_i h2;split at ho
  ·cases ho
  ·exact(h _).tail ts f r (fun e=>h2 (by rw[e];decide)) hz ho
structure WPa(p:Pa):Prop where
 no:WP true 0 p.no
 un:WP true 0 p.un
 ex:WP true 0 p.ex
 bl:WP false 0 p.bl
def jhO(low:Option Pa):Prop:=∀p,low=some p->WPa p
theorem WP.nest{low:Option Pa}(hl:jhO low):WP true 0 (dN low):=by
 cases low with
 |none=>exact WP.ite (fun ts=>zO pLp ts=true) (WP.bad _ _) WP.syn
 |some p=>exact WP.itc (fun ts=>zO pLp ts=true) (gT _) (((hl p rfl).ex.andThen fun n hn=>WP.xpt pRp (WP.okT hn)).tail) WP.syn
theorem WP.tok{c:Bool}{z:Nat}{op:Tk->List Tk->Pn}(h:∀t,WP c (z+9) (op t)):WPt c z (fun ts=>op (hd ts) ts.tail):=fun ts f r hne hz ho=>(h (hd ts)).tail ts f r hne hz ho
theorem jgl:yB []=false:=rfl
theorem WP.prim{low:Option Pa}(hl:jhO low):WP true 0 (f0 low):=by
 refine WP.ite (fun ts=>zO pLp ts=true) (WP.nest hl) <|
  WP.itc (fun ts=>zO wDraw ts=true) (gT _) (((WP.nest hl).andThen fun n hn=>WP.okT ⟨wx1 rfl (by decide) hn,rfl⟩).tail) <|
  WP.itc (fun ts=>(hd ts).kind=2) (by decide) (WP.tok (op:=fun t r=>.ok (.mk 12 t.n eB []) r) fun t=>WP.okT ⟨wx0 rfl,rfl⟩) <|
  WP.itc (fun ts=>zO oK ts=true) (gT _) (WP.okT ⟨wx0 rfl,rfl⟩).tail <|
  WP.itc (fun ts=>zO cP ts=true) (gT _) (WP.okT ⟨wx0 rfl,rfl⟩).tail <|
  WP.itc (fun ts=>yB ts=true) (by rw[jgl];exact Bool.false_ne_true) (WP.tok (op:=fun t r=>.ok (.mk 14 0 t.text []) r) fun t=>WP.okT ⟨wx0 rfl,rfl⟩) ?_
 intro ts f r hz h
 dsimp only at h
 by_cases hb:jii ts=true
 ·rw[xtw3 hb] at h;cases h;refine⟨⟨wx0 ?_,rfl⟩,?_⟩
  ·unfold jii at hb;rw[xtw14] at hb;show(decide (0=0)&&_)=true;rw[hb.2];rfl
  ·cases ts with
   |nil=>cases hb
   |cons t ts=>exact⟨[t],rfl,by show 3+0<=0+9*1;decide⟩
 ·rw[xtw2 hb] at h;cases h
theorem jt2{s:ByteArray}(h:s=qB∨s=bU):arN 17 s 1=true:=by
 show(decide (1=1)&&(decide (s=qB)||decide (s=bU)))=true
 rcases h with rfl|rfl <;> simp
theorem WP.pre(s:ByteArray)(hs:s=qB∨s=bU){op:Option (List Tk->Pn)}(h:∀f,op=some f->WP true 0 f){op2:List Tk->Pn}(h2:WP true 0 op2):WP true 0 (fun ts=>if zO s ts=true then u6 s op ts else op2 ts):=by
 cases op with
 |none=>exact WP.ite (fun ts=>zO s ts=true) (WP.bad _ _) h2
 |some f=>exact WP.itc (fun ts=>zO s ts=true) (gT _) (((h f rfl).andThen fun n hn=>WP.okT ⟨wx1 (jt2 hs) (by decide) hn,rfl⟩).tail) h2
theorem WP.una{low:Option Pa}(hl:jhO low):WP true 0 (aG low) :=
 WP.pre qB (.inl rfl) (op:=low.map fun p:Pa=>p.un) (fun f hf=>by
  cases low with
  |none=>cases hf
  |some p=>cases hf;exact(hl p rfl).un) (WP.prim hl)
theorem jjt{signs:List ByteArray}{ts:List Tk}(hs:∀s∈signs,(opAll.any fun x=>decide (s=x))=true)(h:cW signs ts=true):(opAll.any fun x=>decide ((hd ts).text=x))=true:=by
 unfold cW at h;rw[xtw34] at h;obtain⟨s,h1,h2⟩:=h;unfold zO at h2;rw[xtw14,xtw17] at h2;rw[h2.1];exact hs s h1
theorem jlV{s:ByteArray}(h:(opAll.any fun x=>decide (s=x))=true):arN 18 s 2=true:=by
 show(decide (2=2)&&_)=true;rw[h];rfl
theorem WP.chn{op:List Tk->Pn}{signs:List ByteArray}(hs:∀s∈signs,(opAll.any fun x=>decide (s=x))=true)(h:WP true 0 op):WP true 0 (wG op signs):=by
 have go:∀(n:Nat) (l:Nt),Wc true l->WP true (zN l) (xI op signs n l):=fun n=>by
  induction n with
  |zero=>intro l hl;exact WP.okT hl
  |succ n ih =>
   intro l hl ts f r hz ho;rw[xI] at ho;by_cases ha:cW signs ts=true
   ·rw[xtw3 ha] at ho;exact(h.andThen (k:=fun f r=>xI op signs n (.mk 18 0 (hd ts).text [l,f]) r) fun g hg=>(ih _ ⟨wx2 (jlV (jjt hs ha)) (by decide) hl hg,rfl⟩).mono (by simp only[zN,qX];omega)).tail ts f r (fun e=>jfw signs (by rw[<- e];exact ha)) hz ho
   ·rw[xtw2 ha] at ho;exact WP.okT hl (xtw11 _) ts f r hz ho
 exact h.andThen (k:=fun f r=>xI op signs r.length f r) fun f hf ts g r hz ho=>(go _ f hf).mono (by omega) ts g r hz ho
theorem WP.sum{low:Option Pa}(hl:jhO low):WP true 0 (jcI low):=WP.chn (by decide) (WP.chn (by decide) (WP.una hl))
theorem WP.nt{low:Option Pa}(hl:jhO low):WP true 0 (ntG low) :=
 WP.pre bU (.inr rfl) (op:=low.map fun p:Pa=>p.no) (fun f hf=>by
  cases low with
  |none=>cases hf
  |some p=>cases hf;exact(hl p rfl).no)<|(WP.sum hl).andThen fun l hw=>fun r f r' hz ho=>by
   by_cases ha:cW dD r=true
   ·rw[xtw3 ha] at ho;exact((WP.sum hl).andThen (k:=fun m r'=>.ok (.mk 18 0 (hd r).text [l,m]) r') fun g hg=>WP.okT ⟨wx2 (jlV (jjt (by decide) ha)) (by decide) hw hg,rfl⟩).tail r f r' (fun e=>jfw dD (by rw[<- e];exact ha)) hz ho
   ·rw[xtw2 ha] at ho;exact WP.okT hw (by omega) r f r' hz ho
theorem WP.exp{low:Option Pa}(hl:jhO low):WP true 0 (ji6 low):=WP.chn (by decide) (WP.chn (by decide) (WP.nt hl))
theorem jne{c:Bool}{f g:Nt}(hf:Wc c f)(hg:g∈[f]):Wc c g:=by rw[xtw16.1 hg];exact hf
theorem WP.stm{ex bl:List Tk->Pn}(hx:WP true 0 ex)(hb:WP false 0 bl):WP false 0 (stG ex bl):=by
 have semi:∀(z:Nat) (f:Nt),Wc false f->zN f<=z+9->WP false z (fun r=>Vm.xpt pSemi r fun r=>.ok f r):=fun z f hf hz=>WP.xpt pSemi (WP.okT hf hz)
 exact WP.itc (fun ts=>yB ts=true) (by rw[jgl];exact Bool.false_ne_true) (WP.tok (op:=fun t ts=>Vm.xpt pEq ts fun r=>(ex r).andThen fun e r=>Vm.xpt pSemi r fun r=>.ok (.mk 1 0 t.text [e]) r) fun t=>WP.xpt pEq (hx.andThen fun e he=>semi _ _ ⟨wx1 rfl (by decide) he,rfl⟩ (by simp only[zN,qX];omega))) <|
  WP.ite (fun ts=>(hd ts).kind≠1) WP.syn <|
  WP.itc (fun ts=>(hd ts).text=wIf) (by decide) ((hx.andThen fun c hc=>hb.andThen fun b hb2=>WP.itc (fun r=>zO wElse r=true) (gT _) ((hb.andThen fun o ho=>WP.okT (wi3 hc hb2 ho)).tail) (WP.okT (wi3 hc hb2 ⟨wx0 rfl,rfl⟩))).tail) <|
  WP.itc (fun ts=>(hd ts).text=wWhile) (by decide) ((hx.andThen fun c hc=>hb.andThen fun b hb2=>WP.okT (wi2 hc hb2)).tail) <|
  WP.itc (fun ts=>(hd ts).text=wSend) (by decide) ((hx.andThen fun t ht=>WP.xpt pComma (WP.num 30 fun n=>WP.xpt pComma (hx.andThen fun a ha=>WP.xpt pComma (hx.andThen fun b hb2=>semi _ _ ⟨wx3 rfl (by decide) ht ha hb2,rfl⟩ (by simp only[zN,qX];omega))))).tail) <|
  WP.itc (fun ts=>(hd ts).text=wTimer) (by decide) ((WP.num 8 fun n=>semi _ _ ⟨wx0 rfl,rfl⟩ (by simp only[zN,qX];omega)).tail) <|
  WP.itc (fun ts=>(hd ts).text=wCancel) (by decide) ((WP.num 8 fun n=>semi _ _ ⟨wx0 rfl,rfl⟩ (by simp only[zN,qX];omega)).tail) <|
  WP.itc (fun ts=>(hd ts).text=wSync) (by decide) ((semi _ _ ⟨wx0 rfl,rfl⟩ (by simp only[zN,qX];omega)).tail) <|
  WP.itc (fun ts=>(hd ts).text=wReply) (by decide) ((hx.andThen fun a ha=>WP.xpt pComma (hx.andThen fun b hb2=>semi _ _ ⟨wx2 rfl (by decide) ha hb2,rfl⟩ (by simp only[zN,qX];omega))).tail) <|
  WP.itc (fun ts=>(hd ts).text=wFail) (by decide) ((hx.andThen fun a ha=>semi _ _ ⟨wx1 rfl (by decide) ha,rfl⟩ (by simp only[zN,qX];omega)).tail) <|
  WP.itc (fun ts=>(hd ts).text=wStop) (by decide) ((semi _ _ ⟨wx0 rfl,rfl⟩ (by simp only[zN,qX];omega)).tail) WP.syn
theorem WP.blk{st:List Tk->Pn}(h:WP false 0 st):WP false 0 (bkF st):=by
 have go:∀(n:Nat) (acc:List Nt),(∀f∈acc,Wc false f)->acc.length+n<=3002->WP false (9+qX acc) (mY st n acc):=fun n=>by
  induction n with
  |zero=>intro acc ha hz ts f r _ ho;cases ho
  |succ n ih =>
   intro acc ha hz ts f r hz2 ho;rw[mY] at ho;by_cases hp:zO pRb ts=true
   ·rw[xtw3 hp] at ho;cases ho;refine⟨wbk (by omega) ha,?_⟩
    cases ts with
    |nil=>exact absurd hp (gT _)
    |cons t ts=>exact⟨[t],rfl,by show 3+qX acc<=9+qX acc+9*1;omega⟩
   ·rw[xtw2 hp] at ho
    exact h.andThen (k:=fun s r=>mY st n (acc++[s]) r) (fun s hs=>(ih (acc++[s]) (fun f hf=>by
     rcases xtw30.1 hf with hf|hf
     ·exact ha f hf
     ·exact jne hs hf) (by rw[xtw4,xtw31];omega)).mono (by rw[je8];omega)) ts f r hz2 ho
 exact WP.xpt pLb (k:=fun r=>mY st r.length [] r) fun ts f r hz ho=>go ts.length [] (by simp) (by simpa using hz) ts f r hz ho
theorem WP.bkN:WP false 0 bkN:=WP.ite (fun ts=>zO pLb ts=true) (WP.bad _ _) WP.syn
theorem WPa.pa{low:Option Pa}(hl:jhO low):WPa (paG low) where
 no:=WP.nt hl
 un:=WP.una hl
 ex:=WP.exp hl
 bl:=WP.blk (WP.stm (WP.exp hl) (by
  cases low with
  |none=>exact WP.bkN
  |some p=>exact(hl p rfl).bl))
theorem wpa:∀n,WPa (pa n)
 |0=>WPa.pa fun p h=>by cases h
 |n+1=>WPa.pa fun p h=>by cases h;exact wpa n
def pP:List (Int×Nt)->Nat
 |[]=>0
 |h::r=>zN h.2+1+pP r
structure WfU(u:Ut):Prop where
 du:u.du.length+u.vo.length<=16
 on:∀h∈u.on,0<=h.1/\h.1<40/\eJ h.2
 st:∀h∈u.on,isX h.2=false
 nd:u.on.Pairwise fun a b=>a.1≠b.1
 ol:u.on.length<=4000
mutual
def toD:Nt->Nd
 |.mk k n s kids=>.mk k n s (eC kids)
def eC:List Nt->List Nd
 |[]=>[]
 |f::l=>toD f::eC l
end
theorem jcc:∀l:List Nt,eC l=l.map toD
 |[]=>rfl
 |f::l=>by rw[eC,jcc l];rfl
def toU(u:Ut):Un:=⟨u.du,u.vo,u.on.map fun h=>(h.1,toD h.2)⟩
def jlL(C D:Rd):Prop:=∀b o u,C ⟨b,o,none⟩=some u->D ⟨b,o,none⟩=some u
theorem fJ{E:Env}{b:Nat}:∀{l m:List A} {off:Nat},A.repAt (l++m) E b off↔A.repAt l E b off/\A.repAt m E b (off+l.length)
 |[],m,off=>by simp[A.repAt]
 |a::r,m,off=>by
  simp only[xtw61,A.repAt];rw[fJ (l:=r)];simp only[xtw6,Nat.add_assoc,Nat.add_comm 1];constructor
  ·rintro⟨h1,h2,h3⟩;exact⟨⟨h1,h2⟩,h3⟩
  ·rintro⟨⟨h1,h2⟩,h3⟩;exact⟨h1,h2,h3⟩
theorem jkf{E:Env}{n:Int}{u:Value}:(A.v (.int .i64 n)).rep E u↔u=.int .i64 n/\(-9223372036854775808<=n/\n<=9223372036854775807):=by
 rw[A.rep_v_iff];constructor
 ·rintro⟨h1,h2⟩;exact⟨h1,okV_int.1 h2⟩
 ·rintro⟨h1,h2⟩;exact⟨h1,okV_int.2 h2⟩
theorem rep_vsC{E:Env}{n:ByteArray}{u:Value}:(A.v (.string n)).rep E u↔u=.string n/\n.size<=maxLen:=by
 rw[A.rep_v_iff];exact Iff.rfl
mutual
theorem jqF:∀(t:Nt) {E:Env} {D:Rd} {v:Value},jlL E.C D->eJ t->(A.agg (nt0 t)).rep E v->(toD t).At D v
 |.mk k n s kids,E,D,v,hD,hs,h=>by
  unfold eJ at hs;have hl:kids.length<=3002:=sP hs.1;unfold A.rep nt0 at h;obtain⟨us,rfl,h⟩:=h;obtain⟨us⟩:=us;simp only[A.repC] at h;obtain⟨_,_,rfl,-,g1,_,_,rfl,-,g2,_,_,rfl,-,g3,_,_,rfl,-,g4,rfl⟩:=h;unfold intA at g1 g2;unfold jJ at g3;rw[jkf] at g1 g2;rw[rep_vsC] at g3;obtain⟨rfl,g1⟩:=g1;obtain⟨rfl,g2⟩:=g2;obtain⟨rfl,g3⟩:=g3;unfold A.rep at g4;obtain⟨_,_,p,b,off,cap,rfl,h6,h7,h8,h9⟩:=g4;unfold toD Nd.At
  have hlen:(eC kids).length=kids.length:=by rw[jcc,xtw44]
  rw[hlen];refine⟨g1,g2,g3,by omega,p,b,off,cap,rfl,h6,?_,h8,jqG kids (E:=E.per) hD hs.2.1 h9⟩;rcases h7 with h7|h7
  ·exact .inl (xtw15 (by rw[hlen];exact h7))
  ·exact .inr h7
theorem jqG:∀(l:List Nt) {E:Env} {D:Rd} {b off:Nat},jlL E.C D->jfm l->A.repAt (jiz l) E b off->Nd.In D b (eC l) off
 |[],_,_,_,_,_,_,_=>by unfold eC Nd.In;trivial
 |t::ts,E,D,b,off,hD,hs,h=>by
  unfold jfm at hs;unfold jiz at h
  have hl4:(nt0 t).length=4:=by rw[jiy];rfl
  rw[fJ,hl4] at h;obtain⟨h1,h2⟩:=h;unfold eC Nd.In;refine⟨?_,jqG ts hD hs.2 h2⟩;obtain⟨us,k1,k2⟩:=A.repAt_vals h1;have hl:=A.repC_len k1;rw[hl4] at hl
  match us,hl,k1,k2 with
  |[v0,v1,v2,v3],_,k1,k2 =>
   refine⟨v0,v1,v2,v3,hD _ _ _ (k2 0 v0 rfl),hD _ _ _ (k2 1 v1 rfl),hD _ _ _ (k2 2 v2 rfl),hD _ _ _ (k2 3 v3 rfl),jqF t (E:=E) hD hs.1 ?_⟩;unfold A.rep;exact⟨_,rfl,k1⟩
end
theorem jbM{α:Type}{E:Env}{b:Nat}(f:α->Value)(hf:∀x,(f x).oneCell'=true):∀{l:List α} {off:Nat},A.repAt (l.map fun x=>.v (f x)) E b off↔∀i (hi:i<l.length),E.C ⟨b,off+i,none⟩=some (f l[i])/\fX (f l[i])
 |[],off=>by simp[A.repAt]
 |x::l,off=>by
  simp only[xtw22,A.repAt];rw[jbM f hf (l:=l)];constructor
  ·rintro⟨⟨u,h1,-,h3⟩,h4⟩ i hi;rw[A.rep_v_iff] at h3
   cases i with
   |zero=>rw[xtw97,h1,h3.1];exact⟨rfl,h3.2⟩
   |succ i =>
    have:=h4 i (by simpa using hi);rw[show off+(i+1)=off+1+i by omega];exact this
  ·intro h;refine⟨⟨f x,by have:=(h 0 (by simp)).1;simpa using this,hf x,A.rep_v_iff.2 ⟨rfl,(h 0 (by simp)).2⟩⟩,fun i hi=>?_⟩;have:=h (i+1) (by simpa using hi);rw[show off+1+i=off+(i+1) by omega];exact this
theorem jgX{E:Env}{D:Rd}{v:Value}{l:List ByteArray}(hD:jlL E.C D)(hl:l.length<=1000000000)(h:(A.sl 1 l.length (xA l)).rep E v):StrsAt D v l:=by
 unfold xA jJ at h;unfold A.rep at h;obtain⟨_,_,p,b,off,cap,rfl,h6,h7,h8,h9⟩:=h;have h9:=(jbM (E:=E.per) Value.string (fun _=>rfl)).1 h9;refine⟨hl,fun s hs=>?_,p,b,off,cap,rfl,h6,?_,h8,fun i hi=>?_⟩
 ·obtain⟨i,hi,rfl⟩:=xtw67.1 hs;exact(h9 i hi).2
 ·rcases h7 with h7|h7
  ·exact .inl (xtw15 h7)
  ·exact .inr h7
 ·have:=(h9 i hi).1;simp[xtw9,hi];exact hD _ _ _ this
theorem jbL{α:Type}{E:Env}{b k:Nat}(f:α->List A)(hf:∀x,(f x).length=k):∀{l:List α} {off:Nat},A.repAt (l.flatMap f) E b off↔∀i (hi:i<l.length),A.repAt (f l[i]) E b (off+i*k)
 |[],off=>by simp[A.repAt]
 |x::l,off=>by
  rw[xtw82,fJ,jbL f hf (l:=l),hf];constructor
  ·rintro⟨h1,h2⟩ i hi
   cases i with
   |zero=>simpa using h1
   |succ i =>
    have:=h2 i (by simpa using hi);rw[show off+(i+1)*k=off+k+i*k by rw[xtw123];omega];exact this
  ·intro h;refine⟨by have:=h 0 (by simp);rw[Nat.zero_mul,xtw97] at this;exact this,fun i hi=>?_⟩;have:=h (i+1) (by simpa using hi);rw[show off+k+i*k=off+(i+1)*k by rw[xtw123];omega];exact this
theorem jnz{E:Env}{D:Rd}{v:Value}{u:Ut}(hD:jlL E.C D)(hs:WfU u)(h:(A.agg (cO u)).rep E v):jsY D v (toU u):=by
 unfold A.rep cO at h;obtain⟨us,rfl,h⟩:=h;obtain⟨us⟩:=us;simp only[A.repC] at h;obtain⟨dv,_,rfl,-,g1,vv,_,rfl,-,g2,ov,_,rfl,-,g3,rfl⟩:=h;refine⟨dv,vv,ov,rfl,jgX (l:=u.du) hD (by have:=hs.du;omega) g1,jgX (l:=u.vo) hD (by have:=hs.du;omega) g2,?_⟩;unfold A.rep at g3;obtain⟨_,_,p,b,off,cap,rfl,h6,h7,h8,h9⟩:=g3;have hlen:(toU u).on.length=u.on.length:=xtw44 ..;unfold jsU;rw[hlen];refine⟨by have:=hs.ol;omega,p,b,off,cap,rfl,h6,?_,h8,fun i hi=>?_⟩
 ·rcases h7 with h7|h7
  ·exact .inl (xtw15 (by rw[hlen];exact h7))
  ·exact .inr h7
 ·rw[hlen] at hi
  have hon:(toU u).on[i]=(u.on[i].1,toD u.on[i].2):=by simp[toU]
  rw[hon];unfold zV at h9;have h10:=(jbL (E:=E.per) (k:=5) tC (fun _=>rfl)).1 h9 i hi;obtain⟨us,k1,k2⟩:=A.repAt_vals h10;have hl:=A.repC_len k1;rw[show(tC u.on[i]).length=5 from rfl] at hl
  match us,hl,k1,k2 with
  |[v0,v1,v2,v3,v4],_,k1,k2 =>
   unfold tC intA A.repC at k1;obtain⟨_,_,e,-,g1,k3⟩:=k1;cases e;rw[jkf] at g1;obtain⟨rfl,g4,g5⟩:=g1;refine⟨g4,g5,v1,v2,v3,v4,hD _ _ _ (k2 0 _ rfl),hD _ _ _ (k2 1 v1 rfl),hD _ _ _ (k2 2 v2 rfl),hD _ _ _ (k2 3 v3 rfl),hD _ _ _ (k2 4 v4 rfl),jqF u.on[i].2 (E:=E) hD (hs.on _ (xtw10 hi)).2.2 ?_⟩;unfold A.rep;rw[jiy];exact⟨_,rfl,A.repC.mono _ E.per_le k3⟩
theorem jgC{w:World}{C:Rd}(h:Sub C (kR w)):jlL C w.cell?:=fun b o u hc=>h _ _ hc
def jZ(u:Ut)(s:ByteArray):Int:=vR u.du u.vo s
theorem joj(u:Ut)(hu:WfU u):Spec Tryz.prog 28 [] [.agg (cO u)] fun _ r=>r=intA (yH (toU u)):=by
 refine lO (eQ Tryz.func28 rfl (by kernel_rfl)) fun w C vals h0 h1 h2=>?_
 unfold A.repL at h2;obtain⟨v,us,rfl,h2,h3⟩:=h2;unfold A.repL at h3;subst h3;refine(jkM (toU u) v w (jnz (jgC h1) hu h2)).mono ?_;rintro e w' ⟨rfl,hx⟩;exact⟨_,rfl,hx,A.rep_v (okV_int.2 (by unfold yH;split <;> decide))⟩
theorem jgN(l:List ByteArray)(s:ByteArray) : -1<=aA l s/\aA l s<=l.length:=by
 have:=jf2 l s;omega
theorem jpg{u:Ut}(hu:WfU u)(s:ByteArray) : -1<=jZ u s/\jZ u s<=100:=by
 have h1:=jgN u.du s;have h2:=jgN u.vo s;have h3:=hu.du;unfold jZ vR
 repeat' split
 all_goals omega
theorem jsL(u:Ut)(hu:WfU u)(s:ByteArray):Spec Tryz.prog 62 [] [.agg (cO u),jJ s] fun _ r=>r=intA (jZ u s):=by
 have hb:=jpg hu s
 refine lO (eQ Tryz.func62 rfl (by kernel_rfl)) fun w C vals h0 h1 h2=>?_
 unfold A.repL at h2;obtain⟨v,us,rfl,h2,h3⟩:=h2;unfold A.repL at h3;obtain⟨v2,us2,rfl,h3,h4⟩:=h3;unfold A.repL at h4;subst h4;obtain⟨rfl,-⟩:=rep_vsC.1 h3;obtain⟨dv,vv,ov,rfl,g1,g2,g3⟩:=jnz (jgC h1) hu h2;refine(jdf dv vv ov u.du u.vo s w g1 g2).mono ?_;rintro e w' ⟨rfl,hx⟩;exact⟨_,rfl,hx,A.rep_v (by have h:=(okA_int (n:=jZ u s)).2 (by omega);unfold okA at h;exact h)⟩
theorem jgi(x:Int×Nt):∀l:List (Int×Nt),(g9 x l).Perm (x::l)
 |[]=>.refl _
 |y::l=>by
  rw[g9];split
  ·exact .refl _
  ·exact((jgi x l).cons y).trans (.swap x y l)
theorem aP:∀l:List (Int×Nt),(vX l).Perm l
 |[]=>.refl _
 |x::l=>(jgi x (vX l)).trans ((aP l).cons x)
theorem jog{l m:List (Int×Nt)}(h:l.Perm m):pP l=pP m:=by
 induction h with
 |nil=>rfl
 |cons x _ ih=>show _+pP _=_+pP _;rw[ih]
 |swap x y l=>show zN y.2+1+(zN x.2+1+pP l)=zN x.2+1+(zN y.2+1+pP l);omega
 |trans _ _ i j=>exact i.trans j
theorem jht(x:Int×Nt):∀l:List (Int×Nt),pP (l++[x])=pP l+(zN x.2+1)
 |[]=>by show zN x.2+1+0=0+(zN x.2+1);omega
 |f::l=>by show zN f.2+1+pP (l++[x])=zN f.2+1+pP l+(zN x.2+1);rw[jht x l];omega
structure WfH(l:List (Int×Nt)):Prop where
 on:∀h∈l,0<=h.1/\h.1<40/\eJ h.2
 st:∀h∈l,isX h.2=false
 nd:l.Pairwise fun a b=>a.1≠b.1
theorem WfH.sort{l:List (Int×Nt)}(h:WfH l):WfH (vX l) where
 on:=fun x hx=>h.on x ((aP l).mem_iff.1 hx)
 st:=fun x hx=>h.st x ((aP l).mem_iff.1 hx)
 nd:=((aP l).pairwise_iff (fun {a b} hab=>fun e=>hab e.symm)).2 h.nd
def TkN(ts:List Tk):Prop:=∀t∈ts,0<=t.n
theorem TkN.suf{a r:List Tk}(h:TkN (a++r)):TkN r:=fun t ht=>h t (xtw64 _ ht)
theorem TkN.tail{ts:List Tk}(h:TkN ts):TkN ts.tail:=fun t ht=>h t (List.mem_of_mem_tail ht)
theorem TkN.hd{ts:List Tk}(h:TkN ts):0<=(Vm.hd ts).n:=by
 cases ts with
 |nil=>exact Int.le_refl 0
 |cons t ts=>exact h t xtw29
theorem jtp{ts r:List Tk}{n:Int}(hz:TkN ts)(h:uK ts=.ok n r):0<=n/\n<40/\∃a,ts=a++r:=by
 have suf:∀ts:List Tk,∃a,ts=a++ts.tail:=fun ts=>by
  cases ts with
  |nil=>exact⟨[],rfl⟩
  |cons t ts=>exact⟨[t],rfl⟩
 have num:∀(limit off:Int) (q:List Tk),TkN q->mZ limit off q=.ok n r->off<=n/\n<off+limit/\∃a,q=a++r:=fun limit off q hq h=>by
  unfold mZ at h;split at h
  ·cases h
  ·split at h
   ·cases h
   ·cases h;have:=hq.hd;exact⟨by omega,by omega,suf q⟩
 obtain⟨a,ha⟩:=suf ts;unfold uK at h;split at h
 ·cases h;exact⟨by omega,by omega,suf ts⟩
 ·split at h
  ·cases h;exact⟨by omega,by omega,suf ts⟩
  ·split at h
   ·obtain⟨h1,h2,b,h3⟩:=num 8 2 _ hz.tail h;exact⟨by omega,by omega,a++b,by rw[xtw40,<- h3];exact ha⟩
   ·split at h
    ·obtain⟨h1,h2,b,h3⟩:=num 30 10 _ hz.tail h;exact⟨by omega,by omega,a++b,by rw[xtw40,<- h3];exact ha⟩
    ·cases h
theorem jqx(du vo:List ByteArray)(hn:du.length+vo.length<=16):∀(n:Nat) (hs:List (Int×Nt)) (ts:List Tk) (u:Ut),pP hs+10*ts.length<=40000->TkN ts->ts.length<=3002->hs.length+n<=4000->WfH hs->s8 du vo n hs ts=.ok u->WfU u/\pP u.on<=40000
 |0,hs,ts,u,_,_,_,_,_,h=>by cases h
 |n+1,hs,ts,u,hs0,hz,hl,hb,hw,h=>by
  rw[s8] at h;split at h
  ·cases h;exact⟨⟨hn,hw.sort.on,hw.sort.st,hw.sort.nd,by show(vX hs).length<=_;rw[(aP hs).length_eq];omega⟩,by show pP (vX hs)<=_;rw[jog (aP hs)];omega⟩
  ·split at h
   ·cases h
   ·rename_i hon
    have hne:ts≠[]:=fun e=>hon (by rw[e];exact Bool.eq_false_iff.2 (gT _))
    cases hh:uK ts.tail with
    |bad x y=>rw[hh] at h;cases h
    |ok k r =>
     rw[hh] at h;obtain⟨k0,k1,a,ha⟩:=jtp hz.tail hh
     dsimp only at h
     split at h
     ·cases h
     ·rename_i hdup
      cases hbl:(pa 19).bl r with
      |bad x y=>rw[hbl] at h;cases h
      |ok b r2 =>
       rw[hbl] at h
       have hr:r.length<=3002:=by
        have:=congrArg List.length ha;rw[xtw4,List.length_tail] at this;omega
       obtain⟨wb,a2,ha2,hsb⟩:=(wpa 19).bl r b r2 hr hbl
       have hzr:TkN r:=by
        have h1:=hz.tail;rw[ha] at h1;exact h1.suf
       refine jqx du vo hn n (hs++[(k,b)]) r2 u (by
        have h1:=congrArg List.length ha;have h2:=congrArg List.length ha2;have h3:=List.length_pos_iff.2 hne;rw[xtw4] at h1 h2;rw[List.length_tail] at h1;rw[jht];show pP hs+(zN b+1)+_<=_
        omega) (by rw[ha2] at hzr;exact hzr.suf) (by
        rw[ha2,xtw4] at hr;omega) (by rw[xtw4,xtw31];omega) ?_ h
       refine⟨fun x hx=>?_,fun x hx=>?_,List.pairwise_append.2 ⟨hw.nd,List.pairwise_singleton _ _,fun x hx y hy=>?_⟩⟩
       ·rcases xtw30.1 hx with hx|hx
        ·exact hw.on x hx
        ·rw[xtw16.1 hx];exact⟨k0,k1,wb.1⟩
       ·rcases xtw30.1 hx with hx|hx
        ·exact hw.st x hx
        ·rw[xtw16.1 hx];exact wb.2
       ·rw[xtw16.1 hy];intro e;refine hdup ?_;rw[xtw34];exact⟨x,hx,xtw1 e⟩
theorem jmo:∀(n:Nat) (names out:List ByteArray) (ts:List Tk) (names' out':List ByteArray) (r:List Tk),names.length<=16->aU n names out ts=.ok names' out' r->names'.length<=16/\names'.length+out.length=names.length+out'.length/\∃a,ts=a++r
 |0,names,out,ts,names',out',r,_,h=>by cases h
 |n+1,names,out,ts,names',out',r,hl,h=>by
  have suf:∀ts:List Tk,∃a,ts=a++ts.tail:=fun ts=>by
   cases ts with
   |nil=>exact⟨[],rfl⟩
   |cons t ts=>exact⟨[t],rfl⟩
  obtain⟨a1,h1⟩:=suf ts;obtain⟨a2,h2⟩:=suf ts.tail;obtain⟨a3,h3⟩:=suf ts.tail.tail;rw[aU] at h;split at h
  ·cases h
  ·split at h
   ·cases h
   ·split at h
    ·cases h
    ·split at h
     ·obtain⟨g1,g2,b,g3⟩:=jmo n _ _ _ _ _ _ (by rw[xtw4,xtw31];omega) h;rw[xtw4,xtw4,xtw31] at g2;exact⟨g1,by omega,a1++(a2++b),by rw[xtw40,xtw40,<- g3,<- h2];exact h1⟩
     ·split at h
      ·cases h;refine⟨by rw[xtw4,xtw31];omega,by rw[xtw4,xtw4,xtw31];omega,a1++(a2++a3),by rw[xtw40,xtw40,<- h3,<- h2];exact h1⟩
      ·cases h
theorem jmm:∀(n:Nat) (names du vo:List ByteArray) (ts:List Tk) (u:Ut),TkN ts->ts.length<=3002->names.length<=16->names.length=du.length+vo.length->jaO n names du vo ts=.ok u->WfU u/\pP u.on<=40000
 |0,names,du,vo,ts,u,_,_,_,_,h=>by cases h
 |n+1,names,du,vo,ts,u,hz,hl,hn,he,h=>by
  rw[jaO] at h;split at h
  ·cases hd:aU ts.length names [] ts with
   |bad x y=>rw[hd] at h;cases h
   |ok names' out r =>
    rw[hd] at h;obtain⟨g1,g2,b,g3⟩:=jmo _ _ _ _ _ _ _ hn hd;rw[xtw8] at g2;rw[g3] at hz hl;exact jmm n names' (du++out) vo r u hz.suf (by rw[xtw4] at hl;omega) g1 (by rw[xtw4];omega) h
  ·split at h
   ·cases hd:aU ts.length names [] ts with
    |bad x y=>rw[hd] at h;cases h
    |ok names' out r =>
     rw[hd] at h;obtain⟨g1,g2,b,g3⟩:=jmo _ _ _ _ _ _ _ hn hd;rw[xtw8] at g2;rw[g3] at hz hl;exact jmm n names' du (vo++out) r u hz.suf (by rw[xtw4] at hl;omega) g1 (by rw[xtw4];omega) h
   ·exact jqx du vo (by omega) _ [] ts u (by show 0+_<=_;omega) hz hl (by simp;omega) ⟨by simp,by simp,.nil⟩ h
theorem jkx{s:ByteArray}{u:Ut}(h:eE s=.ok u):WfU u/\pP u.on<=40000:=by
 unfold eE at h;split at h
 ·cases h
 ·rename_i hsz
  cases he:(qM s).err with
  |some p=>rw[he] at h;cases h
  |none =>
   rw[he] at h;have hok:=jpL s (by omega)
   have hlen:(lH s).length<=3002:=by
    have h1:=(vS (s.data.toList.length+1) 0 s.data.toList).1;rw[gO he,xtw4,xtw31];have h2:(qM s).toks.length<=s.data.toList.length:=h1;rw[zQ] at h2;omega
   refine jmm _ [] [] [] (lH s) u (fun t ht=>?_) hlen (by simp) rfl h;rcases hok t ht with h3|h3
   ·exact h3.2.2.2.1
   ·rw[h3.2.2.2];exact Int.le_refl 0
abbrev Ic:=Int×Int
def icA(i:Ic):List A:=[intA i.1,intA i.2]
@[irreducible] def qF(l:List Ic):List A:=l.flatMap icA
theorem rS:qF []=[]:=by unfold qF;rfl
theorem kM(l m:List Ic):qF (l++m)=qF l++qF m:=by unfold qF;rw[List.flatMap_append]
theorem vQ(i:Ic):qF [i]=icA i:=by unfold qF;rw[xtw82,List.flatMap_nil,xtw66]
theorem tD(l:List Ic)(a b:Int):qF (l++[(a,b)])=qF l++[intA a,intA b]:=by rw[kM,vQ];rfl
theorem l9(l:List Ic):qF l=l.flatMap icA:=by unfold qF;rfl
theorem aN(l:List Ic)(i:Nat)(hi:i<l.length):jC 2 i (qF l)=icA l[i]:=by rw[l9];exact xV icA (fun _=>rfl) l i hi
theorem jmI(l:List Ic):(qF l).length=l.length*2:=by
 rw[l9]
 induction l with
 |nil=>rfl
 |cons a l ih=>rw[xtw82,xtw4,ih,xtw6];simp only[icA,xtw6,xtw8];omega
def noI:Int->List Ic:=fun _=>[]
def rG(c y n:Int->List Ic)(at':Int):List Ic :=
 let l:=c at'
 let f:=at'+l.length+1+(y (at'+l.length+1)).length+1
 l++(16,f)::(y (at'+l.length+1)++(15,f+(n f).length)::n f)
def zX:List (Int->List Ic)->Int->List Ic
 |[],_=>[]
 |g::r,at'=>g at'++zX r (at'+(g at').length)
def biF(s:ByteArray):Int:=match builtL.findIdx? (fun x=>decide (x=s)) with
 |some i=>i
 |none => -1
def opC(s:ByteArray):List Ic :=
 if s=bF then [(6,0)] else if s=qB then [(7,0)] else if s=vC then [(8,0)] else if s=wK then [(9,0)]
 else if s=pLt then [(11,0)] else if s=pLe then [(12,0)] else if s=jnn then [(13,0)] else if s=pGt then [(12,0),(14,0)]
 else if s=pGe then [(11,0),(14,0)] else [(13,0),(14,0)]
def kV(ix:ByteArray->Int)(k n:Int)(s:ByteArray)(g:List (Int->List Ic))(at':Int):List Ic :=
 if k=12∨k=13 then [(1,n)]
 else if k=14 then [(2,ix s)]
 else if k=15 then [(4,biF s)]
 else if k=2 then rG (g.getD 0 noI) (g.getD 1 noI) (g.getD 2 noI) at'
 else if k=5 then [(18,n)]
 else if k=6 then [(19,n)]
 else if k=7 then [(20,0)]
 else if k=10 then [(23,0)]
 else if k=3 then
  let c:=(g.getD 0 noI) at'
  let b:=(g.getD 1 noI) (at'+c.length+1)
  c++(16,at'+c.length+b.length+2)::(b++[(15,at')])
 else if k=18/\s=yW then rG (g.getD 0 noI) (g.getD 1 noI) (fun _=>[(1,0)]) at'
 else if k=18/\s=sD then rG (g.getD 0 noI) (fun _=>[(1,1)]) (g.getD 1 noI) at'
 else zX g at'++(if k=18 then opC s else if k=16 then [(5,0)] else if k=17 then(if s=qB then [(10,0)] else [(14,0)]) else if k=1 then [(3,ix s)] else if k=4 then [(17,n)] else if k=8 then [(21,0)] else if k=9 then [(22,0)] else [])
mutual
def jI(ix:ByteArray->Int):Nt->Int->List Ic
 |.mk k n s kids,at'=>kV ix k n s (jH ix kids) at'
def jH(ix:ByteArray->Int):List Nt->List (Int->List Ic)
 |[]=>[]
 |f::l=>jI ix f::jH ix l
end
theorem wU(ix:ByteArray->Int):∀l:List Nt,jH ix l=l.map (jI ix)
 |[]=>rfl
 |f::l=>by rw[jH,wU ix l];rfl
def qJ(k:Int):Int:=if k=3∨k=5∨k=10∨k=14∨k=16∨k=22 then 1 else if 6<=k/\k<=9∨11<=k/\k<=13∨k=21 then 2 else if k=17 then 3 else 0
def qG(k:Int):Int:=if k=1∨k=2∨4<=k/\k<=14 then 1 else 0
def nxI(a:Int)(i:Ic):List Int:=if i.1=23 then [] else if i.1=15 then [i.2] else if i.1=16 then [a+1,i.2] else [a+1]
structure Fs where
 dm:List (Int×Int)
 wk:List Int
 er:Bool
def dF(dm:List (Int×Int))(k:Int):Option Int:=(dm.find? fun p=>decide (k=p.1)).map (·.2)
def jcy(n:Nat)(af:Int)(s:Fs)(k:Int):Option Fs :=
 if (n:Int)<=k then none else match dF s.dm k with
 |some d=>some ⟨s.dm,s.wk,s.er||decide (d≠af)⟩
 |none=>some ⟨s.dm++[(k,af)],s.wk++[k],s.er⟩
def nA(n:Nat)(af:Int):List Int->Fs->Option Fs
 |[],s=>some s
 |k::l,s=>match jcy n af s k with
  |none=>none
  |some s'=>nA n af l s'
def afF(code:List Ic)(dm:List (Int×Int))(a:Int):Int:=(dF dm a).getD 0-qJ (code.getD a.toNat (0,0)).1+qG (code.getD a.toNat (0,0)).1
def u4(code:List Ic)(dm:List (Int×Int))(a:Int):Bool:=decide ((dF dm a).getD 0<qJ (code.getD a.toNat (0,0)).1)||decide (16<afF code dm a)
def uX(code:List Ic)(dm:List (Int×Int))(wk:List Int)(er:Bool)(a:Int):Option Fs :=
 nA code.length (afF code dm a) (nxI a (code.getD a.toNat (0,0))) ⟨dm,wk,er||u4 code dm a⟩
def jp8(er:Bool):Int:=if er=true then 13 else 0
def jia(code:List Ic):Nat->Fs->Int
 |0,s=>jp8 s.er
 |m+1,s=>match s.wk.getLast? with
  |none=>jp8 s.er
  |some a=>match uX code s.dm s.wk.dropLast s.er a with
   |none=>12
   |some s'=>jia code m s'
def kF(code:List Ic)(entry:Int):Int:=if entry<0 then 0 else jia code (code.length+1) ⟨[(entry,0)],[entry],false⟩
def cU(code:List Ic):Prop:=∀i∈code,i.1=15∨i.1=16->0<=i.2
structure jam(n:Nat)(s:Fs):Prop where
 rng:∀p∈s.dm,0<=p.1/\p.1<n
 nd:(s.dm.map (·.1)).Nodup
 wk:∀k∈s.wk,∃d,(k,d)∈s.dm
 dep:∀p∈s.dm,-(3*(s.dm.length:Int))<=p.2/\p.2<=3*s.dm.length
theorem jaN{dm:List (Int×Int)}{k d:Int}(h:dF dm k=some d):(k,d)∈dm:=by
 unfold dF at h
 cases hf:dm.find? (fun p=>decide (k=p.1)) with
 |none=>rw[hf] at h;cases h
 |some p =>
  rw[hf] at h;cases h;have h1:=List.find?_some hf;have h2:=List.mem_of_find?_eq_some hf;rw[xtw17] at h1;rw[h1];exact h2
theorem jez{dm:List (Int×Int)}{k d:Int}(h:(k,d)∈dm):∃d',dF dm k=some d':=by
 unfold dF
 cases hf:dm.find? (fun p=>decide (k=p.1)) with
 |none=>rw[List.find?_eq_none] at hf;exact absurd (hf _ h) (by simp)
 |some p=>exact⟨_,rfl⟩
theorem jjE{dm:List (Int×Int)}{k:Int}(h:dF dm k=none):∀p∈dm,k≠p.1:=by
 unfold dF at h;rw[Option.map_eq_none_iff,List.find?_eq_none] at h
 exact fun p hp=>by simpa using h p hp
theorem sA:∀(n:Nat) (l:List Int),l.Nodup->(∀a∈l,0<=a/\a<(n:Int))->l.length<=n
 |0,l,_,h=>by
  cases l with
  |nil=>exact xtw11 _
  |cons a l=>have:=h a xtw29;omega
 |n+1,l,hn,h=>by
  have h1:(l.erase (n:Int)).length<=n:=sA n (l.erase (n:Int)) (hn.erase _) fun a ha=>by
   have h2:=h a (List.mem_of_mem_erase ha);have h3:a≠n:=(hn.mem_erase_iff.1 ha).1;omega
  rw[List.length_erase] at h1
  split at h1 <;> omega
theorem ja9{n:Nat}{dm:List (Int×Int)}(h:∀p∈dm,0<=p.1/\p.1<(n:Int))(hn:(dm.map (·.1)).Nodup):dm.length<=n:=by
 have:=sA n _ hn fun a ha=>by
  obtain⟨p,hp,rfl⟩:=xtw60.1 ha;exact h p hp
 simpa using this
theorem jeM{n:Nat}{af k:Int}{s s':Fs}(h:jam n s)(hk:0<=k)(ha : -(3*(s.dm.length:Int))-3<=af/\af<=3*s.dm.length+3)(e:jcy n af s k=some s'):jam n s'/\s'.wk.length+s.dm.length=s.wk.length+s'.dm.length/\s.dm.length<=s'.dm.length:=by
 unfold jcy at e;split at e
 ·cases e
 split at e
 ·cases e;exact⟨⟨h.rng,h.nd,h.wk,h.dep⟩,rfl,xtw11 _⟩
 ·rename_i hd;have hne:=jjE hd;cases e;refine⟨⟨fun p hp=>?_,?_,fun j hj=>?_,fun p hp=>?_⟩,by simp only[xtw4,xtw31];omega,by simp⟩
  ·rcases xtw30.1 hp with hp|hp
   ·exact h.rng p hp
   ·rw[xtw16.1 hp];exact⟨hk,by simp only;omega⟩
  ·rw[xtw59,List.map_singleton,xtw115];refine⟨h.nd,by simp,fun a ha b hb=>?_⟩;obtain⟨p,hp,rfl⟩:=xtw60.1 ha;rw[xtw16.1 hb];exact xtw106 (hne p hp)
  ·rcases xtw30.1 hj with hj|hj
   ·obtain⟨d,hd⟩:=h.wk j hj;exact⟨d,xtw55 _ hd⟩
   ·rw[xtw16.1 hj];exact⟨af,xtw64 _ xtw29⟩
  ·simp only[xtw4,xtw31];rcases xtw30.1 hp with hp|hp
   ·have:=h.dep p hp;omega
   ·rw[xtw16.1 hp];simp only;omega
theorem jgp{n:Nat}{af:Int}:∀(l:List Int) {s s':Fs} (B:Nat),jam n s->B<=s.dm.length->(∀k∈l,0<=k)->(-(3*(B:Int))-3<=af/\af<=3*B+3)->nA n af l s=some s'->jam n s'/\s'.wk.length+s.dm.length=s.wk.length+s'.dm.length/\s.dm.length<=s'.dm.length
 |[],s,s',B,h,hB,hk,ha,e=>by
  unfold nA at e;cases e;exact⟨h,rfl,xtw11 _⟩
 |k::l,s,s',B,h,hB,hk,ha,e=>by
  unfold nA at e;split at e
  ·cases e
  ·rename_i s1 e1;obtain⟨h1,h2,h3⟩:=jeM h (hk k xtw29) ⟨by omega,by omega⟩ e1;obtain⟨h4,h5,h6⟩:=jgp l B h1 (by omega) (fun j hj=>hk j (xtw25 _ hj)) ha e;exact⟨h4,by omega,by omega⟩
theorem sF(k:Int):0<=qJ k/\qJ k<=3:=by unfold qJ;repeat' split <;> omega
theorem dV(k:Int):0<=qG k/\qG k<=1:=by unfold qG;split <;> omega
theorem jnu(k:Int) : -3<=qG k-qJ k/\qG k-qJ k<=1:=by
 have:=sF k;have:=dV k;omega
theorem jgF{code:List Ic}(hj:cU code){a:Int}(ha:0<=a/\a<code.length):∀k∈nxI a (code.getD a.toNat (0,0)),0<=k:=by
 have hm:code.getD a.toNat (0,0)∈code:=by
  have h:a.toNat<code.length:=by omega
  rw[xtw9,xtw21 h];exact xtw10 h
 have hjm:=hj _ hm;generalize code.getD a.toNat (0,0)=i at *;intro k hk;unfold nxI at hk;split at hk
 ·cases hk
 ·split at hk
  ·rw[xtw16.1 hk];exact hjm (.inl (by assumption))
  ·split at hk
   ·rcases xtw13.1 hk with rfl|hk
    ·omega
    ·rw[xtw16.1 hk];exact hjm (.inr (by assumption))
   ·rw[xtw16.1 hk];omega
theorem jr0{n:Nat}{code:List Ic}{s:Fs}(h:jam n s){a:Int} : -(3*(s.dm.length:Int))-3<=afF code s.dm a/\afF code s.dm a<=3*s.dm.length+3:=by
 have hp:=jnu (code.getD a.toNat (0,0)).1;unfold afF
 cases hd:dF s.dm a with
 |none=>simp only[Option.getD_none];omega
 |some d =>
  have:=h.dep _ (jaN hd);simp only[Option.getD_some];omega
theorem jks{code:List Ic}(hj:cU code){dm:List (Int×Int)}{pre:List Int}{a:Int}{er:Bool}{s':Fs}(h:jam code.length ⟨dm,pre++[a],er⟩)(e:uX code dm pre er a=some s'):jam code.length s'/\s'.wk.length+(code.length-s'.dm.length)+1=(pre++[a]).length+(code.length-dm.length)/\dm.length<=s'.dm.length:=by
 have h0:jam code.length ⟨dm,pre,er||u4 code dm a⟩:=⟨h.rng,h.nd,fun k hk=>h.wk k (xtw55 _ hk),h.dep⟩
 obtain⟨d,hd⟩:=h.wk a (xtw64 _ xtw29);have hr:=h.rng _ hd;obtain⟨h1,h2,h3⟩:=jgp _ dm.length h0 (xtw11 _) (jgF hj hr) (jr0 h) e;have hl:=ja9 h1.rng h1.nd;have hl0:=ja9 h.rng h.nd;simp only[xtw4,xtw31] at h2 h3 hl0 ⊢;exact⟨h1,by omega,h3⟩
def dmA(dm:List (Int×Int)):List (Int×A):=dm.map fun p=>(p.1,intA p.2)
theorem jfZ(dm:List (Int×Int))(k:Int):wI (dmA dm) k=(dF dm k).map intA:=by
 unfold wI dmA dF;rw[List.find?_map]
 cases h:dm.find? ((fun p:Int×A=>decide (k=p.1)) ∘ fun p:Int×Int=>(p.1,intA p.2)) with
 |none =>
  have:dm.find? (fun p:Int×Int=>decide (k=p.1))=none:=h;rw[this];rfl
 |some p =>
  have:dm.find? (fun p:Int×Int=>decide (k=p.1))=some p:=h;rw[this];rfl
theorem jmr(dm:List (Int×Int))(k d:Int):dmA (dm++[(k,d)])=dmA dm++[(k,intA d)]:=by unfold dmA;rw[xtw59];rfl
def pgE(e:Nat->Int)(du vo:Int):List A:=[intA (e 0),intA (e 1),intA (e 2),intA (e 3),intA (e 4),intA (e 5),intA (e 6),intA (e 7),intA (e 8),intA (e 9),intA (e 10),intA (e 11),intA (e 12),intA (e 13),intA (e 14),intA (e 15),intA (e 16),intA (e 17),intA (e 18),intA (e 19),intA (e 20),intA (e 21),intA (e 22),intA (e 23),intA (e 24),intA (e 25),intA (e 26),intA (e 27),intA (e 28),intA (e 29),intA (e 30),intA (e 31),intA (e 32),intA (e 33),intA (e 34),intA (e 35),intA (e 36),intA (e 37),intA (e 38),intA (e 39),intA du,intA vo]
def pgL(code:List Ic)(e:Nat->Int)(du vo:Int):List A:=.sl 2 code.length (qF code)::pgE e du vo
def sE(code:List Ic)(e:Nat->Int)(du vo:Int):A:=.agg (pgL code e du vo)
structure Sh where
 po:Int
 pu:Int
 lo:Int
 hi:Int
def shA(s:Sh):A:=.agg [intA s.po,intA s.pu,intA s.lo,intA s.hi]
def shL(v l:Int):List (Int×Sh):=[(1,⟨0,1,(-2147483647),2147483647⟩),(2,⟨0,1,0,v⟩),(3,⟨1,0,0,v⟩),(4,⟨0,1,0,8⟩),(5,⟨1,1,0,0⟩),(6,⟨2,1,0,0⟩),(7,⟨2,1,0,0⟩),(8,⟨2,1,0,0⟩),(9,⟨2,1,0,0⟩),(10,⟨1,1,0,0⟩),(11,⟨2,1,0,0⟩),(12,⟨2,1,0,0⟩),(13,⟨2,1,0,0⟩),(14,⟨1,1,0,0⟩),(15,⟨0,0,0,l⟩),(16,⟨1,0,0,l⟩),(17,⟨3,0,0,29⟩),(18,⟨0,0,0,7⟩),(19,⟨0,0,0,7⟩),(20,⟨0,0,0,0⟩),(21,⟨2,0,0,0⟩),(22,⟨1,0,0,0⟩),(23,⟨0,0,0,0⟩)]
def shP(v l:Int):List (Int×A):=(shL v l).map fun p=>(p.1,shA p.2)
def shM(v l:Int):A:=.mp (mkV (shP v l)) (pY (shP v l))
theorem uV(code:List Ic)(e:Nat->Int)(du vo:Int)(hd : -100<=du/\du<=100)(hv : -100<=vo/\vo<=100)(hl:code.length<=1000000):Spec Tryz.prog 57 [] [sE code e du vo] fun _ r=>r=shM (du+vo-1) (code.length-1):=by
 refine bL (qE jtU jT 0) (fun _ _ h=>h) Tryz.func57 rfl (by kernel_rfl) rfl ?_;intro _;refine yO (qE _ _ _) (by kernel_rfl) ?_;conv=>whnf
 refine yO (qE _ _ _) (by kernel_rfl) ?_;conv=>whnf
 refine⟨jG (by omega),?_⟩;conv=>whnf
 refine⟨jG (by omega),?_⟩;conv=>whnf
 refine⟨jG (by omega),?_⟩;conv=>whnf
 refine yO (qE _ _ _) (by kernel_rfl) ?_;conv=>whnf
 refine jeW 0 ?_;conv=>whnf
 refine kK (qE _ _ _) (by kernel_rfl) ?_;conv=>whnf
 unfold shM mkV pY shP shL;rfl
theorem jmC(v l k:Int)(hk:1<=k/\k<=23):∃lo hi,wI (shP v l) k=some (.agg [intA (qJ k),intA (qG k),intA lo,intA hi]):=by
 have h:k=1∨k=2∨k=3∨k=4∨k=5∨k=6∨k=7∨k=8∨k=9∨k=10∨k=11∨k=12∨k=13∨k=14∨k=15∨k=16∨k=17∨k=18∨k=19∨k=20∨k=21∨k=22∨k=23:=by omega
 rcases h with rfl|rfl|rfl|rfl|rfl|rfl|rfl|rfl|rfl|rfl|rfl|rfl|rfl|rfl|rfl|rfl|rfl|rfl|rfl|rfl|rfl|rfl|rfl
 all_goals exact⟨_,_,rfl⟩
theorem jis(v l k:Int)(hk:1<=k/\k<=23){K:A->Prop}{n:Prop}(h:∀lo hi,K (.agg [intA (qJ k),intA (qG k),intA lo,intA hi])):gU false (mkV (shP v l)) (pY (shP v l)) (.int .i64 k) K n:=by
 refine kH _ _ ?_;obtain⟨lo,hi,e⟩:=jmC v l k hk;rw[e];exact h lo hi
def jfq(i:Ic):Prop:=(1<=i.1/\i.1<=23)/\(i.1=15∨i.1=16->0<=i.2)
def GOk(g:Int->List Ic):Prop:=∀at':Int,0<=at'->∀i∈g at',jfq i
theorem GOk.no:GOk noI:=fun _ _ i hi=>by cases hi
theorem GOk.one{i:Ic}(h:jfq i):GOk fun _=>[i]:=fun _ _ j hj=>by rw[xtw16.1 hj];exact h
theorem GOk.seq:∀{l:List (Int->List Ic)},(∀g∈l,GOk g)->GOk (zX l)
 |[],_,_,_,i,hi=>by cases hi
 |g::r,h,at',ha,i,hi=>by
  unfold zX at hi;rcases xtw30.1 hi with hi|hi
  ·exact h g xtw29 at' ha i hi
  ·exact GOk.seq (fun x hx=>h x (xtw25 _ hx)) _ (by omega) i hi
theorem GOk.br{c y n:Int->List Ic}(hc:GOk c)(hy:GOk y)(hn:GOk n):GOk (rG c y n):=fun at' ha i hi=>by
 unfold rG at hi;simp only[xtw30,xtw13] at hi;rcases hi with hi|rfl|hi|rfl|hi
 ·exact hc at' ha i hi
 ·exact⟨by simp,fun _=>by simp only;omega⟩
 ·exact hy _ (by omega) i hi
 ·exact⟨by simp,fun _=>by simp only;omega⟩
 ·exact hn _ (by omega) i hi
theorem GOk.get{l:List (Int->List Ic)}(h:∀g∈l,GOk g)(k:Nat):GOk (l.getD k noI):=by
 rw[xtw9]
 cases hk:l[k]? with
 |none=>exact GOk.no
 |some g=>exact h g (List.mem_of_getElem? hk)
theorem jsa(s:ByteArray):∀i∈opC s,jfq i:=by
 unfold opC
 repeat' split
 all_goals(intro i hi;simp only[xtw13,xtw42,xtw81] at hi)
 all_goals first
  |(rcases hi with rfl|rfl <;> exact⟨by simp,fun h=>by simp at h⟩)
  |(subst hi;exact⟨by simp,fun h=>by simp at h⟩)
theorem GOk.body(ix:ByteArray->Int)(k n:Int)(s:ByteArray){l:List (Int->List Ic)}(h:∀g∈l,GOk g):GOk (kV ix k n s l):=fun at' ha i hi=>by
 have g0:=GOk.get h 0;have g1:=GOk.get h 1;have g2:=GOk.get h 2;have sq:=GOk.seq h
 have one:∀{a b:Int},1<=a->a<=23->a≠15->a≠16->i∈[((a,b):Ic)]->jfq i:=fun h1 h2 h3 h4 hi=>by
  rw[xtw16.1 hi];exact⟨⟨h1,h2⟩,fun h=>by rcases h with h|h;exact absurd h h3;exact absurd h h4⟩
 unfold kV at hi;by_cases c1:k=12∨k=13
 ·rw[xtw3 c1] at hi;exact one (by decide) (by decide) (by decide) (by decide) hi
 rw[xtw2 c1] at hi;by_cases c2:k=14
 ·rw[xtw3 c2] at hi;exact one (by decide) (by decide) (by decide) (by decide) hi
 rw[xtw2 c2] at hi;by_cases c3:k=15
 ·rw[xtw3 c3] at hi;exact one (by decide) (by decide) (by decide) (by decide) hi
 rw[xtw2 c3] at hi;by_cases c4:k=2
 ·rw[xtw3 c4] at hi;exact GOk.br g0 g1 g2 at' ha i hi
 rw[xtw2 c4] at hi;by_cases c5:k=5
 ·rw[xtw3 c5] at hi;exact one (by decide) (by decide) (by decide) (by decide) hi
 rw[xtw2 c5] at hi;by_cases c6:k=6
 ·rw[xtw3 c6] at hi;exact one (by decide) (by decide) (by decide) (by decide) hi
 rw[xtw2 c6] at hi;by_cases c7:k=7
 ·rw[xtw3 c7] at hi;exact one (by decide) (by decide) (by decide) (by decide) hi
 rw[xtw2 c7] at hi;by_cases c8:k=10
 ·rw[xtw3 c8] at hi;exact one (by decide) (by decide) (by decide) (by decide) hi
 rw[xtw2 c8] at hi;by_cases c9:k=3
 ·rw[xtw3 c9] at hi;simp only[xtw30,xtw13,xtw42,xtw81] at hi;rcases hi with hi|rfl|hi|rfl
  ·exact g0 at' ha i hi
  ·exact⟨by simp,fun _=>by simp only;omega⟩
  ·exact g1 _ (by omega) i hi
  ·exact⟨by simp,fun _=>ha⟩
 rw[xtw2 c9] at hi;by_cases ca:k=18/\s=yW
 ·rw[xtw3 ca] at hi;exact GOk.br g0 g1 (GOk.one ⟨by simp,fun h=>by simp at h⟩) at' ha i hi
 rw[xtw2 ca] at hi;by_cases cb:k=18/\s=sD
 ·rw[xtw3 cb] at hi;exact GOk.br g0 (GOk.one ⟨by simp,fun h=>by simp at h⟩) g1 at' ha i hi
 rw[xtw2 cb] at hi;rcases xtw30.1 hi with hi|hi
 ·exact sq at' ha i hi
 by_cases d1:k=18
 ·rw[xtw3 d1] at hi;exact jsa s i hi
 rw[xtw2 d1] at hi;by_cases d2:k=16
 ·rw[xtw3 d2] at hi;exact one (by decide) (by decide) (by decide) (by decide) hi
 rw[xtw2 d2] at hi;by_cases d3:k=17
 ·rw[xtw3 d3] at hi;by_cases d4:s=qB
  ·rw[xtw3 d4] at hi;exact one (by decide) (by decide) (by decide) (by decide) hi
  ·rw[xtw2 d4] at hi;exact one (by decide) (by decide) (by decide) (by decide) hi
 rw[xtw2 d3] at hi;by_cases d5:k=1
 ·rw[xtw3 d5] at hi;exact one (by decide) (by decide) (by decide) (by decide) hi
 rw[xtw2 d5] at hi;by_cases d6:k=4
 ·rw[xtw3 d6] at hi;exact one (by decide) (by decide) (by decide) (by decide) hi
 rw[xtw2 d6] at hi;by_cases d7:k=8
 ·rw[xtw3 d7] at hi;exact one (by decide) (by decide) (by decide) (by decide) hi
 rw[xtw2 d7] at hi;by_cases d8:k=9
 ·rw[xtw3 d8] at hi;exact one (by decide) (by decide) (by decide) (by decide) hi
 rw[xtw2 d8] at hi;cases hi
theorem rJ(ix:ByteArray->Int):∀f:Nt,GOk (jI ix f)
 |.mk k n s kids=>by
  have h:∀f∈kids,GOk (jI ix f):=fun f hf=>rJ ix f
  rw[show jI ix (.mk k n s kids)=kV ix k n s (jH ix kids) by funext at';rw[jI]]
  refine GOk.body ix k n s fun g hg=>?_
  rw[wU] at hg;obtain⟨f,hf,rfl⟩:=xtw60.1 hg;exact h f hf
def o6(ix:ByteArray->Int):List (Int×Nt)->List Ic->(Nat->Int)->List Ic×(Nat->Int)
 |[],c,e=>(c,e)
 |(h,b)::r,c,e=>o6 ix r (c++jI ix b c.length++[(23,0)]) (fun j=>if j=h.toNat then(c.length:Int) else e j)
theorem jmF(ix:ByteArray->Int):∀(l:List (Int×Nt)) (c:List Ic) (e:Nat->Int),(∀i∈c,jfq i)->∀i∈(o6 ix l c e).1,jfq i
 |[],c,e,hc=>hc
 |(h,b)::r,c,e,hc=>by
  unfold o6
  refine jmF ix r _ _ fun i hi=>?_
  rcases xtw30.1 hi with hi|hi
  ·rcases xtw30.1 hi with hi|hi
   ·exact hc i hi
   ·exact rJ ix b _ (by omega) i hi
  ·rw[xtw16.1 hi];exact⟨by simp,fun h=>by simp at h⟩
def m8(code:List Ic)(e:Nat->Int):Nat->Nat->Int
 |_,0=>0
 |j,m+1=>if kF code (e j)≠0 then kF code (e j) else m8 code e (j+1) m
def noE:Nat->Int:=fun _ => -1
def zE:Nat->Int:=fun _=>0
def yZ(u:Ut):List Ic×(Nat->Int):=o6 (jZ u) u.on [] noE
def u5(u:Ut):Int:=if 400<(yZ u).1.length then 2 else m8 (yZ u).1 (yZ u).2 0 40
def eG:List A:=.v (.slice none 0 0)::pgE zE 0 0
def jcu(u:Ut):A:=if u5 u=0 then .tup [sE (yZ u).1 (yZ u).2 u.du.length u.vo.length,intA 0] else .tup [.agg eG,intA (u5 u)]
def okI(v l:Int)(i:Ic):Bool:=match (shL v l).find? (fun p=>decide (i.1=p.1)) with
 |none=>false
 |some p=>decide (p.2.lo<=i.2)&&decide (i.2<=p.2.hi)
def m5(n:Nat)(x:Int):Bool:=decide (-1<=x)&&decide (x<(n:Int))
def p6(p:Int->Bool)(e:Nat->Int):Nat->Nat->Bool
 |_,0=>true
 |j,m+1=>p (e j)&&p6 p e (j+1) m
def jqb(code:List Ic)(e:Nat->Int):Nat->Nat->Int->Int
 |_,0,r=>r
 |j,m+1,r=>if kF code (e j)=12 then 12 else jqb code e (j+1) m (if kF code (e j)=13 then 13 else r)
def jqc(code:List Ic)(e:Nat->Int)(du vo:Int):Int :=
 if 400<code.length then 2
 else if du<0∨vo<0∨16<du∨16-du<vo then 12
 else if (code.all (okI (du+vo-1) (code.length-1)))=false then 12
 else if p6 (m5 code.length) e 0 40=false then 12
 else jqb code e 0 40 0
def opI(code:List Ic)(a:Int):Int:=(code.getD a.toNat (0,0)).1
def sc(code:List Ic)(a:Int):List Int:=nxI a (code.getD a.toNat (0,0))
def lv(code:List Ic)(a d:Int):Int:=d-qJ (opI code a)+qG (opI code a)
inductive Rch(code:List Ic)(x:Int):Int->Prop
 |here:Rch code x x
 |next {a k:Int} (h:Rch code x a) (hk:k∈sc code a) (hn:k<code.length):Rch code x k
structure jal(code:List Ic)(x:Int)(D:Int->Int):Prop where
 st:D x=0
 po:∀a,Rch code x a->qJ (opI code a)<=D a
 nx:∀a,Rch code x a->∀k∈sc code a,k<code.length->D k=lv code a (D a)
def Good(code:List Ic)(x:Int)(D:Int->Int):Prop:=jal code x D/\∀a,Rch code x a->lv code a (D a)<=16
theorem Rch.rng{code:List Ic}(hj:cU code){x:Int}(hx:0<=x/\x<code.length){a:Int}(h:Rch code x a):0<=a/\a<code.length:=by
 induction h with
 |here=>exact hx
 |next h hk hn ih=>exact⟨jgF hj ih _ hk,hn⟩
theorem Good.le{code:List Ic}{x:Int}{D:Int->Int}(h:Good code x D){a:Int}(ha:Rch code x a):D a<=16:=by
 cases ha with
 |here=>rw[h.1.st];decide
 |next h1 hk hn=>rw[h.1.nx _ h1 _ hk hn];exact h.2 _ h1
theorem jbe{n:Nat}{af:Int}:∀(l:List Int) (s s':Fs),nA n af l s=some s'->∃t:List (Int×Int),s'.dm=s.dm++t/\s'.wk=s.wk++t.map (·.1)/\(∀p∈t,p.1∈l/\p.2=af)/\(∀k∈l,k<n/\∃d,(k,d)∈s'.dm)/\(s'.er=false->s.er=false/\∀k∈l,(k,af)∈s'.dm)/\((s.er=false/\∀k∈l,∀d,(k,d)∈s.dm->d=af)->s'.er=false)
 |[],s,s',e=>by
  unfold nA at e;cases e;exact⟨[],by simp,by simp,by simp,by simp,fun h=>⟨h,by simp⟩,fun h=>h.1⟩
 |k::l,s,s',e=>by
  unfold nA jcy at e;by_cases hk:(n:Int)<=k
  ·rw[xtw3 hk] at e;cases e
  rw[xtw2 hk] at e
  cases hd:dF s.dm k with
  |some d =>
   rw[hd] at e
   simp only at e
   obtain⟨t,h1,h2,h3,h4,h5,h6⟩:=jbe l _ s' e;have hm:=jaN hd;refine⟨t,h1,h2,fun p hp=>⟨xtw25 _ (h3 p hp).1,(h3 p hp).2⟩,?_,?_,?_⟩
   ·intro j hj';rcases xtw13.1 hj' with rfl|hj'
    ·exact⟨by omega,d,by rw[h1];exact xtw55 _ hm⟩
    ·exact h4 j hj'
   ·intro he;obtain⟨q1,q2⟩:=h5 he;simp only[Bool.or_eq_false_iff,xtw101,ne_eq,xtw107] at q1;refine⟨q1.1,fun j hj'=>?_⟩;rcases xtw13.1 hj' with rfl|hj'
    ·rw[h1,<- q1.2];exact xtw55 _ hm
    ·exact q2 j hj'
   ·rintro⟨q1,q2⟩;refine h6 ⟨?_,fun j hj' d' hd'=>q2 j (xtw25 _ hj') d' hd'⟩;simp only[Bool.or_eq_false_iff,xtw101,ne_eq,xtw107];exact⟨q1,q2 k xtw29 d hm⟩
  |none =>
   rw[hd] at e
   simp only at e
   obtain⟨t,h1,h2,h3,h4,h5,h6⟩:=jbe l _ s' e
   simp only at h1 h2 h5 h6
   refine⟨(k,af)::t,by rw[h1,xtw40];rfl,by rw[h2,xtw40];rfl,?_,?_,?_,?_⟩
   ·intro p hp;rcases xtw13.1 hp with rfl|hp
    ·exact⟨xtw29,rfl⟩
    ·exact⟨xtw25 _ (h3 p hp).1,(h3 p hp).2⟩
   ·intro j hj';rcases xtw13.1 hj' with rfl|hj'
    ·exact⟨by omega,af,by rw[h1];exact xtw55 _ (xtw64 _ xtw29)⟩
    ·exact h4 j hj'
   ·intro he;obtain⟨q1,q2⟩:=h5 he;refine⟨q1,fun j hj'=>?_⟩;rcases xtw13.1 hj' with rfl|hj'
    ·rw[h1];exact xtw55 _ (xtw64 _ xtw29)
    ·exact q2 j hj'
   ·rintro⟨q1,q2⟩;refine h6 ⟨q1,fun j hj' d' hd'=>?_⟩;rcases xtw30.1 hd' with hd'|hd'
    ·exact q2 j (xtw25 _ hj') d' hd'
    ·rw[xtw16] at hd';exact(Prod.mk.inj hd').2
theorem tF{n:Nat}{af:Int}:∀(l:List Int) (s:Fs),nA n af l s=none->∃k∈l,(n:Int)<=k
 |[],s,e=>by unfold nA at e;cases e
 |k::l,s,e=>by
  unfold nA jcy at e;by_cases hk:(n:Int)<=k
  ·exact⟨k,xtw29,hk⟩
  rw[xtw2 hk] at e
  cases hd:dF s.dm k with
  |some d =>
   rw[hd] at e;obtain⟨j,h1,h2⟩:=tF l _ e;exact⟨j,xtw25 _ h1,h2⟩
  |none =>
   rw[hd] at e;obtain⟨j,h1,h2⟩:=tF l _ e;exact⟨j,xtw25 _ h1,h2⟩
theorem jqE{dm:List (Int×Int)}(h:(dm.map (·.1)).Nodup){k d d':Int}(h1:(k,d)∈dm)(h2:(k,d')∈dm):d=d':=by
 induction dm with
 |nil=>cases h1
 |cons p l ih =>
  rw[xtw22,xtw121] at h;rcases xtw13.1 h1 with e1|h1
  ·rcases xtw13.1 h2 with e2|h2
   ·rw[<- e1] at e2;exact(Prod.mk.inj e2).2.symm
   ·exact absurd (xtw60.2 ⟨_,h2,by rw[<- e1]⟩) h.1
  ·rcases xtw13.1 h2 with e2|h2
   ·exact absurd (xtw60.2 ⟨_,h1,by rw[<- e2]⟩) h.1
   ·exact ih h.2 h1 h2
structure Fi(code:List Ic)(x:Int)(s:Fs):Prop where
 ok:jam code.length s
 rc:∀p∈s.dm,Rch code x p.1
 st:(x,0)∈s.dm
 pr:∀p∈s.dm,p.1∉s.wk->∀k∈sc code p.1,k<code.length/\∃d,(k,d)∈s.dm
 gd:s.er=false->∀p∈s.dm,p.1∉s.wk->qJ (opI code p.1)<=p.2/\lv code p.1 p.2<=16/\∀k∈sc code p.1,(k,lv code p.1 p.2)∈s.dm
 gu:∀D,Good code x D->s.er=false/\∀p∈s.dm,p.2=D p.1
theorem jp6{code:List Ic}(hj:cU code){x:Int}{dm:List (Int×Int)}{pre:List Int}{a:Int}{er:Bool}{s':Fs}(h:Fi code x ⟨dm,pre++[a],er⟩)(e:uX code dm pre er a=some s'):Fi code x s':=by
 obtain⟨ok',-,-⟩:=jks hj h.ok e;obtain⟨d0,hd0⟩:=h.ok.wk a (xtw64 _ xtw29);obtain⟨d,hd⟩:=jez hd0;have hm:(a,d)∈dm:=jaN hd;have ha:Rch code x a:=h.rc _ hm;unfold uX at e;obtain⟨t,h1,h2,h3,h4,h5,h6⟩:=jbe _ _ _ e
 have haf:afF code dm a=lv code a d:=by unfold afF;rw[hd];rfl
 have hbd:u4 code dm a=(decide (d<qJ (opI code a))||decide (16<lv code a d)):=by unfold u4;rw[haf,hd];rfl
 rw[haf] at h3 h5 h6;rw[hbd] at h5 h6
 simp only at h1 h2 h5 h6
 change ∀k∈sc code a,_ at h4
 change ∀p∈t,p.1∈sc code a/\_ at h3
 have hsub:∀p∈dm,p∈s'.dm:=fun p hp=>by rw[h1];exact xtw55 _ hp
 have hold:∀p∈s'.dm,p.1∉s'.wk->p.1≠a->p∈dm/\p.1∉pre++[a]:=fun p hp hw hne=>by
  rw[h2] at hw;rw[h1] at hp;rcases xtw30.1 hp with hp|hp
  ·refine⟨hp,fun hq=>?_⟩;rcases xtw30.1 hq with hq|hq
   ·exact hw (xtw55 _ hq)
   ·exact hne (xtw16.1 hq)
  ·exact absurd (xtw64 _ (xtw60.2 ⟨p,hp,rfl⟩)) hw
 refine⟨ok',fun p hp=>?_,hsub _ h.st,fun p hp hw=>?_,fun he p hp hw=>?_,fun D hD=>?_⟩
 ·rw[h1] at hp;rcases xtw30.1 hp with hp|hp
  ·exact h.rc p hp
  ·exact .next ha (h3 p hp).1 (h4 _ (h3 p hp).1).1
 ·by_cases hpa:p.1=a
  ·rw[hpa];exact h4
  ·obtain⟨q1,q2⟩:=hold p hp hw hpa;intro k hk;obtain⟨q3,d',q4⟩:=h.pr p q1 q2 k hk;exact⟨q3,d',hsub _ q4⟩
 ·obtain⟨q1,q2⟩:=h5 he;simp only[Bool.or_eq_false_iff,xtw101] at q1;by_cases hpa:p.1=a
  ·have hpd:p.2=d:=jqE ok'.nd (k:=a) (by rw[<- hpa];exact hp) (hsub _ hm);rw[hpa,hpd];exact⟨by omega,by omega,q2⟩
  ·obtain⟨w1,w2⟩:=hold p hp hw hpa;obtain⟨w3,w4,w5⟩:=h.gd q1.1 p w1 w2;exact⟨w3,w4,fun k hk=>hsub _ (w5 k hk)⟩
 ·obtain⟨q1,q2⟩:=h.gu D hD
  simp only at q1 q2
  have hda:d=D a:=q2 _ hm;have hpo:=hD.1.po a ha;have hle:=hD.2 a ha
  have hnx:∀k∈sc code a,D k=lv code a d:=fun k hk=>by rw[hda];exact hD.1.nx a ha k hk (h4 k hk).1
  refine⟨h6 ⟨?_,fun k hk d' hd'=>?_⟩,fun p hp=>?_⟩
  ·rw[q1,xtw0 (show ¬d<qJ (opI code a) by omega),xtw0 (show ¬16<lv code a d by rw[hda];omega)];rfl
  ·exact(q2 _ hd').trans (hnx k hk)
  ·rw[h1] at hp;rcases xtw30.1 hp with hp|hp
   ·exact q2 p hp
   ·rw[(h3 p hp).2,hnx _ (h3 p hp).1]
def jsS(code:List Ic)(x f:Int):Prop :=
 (f=12/\∃a,Rch code x a/\∃k∈sc code a,(code.length:Int)<=k)∨((∀a,Rch code x a->∀k∈sc code a,k<(code.length:Int))/\((f=0/\∃D,Good code x D)∨(f=13/\¬ ∃D,Good code x D)))
theorem jjN{code:List Ic}(hj:cU code){x:Int}:∀(m:Nat) (s:Fs),Fi code x s->s.wk.length+(code.length-s.dm.length)+1<=m->jsS code x (jia code m s)
 |0,s,h,hm=>by omega
 |m+1,⟨dm,wk,er⟩,h,hm=>by
  rw[jia];rcases List.eq_nil_or_concat wk with rfl|⟨pre,a,hw⟩
  ·simp only[List.getLast?_nil]
   have hall:∀a,Rch code x a->∃d,(a,d)∈dm:=fun a ha=>by
    induction ha with
    |here=>exact⟨0,h.st⟩
    |next h1 hk hn ih =>
     obtain⟨d,hd⟩:=ih;exact(h.pr _ hd (by simp) _ hk).2
   refine .inr ⟨fun a ha k hk=>?_,?_⟩
   ·obtain⟨d,hd⟩:=hall a ha;exact(h.pr _ hd (by simp) k hk).1
   ·cases er with
    |true =>
     refine .inr ⟨rfl,fun ⟨D,hD⟩=>?_⟩;have:=(h.gu D hD).1;cases this
    |false =>
     refine .inl ⟨rfl,fun k=>(dF dm k).getD 0,?_⟩
     have hget:∀k d,(k,d)∈dm->(dF dm k).getD 0=d:=fun k d hd=>by
      obtain⟨d',hd'⟩:=jez hd;rw[hd'];exact jqE h.ok.nd (jaN hd') hd
     have hgd:=h.gd rfl;refine⟨⟨hget _ _ h.st,fun a ha=>?_,fun a ha k hk hn=>?_⟩,fun a ha=>?_⟩
     ·obtain⟨d,hd⟩:=hall a ha;rw[hget a d hd];exact(hgd _ hd (by simp)).1
     ·obtain⟨d,hd⟩:=hall a ha;rw[hget a d hd];exact hget _ _ ((hgd _ hd (by simp)).2.2 k hk)
     ·obtain⟨d,hd⟩:=hall a ha;show lv code a ((dF dm a).getD 0)<=16;rw[hget a d hd];exact(hgd _ hd (by simp)).2.1
  ·rw[List.concat_eq_append] at hw;subst hw;simp only[List.getLast?_append,List.getLast?_singleton,Option.some_or,List.dropLast_append_cons,List.dropLast_singleton,xtw66]
   cases hs:uX code dm pre er a with
   |none =>
    obtain⟨d0,hd0⟩:=h.ok.wk a (xtw64 _ xtw29);unfold uX at hs;obtain⟨k,hk,hn⟩:=tF _ _ hs;exact .inl ⟨rfl,a,h.rc _ hd0,k,hk,hn⟩
   |some s' =>
    obtain⟨ok',q2,q3⟩:=jks hj h.ok hs;refine jjN hj m s' (jp6 hj h hs) ?_;simp only[xtw4,xtw31] at hm q2;omega
theorem jib{code:List Ic}(hj:cU code){x:Int}(hx:0<=x/\x<code.length):jsS code x (kF code x):=by
 unfold kF;rw[xtw2 (by omega)];refine jjN hj _ _ ⟨⟨?_,?_,?_,?_⟩,?_,xtw16.2 rfl,?_,?_,?_⟩ ?_
 ·intro p hp;rw[xtw16.1 hp];exact hx
 ·simp
 ·intro k hk;rw[xtw16.1 hk];exact⟨0,xtw16.2 rfl⟩
 ·intro p hp;rw[xtw16.1 hp];simp only[xtw31];omega
 ·intro p hp;rw[xtw16.1 hp];exact .here
 ·intro p hp hw;rw[xtw16.1 hp] at hw;simp at hw
 ·intro _ p hp hw;rw[xtw16.1 hp] at hw;simp at hw
 ·intro D hD;refine⟨rfl,fun p hp=>?_⟩;rw[xtw16.1 hp];exact hD.1.st.symm
 ·simp only[xtw31];omega
def shI(a:Int)(i:Ic):Ic:=if i.1=15∨i.1=16 then(i.1,i.2+a) else i
theorem jjR(ix:ByteArray->Int):∀(l m:List (Int×Nt)) (c:List Ic) (e:Nat->Int),o6 ix (l++m) c e=o6 ix m (o6 ix l c e).1 (o6 ix l c e).2
 |[],m,c,e=>rfl
 |(h,b)::l,m,c,e=>by rw[xtw61,o6,o6,jjR ix l m]
theorem jjS(ix:ByteArray->Int):∀(l:List (Int×Nt)) (c:List Ic) (e:Nat->Int),∃t,(o6 ix l c e).1=c++t
 |[],c,e=>⟨[],by rw[xtw66];rfl⟩
 |(h,b)::l,c,e=>by
  obtain⟨t,ht⟩:=jjS ix l (c++jI ix b c.length++[(23,0)]) (fun j=>if j=h.toNat then(c.length:Int) else e j);exact⟨jI ix b c.length++[(23,0)]++t,by rw[o6,ht];simp⟩
theorem jb7(ix:ByteArray->Int)(j:Nat):∀(l:List (Int×Nt)) (c:List Ic) (e:Nat->Int),(∀p∈l,p.1.toNat≠j)->(o6 ix l c e).2 j=e j
 |[],c,e,_=>rfl
 |(h,b)::l,c,e,hn=>by
  rw[o6,jb7 ix j l _ _ fun p hp=>hn p (xtw25 _ hp)];have:=hn _ xtw29;exact xtw2 (xtw106 this)
theorem jmG(u:Ut)(k:Nat)(hk:k<u.on.length)(hnn:∀p∈u.on,0<=p.1)(hnd:u.on.Pairwise fun a b=>a.1≠b.1):∃c1 t,(yZ u).1=c1++(jI (jZ u) (u.on[k]).2 c1.length++[(23,0)])++t/\(yZ u).2 (u.on[k]).1.toNat=(c1.length:Int):=by
 have hsp:u.on=u.on.take k++u.on[k]::u.on.drop (k+1):=by
  rw[<- xtw63 hk,xtw69]
 have hd:∀p∈u.on.drop (k+1),p.1.toNat≠(u.on[k]).1.toNat:=fun p hp=>by
  have h1:=hnn p (List.mem_of_mem_drop hp);have h2:=hnn _ (xtw10 hk);rw[hsp,List.pairwise_append] at hnd;have h3:=hnd.2.1;rw[xtw122] at h3;have h4:=h3.1 p hp;omega
 obtain⟨x,hx⟩:∃x,u.on[k]=x:=⟨_,rfl⟩
 rw[hx] at hsp hd ⊢;obtain⟨h,b⟩:=x;unfold yZ;rw[show o6 (jZ u) u.on [] noE=o6 (jZ u) (u.on.take k++(h,b)::u.on.drop (k+1)) [] noE by rw[<- hsp],jjR,o6];obtain⟨t,ht⟩:=jjS (jZ u) (u.on.drop (k+1)) ((o6 (jZ u) (u.on.take k) [] noE).1++jI (jZ u) b (o6 (jZ u) (u.on.take k) [] noE).1.length++[(23,0)]) (fun j=>if j=h.toNat then((o6 (jZ u) (u.on.take k) [] noE).1.length:Int) else(o6 (jZ u) (u.on.take k) [] noE).2 j);refine⟨(o6 (jZ u) (u.on.take k) [] noE).1,t,by rw[ht];simp,?_⟩;rw[jb7 (jZ u) h.toNat _ _ _ hd];exact xtw3 rfl
structure juC(code sub:List Ic)(a:Nat):Prop where
 sp:∃c1 t,c1.length=a/\code=c1++sub.map (shI a)++t
 cl:∀x:Int,0<=x->x<sub.length->∀k∈sc sub x,0<=k/\k<sub.length
def og(out:List Int)(i:Int):Int:=out.getD i.toNat (-1)
def cN(out:List Int):Nat:=out.countP fun v=>decide (0<=v)
theorem jiA{out:List Int}{i:Int}(h:0<=i)(hn:i<out.length):∃h2:i.toNat<out.length,og out i=out[i.toNat]:=by
 have h2:i.toNat<out.length:=by omega
 exact⟨h2,by unfold og;rw[xtw9,xtw21 h2];rfl⟩
theorem jby{out:List Int}{k j d:Int}(hk:0<=k/\k<out.length)(hj:0<=j):og (out.set k.toNat d) j=if j=k then d else og out j:=by
 unfold og;rw[xtw9,xtw86];by_cases h:j=k
 ·subst h;rw[xtw3 rfl,xtw3 rfl,xtw3 (by omega)];rfl
 ·rw[xtw2 (by omega),xtw2 h,<- xtw9]
theorem jhZ:∀(out:List Int) (k:Nat) (hk:k<out.length) (d:Int),out[k]<0->0<=d->cN (out.set k d)=cN out+1
 |[],k,hk,d,h1,h2=>by simp at hk
 |v::l,0,hk,d,h1,h2=>by
  unfold cN;rw[xtw45,List.countP_cons,List.countP_cons];simp only[xtw50] at h1;rw[xtw1 h2,xtw0 (show ¬0<=v by omega)];simp
 |v::l,k+1,hk,d,h1,h2=>by
  have ih:=jhZ l k (by simpa using hk) d (by simpa using h1) h2;unfold cN at ih ⊢;rw[xtw46,List.countP_cons,List.countP_cons,ih];omega
theorem jcX(out:List Int):cN out<=out.length:=List.countP_le_length
structure Di(code:List Ic)(x:Int)(out:List Int)(ok:Bool):Prop where
 ln:out.length=code.length
 bd:∀v∈out,-1<=v/\v+1<=(cN out:Int)
 x0:og out x=0
 re:∀i:Int,0<=i->i<code.length->0<=og out i->Rch code x i
 uq:∀D,jal code x D->ok=true/\∀i:Int,0<=i->i<code.length->0<=og out i->og out i=D i
def Pds(code:List Ic)(out:List Int)(ok:Bool)(j:Int)(l:List Int):Prop:=(ok=true->qJ (opI code j)<=og out j)/\∀k∈l,0<=k->k<code.length->0<=og out k/\(ok=true->og out k=lv code j (og out j))
theorem Di.bnd{code:List Ic}{x:Int}{out:List Int}{ok:Bool}(h:Di code x out ok){i:Int}(hi:0<=i/\i<code.length) : -1<=og out i/\og out i+1<=cN out:=by
 obtain⟨h2,e⟩:=jiA hi.1 (by rw[h.ln];exact hi.2);rw[e];exact h.bd _ (xtw10 h2)
theorem Di.init{code:List Ic}{x:Int}(hx:0<=x/\x<code.length):Di code x ((List.replicate code.length (-1)).set x.toNat 0) true:=by
 have hl:(List.replicate code.length (-1:Int)).length=code.length:=xtw96
 have hog:∀i,0<=i->og (List.replicate code.length (-1)) i = -1:=fun i hi=>by
  unfold og;rw[xtw9,List.getElem?_replicate]
  split <;> rfl
 have hc:cN ((List.replicate code.length (-1:Int)).set x.toNat 0)=1:=by
  rw[jhZ _ _ (by rw[hl];omega) _ (by rw[List.getElem_replicate];decide) (by decide)];unfold cN;rw[List.countP_replicate];rfl
 have hos:∀i,0<=i->og ((List.replicate code.length (-1:Int)).set x.toNat 0) i=if i=x then 0 else -1:=fun i hi=>by
  rw[jby (by rw[hl];exact hx) hi,hog i hi]
 refine⟨by rw[xtw111,hl],fun v hv=>?_,?_,fun i h1 h2 h3=>?_,fun D hD=>⟨rfl,fun i h1 h2 h3=>?_⟩⟩
 ·rw[hc];rcases List.mem_or_eq_of_mem_set hv with h|h
  ·rw[List.eq_of_mem_replicate h];omega
  ·rw[h];omega
 ·rw[hos x hx.1,xtw3 rfl]
 ·rw[hos i h1] at h3;by_cases e:i=x
  ·rw[e];exact .here
  ·rw[xtw2 e] at h3;omega
 ·rw[hos i h1] at h3 ⊢;by_cases e:i=x
  ·rw[xtw3 e,e];exact hD.st.symm
  ·rw[xtw2 e] at h3;omega
theorem Di.put{code:List Ic}{x:Int}{out:List Int}{ok:Bool}(h:Di code x out ok){i k d:Int}(hi:0<=i/\i<code.length)(hr:0<=og out i)(hk:k∈sc code i)(hkr:0<=k/\k<code.length)(hlt:og out k<0)(hd:0<=d/\d<=cN out)(hD:∀D,jal code x D->d=D k):Di code x (out.set k.toNat d) ok/\cN (out.set k.toNat d)=cN out+1:=by
 have hkl:0<=k/\k<out.length:=by rw[h.ln];exact hkr
 obtain⟨h2,e2⟩:=jiA hkl.1 hkl.2;have hc:=jhZ out k.toNat h2 d (by rw[<- e2];exact hlt) hd.1
 have hkx:x≠k:=fun e=>by rw[<- e,h.x0] at hlt;omega
 refine⟨⟨by rw[xtw111,h.ln],fun v hv=>?_,?_,fun j h1 h2 h3=>?_,fun D hC=>⟨(h.uq D hC).1,fun j h1 h2 h3=>?_⟩⟩,hc⟩
 ·rw[hc];rcases List.mem_or_eq_of_mem_set hv with h|h'
  ·have:=Di.bd ‹_› v h;omega
  ·rw[h'];omega
 ·by_cases hx:0<=x
  ·rw[jby hkl hx,xtw2 hkx];exact h.x0
  ·unfold og;have e:=h.x0;unfold og at e;rw[xtw9,xtw86] at *;by_cases q:k.toNat=x.toNat
   ·exfalso
    have:og out k=og out x:=by unfold og;rw[q]
    rw[h.x0] at this;omega
   ·rw[xtw2 q];exact e
 ·rw[jby hkl h1] at h3;by_cases e:j=k
  ·rw[e];exact .next (h.re i hi.1 hi.2 hr) hk hkr.2
  ·rw[xtw2 e] at h3;exact h.re j h1 h2 h3
 ·rw[jby hkl h1] at h3 ⊢;by_cases e:j=k
  ·rw[xtw3 e,e];exact hD D hC
  ·rw[xtw2 e] at h3 ⊢;exact(h.uq D hC).2 j h1 h2 h3
theorem Di.no{code:List Ic}{x:Int}{out:List Int}{ok:Bool}(h:Di code x out ok)(hD:∀D,¬jal code x D):Di code x out false:=⟨h.ln,h.bd,h.x0,h.re,fun D hC=>absurd hC (hD D)⟩
structure Dp(code:List Ic)(x:Int)(out:List Int)(ok:Bool):Prop where
 ln:out.length=code.length
 bd:∀i:Int,0<=i->i<code.length -> -1<=og out i/\og out i<=code.length
 re:∀i:Int,0<=i->i<code.length->(0<=og out i↔Rch code x i)
 con:ok=true->jal code x (og out)
 uq:∀D,jal code x D->ok=true/\∀i,Rch code x i->og out i=D i
theorem Dp.of{code:List Ic}(hj:cU code){x:Int}(hx:0<=x/\x<code.length){out:List Int}{ok:Bool}(h:Di code x out ok)(hp:∀j:Int,0<=j->j<code.length->0<=og out j->Pds code out ok j (sc code j)):Dp code x out ok:=by
 have hc:cN out<=code.length:=by have:=jcX out;rw[h.ln] at this;exact this
 have hr:∀a,Rch code x a->0<=og out a:=fun a ha=>by
  induction ha with
  |here=>rw[h.x0];exact Int.le_refl 0
  |next h1 hk hn ih =>
   have q:=h1.rng hj hx;exact((hp _ q.1 q.2 ih).2 _ hk (jgF hj q _ hk) hn).1
 refine⟨h.ln,fun i h1 h2=>?_,fun i h1 h2=>⟨h.re i h1 h2,hr i⟩,fun hok=>⟨h.x0,fun a ha=>?_,fun a ha k hk hn=>?_⟩,fun D hD=>⟨(h.uq D hD).1,fun i hi=>?_⟩⟩
 ·have:=h.bnd ⟨h1,h2⟩;omega
 ·have q:=ha.rng hj hx;exact(hp a q.1 q.2 (hr a ha)).1 hok
 ·have q:=ha.rng hj hx;exact((hp a q.1 q.2 (hr a ha)).2 k hk (jgF hj q _ hk) hn).2 hok
 ·have q:=hi.rng hj hx;exact(h.uq D hD).2 i q.1 q.2 (hr i hi)
theorem joX{code:List Ic}{x:Int}{out out2:List Int}{ok ok2:Bool}(h:Dp code x out ok)(h2:Dp code x out2 ok2):(ok=true/\∀i,Rch code x i->og out2 i<=16/\lv code i (og out2 i)<=16)↔∃D,Good code x D:=by
 constructor
 ·rintro⟨hok,hb⟩;have hc:=h.con hok;refine⟨og out,hc,fun a ha=>?_⟩;rw[<- (h2.uq _ hc).2 a ha];exact(hb a ha).2
 ·rintro⟨D,hD⟩;refine⟨(h.uq D hD.1).1,fun i hi=>?_⟩;rw[(h2.uq D hD.1).2 i hi];exact⟨hD.le hi,hD.2 i hi⟩
def AtL:List Ic->Int->Int->Ic->Prop
 |[],_,_,_=>False
 |j::l,a,x,i=>(x=a/\i=j)∨AtL l (a+1) x i
theorem eM:∀(l m:List Ic) (a x:Int) (i:Ic),AtL (l++m) a x i↔AtL l a x i∨AtL m (a+l.length) x i
 |[],m,a,x,i=>by
  show AtL m a x i↔False∨AtL m (a+((0:Nat):Int)) x i;rw[show a+((0:Nat):Int)=a by omega];simp
 |j::l,m,a,x,i=>by
  rw[xtw61,AtL,AtL,eM l m,or_assoc,xtw6,show a+1+(l.length:Int)=a+((l.length+1:Nat):Int) by omega]
theorem cH:∀{l:List Ic} {a x:Int} {i:Ic},AtL l a x i->a<=x/\x<a+l.length
 |[],_,_,_,h=>h.elim
 |j::l,a,x,i,h=>by
  rw[xtw6];rcases h with ⟨h,-⟩|h
  ·omega
  ·have:=cH h;omega
theorem jm0:∀(l:List Ic) (n:Nat) (a:Int),n<l.length->AtL l a (a+n) (l.getD n (0,0))
 |[],n,a,h=>by simp at h
 |j::l,0,a,h=>.inl ⟨by omega,rfl⟩
 |j::l,n+1,a,h=>by
  have:=jm0 l n (a+1) (by simpa using h);rw[show a+1+(n:Int)=a+((n+1:Nat):Int) by omega] at this;exact .inr this
structure Fit(b:Bool)(l:List Ic)(a d e:Int)(D:Int->Int):Prop where
 st:D a=d
 en:D (a+l.length)=d+e
 go:∀x i,AtL l a x i->qJ i.1<=D x/\(∀k∈nxI x i,a<=k/\k<=a+l.length/\D k=D x-qJ i.1+qG i.1)/\(i.1=23->b=true/\D x=d)
def FitG(b:Bool)(m e:Int)(g:Int->List Ic):Prop:=∀a d:Int,m<=d->∃D,Fit b (g a) a d e D
theorem FitG.cast{b:Bool}{m e e':Int}{g:Int->List Ic}(h:FitG b m e g)(he:e=e'):FitG b m e' g:=he ▸ h
theorem FitG.nil{b:Bool}{m:Int}:FitG b m 0 fun _=>[]:=fun a d hd=>⟨fun _=>d,rfl,by omega,fun x i h=>h.elim⟩
theorem FitG.one{b:Bool}{m:Int}{i:Ic}(h1:i.1≠15)(h2:i.1≠16)(h3:i.1≠23)(hm:qJ i.1<=m):FitG b m (qG i.1-qJ i.1) fun _=>[i]:=fun a d hd=>by
 refine⟨fun x=>if x=a then d else d+(qG i.1-qJ i.1),xtw3 rfl,?_,fun x j h=>?_⟩
 ·rw[xtw31];exact xtw2 (by omega)
 ·rcases h with ⟨rfl,rfl⟩|h
  ·rw[xtw3 rfl];refine⟨by omega,fun k hk=>?_,fun h=>absurd h h3⟩;unfold nxI at hk;rw[xtw2 h3,xtw2 h1,xtw2 h2,xtw16] at hk;rw[hk,xtw31,xtw2 (by omega)];exact⟨by omega,by omega,by omega⟩
  ·exact h.elim
theorem FitG.stop:FitG true 0 0 fun _=>[(23,0)]:=fun a d hd=>by
 refine⟨fun _=>d,rfl,by omega,fun x j h=>?_⟩;rcases h with ⟨rfl,rfl⟩|h
 ·exact⟨hd,fun k hk=>(by cases hk),fun _=>⟨rfl,rfl⟩⟩
 ·exact h.elim
theorem FitG.app{b b1 b2:Bool}{m m2 e1 e2:Int}{g h:Int->List Ic}(hg:FitG b1 m e1 g)(hh:FitG b2 m2 e2 h)(hm:m2<=m+e1)(hb1:b1=true->b=true)(hb2:b2=true->b=true/\e1=0):FitG b m (e1+e2) fun a=>g a++h (a+(g a).length):=fun a d hd=>by
 obtain⟨D1,s1,n1,g1⟩:=hg a d hd;obtain⟨D2,s2,n2,g2⟩:=hh (a+(g a).length) (d+e1) (by omega)
 obtain⟨p,hp⟩:∃p,a+((g a).length:Int)=p:=⟨_,rfl⟩
 have hl:a+((g a++h p).length:Int)=p+(h p).length:=by rw[xtw4];omega
 rw[hp] at n1 s2 n2 g2 g1
 have q1:∀x,x<=p->(if x<p then D1 x else D2 x)=D1 x:=fun x hx=>by
  by_cases h:x<p
  ·exact xtw3 h
  ·rw[xtw2 h,show x=p by omega,s2,n1]
 have q2:∀x,p<=x->(if x<p then D1 x else D2 x)=D2 x:=fun x hx=>xtw2 (by omega)
 show ∃D,Fit b (g a++h (a+(g a).length)) a d (e1+e2) D;rw[hp];refine⟨fun x=>if x<p then D1 x else D2 x,(q1 a (by omega)).trans s1,?_,fun x i hi=>?_⟩
 ·rw[hl];exact(q2 _ (by omega)).trans (by rw[n2];omega)
 ·rw[hl];rcases(eM _ _ _ _ _).1 hi with hi|hi
  ·have hr:=cH hi;obtain⟨w1,w2,w3⟩:=g1 x i hi;simp only[q1 x (by omega)];refine⟨w1,fun k hk=>?_,fun h=>⟨hb1 (w3 h).1,(w3 h).2⟩⟩;obtain⟨v1,v2,v3⟩:=w2 k hk;rw[q1 k (by omega)];exact⟨v1,by omega,v3⟩
  ·rw[hp] at hi;have hr:=cH hi;obtain⟨w1,w2,w3⟩:=g2 x i hi;simp only[q2 x (by omega)];refine⟨w1,fun k hk=>?_,fun h=>⟨(hb2 (w3 h).1).1,by rw[(w3 h).2,(hb2 (w3 h).1).2];omega⟩⟩;obtain⟨v1,v2,v3⟩:=w2 k hk;rw[q2 k (by omega)];exact⟨by omega,v2,v3⟩
theorem FitG.two{b:Bool}{i j:Int}(h1:qJ i=2/\qG i=1)(h2:qJ j=1/\qG j=1):FitG b 2 (-1) fun _=>[(i,0),(j,0)]:=by
 have n1:∀k,qJ k≠0->k≠15/\k≠23:=fun k h=>⟨fun e=>h (by rw[e];rfl),fun e=>h (by rw[e];rfl)⟩
 have n2:∀k,qG k≠0->k≠16:=fun k h e=>h (by rw[e];rfl)
 have p1:=n1 i (by omega);have p2:=n2 i (by omega);have p3:=n1 j (by omega);have p4:=n2 j (by omega)
 have hi:FitG b 2 (qG i-qJ i) fun _=>[(i,0)]:=FitG.one (i:=(i,0)) p1.1 p2 p1.2 (by show qJ i<=2;omega)
 have hj:FitG false 1 (qG j-qJ j) fun _=>[(j,0)]:=FitG.one (i:=(j,0)) p3.1 p4 p3.2 (by show qJ j<=1;omega)
 exact(FitG.app hi hj (by omega) (fun h=>h) (fun h=>by cases h)).cast (by omega)
theorem FitG.seq{b:Bool}{e:Int}(hb:b=true->e=0)(he:0<=e):∀{l:List (Int->List Ic)},(∀g∈l,FitG b 0 e g)->FitG b 0 (l.length*e) (zX l)
 |[],_=>FitG.nil.cast (by simp)
 |g::r,h=>(FitG.app (h g xtw29) (FitG.seq hb he fun x hx=>h x (xtw25 _ hx)) (by omega) (fun h=>h) (fun h=>⟨h,hb h⟩)).cast (by rw[xtw6,Int.natCast_succ,Int.add_mul];omega)
theorem FitG.br{b:Bool}{e:Int}(he:0<=e){c y n:Int->List Ic}(hc:FitG false 0 1 c)(hy:FitG b 0 e y)(hn:FitG b 0 e n):FitG b 0 e (rG c y n):=fun a d hd=>by
 obtain⟨p,hp⟩:∃p,a+((c a).length:Int)+1=p:=⟨_,rfl⟩
 obtain⟨f,hf⟩:∃f,p+((y p).length:Int)+1=f:=⟨_,rfl⟩
 obtain⟨q,hq⟩:∃q,f+((n f).length:Int)=q:=⟨_,rfl⟩
 obtain⟨D1,s1,n1,g1⟩:=hc a d hd;obtain⟨D2,s2,n2,g2⟩:=hy p d hd;obtain⟨D3,s3,n3,g3⟩:=hn f d hd;rw[show a+((c a).length:Int)=p-1 by omega] at n1 g1;rw[show p+((y p).length:Int)=f-1 by omega] at n2 g2;rw[hq] at n3 g3
 have e0:rG c y n a=c a++(16,f)::(y p++(15,q)::n f):=by unfold rG;simp only;rw[hp,hf,hq]
 have hl:a+((c a++((16,f):Ic)::(y p++(15,q)::n f)).length:Int)=q:=by simp only[xtw4,xtw6];omega
 rw[e0]
 have q1:∀x,x<p->(if x<p then D1 x else if x<f then D2 x else D3 x)=D1 x:=fun x hx=>xtw3 hx
 have q2:∀x,p<=x->x<f->(if x<p then D1 x else if x<f then D2 x else D3 x)=D2 x:=fun x h1 h2=>by rw[xtw2 (by omega),xtw3 h2]
 have q3:∀x,f<=x->(if x<p then D1 x else if x<f then D2 x else D3 x)=D3 x:=fun x h1=>by rw[xtw2 (by omega),xtw2 (by omega)]
 refine⟨fun x=>if x<p then D1 x else if x<f then D2 x else D3 x,(q1 a (by omega)).trans s1,?_,fun x i hi=>?_⟩
 ·rw[hl];exact(q3 q (by omega)).trans n3
 rw[hl];rw[eM,AtL,eM,AtL] at hi;rw[show a+((c a).length:Int)+1=p from hp,show a+((c a).length:Int)=p-1 by omega,show p+((y p).length:Int)+1=f from hf,show p+((y p).length:Int)=f-1 by omega] at hi;rcases hi with hi|⟨rfl,rfl⟩|hi|⟨rfl,rfl⟩|hi
 ·have hr:=cH hi;obtain⟨w1,w2,w3⟩:=g1 x i hi;simp only[q1 x (by omega)];refine⟨w1,fun k hk=>?_,fun h=>by have:=(w3 h).1;cases this⟩;obtain⟨v1,v2,v3⟩:=w2 k hk;rw[q1 k (by omega)];exact⟨v1,by omega,v3⟩
 ·simp only[q1 (p-1) (by omega)];rw[n1,show qJ 16=1 from rfl,show qG 16=0 from rfl];refine⟨by omega,fun k hk=>?_,fun h=>by cases h⟩;rw[show nxI (p-1) (16,f)=[p-1+1,f] from rfl] at hk;simp only[xtw13,xtw42,xtw81] at hk;rcases hk with hk|hk
  ·rw[show k=p by omega,q2 p (by omega) (by omega),s2];exact⟨by omega,by omega,by omega⟩
  ·rw[hk,q3 f (by omega),s3];exact⟨by omega,by omega,by omega⟩
 ·have hr:=cH hi;obtain⟨w1,w2,w3⟩:=g2 x i hi;simp only[q2 x (by omega) (by omega)];refine⟨w1,fun k hk=>?_,w3⟩;obtain⟨v1,v2,v3⟩:=w2 k hk;rw[q2 k (by omega) (by omega)];exact⟨by omega,by omega,v3⟩
 ·simp only[q2 (f-1) (by omega) (by omega)];rw[n2,show qJ 15=0 from rfl,show qG 15=0 from rfl];refine⟨by omega,fun k hk=>?_,fun h=>by cases h⟩
  ·rw[show nxI (f-1) (15,q)=[q] from rfl,xtw16] at hk;rw[hk,q3 q (by omega),n3];exact⟨by omega,by omega,by omega⟩
 ·have hr:=cH hi;obtain⟨w1,w2,w3⟩:=g3 x i hi;simp only[q3 x (by omega)];refine⟨w1,fun k hk=>?_,w3⟩;obtain⟨v1,v2,v3⟩:=w2 k hk;rw[q3 k (by omega)];exact⟨by omega,by omega,v3⟩
theorem FitG.wh{c bd:Int->List Ic}(hc:FitG false 0 1 c)(hb:FitG true 0 0 bd):FitG true 0 0 fun at'=>c at'++(16,at'+(c at').length+(bd (at'+(c at').length+1)).length+2)::(bd (at'+(c at').length+1)++[(15,at')]):=fun a d hd=>by
 obtain⟨p,hp⟩:∃p,a+((c a).length:Int)+1=p:=⟨_,rfl⟩
 obtain⟨q,hq⟩:∃q,p+((bd p).length:Int)+1=q:=⟨_,rfl⟩
 obtain⟨D1,s1,n1,g1⟩:=hc a d hd;obtain⟨D2,s2,n2,g2⟩:=hb p d hd;rw[show a+((c a).length:Int)=p-1 by omega] at n1 g1;rw[show p+((bd p).length:Int)=q-1 by omega] at n2 g2
 have hl:a+((c a++((16,q):Ic)::(bd p++[(15,a)])).length:Int)=q:=by simp only[xtw4,xtw6,xtw8];omega
 show ∃D,Fit true (c a++(16,a+(c a).length+(bd (a+(c a).length+1)).length+2)::(bd (a+(c a).length+1)++[(15,a)])) a d 0 D;rw[hp,show a+((c a).length:Int)+((bd p).length:Int)+2=q by omega]
 have q1:∀x,x<p->(if x<p then D1 x else if x<q then D2 x else d)=D1 x:=fun x hx=>xtw3 hx
 have q2:∀x,p<=x->x<q->(if x<p then D1 x else if x<q then D2 x else d)=D2 x:=fun x h1 h2=>by rw[xtw2 (by omega),xtw3 h2]
 have q3:(if q<p then D1 q else if q<q then D2 q else d)=d:=by rw[xtw2 (by omega),xtw2 (by omega)]
 refine⟨fun x=>if x<p then D1 x else if x<q then D2 x else d,(q1 a (by omega)).trans s1,?_,fun x i hi=>?_⟩
 ·rw[hl];exact q3.trans (by omega)
 rw[hl];rw[eM,AtL,eM,AtL] at hi;rw[hp,show a+((c a).length:Int)=p-1 by omega,show p+((bd p).length:Int)=q-1 by omega] at hi;rcases hi with hi|⟨rfl,rfl⟩|hi|⟨rfl,rfl⟩|hi
 ·have hr:=cH hi;obtain⟨w1,w2,w3⟩:=g1 x i hi;simp only[q1 x (by omega)];refine⟨w1,fun k hk=>?_,fun h=>by have:=(w3 h).1;cases this⟩;obtain⟨v1,v2,v3⟩:=w2 k hk;rw[q1 k (by omega)];exact⟨v1,by omega,v3⟩
 ·simp only[q1 (p-1) (by omega)];rw[n1,show qJ 16=1 from rfl,show qG 16=0 from rfl];refine⟨by omega,fun k hk=>?_,fun h=>by cases h⟩;rw[show nxI (p-1) (16,q)=[p-1+1,q] from rfl] at hk;simp only[xtw13,xtw42,xtw81] at hk;rcases hk with hk|hk
  ·rw[show k=p by omega,q2 p (by omega) (by omega),s2];exact⟨by omega,by omega,by omega⟩
  ·rw[hk,q3];exact⟨by omega,by omega,by omega⟩
 ·have hr:=cH hi;obtain⟨w1,w2,w3⟩:=g2 x i hi;simp only[q2 x (by omega) (by omega)];refine⟨w1,fun k hk=>?_,fun h=>⟨trivial,(w3 h).2⟩⟩;obtain⟨v1,v2,v3⟩:=w2 k hk;rw[q2 k (by omega) (by omega)];exact⟨by omega,by omega,v3⟩
 ·simp only[q2 (q-1) (by omega) (by omega)];rw[n2,show qJ 15=0 from rfl,show qG 15=0 from rfl];refine⟨by omega,fun k hk=>?_,fun h=>by cases h⟩;rw[show nxI (q-1) (15,a)=[a] from rfl,xtw16] at hk;rw[hk,q1 a (by omega),s1];exact⟨by omega,by omega,by omega⟩
 ·exact hi.elim
def eX(b:Bool):Int:=if b=true then 1 else 0
def FitN(ix:ByteArray->Int)(f:Nt):Prop:=FitG (!isX f) 0 (eX (isX f)) (jI ix f)
theorem FitN.x{ix:ByteArray->Int}{f:Nt}(h:FitN ix f)(hx:isX f=true):FitG false 0 1 (jI ix f):=by
 unfold FitN at h;rw[hx] at h;exact h
theorem FitN.s{ix:ByteArray->Int}{f:Nt}(h:FitN ix f)(hx:isX f=false):FitG true 0 0 (jI ix f):=by
 unfold FitN at h;rw[hx] at h;exact h
theorem jpx(s:ByteArray):FitG false 2 (-1) fun _=>opC s:=by
 unfold opC
 repeat' split
 all_goals first
  |exact FitG.two (by decide) (by decide)
  |exact(FitG.one (by decide) (by decide) (by decide) (by decide)).cast (by decide)
theorem FitG.tl{b:Bool}{l:List (Int->List Ic)}{t:List Ic}{n e:Int}(hl:∀g∈l,FitG false 0 1 g)(hn:(l.length:Int)=n)(ht:FitG false n e fun _=>t):FitG b 0 (n+e) fun a=>zX l a++t :=
 (FitG.app (b:=b) (FitG.seq (b:=false) (e:=1) (fun h=>by cases h) (by decide) hl) ht (by omega) (fun h=>by cases h) (fun h=>by cases h)).cast (by omega)
theorem jmD(ix:ByteArray->Int)(k n:Int)(s:ByteArray)(kids:List Nt)(ha:arN k s kids.length=true)(hc:clN k kids=true)(hk:∀f∈kids,FitN ix f):FitG (!decide (12<=k)) 0 (eX (decide (12<=k))) (kV ix k n s (jH ix kids)):=by
 have hx:(k≠11/\k≠2/\k≠3)->∀g∈jH ix kids,FitG false 0 1 g:=fun h g hg=>by
  rw[jmf h,xtw65] at hc;rw[wU] at hg;obtain⟨f,hf,rfl⟩:=xtw60.1 hg;exact(hk f hf).x (hc f hf)
 have hlen:(jH ix kids).length=kids.length:=by rw[wU,xtw44]
 have one:∀{b:Bool} {m e o:Int},o≠15/\o≠16/\o≠23/\qJ o<=m/\qG o-qJ o=e->∀x:Int,FitG b m e fun _=>[(o,x)]:=fun h x=>(FitG.one (i:=(_,x)) h.1 h.2.1 h.2.2.1 h.2.2.2.1).cast h.2.2.2.2
 unfold arN at ha;by_cases h11:k=11
 ·subst h11
  have hs:∀g∈jH ix kids,FitG true 0 0 g:=fun g hg=>by
   unfold clN at hc;rw[xtw3 rfl,xtw65] at hc;rw[wU] at hg;obtain⟨f,hf,rfl⟩:=xtw60.1 hg;exact(hk f hf).s (by simpa using hc f hf)
  exact(FitG.app (b:=true) (FitG.seq (b:=true) (e:=0) (fun _=>rfl) (by decide) hs) (FitG.nil (b:=false) (m:=0)) (by omega) (fun h=>h) (fun h=>by cases h)).cast (by show _=(0:Int);omega)
 rw[xtw2 h11] at ha;by_cases h0:k=12∨k=13∨k=14∨k=5∨k=6∨k=7∨k=10
 ·rw[xtw3 h0,xtw17] at ha;obtain rfl:=xtw15 ha;rcases h0 with rfl|rfl|rfl|rfl|rfl|rfl|rfl
  all_goals first
   |exact FitG.stop
   |exact one (by decide) _
 rw[xtw2 h0] at ha;by_cases h15:k=15
 ·subst h15;exact one (by decide) _
 rw[xtw2 h15] at ha;by_cases h1:k=16∨k=1∨k=9
 ·rw[xtw3 h1,xtw17] at ha;rcases h1 with rfl|rfl|rfl
  ·exact FitG.tl (n:=1) (e:=0) (hx (by decide)) (by rw[hlen,ha];rfl) (one (o:=5) (by decide) 0)
  ·exact FitG.tl (n:=1) (e := -1) (hx (by decide)) (by rw[hlen,ha];rfl) (one (o:=3) (by decide) (ix s))
  ·exact FitG.tl (n:=1) (e := -1) (hx (by decide)) (by rw[hlen,ha];rfl) (one (o:=22) (by decide) 0)
 rw[xtw2 h1] at ha;by_cases h17:k=17
 ·rw[xtw3 h17,xtw14,xtw17] at ha
  replace ha:=ha.1
  subst h17
  have ht:FitG false 1 0 fun _=>(if s=qB then [((10,0):Ic)] else [(14,0)]):=by
   split <;> exact one (by decide) _
  exact FitG.tl (n:=1) (hx (by decide)) (by rw[hlen,ha];rfl) ht
 rw[xtw2 h17] at ha;by_cases h18:k=18
 ·rw[xtw3 h18,xtw14,xtw17] at ha;subst h18;have hx18:=hx (by decide);obtain⟨ha,-⟩:=ha
  match kids,ha with
  |[c,d],_ =>
   have hc1:=hx18 (jI ix c) (by rw[jH,jH];simp);have hd1:=hx18 (jI ix d) (by rw[jH,jH,jH];simp);by_cases hA:s=yW
   ·have he:kV ix 18 n s (jH ix [c,d])=rG (jI ix c) (jI ix d) (fun _=>[(1,0)]):=by
     funext at';simp[kV,hA,jH]
    rw[he];exact FitG.br (by decide) hc1 hd1 (one (by decide) _)
   by_cases hO:s=sD
   ·have he:kV ix 18 n s (jH ix [c,d])=rG (jI ix c) (fun _=>[(1,1)]) (jI ix d):=by
     funext at';simp[kV,hA,hO,jH]
     exact fun h=>absurd h (by decide)
    rw[he];exact FitG.br (by decide) hc1 (one (by decide) _) hd1
   have he:kV ix 18 n s (jH ix [c,d])=fun a=>zX (jH ix [c,d]) a++opC s:=by
    funext at';simp[kV,hA,hO]
   rw[he];exact FitG.tl (n:=2) hx18 rfl (jpx s)
 rw[xtw2 h18] at ha;by_cases h8:k=8∨k=3
 ·rw[xtw3 h8,xtw17] at ha;rcases h8 with rfl|rfl
  ·exact FitG.tl (n:=2) (e := -2) (hx (by decide)) (by rw[hlen,ha];rfl) (one (o:=21) (by decide) 0)
  ·match kids,ha with
   |[c,d],_ =>
    unfold clN at hc;simp at hc;exact FitG.wh ((hk c (by simp)).x hc.1) ((hk d (by simp)).s hc.2)
 rw[xtw2 h8] at ha;by_cases h2:k=2∨k=4
 ·rw[xtw3 h2,xtw17] at ha;rcases h2 with rfl|rfl
  ·match kids,ha with
   |[c,d,e],_ =>
    unfold clN at hc;simp at hc;exact FitG.br (by decide) ((hk c (by simp)).x hc.1) ((hk d (by simp)).s hc.2.1) ((hk e (by simp)).s hc.2.2)
  ·exact FitG.tl (n:=3) (e := -3) (hx (by decide)) (by rw[hlen,ha];rfl) (one (o:=17) (by decide) n)
 rw[xtw2 h2] at ha;cases ha
theorem jjL(ix:ByteArray->Int):∀f:Nt,eJ f->FitN ix f
 |.mk k n s kids,hw=>by
  unfold eJ at hw;obtain⟨ha,hwk,hcl⟩:=hw
  have hk:∀f∈kids,FitN ix f:=fun f hf=>jjL ix f (xQ hwk hf)
  have:=jmD ix k n s kids ha hcl hk;unfold FitN;rw[show jI ix (.mk k n s kids)=kV ix k n s (jH ix kids) by funext at';rw[jI]];exact this
theorem joM{l:List Ic}{a:Int}(h0:0<=a)(h:a<l.length):AtL l 0 a (l.getD a.toNat (0,0)):=by
 have:=jm0 l a.toNat 0 (by omega);rw[show(0:Int)+(a.toNat:Int)=a by omega] at this;exact this
def EntO(code:List Ic)(x:Int):Prop:=0<=x/\x<code.length/\∃D,jal code x D/\∀a,Rch code x a->(opI code a=23->D a=0)/\∀k∈sc code a,k<(code.length:Int)
theorem jp1(ix:ByteArray->Int)(b:Nt)(hb:eJ b)(hs:isX b=false)(c1 t:List Ic):EntO (c1++(jI ix b c1.length++[(23,0)])++t) c1.length:=by
 obtain⟨D,g1,g2,g3⟩:=(jjL ix b hb).s hs c1.length 0 (Int.le_refl 0)
 obtain⟨B,hB⟩:∃B,jI ix b c1.length=B:=⟨_,rfl⟩
 rw[hB] at g2 g3 ⊢
 have hl:(c1++(B++[((23,0):Ic)])++t).length=c1.length+B.length+1+t.length:=by simp only[xtw4,xtw6,xtw8];omega
 obtain⟨code,hcode⟩:∃code,c1++(B++[((23,0):Ic)])++t=code:=⟨_,rfl⟩
 have hm:∀a:Int,c1.length<=a->a<=c1.length+B.length->(AtL B c1.length a (code.getD a.toNat (0,0)))∨(a=c1.length+B.length/\(code.getD a.toNat (0,0)).1=23):=fun a h1 h2=>by
  have h:=joM (l:=code) (a:=a) (by omega) (by rw[<- hcode,hl];omega);generalize code.getD a.toNat (0,0)=i at *;rw[<- hcode,eM,eM,eM] at h;rcases h with (h|h|h)|h
  ·have:=cH h;omega
  ·left;rw[Int.zero_add] at h;exact h
  ·rcases h with ⟨h3,h4⟩|h
   ·exact .inr ⟨by omega,by rw[h4]⟩
   ·exact h.elim
  ·have:=cH h;simp only[xtw4,xtw6,xtw8] at this;omega
 rw[hcode] at hl ⊢
 have hgo:∀a:Int,c1.length<=a->a<=c1.length+B.length->qJ (opI code a)<=D a/\(∀k∈sc code a,(c1.length:Int)<=k/\k<=c1.length+B.length/\D k=lv code a (D a))/\(opI code a=23->D a=0):=fun a h1 h2=>by
  rcases hm a h1 h2 with h|⟨h,h23⟩
  ·obtain⟨w1,w2,w3⟩:=g3 a _ h;exact⟨w1,w2,fun h=>(w3 h).2⟩
  ·have hD:D a=0:=by rw[h,g2];rfl
   refine⟨?_,fun k hk=>?_,fun _=>hD⟩
   ·unfold opI;rw[h23,hD];decide
   ·unfold sc nxI at hk;rw[xtw3 h23] at hk;cases hk
 have hr:∀a,Rch code c1.length a->(c1.length:Int)<=a/\a<=c1.length+B.length:=fun a ha=>by
  induction ha with
  |here=>omega
  |next h1 hk hn ih =>
   obtain⟨v1,v2,-⟩:=(hgo _ ih.1 ih.2).2.1 _ hk;exact⟨v1,v2⟩
 refine⟨by omega,by omega,D,⟨g1,fun a ha=>(hgo a (hr a ha).1 (hr a ha).2).1,fun a ha k hk _=>((hgo a (hr a ha).1 (hr a ha).2).2.1 k hk).2.2⟩,fun a ha=>⟨(hgo a (hr a ha).1 (hr a ha).2).2.2,fun k hk=>?_⟩⟩;obtain⟨v1,v2,-⟩:=(hgo a (hr a ha).1 (hr a ha).2).2.1 k hk;omega
theorem jn6(ix:ByteArray->Int)(j:Nat){l:List (Int×Nt)}(h:∀p∈l,p.1.toNat≠j):(o6 ix l [] noE).2 j = -1:=jb7 ix j l [] noE h
theorem jeE{u:Ut}(hu:WfU u)(j:Nat):(yZ u).2 j = -1/\(∀p∈u.on,p.1.toNat≠j)∨EntO (yZ u).1 ((yZ u).2 j)/\∃p∈u.on,p.1.toNat=j:=by
 by_cases h:∃p∈u.on,p.1.toNat=j
 ·refine .inr ⟨?_,h⟩;obtain⟨p,hp,rfl⟩:=h;obtain⟨k,hk,rfl⟩:=List.getElem_of_mem hp;obtain⟨c1,t,h1,h2⟩:=jmG u k hk (fun p hp=>(hu.on p hp).1) hu.nd;rw[h2,h1];exact jp1 (jZ u) _ (hu.on _ hp).2.2 (hu.st _ hp) c1 t
 ·have hn:∀p∈u.on,p.1.toNat≠j:=fun p hp e=>h ⟨p,hp,e⟩
  exact .inl ⟨jn6 _ j hn,hn⟩
theorem jjC(u:Ut):cU (yZ u).1:=fun i hi=>(jmF (jZ u) u.on [] noE (fun i hi=>by cases hi) i hi).2
theorem EntO.fol{code:List Ic}(hj:cU code){x:Int}(h:EntO code x):(kF code x=0/\∃D,Good code x D)∨(kF code x=13/\¬ ∃D,Good code x D):=by
 obtain⟨h1,h2,D,hD,ho⟩:=h;rcases jib hj ⟨h1,h2⟩ with ⟨_,a,ha,k,hk,hn⟩|⟨_,h⟩
 ·have:=(ho a ha).2 k hk;omega
 ·exact h
section
end
def jtE(i:Int):Nt:=.mk 12 i eB []
theorem jih(l:List Int)(a:Int):jX (l++[a])=jX l++[intA a]:=by unfold jX;rw[xtw59];rfl
theorem jgw{dm:List (Int×Int)}{k:Int}{K:A->Prop}{n:Prop}(hd:dF dm k=none)(h:n):gU false (mkV (dmA dm)) (pY (dmA dm)) (.int .i64 k) K n:=by
 refine kH _ _ ?_;rw[jfZ,hd];exact h
theorem iZ{dm:List (Int×Int)}{k d:Int}{K:A->Prop}{n:Prop}(hd:dF dm k=some d)(h:K (intA d)):gU false (mkV (dmA dm)) (pY (dmA dm)) (.int .i64 k) K n:=by
 refine kH _ _ ?_;rw[jfZ,hd];exact h
theorem jpe{dm:List (Int×Int)}{k d:Int}{n:Nat}{K:List A->List A->Nat->Prop}(hd:dF dm k=none)(h:K (mkA (dmA (dm++[(k,d)]))) (pY (dmA (dm++[(k,d)]))) (n+1)):jig false (.int .i64 k) (.v (.int .i64 d)) (mkA (dmA dm)) (pY (dmA dm)) n K:=by
 rw[jmr] at h;refine jdg (fun p hp=>?_) h;unfold dmA at hp;obtain⟨q,hq,rfl⟩:=xtw60.1 hp;exact jjE hd q hq
theorem jsw(t:Nat)(dm:List (Int×Int))(k d:Int):Row.live t 0 (dm.length+1) [.clo 0 (mkA (dmA (dm++[(k,d)]))),.clo 0 (pY (dmA (dm++[(k,d)])))]=Row.live t 0 (dm++[(k,d)]).length [.clo 0 (mkA (dmA (dm++[(k,d)]))),.clo 0 (pY (dmA (dm++[(k,d)])))]:=by rw[xtw4];rfl
theorem jsy(t:Nat)(wk:List Int)(k:Int):Row.live t 1 (wk.length+1) (jX wk++[intA k])=Row.live t 1 (wk++[k]).length (jX (wk++[k])):=by rw[xtw4,jih];rfl
theorem tO{α:Type}(o:Option α):o=none∨∃a,o=some a:=by cases o with
 |none=>exact .inl rfl
 |some a=>exact .inr ⟨a,rfl⟩
def juz(id:Nat):List Nat:=match Nat.beq id 1000003 with|true=>[1000003]|false=>[]
def flR(dm:List (Int×Int))(wk:List Int):List Row:=[.live 123 0 dm.length [.clo 0 (mkA (dmA dm)),.clo 0 (pY (dmA dm))],.live 3 1 wk.length (jX wk)]
theorem uH(code:List Ic)(e:Nat->Int)(du vo entry:Int)(hd : -100<=du/\du<=100)(hv : -100<=vo/\vo<=100)(hl:code.length<=1000000)(hj:cU code)(ho:∀i∈code,1<=i.1/\i.1<=23)(he:entry<code.length):Spec Tryz.prog 41 [] [sE code e du vo,intA entry] fun _ r=>r=intA (kF code entry):=by
 have hsh:=uV code e du vo hd hv hl
 obtain⟨R,hR⟩:∃R,kF code entry=R:=⟨_,rfl⟩
 rw[hR];unfold kF at hR;refine eN jK juz 0 Tryz.func41 rfl ?_;intro _;conv=>whnf
 by_cases h0:entry<0
 ·rw[xtw1 h0];rw[xtw3 h0] at hR;conv=>whnf
  rw[<- hR];rfl
 rw[xtw0 h0];rw[xtw2 h0] at hR;conv=>whnf
 refine jY [] hsh ?_;rintro r rfl;conv=>whnf
 refine jA [2,5,6,8] ?_;conv=>whnf
 refine jE (fun x:Nat×Fs=>[(7,intA (jp8 x.2.er))]) (fun _=>[pgL code e du vo]) (fun x=>flR x.2.dm x.2.wk)
  (fun x=>jam code.length x.2/\x.2.wk.length+(code.length-x.2.dm.length)+1<=x.1/\x.1<=code.length+1/\jia code x.1 x.2=R) (fun x=>x.1) (code.length+1,⟨[(entry,0)],[entry],false⟩) ?_ ⟨⟨?_,?_,?_,?_⟩,?_,xtw11 _,hR⟩ ?_
 ·repeat' constructor
  unfold mkA pY dmA;rfl
 ·intro p hp;rw[xtw16.1 hp];exact⟨by simp only;omega,he⟩
 ·simp
 ·intro k hk;rw[xtw16.1 hk];exact⟨0,xtw16.2 rfl⟩
 ·intro p hp;rw[xtw16.1 hp];simp only[xtw31];omega
 ·simp only[xtw31];omega
 rintro⟨m0,dm,wk,er⟩ ⟨g1,g2,g3,hR⟩
 simp only at g1 g2 g3 hR
 obtain⟨m,rfl⟩:∃m,m0=m+1:=⟨m0-1,by omega⟩
 have hwl:wk.length<=1000000:=by omega
 rcases List.eq_nil_or_concat wk with rfl|⟨pre,a,hw⟩
 ·conv=>whnf
  rw[jia] at hR;simp only[List.getLast?_nil] at hR;rw[<- hR];rfl
 rw[List.concat_eq_append] at hw;subst hw;rw[jia] at hR;simp only[List.getLast?_append,List.getLast?_singleton,Option.some_or,List.dropLast_append_cons,List.dropLast_singleton,xtw66] at hR
 have hlen:(pre++[a]).length=pre.length+1:=by simp
 have htk:(jX (pre++[a])).take (pre.length*1)=jX pre:=by unfold jX;rw[xtw59,xtw84];exact List.take_left' (by simp)
 have hdr:(jX (pre++[a])).drop ((((pre++[a]).length:Int)-1).toNat*1)=[intA a]:=by
  have e1:(((pre++[a]).length:Int)-1).toNat*1=pre.length:=by omega
  rw[e1];unfold jX;rw[xtw59];exact List.drop_left' (by simp)
 obtain⟨d,hda⟩:=g1.wk a (xtw64 _ xtw29);have ha:=g1.rng _ hda
 simp only at ha
 obtain⟨d',hd'⟩:=jez hda;have hdr':=g1.dep _ (jaN hd')
 simp only at hdr'
 have hdl:=ja9 g1.rng g1.nd
 simp only at hdl
 have hpp:=sF (code.getD a.toNat (0,0)).1;have hps:=dV (code.getD a.toNat (0,0)).1;have hnn:=jgF hj ha
 have hst:uX code dm pre er a=nA code.length (d'-qJ (code.getD a.toNat (0,0)).1+qG (code.getD a.toNat (0,0)).1) (nxI a (code.getD a.toNat (0,0))) ⟨dm,pre,er||(decide (d'<qJ (code.getD a.toNat (0,0)).1)||decide (16<d'-qJ (code.getD a.toNat (0,0)).1+qG (code.getD a.toNat (0,0)).1))⟩:=by
  unfold uX u4 afF;rw[hd'];rfl
 rw[hst] at hR
 have hil:a.toNat<code.length:=by omega
 have hgi:code.getD a.toNat (0,0)=code[a.toNat]:=by rw[xtw9,xtw21 hil];rfl
 have hcr:jC 2 a.toNat (qF code)=icA (code.getD a.toNat (0,0)):=by rw[hgi];exact aN code _ hil
 have hio:1<=(code.getD a.toNat (0,0)).1/\(code.getD a.toNat (0,0)).1<=23:=by rw[hgi];exact ho _ (xtw10 hil)
 generalize code.getD a.toNat (0,0)=i at *;obtain⟨op,n⟩:=i
 simp only at hpp hps hio hR hnn
 unfold icA at hcr
 simp only at hcr
 conv=>whnf
 rw[xtw1 (show(0:Int)<((pre++[a]).length:Int) by rw[hlen];omega)];conv=>whnf
 refine⟨show lo .i64<=((pre++[a]).length:Int)-1/\((pre++[a]).length:Int)-1<=hi .i64 from jG (by omega),?_⟩;conv=>whnf
 refine⟨show(0:Int)<=((pre++[a]).length:Int)-1/\((pre++[a]).length:Int)-1<((pre++[a]).length:Nat) from ⟨by omega,by omega⟩,?_⟩;conv=>whnf
 rw[hdr];conv=>whnf
 refine⟨show lo .i64<=((pre++[a]).length:Int)-1/\((pre++[a]).length:Int)-1<=hi .i64 from jG (by omega),?_⟩;conv=>whnf
 refine⟨pre.length,jX pre,⟨show((pre++[a]).length:Int)-1=(pre.length:Nat) by omega,show pre.length<=(pre++[a]).length by omega,htk.symm⟩,?_⟩;conv=>whnf
 refine⟨ha,?_⟩;conv=>whnf
 (generalize hrq:jC _ _ (qF code)=rq;obtain rfl:rq=[intA op,intA n]:=hrq.symm.trans (hcr);clear hrq;conv=>whnf)
 conv=>whnf
 refine jis _ _ _ hio fun slo shi=>?_
 conv=>whnf
 refine aY _ ?_;conv=>whnf
 refine iZ hd' ?_;conv=>whnf
 refine⟨jG (by omega),?_⟩;conv=>whnf
 refine⟨jG (by omega),?_⟩;conv=>whnf
 refine aY _ ?_;conv=>whnf
 refine iZ hd' ?_;conv=>whnf
 rcases(show d'<qJ op∨¬d'<qJ op/\16<d'-qJ op+qG op∨¬d'<qJ op/\¬16<d'-qJ op+qG op by omega) with hb1|⟨hb1,hb2⟩|⟨hb1,hb2⟩;rw[xtw1 hb1] at hR ⊢;rw[Bool.true_or,Bool.or_true] at hR
 rotate_left
 rw[xtw0 hb1,xtw1 hb2] at hR;rw[xtw0 hb1];rw[Bool.or_true,Bool.or_true] at hR;conv=>whnf
 rw[xtw1 hb2]
 rotate_left
 rw[xtw0 hb1] at hR ⊢;conv=>whnf
 rw[xtw0 hb2] at hR ⊢;rw[Bool.or_self,Bool.or_false] at hR
 all_goals
  conv=>whnf
  unfold nxI at hR hnn
  simp only at hR hnn
  by_cases hc1:op=23
  ·rw[xtw1 hc1];rw[xtw3 hc1] at hR hnn;unfold nA at hR;have hF:=hR
   simp only at hF
   conv=>whnf
   refine jA [2,5,6,7,8,88,89,90] ?_;conv=>whnf
   refine jE (fun _:Unit=>[]) (fun _=>[pgL code e du vo]) (fun _=>flR dm pre) (fun _=>True) (fun _=>0) () ?_ trivial ?_
   ·repeat' constructor
   rintro⟨⟩ -;conv=>whnf
   refine⟨(m,⟨dm,pre,_⟩),jD [0,1] ?_,⟨⟨g1.rng,g1.nd,fun k hk=>g1.wk k (xtw55 _ hk),g1.dep⟩,show pre.length+(code.length-dm.length)+1<=m by omega,show m<=code.length+1 by omega,hF⟩,show m<m+1 by omega⟩;conv=>whnf
   repeat' constructor
  rw[xtw0 hc1];rw[xtw2 hc1] at hR hnn;conv=>whnf
  generalize hL:ite (op=15) _ _=L at hR hnn;rcases(show op=15∨¬op=15/\op=16∨¬op=15/\¬op=16 by omega) with hc2|⟨hc2,hc3⟩|⟨hc2,hc3⟩;rw[xtw1 hc2];rw[xtw3 hc2] at hL
  have hl1:L.length=1:=by rw[<- hL];rfl
  have hM:[A.v (.int .i64 n)]=L.map intA:=by rw[<- hL];rfl
  conv=>whnf
  rotate_left
  rw[xtw0 hc2];rw[xtw2 hc2,xtw3 hc3] at hL
  have hl1:L.length=2:=by rw[<- hL];rfl
  have hM:[A.v (.int .i64 (a+1)),A.v (.int .i64 n)]=L.map intA:=by rw[<- hL];rfl
  conv=>whnf
  rw[xtw1 hc3];conv=>whnf
  refine⟨show lo .i64<=a+1/\a+1<=hi .i64 from jG (by omega),?_⟩;conv=>whnf
  rotate_left
  rw[xtw0 hc2];rw[xtw2 hc2,xtw2 hc3] at hL
  have hl1:L.length=1:=by rw[<- hL];rfl
  have hM:[A.v (.int .i64 (a+1))]=L.map intA:=by rw[<- hL];rfl
  conv=>whnf
  rw[xtw0 hc3];conv=>whnf
  refine⟨show lo .i64<=a+1/\a+1<=hi .i64 from jG (by omega),?_⟩;conv=>whnf
  all_goals
   generalize hF:nA _ _ L _=F at hR;refine xM [2] ?_;conv=>whnf
   refine jA [2,5,6,8,12,88,89] ?_;conv=>whnf
   refine jE (fun x:Nat×Fs=>[(7,intA (jp8 x.2.er)),(90,.v (.int .i64 x.1))]) (fun _=>[pgL code e du vo]) (fun x=>flR x.2.dm x.2.wk++[.pub 1 L.length (L.map intA)])
    (fun x=>x.1<=L.length/\jam code.length x.2/\x.2.wk.length+dm.length=pre.length+x.2.dm.length/\dm.length<=x.2.dm.length/\nA code.length (d'-qJ op+qG op) (L.drop x.1) x.2=F) (fun x=>L.length-x.1) (0,⟨dm,pre,_⟩) ?_ ⟨xtw19 _,⟨g1.rng,g1.nd,fun k hk=>g1.wk k (xtw55 _ hk),g1.dep⟩,rfl,xtw11 _,hF⟩ ?_
   ·repeat' constructor
    all_goals(rw[<- hL];rfl)
   clear hF;rintro⟨j,dm1,wk1,er1⟩ ⟨f1,f2,f3,f4,hF⟩
   simp only at f1 f2 f3 f4 hF
   have hdl1:=ja9 f2.rng f2.nd
   simp only at hdl1
   rcases xtw36 j L.length with hjL|hjL
   ·have hrw:=wN intA L j hjL;have hk0:=hnn _ (xtw10 hjL);rw[xtw63 hjL] at hF;unfold nA at hF;generalize L[j]=k at hrw hk0 hF;conv=>whnf
    rw[xtw1]
    rotate_left
    ·omega
    conv=>whnf
    refine⟨⟨by omega,by omega⟩,?_⟩;conv=>whnf
    generalize hrq:jC _ _ _=rq;obtain rfl:rq=[intA k]:=hrq.symm.trans (by show jC 1 j _=_;rw[hM];exact hrw);clear hrq;conv=>whnf
    by_cases hge:(code.length:Int)<=k
    ·unfold jcy at hF;rw[xtw3 hge] at hF;rw[<- hF] at hR;rw[xtw1 hge];conv=>whnf
     rw[<- hR];rfl
    rw[xtw0 hge];conv=>whnf
    refine aY _ ?_;conv=>whnf
    rcases tO (dF dm1 k) with hdk|⟨d2,hdk⟩
    ·have hkf:jcy code.length (d'-qJ op+qG op) ⟨dm1,wk1,er1⟩ k=some ⟨dm1++[(k,d'-qJ op+qG op)],wk1++[k],er1⟩:=by unfold jcy;rw[xtw2 hge];simp only;rw[hdk]
     obtain⟨q1,q2,q3⟩:=jeM f2 hk0 ⟨by simp only;omega,by simp only;omega⟩ hkf;rw[hkf] at hF
     simp only at hF
     refine jgw hdk ?_;conv=>whnf
     refine jpe hdk ?_;conv=>whnf
     refine⟨⟨show wk1.length+1<=maxLen by unfold maxLen;omega,show(wk1.length+1)*8<=140737488355328 by omega⟩,?_⟩;conv=>whnf
     refine jN j (by omega) ?_;conv=>whnf
     refine⟨(j+1,⟨dm1++[(k,d'-qJ op+qG op)],wk1++[k],er1⟩),jD [0,1,2] ?_,⟨show j+1<=L.length by omega,q1,show _+_=_+_ by simp only at q2 ⊢;omega,show _<=_ by simp only at q3 ⊢;omega,hF⟩,show L.length-(j+1)<L.length-j by omega⟩;conv=>whnf
     repeat' constructor
     ·exact jsw _ _ _ _
     ·exact jsy _ _ _
    ·have hkf:jcy code.length (d'-qJ op+qG op) ⟨dm1,wk1,er1⟩ k=some ⟨dm1,wk1,er1||decide (d2≠d'-qJ op+qG op)⟩:=by unfold jcy;rw[xtw2 hge];simp only;rw[hdk]
     obtain⟨q1,q2,q3⟩:=jeM f2 hk0 ⟨by simp only;omega,by simp only;omega⟩ hkf;rw[hkf] at hF
     simp only at hF
     refine iZ hdk ?_;conv=>whnf
     rcases(show d2=d'-qJ op+qG op∨d2≠d'-qJ op+qG op by omega) with heq|heq
     ·rw[xtw1 heq];rw[xtw0 (fun h=>h heq),Bool.or_false] at hF q1;conv=>whnf
      refine jN j (by omega) ?_;conv=>whnf
      refine⟨(j+1,⟨dm1,wk1,er1⟩),jD [0,1,2] ?_,⟨show j+1<=L.length by omega,q1,show _+_=_+_ by simp only at q2 ⊢;omega,show _<=_ by simp only at q3 ⊢;omega,hF⟩,show L.length-(j+1)<L.length-j by omega⟩;conv=>whnf
      repeat' constructor
     ·rw[xtw0 heq];rw[xtw1 heq,Bool.or_true] at hF q1;conv=>whnf
      refine jN j (by omega) ?_;conv=>whnf
      refine⟨(j+1,⟨dm1,wk1,true⟩),jD [0,1,2] ?_,⟨show j+1<=L.length by omega,q1,show _+_=_+_ by simp only at q2 ⊢;omega,show _<=_ by simp only at q3 ⊢;omega,hF⟩,show L.length-(j+1)<L.length-j by omega⟩;conv=>whnf
      repeat' constructor
   rw[List.drop_eq_nil_of_le hjL] at hF;unfold nA at hF;rw[<- hF] at hR
   simp only at hR
   conv=>whnf
   rw[xtw0]
   rotate_left
   ·omega
   conv=>whnf
   refine⟨(m,⟨dm1,wk1,er1⟩),jD [0,1] ?_,⟨f2,show wk1.length+(code.length-dm1.length)+1<=m by omega,show m<=code.length+1 by omega,hR⟩,show m<m+1 by omega⟩;conv=>whnf
   repeat' constructor
def enL(e:Nat->Int):List A:=(List.range 40).map fun j=>intA (e j)
theorem jeD(e:Nat->Int)(j:Nat)(hj:j<40):(enL e)[((j:Int)).toNat*1]?=some (intA (e j)):=by
 rw[xtw116,xtw84];unfold enL;rw[xtw48,xtw93 hj];rfl
theorem jdR(c:List Ic)(e:Nat->Int)(du vo:Int)(hl:c.length<=1000000):Spec Tryz.prog 16 [] [sE c e du vo,sE c e du vo] fun _ r=>r=qA true:=by
 refine eN jtN jT 0 Tryz.func16 rfl ?_;intro _;conv=>whnf
 refine⟨by kernel_rfl,?_⟩;conv=>whnf
 generalize hq:(decide (e 0=e 0)&&_)=b
 obtain rfl:b=true:=by rw[<- hq];simp
 clear hq;conv=>whnf
 rw[xtw1 (rfl:du=du)];conv=>whnf
 rw[xtw1 (rfl:vo=vo)];conv=>whnf
 rw[xtw1 (rfl:(c.length:Int)=c.length)];conv=>whnf
 refine jA [2,3] ?_;conv=>whnf
 refine jE (fun j:Nat=>[(5,.v (.int .i64 j))]) (fun _=>[pgL c e du vo,pgL c e du vo]) (fun _=>[]) (fun j=>j<=c.length) (fun j=>c.length-j) 0 ?_ (by omega) ?_
 ·repeat' constructor
 intro j hj;conv=>whnf
 rcases xtw36 j c.length with hlt|hge
 ·have hrow:jC 2 j (qF c)=icA c[j]:=aN c j hlt;generalize c[j]=i at hrow;obtain⟨op,n⟩:=i;unfold icA at hrow
  simp only at hrow
  rw[xtw1 (show(j:Int)<(c.length:Int) by omega)];conv=>whnf
  refine⟨show(0:Int)<=(j:Int)/\(j:Int)<(c.length:Nat) from ⟨by omega,by omega⟩,?_⟩;conv=>whnf
  (generalize hrq:jC _ _ (qF c)=rq;obtain rfl:rq=[intA op,intA n]:=hrq.symm.trans (hrow);clear hrq;conv=>whnf)
  refine⟨show(0:Int)<=(j:Int)/\(j:Int)<(c.length:Nat) from ⟨by omega,by omega⟩,?_⟩;conv=>whnf
  (generalize hrq:jC _ _ (qF c)=rq;obtain rfl:rq=[intA op,intA n]:=hrq.symm.trans (hrow);clear hrq;conv=>whnf)
  refine⟨by kernel_rfl,?_⟩;conv=>whnf
  generalize hq:(decide (op=op)&&_)=b
  obtain rfl:b=true:=by rw[<- hq];simp
  clear hq;conv=>whnf
  refine jN j (by omega) ?_;conv=>whnf
  refine⟨j+1,jD [] ?_,show j+1<=c.length by omega,show c.length-(j+1)<c.length-j by omega⟩;conv=>whnf
  repeat' constructor
 rw[xtw0 (show ¬(j:Int)<(c.length:Int) by omega)];conv=>whnf
 rfl
theorem jgx(v l k:Int){K:A->Prop}{n:Prop}(h:match (shL v l).find? (fun p=>decide (k=p.1)) with|some p=>K (shA p.2)|none=>n):gU false (mkV (shP v l)) (pY (shP v l)) (.int .i64 k) K n:=by
 refine kH _ _ ?_
 have e:wI (shP v l) k=((shL v l).find? fun p=>decide (k=p.1)).map fun p=>shA p.2:=by
  unfold wI shP;rw[List.find?_map];show((((shL v l).find? fun p=>decide (k=p.1)).map _).map _)=_
  cases (shL v l).find? fun p=>decide (k=p.1) <;> rfl
 rw[e]
 revert h
 cases (shL v l).find? fun p=>decide (k=p.1) <;> exact id
theorem js8{v l:Int}{i:Ic}(h:okI v l i=true):(1<=i.1/\i.1<=23)/\(i.1=15∨i.1=16->0<=i.2):=by
 unfold okI at h;rcases tO ((shL v l).find? fun p=>decide (i.1=p.1)) with hf|⟨p,hf⟩
 ·rw[hf] at h;cases h
 rw[hf] at h;have hk:=List.find?_some hf;have hm:=List.mem_of_find?_eq_some hf;simp only[xtw17] at hk;simp only[xtw14,xtw17] at h;obtain⟨a,b⟩:=i
 simp only at hk h ⊢
 subst hk;unfold shL at hm;simp only[xtw13,xtw42,xtw81] at hm;rcases hm with rfl|rfl|rfl|rfl|rfl|rfl|rfl|rfl|rfl|rfl|rfl|rfl|rfl|rfl|rfl|rfl|rfl|rfl|rfl|rfl|rfl|rfl|rfl
 all_goals(simp only at h ⊢;omega)
theorem jfu(p:Int->Bool)(e:Nat->Int):∀(m j:Nat),p6 p e j m=true->∀i,j<=i->i<j+m->p (e i)=true
 |0,j,h,i,h1,h2=>by omega
 |m+1,j,h,i,h1,h2=>by
  unfold p6 at h;rw[xtw14] at h;by_cases q:i=j
  ·rw[q];exact h.1
  ·exact jfu p e m (j+1) h.2 i (by omega) (by omega)
theorem jhE(code:List Ic)(e:Nat->Int)(du vo:Int)(hl:code.length<=1000000):Spec Tryz.prog 25 [] [sE code e du vo] fun _ r=>r=intA (jqc code e du vo):=by
 obtain⟨R,hR⟩:∃R,jqc code e du vo=R:=⟨_,rfl⟩
 rw[hR];unfold jqc at hR;refine eN jK jT 0 Tryz.func25 rfl ?_;intro _;conv=>whnf
 by_cases h0:400<code.length
 ·rw[xtw1 (show(400:Int)<(code.length:Int) by omega)];rw[xtw3 h0] at hR;conv=>whnf
  rw[<- hR];rfl
 rw[xtw0 (show ¬(400:Int)<(code.length:Int) by omega)];rw[xtw2 h0] at hR;conv=>whnf
 by_cases h1:du<0
 ·rw[xtw1 h1];rw[xtw3 (.inl h1)] at hR;conv=>whnf
  rw[<- hR];rfl
 rw[xtw0 h1];conv=>whnf
 by_cases h2:vo<0
 ·rw[xtw1 h2];rw[xtw3 (.inr (.inl h2))] at hR;conv=>whnf
  rw[<- hR];rfl
 rw[xtw0 h2];conv=>whnf
 by_cases h3:16<du
 ·rw[xtw1 h3];rw[xtw3 (.inr (.inr (.inl h3)))] at hR;conv=>whnf
  rw[<- hR];rfl
 rw[xtw0 h3];conv=>whnf
 refine⟨jG (by omega),?_⟩;conv=>whnf
 by_cases h4:16-du<vo
 ·rw[xtw1 h4];rw[xtw3 (.inr (.inr (.inr h4)))] at hR;conv=>whnf
  rw[<- hR];rfl
 rw[xtw0 h4];rw[xtw2 (by omega)] at hR;have hsh:=uV code e du vo (by omega) (by omega) hl;conv=>whnf
 refine jY [] hsh ?_;rintro r rfl;conv=>whnf
 refine jA [1,3,42,43] ?_;conv=>whnf
 refine jE (fun j:Nat=>[(44,.v (.int .i64 j))]) (fun _=>[pgL code e du vo]) (fun _=>[]) (fun j=>j<=code.length/\(code.take j).all (okI (du+vo-1) (code.length-1))=true) (fun j=>code.length-j) 0 ?_ ⟨xtw19 _,by rw[xtw99];rfl⟩ ?_
 ·repeat' constructor
 rintro j ⟨hj,hall⟩;conv=>whnf
 rcases xtw36 j code.length with hlt|hge
 ·have hrow:jC 2 j (qF code)=icA code[j]:=aN code j hlt
  have htk:(code.take (j+1)).all (okI (du+vo-1) (code.length-1))=okI (du+vo-1) (code.length-1) code[j]:=by
   rw[xtw26 hlt,List.all_append,hall,Bool.true_and,xtw113,List.all_nil,Bool.and_true]
  have hcn:okI (du+vo-1) (code.length-1) code[j]=false->R=12:=fun hb=>by
   have h5:code.all (okI (du+vo-1) (code.length-1))=false:=by
    rw[List.all_eq_false];exact⟨code[j],xtw10 hlt,by rw[hb];simp⟩
   rw[<- hR,xtw3 h5]
  unfold okI at htk hcn;generalize code[j]=i at hrow htk hcn;obtain⟨op,n⟩:=i;unfold icA at hrow
  simp only at hrow
  rw[xtw1 (show(j:Int)<(code.length:Int) by omega)];conv=>whnf
  refine⟨show(0:Int)<=(j:Int)/\(j:Int)<(code.length:Nat) from ⟨by omega,by omega⟩,?_⟩;conv=>whnf
  (generalize hrq:jC _ _ (qF code)=rq;obtain rfl:rq=[intA op,intA n]:=hrq.symm.trans (hrow);clear hrq;conv=>whnf)
  refine jgx _ _ _ ?_;rcases tO ((shL (du+vo-1) (code.length-1)).find? fun p=>decide (op=p.1)) with hf|⟨⟨pk,po,pu,plo,phi⟩,hf⟩
  ·rw[hf] at hcn ⊢;have hcn:=hcn rfl;conv=>whnf
   rw[hcn];rfl
  rw[hf] at htk hcn ⊢
  simp only at htk hcn
  conv=>whnf
  by_cases hlo:n<plo
  ·rw[xtw1 hlo];have hcn:=hcn (by rw[xtw0 (by omega)];rfl);conv=>whnf
   rw[hcn];rfl
  rw[xtw0 hlo];conv=>whnf
  by_cases hhi:phi<n
  ·rw[xtw1 hhi];have hcn:=hcn (by rw[xtw0 (show ¬n<=phi by omega),xtw119]);conv=>whnf
   rw[hcn];rfl
  rw[xtw0 hhi];conv=>whnf
  refine jN j (by omega) ?_;conv=>whnf
  refine⟨j+1,jD [] ?_,⟨show j+1<=code.length by omega,htk.trans (by rw[xtw1 (show plo<=n by omega),xtw1 (show n<=phi by omega)];rfl)⟩,show code.length-(j+1)<code.length-j by omega⟩;conv=>whnf
  repeat' constructor
 rw[xtw0 (show ¬(j:Int)<(code.length:Int) by omega)]
 have hall2:code.all (okI (du+vo-1) (code.length-1))=true:=by
  have:=hall;rw[xtw56 hge] at this;exact this
 rw[hall2,xtw2 (by decide)] at hR
 have hops:=fun i hi=>js8 (xtw65.1 hall2 i hi)
 clear hall;conv=>whnf
 refine jA [1,73] ?_;conv=>whnf
 refine jE (fun j:Nat=>[(74,.v (.int .i64 j))]) (fun _=>[pgL code e du vo]) (fun _=>[]) (fun j=>j<=40/\p6 (m5 code.length) e j (40-j)=p6 (m5 code.length) e 0 40) (fun j=>40-j) 0 ?_ ⟨xtw19 _,rfl⟩ ?_
 ·repeat' constructor
 clear hge hj j;rintro j ⟨hj,hall⟩;conv=>whnf
 rcases xtw36 j 40 with hlt|hge
 ·rw[xtw1 (show(j:Int)<40 by omega)]
  have hst:p6 (m5 code.length) e j (40-j)=(m5 code.length (e j)&&p6 (m5 code.length) e (j+1) (40-(j+1))):=by
   rw[show 40-j=(40-(j+1))+1 by omega];rfl
  have hall':p6 (m5 code.length) e j (40-j)=p6 (m5 code.length) e 0 40:=hall;conv=>whnf
  refine⟨⟨show(0:Int)<=(j:Int) by omega,show(j:Int)<((40:Nat):Int) by omega⟩,intA (e j),jeD e j hlt,?_⟩;conv=>whnf
  by_cases hlo:e j < -1
  ·rw[xtw1 hlo];rw[xtw3 (by rw[<- hall',hst];unfold m5;rw[xtw0 (show ¬ -1<=e j by omega)];rfl)] at hR;conv=>whnf
   rw[<- hR];rfl
  rw[xtw0 hlo];conv=>whnf
  by_cases hhi:(code.length:Int)<=e j
  ·rw[xtw1 hhi];rw[xtw3 (by rw[<- hall',hst];unfold m5;rw[xtw0 (show ¬e j<code.length by omega),xtw119];rfl)] at hR;conv=>whnf
   rw[<- hR];rfl
  rw[xtw0 hhi];conv=>whnf
  refine jN j (by omega) ?_;conv=>whnf
  refine⟨j+1,jD [] ?_,⟨show j+1<=40 by omega,?_⟩,show 40-(j+1)<40-j by omega⟩
  ·conv=>whnf
   repeat' constructor
  ·show p6 (m5 code.length) e (j+1) (40-(j+1))=_;rw[<- hall',hst];unfold m5;rw[xtw1 (show -1<=e j by omega),xtw1 (show e j<code.length by omega)];rfl
 obtain rfl:j=40:=by omega
 have hall2:p6 (m5 code.length) e 0 40=true:=by
  have:p6 (m5 code.length) e 40 (40-40)=p6 (m5 code.length) e 0 40:=hall;rw[<- this];rfl
 rw[xtw0 (show ¬((40:Nat):Int)<40 by omega)];rw[hall2,xtw2 (by decide)] at hR;have hent:=jfu _ _ _ _ hall2;clear hall hge hj;conv=>whnf
 refine jA [1,88] ?_;conv=>whnf
 refine jE (fun x:Nat×Int=>[(10,intA x.2),(89,.v (.int .i64 x.1))]) (fun _=>[pgL code e du vo]) (fun _=>[]) (fun x=>x.1<=40/\jqb code e x.1 (40-x.1) x.2=R) (fun x=>40-x.1) (0,0) ?_ ⟨xtw19 _,hR⟩ ?_
 ·repeat' constructor
 rintro⟨j,q⟩ ⟨hj,hv⟩
 simp only at hj hv
 conv=>whnf
 rcases xtw36 j 40 with hlt|hge
 ·rw[xtw1 (show(j:Int)<40 by omega)];rw[show 40-j=(40-(j+1))+1 by omega] at hv;unfold jqb at hv;have hq:=hent j (by omega) (by omega);unfold m5 at hq;rw[xtw14,xtw17,xtw17] at hq;have hfo:=uH code e du vo (e j) (by omega) (by omega) hl (fun i hi=>(hops i hi).2) (fun i hi=>(hops i hi).1) hq.2;conv=>whnf
  refine⟨⟨show(0:Int)<=(j:Int) by omega,show(j:Int)<((40:Nat):Int) by omega⟩,intA (e j),jeD e j hlt,?_⟩;conv=>whnf
  refine jY [] hfo ?_;rintro r rfl;generalize kF code (e j)=f at hv;conv=>whnf
  by_cases h12:f=12
  ·rw[xtw1 h12];rw[xtw3 h12] at hv;conv=>whnf
   rw[<- hv,<- h12];rfl
  rw[xtw0 h12];rw[xtw2 h12] at hv;conv=>whnf
  by_cases h13:f=13
  ·rw[xtw1 h13];rw[xtw3 h13] at hv;conv=>whnf
   refine jN j (by omega) ?_;conv=>whnf
   refine⟨(j+1,13),jD [] ?_,⟨show j+1<=40 by omega,hv⟩,show 40-(j+1)<40-j by omega⟩;conv=>whnf
   repeat' constructor
   rw[h13]
  rw[xtw0 h13];rw[xtw2 h13] at hv;conv=>whnf
  refine jN j (by omega) ?_;conv=>whnf
  refine⟨(j+1,q),jD [] ?_,⟨show j+1<=40 by omega,hv⟩,show 40-(j+1)<40-j by omega⟩;conv=>whnf
  repeat' constructor
 obtain rfl:j=40:=by omega
 rw[xtw0 (show ¬((40:Nat):Int)<40 by omega)];conv=>whnf
 rw[<- hv];rfl
end Go.Proofs.YtfbifdccmabdbaaGreatDoor.Vm
namespace Go.Proofs.YtfbifdccmabdbaaGreatDoor.Vm
open Go.RowKit
section
theorem jdM{X:List Nat}{rw:List Row}{a a':A}(ha:ren X rw a=some a'):∀{l l':List A},q8 X rw l=some l'->q8 X rw (l++[a])=some (l'++[a'])
 |[],l',h=>by
  unfold q8 at h;cases h;simp only[xtw53,q8,ha]
 |x::l,l',h=>by
  unfold q8 at h;rw[xtw61];unfold q8;split at h
  ·rename_i y hy;split at h
   ·rename_i r hr;cases h;rw[jdM ha hr];rfl
   ·cases h
  ·cases h
theorem jax(X:List Nat)(l:List A)(a:A):xC X (l++[a])=xC X l++[back X a]:=by
 rw[dA,dA,xtw59];rfl
section
variable{w0:W0}{C0:Rd}{β0:List Nat}{bx:List (List A)}{rw:List Row}{w:World}{E:Env}
theorem Hp.last{i:Nat}{c:List A}{a a':A}(h:Hp w0 C0 β0 bx rw w E)(hi:bx[i]?=some (c++[a]))(ha:∀t,a≠.adr t)(ha':∀t,a'≠.adr t)(hl:∀u,a.rep E u->a'.rep E u):Hp w0 C0 β0 (bx.set i (c++[a'])) rw w E:=by
 refine⟨h.sub,h.base,h.fresh,h.bp,h.bnd,h.bC,by rw[xtw111];exact h.bl,fun j b cs h1 h2=>?_,h.rl,h.rws,h.rC,h.rd,h.rs,h.keep,h.gk⟩;by_cases e:i=j
 ·subst e;rw[xtw35 (xtw5.1 hi).1] at h2;cases h2;obtain⟨T,arr,q1,q2⟩:=h.bxs i b _ h1 hi;exact⟨T,arr,q1,lV ha ha' (fun us hu=>hu) (fun u hu _=>hl u hu) q2⟩
 ·rw[xtw39 e] at h2;exact h.bxs j b cs h1 h2
end
section
variable{P:Program}{pan:List PanicEntry->S->Prop}{Xr:Nat->Bool}{f:Nat}{s:S}{K:A->S->Prop}{post:List A->A->Prop}
theorem zA(i g:Nat){cA c1 args args':List A}{pn:List PanicEntry->Prop}(hX:Xr i=true)(hi:s.bx[i]?=some (cA++[.own g]))(hgl:g<s.rw.length)(h1:q8 [i] s.rw cA=some c1)(h2:q8 [i] s.rw args=some args')
  (hs:SpecV P f c1 args' post pn)
  (hpn:∀ch bx',pn ch->bx'.length=s.bx.length->(∀j,j≠i->bx'[j]?=s.bx[j]?)->pan ch ⟨s.t,bx',s.rw⟩)
  (hk:∀c r,post c r->iA [i] s.bx [i] [c++[.own g]] fun bx'=>zT (back [i] r) fun r'=>j9 s.rw fun rw'=>kS s bx' rw' (K r')):kL P pan Xr f args s K:=by
 unfold kL
 right;right;right;right;right
 have hil:=(xtw5.1 hi).1;have key:∀(w0:W0) (C0:Rd) (β0:List Nat) (E:Env) (w:World) (vals:List Value),Hp w0 C0 β0 s.bx s.rw w E->A.repL args E vals →
   ((∀vs w,(callFunc f vs).run P w=.ok (.enter f vs) w)/\Calls P f vals.toArray w (fun e w'=>(∃y,e=.returned y/\Left w0 C0 β0 Xr s E w K y w')∨∃ch s' E',e=.panicked ch/\pan ch s'/\s'.t=s.t/\E.le E'/\Hp w0 C0 β0 s'.bx s'.rw w' E')):=fun w0 C0 β0 E w vals hp hargs=>by
  have hgr:g<E.ρ.length:=by rw[<- hp.rl];exact hgl
  obtain⟨y,hyg⟩:∃y,E.ρ[g]?=some y:=⟨_,xtw21 hgr⟩
  have hy:fX y:=by
   rcases hp.rs g y hyg with ⟨_,_,_,rfl⟩|⟨_,rfl⟩|⟨_,rfl⟩ <;> exact trivial
  have hp2:=hp.last (a':=.v y) hi (fun t e=>by cases e) (fun t e=>by cases e) (fun u hu=>by
   unfold A.rep at hu
   have:y=u:=by rw[hyg] at hu;exact xtw43 hu
   subst this
   exact A.rep_v hy)
  have hc:=jaF (s:=⟨s.t,s.bx.set i (cA++[.v y]),s.rw⟩) (pan:=pan) (pn:=pn) (X:=[i]) (ids:=[]) (ins:=[c1++[.v y]]) (post:=fun o r=>∃c,o=[c++[.v y]]/\post c r) (Xr:=Xr) (args:=args) (args':=args') (vs:=vals)
   (K:=fun r s'=>∃c bx',s'=⟨s.t,bx'.set i (c++[.v y]),s.rw⟩/\bx'[i]?=some (c++[.own g])/\K r ⟨s.t,bx',s.rw⟩) hp2 hargs
   (by simp) (by simpa using hX) (by simpa using hil)
   (by
    have:(s.bx.set i (cA++[.v y])).getD i []=cA++[.v y]:=by simp[xtw9,hil]
    simp only[xtw22,xtw104,this];show nF [i] s.rw [cA++[.v y]]=_
    simp only[nF,jdM (a:=.v y) (a':=.v y) (by unfold ren;rfl) h1])
   h2 (fun _=>hs y hy)
   (fun outs r ⟨c,ho,hpost⟩ _=>by
    subst ho;obtain⟨_,bx',q1,q2,q3,q4⟩:=jbA (by simp) (hk c r hpost);rw[force_iff,qP,bQ] at q1;have q5:=q4 0 i _ rfl rfl;rw[jax] at q5;unfold iA;rw[qN];refine fP (by simpa using hil) ?_;unfold iA
    simp only
    rw[force_iff,qP,bQ,<- dA,jax];refine⟨xC [i] c,bx',?_,by rw[q5];simp[back],q1⟩;simp only[List.set_set,S.mk.injEq,true_and,and_true];refine⟨?_,rfl⟩;apply xtw75;intro j;by_cases e:i=j
    ·subst e;rw[xtw35 hil,xtw35 (by rw[q2];exact hil)];simp[back]
    ·rw[xtw39 e,xtw39 e,q3 j (by simpa using fun h=>e h.symm)])
   (fun ch bx' h k1 k2=>hpn ch bx' h (by simpa using k1) fun j hj=>by
    rw[k2 j (by simpa using hj),xtw39 (fun e=>hj e.symm)])
  refine⟨hc.1,hc.2.mono fun e w' hh=>?_⟩;rcases hh with ⟨y2,rfl,⟨⟨r,s',E',⟨c,bx',rfl,hb,hK⟩,k1,k2,k3,k4,k5,k6⟩⟩⟩|hh
  ·refine .inl ⟨y2,rfl,⟨⟨r,⟨s.t,bx',s.rw⟩,E',hK,rfl,k2,?_,k4,k5,k6⟩⟩⟩;have hbl:=(xtw5.1 hb).1
   have hp3:=k3.last (i:=i) (c:=c) (a:=.v y) (a':=.own g) (xtw35 hbl) (fun t e=>by cases e) (fun t e=>by cases e) (fun u hu=>by
    obtain⟨rfl,-⟩:=A.rep_v_iff.1 hu;unfold A.rep
    exact k2.ρ _ _ hyg)
   have e:(bx'.set i (c++[.v y])).set i (c++[.own g])=bx':=by
    rw[List.set_set];apply xtw75;intro j;by_cases e:i=j
    ·subst e;rw[xtw35 hbl,hb]
    ·rw[xtw39 e]
   rw[e] at hp3;exact hp3
  ·exact .inr hh
 refine⟨?_,fun w0 C0 β0 E w vals hp hargs=>(key w0 C0 β0 E w vals hp hargs).2⟩;exact(hs (.bool true) trivial).1
end
end
end Go.Proofs.YtfbifdccmabdbaaGreatDoor.Vm
namespace Go.Proofs.YtfbifdccmabdbaaGreatDoor.Vm
open Go.RowKit Go.Shelf
def eH(u:Ut):List A:=cO u++[.own 0]
abbrev nR(f:Nat)(ins:List (List A))(l:List Ic)(args:List A)(post:List (List A)->List Ic->A->Prop):Prop :=
 pZ Tryz.prog f ins 52 2 l.length (qF l) args fun o n cs r=>∃l',n=l'.length/\cs=qF l'/\post o l' r
theorem gF(u:Ut)(l:List Ic)(op n:Int)(hl:l.length<=1000000):nR 40 [eH u] l [.box 0 0,intA op,intA n] fun o l' r=>o=[eH u]/\l'=l++[(op,n)]/\r=intA l.length:=by
 refine iL jK jT 1 Tryz.func40 rfl ?_;intro _;conv=>whnf
 refine⟨⟨by unfold maxLen;omega,by omega⟩,?_⟩;conv=>whnf
 refine⟨jG (by omega),?_⟩;conv=>whnf
 refine⟨0,?_⟩;conv=>whnf
 refine⟨l++[(op,n)],by rw[xtw4];rfl,?_,rfl,rfl,?_⟩
 ·rw[tD];rfl
 ·show intA (((l.length+1:Nat):Int)-1)=intA l.length
  congr 1;omega
theorem gH(a:Ic)(l:List Ic):qF (a::l)=icA a++qF l:=by rw[l9,xtw82,l9]
theorem jgc:∀(l:List Ic) (k:Nat) (hk:k<l.length) (v:Int),(qF l).set (k*2+1) (intA v)=qF (l.set k (l[k].1,v))
 |[],k,hk,v=>by simp at hk
 |a::l,0,hk,v=>by rw[xtw45,gH,gH];rfl
 |a::l,k+1,hk,v=>by
  rw[xtw46,gH,gH];have h:=jgc l k (by simpa using hk) v;rw[show(k+1)*2+1=k*2+1+2 by omega];show intA a.1::intA a.2::(qF l).set (k*2+1) (intA v)=_;rw[h];rfl
theorem tW:∀(l:List (Int->List Ic)) (g:Int->List Ic) (at':Int),zX (l++[g]) at'=zX l at'++g (at'+(zX l at').length)
 |[],g,at'=>by
  show g at'++[]=[]++g (at'+((0:Nat):Int));rw[xtw66,xtw53,show at'+((0:Nat):Int)=at' by omega]
 |h::l,g,at'=>by
  show h at'++zX (l++[g]) _=(h at'++zX l _)++g _;rw[tW l g,xtw40]
  congr 3
  show _=at'+((h at'++zX l _).length:Int);rw[xtw4];omega
def zY(u:Ut)(f:Nt):Prop:=(∀at':Int,(jI (jZ u) f at').length<=zN f)/\∀l:List Ic,l.length+zN f<=1000000->nR 39 [eH u] l [.box 0 0,.agg (ntA f)] fun o l' r=>o=[eH u]/\l'=l++jI (jZ u) f l.length/\r=.tup []
theorem mW:∀(l:List Nt) (j:Nat) (h:j<l.length),qX (l.take j)+zN l[j]<=qX l
 |[],j,h=>by simp at h
 |f::l,0,h=>by show 0+zN f<=zN f+qX l;omega
 |f::l,j+1,h=>by
  have hj:j<l.length:=by simpa using h
  have:=mW l j hj;show zN f+qX (l.take j)+zN (l[j]'hj)<=zN f+qX l;omega
theorem jhu:∀(l:List Nt) (j:Nat),qX (l.take j)<=qX l
 |[],j=>by rw[List.take_nil];exact xtw11 _
 |f::l,0=>xtw19 _
 |f::l,j+1=>by
  have:=jhu l j;show zN f+qX (l.take j)<=zN f+qX l;omega
theorem kX{u:Ut}:∀(l:List Nt) (at':Int),(∀f∈l,zY u f)->(zX (jH (jZ u) l) at').length<=qX l
 |[],at',_=>xtw19 _
 |f::l,at',h=>by
  show(jI (jZ u) f at'++zX (jH (jZ u) l) _).length<=zN f+qX l;rw[xtw4];have h1:=(h f xtw29).1 at'
  have h2:=kX l (at'+(jI (jZ u) f at').length) fun g hg=>h g (xtw25 _ hg)
  omega
theorem mB(u:Ut)(k n:Int)(s:ByteArray)(kids:List Nt)(hm:kids.length<=3002)(hf:∀f∈kids,zY u f)(l:List Ic)(hl:l.length+qX kids<=1000000):nR 80 [eH u] l [.box 0 0,.agg (ntA (.mk k n s kids))] fun o l' r=>o=[eH u]/\l'=l++zX (jH (jZ u) kids) l.length/\r=.tup []:=by
 obtain⟨S,hS⟩:∃S:Nat->List Ic,∀j,S j=l++zX (jH (jZ u) (kids.take j)) l.length:=⟨_,fun _=>rfl⟩
 have hS0:S 0=l:=by rw[hS];exact xtw66 l
 have hSl:l++zX (jH (jZ u) kids) l.length=S kids.length:=by rw[hS,xtw54]
 have hSn:∀j (h:j<kids.length),S (j+1)=S j++jI (jZ u) kids[j] (S j).length:=fun j h=>by
  rw[hS,hS,xtw26 h,wU,wU,xtw59];show l++zX (_++[jI (jZ u) kids[j]]) _=_;rw[tW,xtw40,xtw4]
  congr 3
 have hSz:∀j (h:j<kids.length),(S j).length+zN kids[j]<=1000000:=fun j h=>by
  rw[hS,xtw4]
  have h1:=kX (kids.take j) l.length fun f hf'=>hf f (xtw90 hf')
  have h2:=mW kids j h;omega
 rw[hSl,<- hS0];simp only[ntA,Nt.k,Nt.n,Nt.s,Nt.kids];refine iL jK jT 1 Tryz.func80 rfl ?_;intro _;conv=>whnf
 refine jA [0,7,8] ?_;conv=>whnf
 refine jE (fun j:Nat=>[(9,.v (.int .i64 j))]) (fun _=>[eH u,[intA k,intA n,jJ s,.sl 4 kids.length (jQ kids)]]) (fun j=>[.live 52 2 (S j).length (qF (S j))]) (fun j=>j<=kids.length) (fun j=>kids.length-j) 0 ?_ (xtw19 _) ?_
 ·repeat' constructor
 rintro j hj;conv=>whnf
 by_cases hlt:j<kids.length
 ·rw[xtw1 (show(j:Int)<(kids.length:Int) by omega)];have hrow:=jR kids j hlt;have hSn:=hSn j hlt;have hSz:=hSz j hlt;have hg:=hf _ (xtw10 hlt);generalize kids[j]=g at *;have hx:=hg.2 (S j) hSz;generalize hcd:jI (jZ u) g (S j).length=y at *;conv=>whnf
  refine⟨by omega,?_⟩;conv=>whnf
  (generalize hrq:jC _ _ (jQ kids)=rq;obtain rfl:rq=ntA g:=hrq.symm.trans (hrow);clear hrq;conv=>whnf)
  refine xB 0 0 1 [] hx ?_;rintro o n' cs' r ⟨s4,rfl,rfl,ho,hs4,rfl⟩;cases ho;conv=>whnf
  refine⟨jG (by omega),?_⟩;conv=>whnf
  refine⟨j+1,jD [1] ?_,hlt,by omega⟩;conv=>whnf
  rw[hs4,show S (j+1)=_ from hSn];repeat' constructor
 ·rw[xtw0 (show ¬(j:Int)<(kids.length:Int) by omega)];conv=>whnf
  obtain rfl:j=kids.length:=by omega
  refine⟨0,?_⟩;conv=>whnf
  exact⟨_,rfl,rfl,rfl,rfl,rfl⟩
theorem jm8(s:ByteArray)(h:(builtL.any fun x=>decide (s=x))=true):Spec Tryz.prog 122 [] [jJ s] fun _ r=>r=intA (biF s):=by
 have h:s∈builtL:=by
  rw[xtw34] at h;obtain⟨x,h1,h2⟩:=h;rw[xtw17] at h2;rw[h2];exact h1
 unfold builtL at h;simp only[xtw13,xtw42,xtw81] at h;rcases h with rfl|rfl|rfl|rfl|rfl|rfl|rfl|rfl|rfl
 all_goals
  refine eN jK jT 0 Tryz.func122 rfl ?_;intro _;conv=>whnf
  rfl
def jqC(ix:ByteArray->Int)(k n:Int)(s:ByteArray):Ic :=
 if k=12∨k=13 then(1,n) else if k=14 then(2,ix s) else if k=15 then(4,biF s) else if k=1 then(3,ix s)
 else if k=4 then(17,n) else if k=5 then(18,n) else if k=6 then(19,n) else if k=16 then(5,0) else if k=7 then(20,0)
 else if k=10 then(23,0) else if k=8 then(21,0) else(22,0)
def dR(id:Nat):Tr:=match Nat.beq id 8 with|true=>.q 0 3 (.q 1 3 (.q 2 3 (.q 3 3 (.q 5 3 (.q 6 0 (.alt 4 1 (.alt 7 1 (.alt 8 2 (.nil) (.nil)) (.nil)) (.nil)))))))|false=>match Nat.beq id 12 with|true=>.q 0 3 (.q 1 3 (.q 2 3 (.q 3 3 (.q 5 3 (.q 6 0 (.alt 4 1 (.alt 7 1 (.alt 8 2 (.nil) (.nil)) (.nil)) (.nil)))))))|false=>.nil
theorem jl1(u:Ut)(hu:WfU u)(k n:Int)(s:ByteArray)(kids:List Nt)(hm:kids.length<=3002)(hf:∀f∈kids,zY u f)(hc:k=12∨k=13∨k=14∨k=15/\(builtL.any fun x=>decide (s=x))=true∨k=1∨k=4∨k=5∨k=6∨k=16∨k=7∨k=10∨k=8∨k=9)(l:List Ic)(hl:l.length+qX kids+1<=1000000):nR 81 [eH u] l [.box 0 0,.agg (ntA (.mk k n s kids))] fun o l' r=>o=[eH u]/\l'=l++zX (jH (jZ u) kids) l.length++[jqC (jZ u) k n s]/\r=.tup []:=by
 have hk:=mB u k n s kids hm hf l (by omega);simp only[ntA,Nt.k,Nt.n,Nt.s,Nt.kids] at hk;have hz:=kX (u:=u) kids l.length hf
 have hem:=fun(l:List Ic) (op n:Int) (h:l.length<=1000000)=>gF u l op n h
 have hix:=jsL u hu s;generalize zX (jH (jZ u) kids) l.length=y at *
 have hly:(l++y).length<=999999:=by rw[xtw4];omega
 generalize l++y=l3 at *;rcases hc with rfl|rfl|rfl|⟨rfl,hb⟩|rfl|rfl|rfl|rfl|rfl|rfl|rfl|rfl|rfl
 ·simp only[ntA,Nt.k,Nt.n,Nt.s,Nt.kids];refine iL dR (fun _=>[0]) 1 Tryz.func81 rfl ?_;intro _;conv=>whnf
  refine xB 0 0 1 [] hk ?_;rintro o n' cs' r ⟨l2,rfl,rfl,ho,hl2,rfl⟩;cases ho;conv=>whnf
  subst hl2;refine xB 0 1 2 [] (hem l2 1 n (by omega)) ?_;rintro o n' cs' r ⟨l4,rfl,rfl,ho,hl4,rfl⟩;cases ho;conv=>whnf
  refine⟨2,?_⟩;conv=>whnf
  exact⟨l4,rfl,rfl,rfl,by rw[hl4];rfl,rfl⟩
 ·simp only[ntA,Nt.k,Nt.n,Nt.s,Nt.kids];refine iL dR (fun _=>[0]) 1 Tryz.func81 rfl ?_;intro _;conv=>whnf
  refine xB 0 0 1 [] hk ?_;rintro o n' cs' r ⟨l2,rfl,rfl,ho,hl2,rfl⟩;cases ho;conv=>whnf
  subst hl2;refine xB 0 1 2 [] (hem l2 1 n (by omega)) ?_;rintro o n' cs' r ⟨l4,rfl,rfl,ho,hl4,rfl⟩;cases ho;conv=>whnf
  refine⟨2,?_⟩;conv=>whnf
  exact⟨l4,rfl,rfl,rfl,by rw[hl4];rfl,rfl⟩
 ·simp only[ntA,Nt.k,Nt.n,Nt.s,Nt.kids];refine iL dR (fun _=>[0]) 1 Tryz.func81 rfl ?_;intro _;conv=>whnf
  refine xB 0 0 1 [] hk ?_;rintro o n' cs' r ⟨l2,rfl,rfl,ho,hl2,rfl⟩;cases ho;conv=>whnf
  subst hl2
  (refine jY [] hix ?_;rintro r rfl;conv=>whnf)
  refine xB 0 1 2 [] (hem l2 2 (jZ u s) (by omega)) ?_;rintro o n' cs' r ⟨l4,rfl,rfl,ho,hl4,rfl⟩;cases ho;conv=>whnf
  refine⟨2,?_⟩;conv=>whnf
  exact⟨l4,rfl,rfl,rfl,by rw[hl4];rfl,rfl⟩
 ·have hbi:=jm8 s hb;simp only[ntA,Nt.k,Nt.n,Nt.s,Nt.kids];refine iL dR (fun _=>[0]) 1 Tryz.func81 rfl ?_;intro _;conv=>whnf
  refine xB 0 0 1 [] hk ?_;rintro o n' cs' r ⟨l2,rfl,rfl,ho,hl2,rfl⟩;cases ho;conv=>whnf
  subst hl2
  (refine jY [] hbi ?_;rintro r rfl;conv=>whnf)
  refine xB 0 1 2 [] (hem l2 4 (biF s) (by omega)) ?_;rintro o n' cs' r ⟨l4,rfl,rfl,ho,hl4,rfl⟩;cases ho;conv=>whnf
  refine⟨2,?_⟩;conv=>whnf
  exact⟨l4,rfl,rfl,rfl,by rw[hl4];rfl,rfl⟩
 ·simp only[ntA,Nt.k,Nt.n,Nt.s,Nt.kids];refine iL dR (fun _=>[0]) 1 Tryz.func81 rfl ?_;intro _;conv=>whnf
  refine xB 0 0 1 [] hk ?_;rintro o n' cs' r ⟨l2,rfl,rfl,ho,hl2,rfl⟩;cases ho;conv=>whnf
  subst hl2
  (refine jY [] hix ?_;rintro r rfl;conv=>whnf)
  refine xB 0 1 2 [] (hem l2 3 (jZ u s) (by omega)) ?_;rintro o n' cs' r ⟨l4,rfl,rfl,ho,hl4,rfl⟩;cases ho;conv=>whnf
  refine⟨2,?_⟩;conv=>whnf
  exact⟨l4,rfl,rfl,rfl,by rw[hl4];rfl,rfl⟩
 ·simp only[ntA,Nt.k,Nt.n,Nt.s,Nt.kids];refine iL dR (fun _=>[0]) 1 Tryz.func81 rfl ?_;intro _;conv=>whnf
  refine xB 0 0 1 [] hk ?_;rintro o n' cs' r ⟨l2,rfl,rfl,ho,hl2,rfl⟩;cases ho;conv=>whnf
  subst hl2;refine xB 0 1 2 [] (hem l2 17 n (by omega)) ?_;rintro o n' cs' r ⟨l4,rfl,rfl,ho,hl4,rfl⟩;cases ho;conv=>whnf
  refine⟨2,?_⟩;conv=>whnf
  exact⟨l4,rfl,rfl,rfl,by rw[hl4];rfl,rfl⟩
 ·simp only[ntA,Nt.k,Nt.n,Nt.s,Nt.kids];refine iL dR (fun _=>[0]) 1 Tryz.func81 rfl ?_;intro _;conv=>whnf
  refine xB 0 0 1 [] hk ?_;rintro o n' cs' r ⟨l2,rfl,rfl,ho,hl2,rfl⟩;cases ho;conv=>whnf
  subst hl2;refine xB 0 1 2 [] (hem l2 18 n (by omega)) ?_;rintro o n' cs' r ⟨l4,rfl,rfl,ho,hl4,rfl⟩;cases ho;conv=>whnf
  refine⟨2,?_⟩;conv=>whnf
  exact⟨l4,rfl,rfl,rfl,by rw[hl4];rfl,rfl⟩
 ·simp only[ntA,Nt.k,Nt.n,Nt.s,Nt.kids];refine iL dR (fun _=>[0]) 1 Tryz.func81 rfl ?_;intro _;conv=>whnf
  refine xB 0 0 1 [] hk ?_;rintro o n' cs' r ⟨l2,rfl,rfl,ho,hl2,rfl⟩;cases ho;conv=>whnf
  subst hl2;refine xB 0 1 2 [] (hem l2 19 n (by omega)) ?_;rintro o n' cs' r ⟨l4,rfl,rfl,ho,hl4,rfl⟩;cases ho;conv=>whnf
  refine⟨2,?_⟩;conv=>whnf
  exact⟨l4,rfl,rfl,rfl,by rw[hl4];rfl,rfl⟩
 ·simp only[ntA,Nt.k,Nt.n,Nt.s,Nt.kids];refine iL dR (fun _=>[0]) 1 Tryz.func81 rfl ?_;intro _;conv=>whnf
  refine xB 0 0 1 [] hk ?_;rintro o n' cs' r ⟨l2,rfl,rfl,ho,hl2,rfl⟩;cases ho;conv=>whnf
  subst hl2;refine xB 0 1 3 [] (hem l2 5 0 (by omega)) ?_;rintro o n' cs' r ⟨l4,rfl,rfl,ho,hl4,rfl⟩;cases ho;conv=>whnf
  refine⟨3,?_⟩;conv=>whnf
  exact⟨l4,rfl,rfl,rfl,by rw[hl4];rfl,rfl⟩
 ·simp only[ntA,Nt.k,Nt.n,Nt.s,Nt.kids];refine iL dR (fun _=>[0]) 1 Tryz.func81 rfl ?_;intro _;conv=>whnf
  refine xB 0 0 1 [] hk ?_;rintro o n' cs' r ⟨l2,rfl,rfl,ho,hl2,rfl⟩;cases ho;conv=>whnf
  subst hl2;refine xB 0 1 3 [] (hem l2 20 0 (by omega)) ?_;rintro o n' cs' r ⟨l4,rfl,rfl,ho,hl4,rfl⟩;cases ho;conv=>whnf
  refine⟨3,?_⟩;conv=>whnf
  exact⟨l4,rfl,rfl,rfl,by rw[hl4];rfl,rfl⟩
 ·simp only[ntA,Nt.k,Nt.n,Nt.s,Nt.kids];refine iL dR (fun _=>[0]) 1 Tryz.func81 rfl ?_;intro _;conv=>whnf
  refine xB 0 0 1 [] hk ?_;rintro o n' cs' r ⟨l2,rfl,rfl,ho,hl2,rfl⟩;cases ho;conv=>whnf
  subst hl2;refine xB 0 1 3 [] (hem l2 23 0 (by omega)) ?_;rintro o n' cs' r ⟨l4,rfl,rfl,ho,hl4,rfl⟩;cases ho;conv=>whnf
  refine⟨3,?_⟩;conv=>whnf
  exact⟨l4,rfl,rfl,rfl,by rw[hl4];rfl,rfl⟩
 ·simp only[ntA,Nt.k,Nt.n,Nt.s,Nt.kids];refine iL dR (fun _=>[0]) 1 Tryz.func81 rfl ?_;intro _;conv=>whnf
  refine xB 0 0 1 [] hk ?_;rintro o n' cs' r ⟨l2,rfl,rfl,ho,hl2,rfl⟩;cases ho;conv=>whnf
  subst hl2;refine xB 0 1 3 [] (hem l2 21 0 (by omega)) ?_;rintro o n' cs' r ⟨l4,rfl,rfl,ho,hl4,rfl⟩;cases ho;conv=>whnf
  refine⟨3,?_⟩;conv=>whnf
  exact⟨l4,rfl,rfl,rfl,by rw[hl4];rfl,rfl⟩
 ·simp only[ntA,Nt.k,Nt.n,Nt.s,Nt.kids];refine iL dR (fun _=>[0]) 1 Tryz.func81 rfl ?_;intro _;conv=>whnf
  refine xB 0 0 1 [] hk ?_;rintro o n' cs' r ⟨l2,rfl,rfl,ho,hl2,rfl⟩;cases ho;conv=>whnf
  subst hl2;refine xB 0 1 3 [] (hem l2 22 0 (by omega)) ?_;rintro o n' cs' r ⟨l4,rfl,rfl,ho,hl4,rfl⟩;cases ho;conv=>whnf
  refine⟨3,?_⟩;conv=>whnf
  exact⟨l4,rfl,rfl,rfl,by rw[hl4];rfl,rfl⟩
end Go.Proofs.YtfbifdccmabdbaaGreatDoor.Vm
namespace Go.Proofs.YtfbifdccmabdbaaGreatDoor.Vm
open Go.RowKit
section
structure jhN(P:Program)(f:Nat)(ins:List (List A))(e k n:Nat)(cs args:List A)(post:List (List A)->Nat->List A->A->Prop):Prop where
 r:pZ P f ins e k n cs args post
 d:∀u,jei (ClD P f u u) ins e k n cs args post fun _=>False
section
variable{c:Cx}{s:S}
theorem je2{f:Nat}{fn:Func}{x:Code}{ins:List (List A)}{e k n:Nat}{cs args:List A}{post:List (List A)->Nat->List A->A->Prop}(hc:c.ok)(hq:∀ch s,¬c.pan ch s)(hf:c.P.funcs[f]?=some fn)(hb:fn.body=some x)(hname:(fn.name == "runtime.NumGoroutine")=false)
  (hn:ins.length=c.np) (hord:kI c.ord x=true) (h:nK args->yT args (fn.ntmps-args.length) fun t=>sQ c x ⟨t,ins,[.live e k n cs]⟩ (jp0 c e k fn.results.toList post)):jhN c.P f ins e k n cs args post:=by
 refine⟨sJ hc (fun ch s h=>hq ch s h) hf hb hname hn hord h,fun u w C β vals y xs h0 h1 h2 h3 h4 h5 h6 h7 h8 h9=>?_⟩;unfold ClD
 refine CallsD.mono (callsD_of_wp hf hb (R:=fun e' w'=>(∃(outs:List (List A)) (n':Nat) (cs':List A) (r:A) (v y':Value) (xs':List Value) (C':Rd),e'=.returned v/\post outs n' cs' r/\Keeps (β++(blk y).toList) w w'/\Sub C C'/\Sub C' (kR w')/\(∀ad u,C' ad=some u->C ad=some u∨w.heap.size<=ad.block∨blk y=some ad.block)/\outs.length=β.length ∧
   (∀(i b:Nat) (cs:List A),β[i]?=some b->outs[i]?=some cs->boxAt w' ⟨C',β,[y']⟩ b cs)/\owR w' e k y' n' xs'/\A.repC cs' ⟨C',[],[]⟩ xs'/\(∀b,blk y'=some b->(∀o sp,C' ⟨b,o,sp⟩=none)/\(w.heap.size<=b∨blk y=some b))/\r.rep ⟨C',β,[y']⟩ v) ∨
   ∃(ch:List PanicEntry) (ns:List Nat),e'=.panicked ch/\False/\Keeps (β++(blk y).toList) w w'/\ns.length=β.length/\∀(i b n:Nat),β[i]?=some b->ns[i]?=some n->boxAt w' ⟨C,β,[]⟩ b (List.replicate n .dead)) ?_) fun e m w' hh=>hh
 have hinit:=initK_iff.1 (h (wD _ h9));have hinit:=kK hc hord hinit;have hinv:=o8 (nt:=fn.ntmps) h0 h1 h2 h3 h4 h5 h6 h7 h8 h9;unfold Ok OkD at hinit;refine hinit ⟨w,(blk y).toList⟩ C β _ w _ (by rw[<- h4,hn]) hinv (fun ch s' a' w' hpan hi=>absurd hpan (hq ch s')) ?_
 have fin:∀(s':S) (a':Act) (w':World),(∃g,jgZ c e k g fn.results.toList post s')->Inv [] ⟨w,(blk y).toList⟩ C β s' a' w'->_:=fun s' a' w' ⟨g,hr⟩ hi=>jeG (w:=w) (C:=C) (β:=β) (s':=s') (a':=a') (w':=w') (fn:=fn) (post:=post) (y:=y) hc (by rw[<- h4,hn]) hr hi
 intro e1 s' a' w' hq hi
 cases e1 with
 |normal=>obtain⟨k1,v,k2,k3⟩:=fin s' a' w' hq hi;exact⟨k1,v,k2,.inl k3⟩
 |ret=>obtain⟨k1,v,k2,k3⟩:=fin s' a' w' hq hi;exact⟨k1,v,k2,.inl k3⟩
 |_=>exact hq.elim
@[irreducible] def joH(P:Program)(f:Nat)(args:List A)(s:S)(K:S->Prop):Prop :=
 (∀vs w,(callFunc f vs).run P w=.ok (.enter f vs) w) ∧
 ∃(X ids:List Nat) (g e k n:Nat) (cs:List A) (ins:List (List A)) (args':List A) (post:List (List A)->Nat->List A->A->Prop),X.Nodup/\(∀i∈X,i<s.bx.length)/\(jB s.rw ids)[g]?=some (.live e k n cs) ∧
  bG X g (jB s.rw ids) (X.map fun i=>s.bx.getD i [])=some ins/\kC X g (jB s.rw ids) args=some args'/\(nK args'->jei (ClD P f .returning .returning) ins e k n cs args' post fun _=>False) ∧
  ∀outs n' cs' r,post outs n' cs' r->outs.length=X.length->fZ X s.rw.length s.bx X outs fun bx'=>zT (backG X s.rw.length r) fun r'=>j9 ((jB s.rw ids).set g .gone++[.live e k n' cs']) fun rw'=>kS s bx' rw' K
def iX(c:Cx)(e k:Nat)(rv:List ResultVar)(post:List (List A)->Nat->List A->A->Prop):List (Nat×List A)->S->Prop
 |[],s=>∃g,jgZ c e k g rv post s
 |(f,args)::r,s=>joH c.P f args s fun s'=>iX c e k rv post r s'
theorem jbj{w0:W0}{C0:Rd}{β0:List Nat}{e k:Nat}{fn:Func}{post:List (List A)->Nat->List A->A->Prop}{R:Ending->World->Prop}{tmps:Array Value}(hfin:∀s' w',(∃g,jgZ c e k g fn.results.toList post s')->Inv [] w0 C0 β0 s' { tmps:=tmps,defers:=[] } w'->∃v,(results fn tmps).run c.P w'=.ok v w'/\R (.returned v) w') :
  ∀(dr:List (Nat×List A)) (ds:List Deferred) (s:S) (E:Env) (w:World),repD dr E ds->Hp w0 C0 β0 s.bx s.rw w E->A.repL s.t E tmps.toList->iX c e k fn.results.toList post dr s->Leaves c.P fn tmps R ds .returning w
 |[],ds,s,E,w,hd,hp,ht,h=>by
  obtain rfl:ds=[]:=hd;exact hfin s w h ⟨E,hp,ht,rfl⟩
 |(f,args)::r,ds,s,E,w,⟨d,ds',cap,hds,htg,hargs,hrest⟩,hp,ht,h=>by
  subst hds;unfold iX joH at h;obtain⟨hcall,X,ids,g,e0,k0,n0,cs0,ins,args',post',hn,hX,hg,hins,hargs',hspec,hk⟩:=h;obtain⟨-,hcx⟩:=jfF (pan:=fun _ _=>False) (Xr:=fun _=>true) (K:=fun _ s'=>iX c e k fn.results.toList post r s') (Cl:=ClD c.P f .returning .returning) ClD.mono hp hargs rfl hn (fun _ _=>rfl) hX hg hins hargs' hspec (fun outs n' cs' r hp hl=>hk outs n' cs' r hp hl) (fun ch bx' h _ _=>h.elim);obtain⟨t,da⟩:=d
  simp only at htg hargs hcx
  subst htg;refine leaves_cons (f:=f) (args:=da++cap) (by simp) (by simp[invoke,hcall]) ?_
  have hcx':CallsD c.P f (da++cap) .returning w fun e' m w'=>m=.returning/\((∃y,e'=.returned y/\Left w0 C0 β0 (fun _=>true) s E w (fun _ s'=>iX c e k fn.results.toList post r s') y w')∨∃(ch:List PanicEntry) (s':S) (E':Env),e'=.panicked ch/\False/\s'.t=s.t/\E.le E'/\Hp w0 C0 β0 s'.bx s'.rw w' E'):=hcx
  refine CallsD.mono hcx' ?_;rintro e' m w' ⟨rfl,⟨y,rfl,⟨⟨r0,s',E',h1,h2,h3,h4,h5,_⟩⟩⟩|⟨ch,s',E',_,h,_⟩⟩
  ·exact jbj hfin r ds' s' E' w' (hrest.mono h3) h4 (by rw[h2];exact A.repL.mono _ h3 ht) h1
  ·exact h.elim
theorem je3{f:Nat}{fn:Func}{x:Code}{ins:List (List A)}{e k n:Nat}{cs args:List A}{post:List (List A)->Nat->List A->A->Prop}(hc:c.ok)(hf:c.P.funcs[f]?=some fn)(hb:fn.body=some x)(hname:(fn.name == "runtime.NumGoroutine")=false)
  (hn:ins.length=c.np) (h:nK args->yT args (fn.ntmps-args.length) fun t=>OkT c.P c.np (fun _ _ _=>False) (fun dr ex s=>(ex=.normal∨ex=.ret)/\iX c e k fn.results.toList post dr s) [] x ⟨t,ins,[.live e k n cs]⟩):pZ c.P f ins e k n cs args post:=by
 refine⟨aS hf hb hname,fun w C β vals y xs h0 h1 h2 h3 h4 h5 h6 h7 h8 h9=>?_⟩;refine calls_of_wp_defers hf hb ?_;have hinit:=initK_iff.1 (h (wD _ h9));have hinv:=o8 (nt:=fn.ntmps) h0 h1 h2 h3 h4 h5 h6 h7 h8 h9;unfold OkT at hinit;refine hinit ⟨w,(blk y).toList⟩ C β _ w _ (by rw[<- h4,hn]) hinv (fun dr ch s' a' w' hl _=>hl.elim) (fun dr ex s' a' w' hl ⟨E,hp,ht,hd⟩=>?_)
 have key:=jbj (c:=c) (e:=e) (k:=k) (fn:=fn) (post:=post) (tmps:=a'.tmps) (R:=fun e' w'=>(∃(outs:List (List A)) (n':Nat) (cs':List A) (r:A) (v y':Value) (xs':List Value) (C':Rd),e'=.returned v/\post outs n' cs' r/\Keeps (β++(blk y).toList) w w'/\Sub C C'/\Sub C' (kR w')/\(∀ad u,C' ad=some u->C ad=some u∨w.heap.size<=ad.block∨blk y=some ad.block)/\outs.length=β.length ∧
   (∀(i b:Nat) (cs:List A),β[i]?=some b->outs[i]?=some cs->boxAt w' ⟨C',β,[y']⟩ b cs)/\owR w' e k y' n' xs'/\A.repC cs' ⟨C',[],[]⟩ xs'/\(∀b,blk y'=some b->(∀o sp,C' ⟨b,o,sp⟩=none)/\(w.heap.size<=b∨blk y=some b))/\r.rep ⟨C',β,[y']⟩ v) ∨
   ∃(ch:List PanicEntry) (ns:List Nat),e'=.panicked ch/\False/\Keeps (β++(blk y).toList) w w'/\ns.length=β.length/\∀(i b n:Nat),β[i]?=some b->ns[i]?=some n->boxAt w' ⟨C,β,[]⟩ b (List.replicate n .dead))
  (fun s2 w2 ⟨g,hr⟩ hi=>by
   obtain⟨-,v,q1,q2⟩:=jeG (w:=w) (C:=C) (β:=β) (fn:=fn) (post:=post) (y:=y) hc (by rw[<- h4,hn]) hr hi
   exact⟨v,q1,.inl q2⟩) dr a'.defers s' E w' hd hp ht hl.2
 rcases hl.1 with rfl|rfl
 ·exact key
 ·exact key
end
section
variable{c:Cx}{P:Program}{np:Nat}{pt:List (Nat×List A)->List PanicEntry->S->Prop}{qt:List (Nat×List A)->Exit->S->Prop}{dr:List (Nat×List A)}{s:S}
theorem jk7{x y:Code}(h:OkT P np pt (fun dr' e s'=>tQ P np pt qt dr' y e s') dr x s):OkT P np pt qt dr (.seq x y) s:=by
 unfold OkT at h ⊢;intro w0 C0 β0 a w Q hn hi hx hk;refine wp_seq (h w0 C0 β0 a w _ hn hi (fun dr' ch s' a' w' h1 h2=>hx dr' ch s' a' w' h1 h2) fun dr' e s' a' w' h1 h2=>?_)
 cases e with
 |normal =>
  have h1:OkT P np pt qt dr' y s':=h1;unfold OkT at h1;exact h1 w0 C0 β0 a' w' Q hn h2 hx hk
 |_=>exact hk dr' _ _ _ _ h1 h2
def jqv(s:S)(ids:List Nat)(fo:Operand)(xs:List Operand)(K:Nat->List A->S->Prop):Prop :=
 match s with
 |⟨t,bx,rw⟩=>j9 (jB rw ids) fun rw'=>n8 (fR rw') t fun t'=>jc1 rw' bx fun bx'=>match ev ⟨t',bx',rw'⟩ fo with
  |.clo f caps=>n8 (ev ⟨t',bx',rw'⟩) xs fun l=>K f (l++caps) ⟨t',bx',rw'⟩
  |_=>False
theorem pC{id:Nat}{l:List Oper}{od:Oper}{fo:Operand}{xs:Array Operand}{ts:Array TypeId}(ids:List Nat)(hc:c.ok)(hdr:∃n,yP n dr=true)(hp:∀ch s',c.pan ch s'->pt dr ch s')(hop:od.op=.defer ⟨.value fo,xs,ts⟩)(hg:od.guard=none)(hd:od.dst=none)
  (h:oT c (l++[od]) l s fun s'=>jqv s' ids fo xs.toList fun f args s''=>qt ((f,args)::dr) .normal s''):OkT c.P c.np pt qt dr (.region id (l++[od]).toArray false) s:=by
 unfold OkT;intro w0 C0 β0 a w Q hn hi hx hk;refine wp_region_lit (jaj (l2:=[od]) (Q:=Q) hc hdr (fun ch s' a' w' h1 h2=>hx dr ch s' a' w' (hp ch s' h1) h2) hi h fun s' a' w' h1 h2=>?_)
 refine wpList_step fun Kc hKc=>?_
 rw[xtw3 (by simp[Region.wanted,hg])];obtain⟨t,bx,rw'⟩:=s';unfold jqv at h1
 simp only at h1
 rw[qP,qN,mV] at h1;have hle:Le (β0.length) ⟨t,bx,rw'⟩ _:=(jio (np:=β0.length) (s:=⟨t,bx,rw'⟩) ids).trans jip
 -- publishing keeps what is deferred
 obtain⟨E,hpp,ht,hdd⟩:=h2;obtain⟨C',hp1,le1⟩:=hpp.pubs ids;have ht1:=lP (E:=⟨C',E.β,E.ρ⟩) hp1 (A.repL.mono _ le1 ht);have hd1:=hdd.mono le1
 have hp2:Hp w0 C0 β0 (bx.map fun c=>c.map (fR (jB rw' ids))) (jB rw' ids) w' ⟨C',E.β,E.ρ⟩:=by
  refine⟨hp1.sub,hp1.base,hp1.fresh,hp1.bp,hp1.bnd,hp1.bC,by simpa using hp1.bl,fun i b cs h1 h2=>?_,hp1.rl,hp1.rws,hp1.rC,hp1.rd,hp1.rs,hp1.keep,hp1.gk⟩;rw[xtw48,xtw49] at h2;obtain⟨c0,h2,rfl⟩:=h2;obtain⟨T',arr,h3,h4⟩:=hp1.bxs i b c0 h1 h2
  exact⟨T',arr,h3,h4.map (fR (jB rw' ids)) (fun l us k=>lP (E:=⟨C',E.β,E.ρ⟩) hp1 k) rfl (fun t=>rfl) fun a t e=>by
   unfold fR at e;split at e
   ·split at e <;> cases e
   ·exact e⟩
 split at h1
 ·rename_i f caps hev;rw[qN] at h1;have hf:=jS (s:=⟨t.map (fR (jB rw' ids)),bx.map fun c=>c.map (fR (jB rw' ids)),jB rw' ids⟩) ht1 fo;rw[hev] at hf;unfold A.rep at hf;obtain⟨us,hf,hcaps⟩:=hf
  have hrun:(execOp a'.eval od).run c.P w'=.ok (.defer { target:=.fn (.func f) us,args:=xs.map a'.eval }) w':=by simp[execOp,hop,resolve,Deferred.ofValue,hf,Result.andThen]
  unfold Oper.wp;rw[hrun,Oper.upon_defer];rw[hd];refine hKc _ _ (hk _ _ _ _ _ h1 ⟨⟨C',E.β,E.ρ⟩,hp2,ht1,{ target:=.fn (.func f) us,args:=xs.map a'.eval },a'.defers,us,rfl,rfl,?_,hd1⟩);have:=A.repL_append (gW (s:=⟨t.map (fR (jB rw' ids)),bx.map fun c=>c.map (fR (jB rw' ids)),jB rw' ids⟩) ht1 xs.toList) hcaps;simpa using this
 ·exact h1.elim
end
theorem jmp{P:Program}{f:Nat}{args args':List A}{s:S}{K:S->Prop}{post:List (List A)->Nat->List A->A->Prop}(i g m:Nat)(ids:List Nat)(hm:s.rw.length=m){e k n:Nat}{cs c0 c1:List A}(hi:s.bx[i]?=some c0)(hg:(jB s.rw ids)[g]?=some (.live e k n cs))(h1:kC [i] g (jB s.rw ids) c0=some c1)(h2:kC [i] g (jB s.rw ids) args=some args')(hs:jhN P f [c1] e k n cs args' post)
  (hk:∀o n' cs' r,post [o] n' cs' r->fZ [i] m s.bx [i] [o] fun bx'=>zT (backG [i] m r) fun r'=>j9 ((jB s.rw ids).set g .gone++[.live e k n' cs']) fun rw'=>kS s bx' rw' K):joH P f args s K:=by
 subst hm;unfold joH;have hil:=(xtw5.1 hi).1;refine⟨hs.r.1,[i],ids,g,e,k,n,cs,[c1],args',post,by simp,by simpa using hil,hg,?_,h2,fun _=>hs.d .returning,fun outs n' cs' r hp hl=>?_⟩
 ·have:s.bx.getD i []=c0:=by simp[xtw9,hi]
  simp only[xtw22,xtw104,this,bG,h1]
 ·obtain⟨o,rfl⟩:∃o,outs=[o]:=xtw77.1 (by simpa using hl);exact hk o n' cs' r hp
end
end Go.Proofs.YtfbifdccmabdbaaGreatDoor.Vm
namespace Go.Proofs.YtfbifdccmabdbaaGreatDoor.Vm
open Go.RowKit Go.Shelf
section
section
variable{P:Program}{pan:List PanicEntry->S->Prop}{Xr:Nat->Bool}{f:Nat}{args args':List A}{s:S}{K:A->S->Prop}{post:List (List A)->Nat->List A->A->Prop}
theorem jaE(X:List Nat)(g m:Nat)(ids:List Nat)(hm:s.rw.length=m){e k n:Nat}{cs:List A}{ins:List (List A)}(hf:Xr 1000000007=true)(hn:X.Nodup)(hX:∀i∈X,Xr i=true)(hi:∀i∈X,i<s.bx.length)(hg:(jB s.rw ids)[g]?=some (.live e k n cs))(h1:bG X g (jB s.rw ids) (X.map fun i=>s.bx.getD i [])=some ins)(h2:kC X g (jB s.rw ids) args=some args')(hs:nK args'->pZ P f ins e k n cs args' post)
  (hk:∀outs n' cs' r,post outs n' cs' r->outs.length=X.length->fZ X m s.bx X outs fun bx'=>zT (backG X m r) fun r'=>j9 ((jB s.rw ids).set g .gone++[.live e k n' cs']) fun rw'=>kS s bx' rw' (K r')):kL P pan Xr f args s K:=by
 subst hm;unfold kL
 right;right;right;right;left
 exact⟨hf,X,ids,g,e,k,n,cs,ins,args',post,_,hn,hX,hi,hg,h1,h2,hs,hk,fun ch bx' h _ _=>h.elim⟩
end
abbrev jhM(f:Nat)(ins:List (List A))(l:List Ic)(args:List A)(post:List (List A)->List Ic->A->Prop):Prop :=
 jhN Tryz.prog f ins 52 2 l.length (qF l) args fun o n cs r=>∃l',n=l'.length/\cs=qF l'/\post o l' r
theorem jtj(u:Ut)(l:List Ic)(op n:Int)(hl:l.length<=1000000):jhM 40 [eH u] l [.box 0 0,intA op,intA n] fun o l' r=>o=[eH u]/\l'=l++[(op,n)]/\r=intA l.length:=by
 refine je2 (qE jK jT 1) (fun _ _ h=>h) Tryz.func40 rfl (by kernel_rfl) rfl (by kernel_rfl) ?_;intro _;conv=>whnf
 refine⟨⟨by unfold maxLen;omega,by omega⟩,?_⟩;conv=>whnf
 refine⟨jG (by omega),?_⟩;conv=>whnf
 refine⟨0,?_⟩;conv=>whnf
 refine⟨l++[(op,n)],by rw[xtw4];rfl,?_,rfl,rfl,?_⟩
 ·rw[tD];rfl
 ·show intA (((l.length+1:Nat):Int)-1)=intA l.length
  congr 1;omega
theorem jto(u:Ut)(l:List Ic)(k:Nat)(hk:k<l.length)(hl:l.length<=1000000):jhM 121 [eH u] l [.box 0 0,intA k] fun o l' r=>o=[eH u]/\l'=l.set k (l[k].1,l.length)/\r=.tup []:=by
 refine je2 (qE jsf jT 1) (fun _ _ h=>h) Tryz.func121 rfl (by kernel_rfl) rfl (by kernel_rfl) ?_;intro _;conv=>whnf
 refine⟨⟨by omega,by omega⟩,?_⟩;conv=>whnf
 rw[show((k:Int)).toNat=k from rfl];refine fP (by rw[jmI];omega) ?_;conv=>whnf
 refine⟨0,?_⟩;conv=>whnf
 refine⟨l.set k (l[k].1,l.length),by rw[xtw111],?_,rfl,rfl,rfl⟩;exact jgc l k hk l.length
theorem jfR(u:Ut)(n:Int)(s:ByteArray)(kids:List Nt)(hm:kids.length<=3002)(hf:∀f∈kids,zY u f)(l:List Ic)(hl:l.length+qX kids+1<=1000000):nR 76 [eH u] l [.box 0 0,.agg (ntA (.mk 17 n s kids))] fun o l' r=>o=[eH u]/\l'=l++zX (jH (jZ u) kids) l.length++(if s=qB then [(10,0)] else [(14,0)])/\r=.tup []:=by
 have hk:=mB u 17 n s kids hm hf l (by omega);simp only[ntA,Nt.k,Nt.n,Nt.s,Nt.kids] at hk;have hz:=kX (u:=u) kids l.length hf
 have hem:=fun(l:List Ic) (op n:Int) (h:l.length<=1000000)=>gF u l op n h
 generalize zX (jH (jZ u) kids) l.length=y at *
 have hly:(l++y).length<=999999:=by rw[xtw4];omega
 generalize l++y=l3 at *;simp only[ntA,Nt.k,Nt.n,Nt.s,Nt.kids];refine iL jK jT 1 Tryz.func76 rfl ?_;intro _;conv=>whnf
 refine xB 0 0 1 [] hk ?_;rintro o n' cs' r ⟨l2,rfl,rfl,ho,hl2,rfl⟩;cases ho;subst hl2;conv=>whnf
 by_cases hs:s=qB
 ·rw[xtw3 hs];refine j7 (b:=decide (s=⟨#[45]⟩)) (xtw1 hs) ?_;conv=>whnf
  refine xB 0 1 2 [] (hem l2 10 0 (by omega)) ?_;rintro o n' cs' r ⟨l4,rfl,rfl,ho,hl4,rfl⟩;cases ho;conv=>whnf
  refine⟨2,?_⟩;conv=>whnf
  exact⟨l4,rfl,rfl,rfl,hl4,rfl⟩
 ·rw[xtw2 hs];refine jW (b:=decide (s=⟨#[45]⟩)) (xtw0 hs) ?_;conv=>whnf
  refine xB 0 1 2 [] (hem l2 14 0 (by omega)) ?_;rintro o n' cs' r ⟨l4,rfl,rfl,ho,hl4,rfl⟩;cases ho;conv=>whnf
  refine⟨2,?_⟩;conv=>whnf
  exact⟨l4,rfl,rfl,rfl,hl4,rfl⟩
theorem jko{α:Type}:∀(a:List α) (x v:α) (b:List α),(a++x::b).set a.length v=a++v::b
 |[],x,v,b=>rfl
 |y::a,x,v,b=>by
  show y::(a++x::b).set a.length v=_;rw[jko a x v b];rfl
theorem jmH(u:Ut)(a b:List Ic)(op x:Int)(hl:(a++(op,x)::b).length<=1000000):jhM 121 [eH u] (a++(op,x)::b) [.box 0 0,intA a.length] fun o l' r=>o=[eH u]/\l'=a++(op,((a++(op,x)::b).length:Int))::b/\r=.tup []:=by
 have hk:a.length<(a++(op,x)::b).length:=by rw[xtw4,xtw6];omega
 have h:=jto u (a++(op,x)::b) a.length hk hl
 have e:(a++(op,x)::b)[a.length]=(op,x):=by simp
 rw[e,jko] at h;exact h
def joG(u:Ut)(nd:Nt)(f:Nat)(caps:List A)(g:Int->List Ic)(z:Nat):Prop:=(∀at':Int,(g at').length<=z)/\∀l:List Ic,l.length+z<=1000000->nR f [eH u,[.box 0 0],ntA nd] l caps fun o l' r=>o=[eH u,[.box 0 0],ntA nd]/\l'=l++g l.length/\r=.tup []
theorem choose_spec(u:Ut)(nd:Nt)(f:Nt)(hf:zY u f)(fy fn zy zn:Nat)(cy cn:List A)(gy gn:Int->List Ic)(hcy:cy=[.box 1 0,.box 2 0]∨cy=[.box 1 0])(hcn:cn=[.box 1 0,.box 2 0]∨cn=[.box 1 0])(hy:joG u nd fy cy gy zy)(hn:joG u nd fn cn gn zn)(l:List Ic)(hl:l.length+zN f+zy+zn+2<=1000000):nR 116 [eH u,[.box 0 0],ntA nd] l [.box 0 0,.agg (ntA f),.clo fy cy,.clo fn cn] fun o l' r=>o=[eH u,[.box 0 0],ntA nd]/\l'=l++rG (jI (jZ u) f) gy gn l.length/\r=.tup []:=by
 have hz1:=hf.1 l.length;have hN:=hf.2 l (by omega)
 have hem:=fun(l:List Ic) (op n:Int) (h:l.length<=1000000)=>gF u l op n h
 generalize hC:jI (jZ u) f l.length=C at *;have e1:(l++C).length=l.length+C.length:=xtw4;have h1:=hem (l++C) 16 0 (by omega)
 have e2:(l++C++[(16,0)]).length=l.length+C.length+1:=by rw[xtw4,e1];rfl
 have hz2:=hy.1 ((l++C++[((16:Int),(0:Int))]).length:Nat);have h2:=hy.2 (l++C++[(16,0)]) (by omega);generalize hY:gy ((l++C++[((16:Int),(0:Int))]).length:Nat)=Y at *
 have e3:(l++C++[(16,0)]++Y).length=l.length+C.length+1+Y.length:=by rw[xtw4,e2]
 have h3:=hem (l++C++[(16,0)]++Y) 15 0 (by omega)
 have e4:l++C++[(16,0)]++Y++[(15,0)]=(l++C)++((16:Int),(0:Int))::(Y++[(15,0)]):=by simp
 have e5:((l++C)++((16:Int),(0:Int))::(Y++[((15:Int),(0:Int))])).length=l.length+C.length+1+Y.length+1:=by rw[<- e4,xtw4,e3];rfl
 have h4:=jmH u (l++C) (Y++[(15,0)]) 16 0 (by omega);rw[e5] at h4
 have e6:((l++C)++((16:Int),((l.length+C.length+1+Y.length+1:Nat):Int))::(Y++[((15:Int),(0:Int))])).length=l.length+C.length+1+Y.length+1:=by
  rw[xtw4,xtw6,e1,xtw4];simp;omega
 have hz3:=hn.1 ((l.length+C.length+1+Y.length+1:Nat):Int);have h5:=hn.2 ((l++C)++((16:Int),((l.length+C.length+1+Y.length+1:Nat):Int))::(Y++[((15:Int),(0:Int))])) (by omega);rw[e6] at h5;generalize hN2:gn ((l.length+C.length+1+Y.length+1:Nat):Int)=N at *
 have e7:(l++C)++((16:Int),((l.length+C.length+1+Y.length+1:Nat):Int))::(Y++[((15:Int),(0:Int))])++N=((l++C)++((16:Int),((l.length+C.length+1+Y.length+1:Nat):Int))::Y)++(15,0)::N:=by simp
 have e8:((l++C)++((16:Int),((l.length+C.length+1+Y.length+1:Nat):Int))::Y).length=l.length+C.length+1+Y.length:=by
  rw[xtw4,xtw6,e1];omega
 have e9:(((l++C)++((16:Int),((l.length+C.length+1+Y.length+1:Nat):Int))::Y)++((15:Int),(0:Int))::N).length=l.length+C.length+1+Y.length+1+N.length:=by
  rw[xtw4,xtw6,e8];omega
 have h6:=jmH u ((l++C)++((16:Int),((l.length+C.length+1+Y.length+1:Nat):Int))::Y) N 15 0 (by omega);rw[e8,e9] at h6
 have hfin:l++rG (jI (jZ u) f) gy gn l.length=((l++C)++((16:Int),((l.length+C.length+1+Y.length+1:Nat):Int))::Y)++((15:Int),((l.length+C.length+1+Y.length+1+N.length:Nat):Int))::N:=by
  unfold rG;simp only[hC];rw[e2] at hY
  have k1:(l.length:Int)+(C.length:Int)+1=((l.length+C.length+1:Nat):Int):=by omega
  rw[k1,hY]
  have k2:((l.length+C.length+1:Nat):Int)+(Y.length:Int)+1=((l.length+C.length+1+Y.length+1:Nat):Int):=by omega
  rw[k2,hN2]
  have k3:((l.length+C.length+1+Y.length+1:Nat):Int)+(N.length:Int)=((l.length+C.length+1+Y.length+1+N.length:Nat):Int):=by omega
  rw[k3];simp
 rw[e3] at h3;rw[hfin];rw[e4] at h3;rw[e7] at h5
 rcases hcy with rfl|rfl <;> rcases hcn with rfl|rfl
 all_goals
  refine je3 (qE jK jT 3) Tryz.func116 rfl (by kernel_rfl) rfl ?_;intro _;conv=>whnf
  refine kB (qE jK jT 3) (dr:=[]) ⟨0,rfl⟩ (.inl rfl) (by kernel_rfl) (fun _ _ h=>h.elim) ?_;conv=>whnf
  refine kB (qE jK jT 3) (dr:=[]) ⟨0,rfl⟩ (.inl rfl) (by kernel_rfl) (fun _ _ h=>h.elim) ?_;conv=>whnf
  refine xB 0 0 1 [] hN ?_;rintro o n' cs' r ⟨l2,rfl,rfl,ho,hl2,rfl⟩;cases ho;subst hl2;conv=>whnf
  refine kB (qE jK jT 3) (dr:=[]) ⟨0,rfl⟩ (.inl rfl) (by kernel_rfl) (fun _ _ h=>h.elim) ?_;conv=>whnf
  refine xB 0 1 2 [] h1 ?_;rintro o n' cs' r ⟨l3,rfl,rfl,ho,hl3,rfl⟩;cases ho;subst hl3;conv=>whnf
  refine kB (qE jK jT 3) (dr:=[]) ⟨0,rfl⟩ (.inl rfl) (by kernel_rfl) (fun _ _ h=>h.elim) ?_;conv=>whnf
  refine jaE [0,1,2] 2 3 [] rfl rfl (by decide) (by simp) (by simp) rfl rfl rfl (fun _=>h2) ?_;rintro o n' cs' r ⟨l4,rfl,rfl,ho,hl4,rfl⟩ _;cases ho;subst hl4;conv=>whnf
  refine kB (qE jK jT 3) (dr:=[]) ⟨0,rfl⟩ (.inl rfl) (by kernel_rfl) (fun _ _ h=>h.elim) ?_;conv=>whnf
  refine xB 0 3 4 [] h3 ?_;rintro o n' cs' r ⟨l5,rfl,rfl,ho,hl5,rfl⟩;cases ho;subst hl5;conv=>whnf
  refine jk7 ?_;refine pC (l:=[_,_]) [] (qE jK jT 3) ⟨0,rfl⟩ (fun _ _ h=>h.elim) rfl rfl rfl ?_;conv=>whnf
  refine jgH (qE jK jT 3) ⟨1,rfl⟩ (.inl rfl) (by kernel_rfl) (fun _ _ h=>h.elim) ?_;conv=>whnf
  refine xB 0 4 5 [] h4.r ?_;rintro o n' cs' r ⟨l6,rfl,rfl,ho,hl6,rfl⟩;cases ho;subst hl6;conv=>whnf
  refine jaE [0,1,2] 5 6 [] rfl rfl (by decide) (by simp) (by simp) rfl rfl rfl (fun _=>h5) ?_;rintro o n' cs' r ⟨l7,rfl,rfl,ho,hl7,rfl⟩ _;cases ho;subst hl7;conv=>whnf
  refine⟨.inl rfl,?_⟩;unfold iX;refine jmp 0 6 7 [] rfl rfl rfl rfl rfl h6 ?_;rintro o n' cs' r ⟨l8,rfl,rfl,ho,hl8,rfl⟩;cases ho;conv=>whnf
  refine⟨7,?_⟩;conv=>whnf
  exact⟨l8,rfl,rfl,rfl,hl8,rfl⟩
end
theorem ja4(u:Ut)(k n:Int)(s:ByteArray)(kids:List Nt)(i c:Nat)(hi:i<kids.length)(hf:zY u kids[i])(hc:c=115/\i=1∨c=119/\i=1∨c=120/\i=2):joG u (.mk k n s kids) c [.box 1 0,.box 2 0] (jI (jZ u) kids[i]) (zN kids[i]):=by
 refine⟨hf.1,fun l hl=>?_⟩;have hN:=hf.2 l hl;have hrow:=jR kids i hi;generalize kids[i]=g at *;simp only[ntA,Nt.k,Nt.n,Nt.s,Nt.kids];rcases hc with ⟨rfl,rfl⟩|⟨rfl,rfl⟩|⟨rfl,rfl⟩
 ·refine iL jsc jT 3 Tryz.func115 rfl ?_;intro _;conv=>whnf
  refine⟨by omega,?_⟩;conv=>whnf
  (generalize hrq:jC _ _ (jQ kids)=rq;obtain rfl:rq=ntA g:=hrq.symm.trans (hrow);clear hrq;conv=>whnf)
  refine xB 0 0 1 [] hN ?_;rintro o n' cs' r ⟨l2,rfl,rfl,ho,hl2,rfl⟩;cases ho;conv=>whnf
  refine⟨1,?_⟩;conv=>whnf
  exact⟨l2,rfl,rfl,rfl,hl2,rfl⟩
 ·refine iL jsd jT 3 Tryz.func119 rfl ?_;intro _;conv=>whnf
  refine⟨by omega,?_⟩;conv=>whnf
  (generalize hrq:jC _ _ (jQ kids)=rq;obtain rfl:rq=ntA g:=hrq.symm.trans (hrow);clear hrq;conv=>whnf)
  refine xB 0 0 1 [] hN ?_;rintro o n' cs' r ⟨l2,rfl,rfl,ho,hl2,rfl⟩;cases ho;conv=>whnf
  refine⟨1,?_⟩;conv=>whnf
  exact⟨l2,rfl,rfl,rfl,hl2,rfl⟩
 ·refine iL jse jT 3 Tryz.func120 rfl ?_;intro _;conv=>whnf
  refine⟨by omega,?_⟩;conv=>whnf
  (generalize hrq:jC _ _ (jQ kids)=rq;obtain rfl:rq=ntA g:=hrq.symm.trans (hrow);clear hrq;conv=>whnf)
  refine xB 0 0 1 [] hN ?_;rintro o n' cs' r ⟨l2,rfl,rfl,ho,hl2,rfl⟩;cases ho;conv=>whnf
  refine⟨1,?_⟩;conv=>whnf
  exact⟨l2,rfl,rfl,rfl,hl2,rfl⟩
theorem jfM(u:Ut)(k n:Int)(s:ByteArray)(kids:List Nt)(c:Nat)(v:Int)(hc:c=117/\v=0∨c=118/\v=1):joG u (.mk k n s kids) c [.box 1 0] (fun _=>[(1,v)]) 1:=by
 refine⟨fun _=>xtw11 _,fun l hl=>?_⟩;have hN:=gF u l 1 v (by omega);simp only[ntA,Nt.k,Nt.n,Nt.s,Nt.kids];rcases hc with ⟨rfl,rfl⟩|⟨rfl,rfl⟩
 ·refine iL jK jT 3 Tryz.func117 rfl ?_;intro _;conv=>whnf
  refine xB 0 0 1 [] hN ?_;rintro o n' cs' r ⟨l2,rfl,rfl,ho,hl2,rfl⟩;cases ho;conv=>whnf
  refine⟨1,?_⟩;conv=>whnf
  exact⟨l2,rfl,rfl,rfl,hl2,rfl⟩
 ·refine iL jK jT 3 Tryz.func118 rfl ?_;intro _;conv=>whnf
  refine xB 0 0 1 [] hN ?_;rintro o n' cs' r ⟨l2,rfl,rfl,ho,hl2,rfl⟩;cases ho;conv=>whnf
  refine⟨1,?_⟩;conv=>whnf
  exact⟨l2,rfl,rfl,rfl,hl2,rfl⟩
theorem dQ(k n:Int)(s:ByteArray)(kids:List Nt):ntA (.mk k n s kids)=[intA k,intA n,jJ s,.sl 4 kids.length (jQ kids)]:=rfl
theorem jfC(u:Ut)(n:Int)(s:ByteArray)(kids:List Nt)(h3:kids.length=3)(hf:∀f∈kids,zY u f)(l:List Ic)(hl:l.length+(kids.map zN).sum+2<=1000000):nR 78 [eH u] l [.box 0 0,.agg (ntA (.mk 2 n s kids))] fun o l' r=>o=[eH u]/\l'=l++rG (jI (jZ u) (kids[0]'(by omega))) (jI (jZ u) (kids[1]'(by omega))) (jI (jZ u) (kids[2]'(by omega))) l.length/\r=.tup []:=by
 have h1:=ja4 u 2 n s kids 1 119 (by omega) (hf _ (xtw10 _)) (.inr (.inl ⟨rfl,rfl⟩));have h2:=ja4 u 2 n s kids 2 120 (by omega) (hf _ (xtw10 _)) (.inr (.inr ⟨rfl,rfl⟩))
 have hsum:zN (kids[0]'(by omega))+zN (kids[1]'(by omega))+zN (kids[2]'(by omega))<=(kids.map zN).sum:=by
  match kids,h3 with
  |[a,b,c],_=>simp;omega
 have hch:=choose_spec u _ (kids[0]'(by omega)) (hf _ (xtw10 _)) _ _ _ _ _ _ _ _ (.inl rfl) (.inl rfl) h1 h2 l (by omega);have hrow:=jR kids 0 (by omega);generalize kids[0]'(by omega)=g at *;rw[dQ] at hch ⊢;refine iL jtV jT 1 Tryz.func78 rfl ?_;intro _;conv=>whnf
 refine⟨by omega,?_⟩;conv=>whnf
 (generalize hrq:jC _ _ (jQ kids)=rq;obtain rfl:rq=ntA g:=hrq.symm.trans (hrow);clear hrq;conv=>whnf)
 refine jaE [0,1,2] 0 1 [] rfl rfl (by decide) (by simp) (by simp) rfl rfl rfl (fun _=>hch) ?_;rintro o n' cs' r ⟨l2,rfl,rfl,ho,hl2,rfl⟩ _;cases ho;conv=>whnf
 refine⟨1,?_⟩;conv=>whnf
 exact⟨l2,rfl,rfl,rfl,hl2,rfl⟩
theorem joO(u:Ut)(n:Int)(kids:List Nt)(h3:kids.length=2)(hf:∀f∈kids,zY u f)(l:List Ic)(hl:l.length+(kids.map zN).sum+3<=1000000):nR 77 [eH u] l [.box 0 0,.agg (ntA (.mk 18 n yW kids))] fun o l' r=>o=[eH u]/\l'=l++rG (jI (jZ u) (kids[0]'(by omega))) (jI (jZ u) (kids[1]'(by omega))) (fun _=>[(1,0)]) l.length/\r=.tup []:=by
 have h1:=ja4 u 18 n yW kids 1 115 (by omega) (hf _ (xtw10 _)) (.inl ⟨rfl,rfl⟩);have h2:=jfM u 18 n yW kids 117 0 (.inl ⟨rfl,rfl⟩)
 have hsum:zN (kids[0]'(by omega))+zN (kids[1]'(by omega))<=(kids.map zN).sum:=by
  match kids,h3 with
  |[a,b],_=>simp
 have hch:=choose_spec u _ (kids[0]'(by omega)) (hf _ (xtw10 _)) _ _ _ _ _ _ _ _ (.inl rfl) (.inr rfl) h1 h2 l (by omega);have hrow:=jR kids 0 (by omega);generalize kids[0]'(by omega)=g at *;rw[dQ] at hch ⊢;refine iL fY jT 1 Tryz.func77 rfl ?_;intro _;conv=>whnf
 refine⟨by omega,?_⟩;conv=>whnf
 (generalize hrq:jC _ _ (jQ kids)=rq;obtain rfl:rq=ntA g:=hrq.symm.trans (hrow);clear hrq;conv=>whnf)
 refine jaE [0,1,2] 0 1 [] rfl rfl (by decide) (by simp) (by simp) rfl rfl rfl (fun _=>hch) ?_;rintro o n' cs' r ⟨l2,rfl,rfl,ho,hl2,rfl⟩ _;cases ho;conv=>whnf
 refine⟨1,?_⟩;conv=>whnf
 exact⟨l2,rfl,rfl,rfl,hl2,rfl⟩
theorem jrb(u:Ut)(n:Int)(kids:List Nt)(h3:kids.length=2)(hf:∀f∈kids,zY u f)(l:List Ic)(hl:l.length+(kids.map zN).sum+3<=1000000):nR 77 [eH u] l [.box 0 0,.agg (ntA (.mk 18 n sD kids))] fun o l' r=>o=[eH u]/\l'=l++rG (jI (jZ u) (kids[0]'(by omega))) (fun _=>[(1,1)]) (jI (jZ u) (kids[1]'(by omega))) l.length/\r=.tup []:=by
 have h1:=ja4 u 18 n sD kids 1 115 (by omega) (hf _ (xtw10 _)) (.inl ⟨rfl,rfl⟩);have h2:=jfM u 18 n sD kids 118 1 (.inr ⟨rfl,rfl⟩)
 have hsum:zN (kids[0]'(by omega))+zN (kids[1]'(by omega))<=(kids.map zN).sum:=by
  match kids,h3 with
  |[a,b],_=>simp
 have hch:=choose_spec u _ (kids[0]'(by omega)) (hf _ (xtw10 _)) _ _ _ _ _ _ _ _ (.inr rfl) (.inl rfl) h2 h1 l (by omega);have hrow:=jR kids 0 (by omega);generalize kids[0]'(by omega)=g at *;rw[dQ] at hch ⊢;refine iL fY jT 1 Tryz.func77 rfl ?_;intro _;conv=>whnf
 refine⟨by omega,?_⟩;conv=>whnf
 (generalize hrq:jC _ _ (jQ kids)=rq;obtain rfl:rq=ntA g:=hrq.symm.trans (hrow);clear hrq;conv=>whnf)
 refine jaE [0,1,2] 0 1 [] rfl rfl (by decide) (by simp) (by simp) rfl rfl rfl (fun _=>hch) ?_;rintro o n' cs' r ⟨l2,rfl,rfl,ho,hl2,rfl⟩ _;cases ho;conv=>whnf
 refine⟨1,?_⟩;conv=>whnf
 exact⟨l2,rfl,rfl,rfl,hl2,rfl⟩
def opBin:List ByteArray:=[bF,qB,vC,wK,pLt,pLe,jnn,pGt,pGe,pNe]
theorem jra(u:Ut)(n:Int)(s:ByteArray)(hs:(opBin.any fun x=>decide (s=x))=true)(kids:List Nt)(hm:kids.length<=3002)(hf:∀f∈kids,zY u f)(l:List Ic)(hl:l.length+qX kids+2<=1000000):nR 77 [eH u] l [.box 0 0,.agg (ntA (.mk 18 n s kids))] fun o l' r=>o=[eH u]/\l'=l++zX (jH (jZ u) kids) l.length++opC s/\r=.tup []:=by
 have hs:s∈opBin:=by
  rw[xtw34] at hs;obtain⟨x,h1,h2⟩:=hs;rw[xtw17] at h2;rw[h2];exact h1
 have hk:=mB u 18 n s kids hm hf l (by omega);have hz:=kX (u:=u) kids l.length hf
 have hem:=fun(l:List Ic) (op n:Int) (h:l.length<=1000000)=>gF u l op n h
 generalize zX (jH (jZ u) kids) l.length=y at *
 have hly:(l++y).length<=999998:=by rw[xtw4];omega
 generalize l++y=l3 at *;rw[dQ] at hk ⊢;unfold opBin at hs;simp only[xtw13,xtw42,xtw81] at hs;rcases hs with rfl|rfl|rfl|rfl|rfl|rfl|rfl|rfl|rfl|rfl
 ·refine iL fY jT 1 Tryz.func77 rfl ?_;intro _;conv=>whnf
  refine xB 0 0 1 [] hk ?_;rintro o n' cs' r ⟨l2,rfl,rfl,ho,hl2,rfl⟩;cases ho;subst hl2;conv=>whnf
  refine xB 0 1 3 [] (hem l2 6 0 (by omega)) ?_;rintro o n' cs' r ⟨l4,rfl,rfl,ho,hl4,rfl⟩;cases ho;conv=>whnf
  refine⟨3,?_⟩;conv=>whnf
  exact⟨l4,rfl,rfl,rfl,hl4,rfl⟩
 ·refine iL fY jT 1 Tryz.func77 rfl ?_;intro _;conv=>whnf
  refine xB 0 0 1 [] hk ?_;rintro o n' cs' r ⟨l2,rfl,rfl,ho,hl2,rfl⟩;cases ho;subst hl2;conv=>whnf
  refine xB 0 1 3 [] (hem l2 7 0 (by omega)) ?_;rintro o n' cs' r ⟨l4,rfl,rfl,ho,hl4,rfl⟩;cases ho;conv=>whnf
  refine⟨3,?_⟩;conv=>whnf
  exact⟨l4,rfl,rfl,rfl,hl4,rfl⟩
 ·refine iL fY jT 1 Tryz.func77 rfl ?_;intro _;conv=>whnf
  refine xB 0 0 1 [] hk ?_;rintro o n' cs' r ⟨l2,rfl,rfl,ho,hl2,rfl⟩;cases ho;subst hl2;conv=>whnf
  refine xB 0 1 3 [] (hem l2 8 0 (by omega)) ?_;rintro o n' cs' r ⟨l4,rfl,rfl,ho,hl4,rfl⟩;cases ho;conv=>whnf
  refine⟨3,?_⟩;conv=>whnf
  exact⟨l4,rfl,rfl,rfl,hl4,rfl⟩
 ·refine iL fY jT 1 Tryz.func77 rfl ?_;intro _;conv=>whnf
  refine xB 0 0 1 [] hk ?_;rintro o n' cs' r ⟨l2,rfl,rfl,ho,hl2,rfl⟩;cases ho;subst hl2;conv=>whnf
  refine xB 0 1 3 [] (hem l2 9 0 (by omega)) ?_;rintro o n' cs' r ⟨l4,rfl,rfl,ho,hl4,rfl⟩;cases ho;conv=>whnf
  refine⟨3,?_⟩;conv=>whnf
  exact⟨l4,rfl,rfl,rfl,hl4,rfl⟩
 ·refine iL fY jT 1 Tryz.func77 rfl ?_;intro _;conv=>whnf
  refine xB 0 0 1 [] hk ?_;rintro o n' cs' r ⟨l2,rfl,rfl,ho,hl2,rfl⟩;cases ho;subst hl2;conv=>whnf
  refine xB 0 1 3 [] (hem l2 11 0 (by omega)) ?_;rintro o n' cs' r ⟨l4,rfl,rfl,ho,hl4,rfl⟩;cases ho;conv=>whnf
  refine⟨3,?_⟩;conv=>whnf
  exact⟨l4,rfl,rfl,rfl,hl4,rfl⟩
 ·refine iL fY jT 1 Tryz.func77 rfl ?_;intro _;conv=>whnf
  refine xB 0 0 1 [] hk ?_;rintro o n' cs' r ⟨l2,rfl,rfl,ho,hl2,rfl⟩;cases ho;subst hl2;conv=>whnf
  refine xB 0 1 3 [] (hem l2 12 0 (by omega)) ?_;rintro o n' cs' r ⟨l4,rfl,rfl,ho,hl4,rfl⟩;cases ho;conv=>whnf
  refine⟨3,?_⟩;conv=>whnf
  exact⟨l4,rfl,rfl,rfl,hl4,rfl⟩
 ·refine iL fY jT 1 Tryz.func77 rfl ?_;intro _;conv=>whnf
  refine xB 0 0 1 [] hk ?_;rintro o n' cs' r ⟨l2,rfl,rfl,ho,hl2,rfl⟩;cases ho;subst hl2;conv=>whnf
  refine xB 0 1 3 [] (hem l2 13 0 (by omega)) ?_;rintro o n' cs' r ⟨l4,rfl,rfl,ho,hl4,rfl⟩;cases ho;conv=>whnf
  refine⟨3,?_⟩;conv=>whnf
  exact⟨l4,rfl,rfl,rfl,hl4,rfl⟩
 ·refine iL fY jT 1 Tryz.func77 rfl ?_;intro _;conv=>whnf
  refine xB 0 0 1 [] hk ?_;rintro o n' cs' r ⟨l2,rfl,rfl,ho,hl2,rfl⟩;cases ho;subst hl2;conv=>whnf
  refine xB 0 1 3 [] (hem l2 12 0 (by omega)) ?_;rintro o n' cs' r ⟨l4,rfl,rfl,ho,hl4,rfl⟩;cases ho
  have hz4:l4.length<=1000000:=by rw[hl4,xtw4,xtw31];omega
  conv=>whnf
  refine xB 0 3 4 [] (hem l4 14 0 hz4) ?_;rintro o n' cs' r ⟨l5,rfl,rfl,ho,hl5,rfl⟩;cases ho;conv=>whnf
  refine⟨4,?_⟩;conv=>whnf
  exact⟨l5,rfl,rfl,rfl,by rw[hl5,hl4,xtw40];rfl,rfl⟩
 ·refine iL fY jT 1 Tryz.func77 rfl ?_;intro _;conv=>whnf
  refine xB 0 0 1 [] hk ?_;rintro o n' cs' r ⟨l2,rfl,rfl,ho,hl2,rfl⟩;cases ho;subst hl2;conv=>whnf
  refine xB 0 1 3 [] (hem l2 11 0 (by omega)) ?_;rintro o n' cs' r ⟨l4,rfl,rfl,ho,hl4,rfl⟩;cases ho
  have hz4:l4.length<=1000000:=by rw[hl4,xtw4,xtw31];omega
  conv=>whnf
  refine xB 0 3 4 [] (hem l4 14 0 hz4) ?_;rintro o n' cs' r ⟨l5,rfl,rfl,ho,hl5,rfl⟩;cases ho;conv=>whnf
  refine⟨4,?_⟩;conv=>whnf
  exact⟨l5,rfl,rfl,rfl,by rw[hl5,hl4,xtw40];rfl,rfl⟩
 ·refine iL fY jT 1 Tryz.func77 rfl ?_;intro _;conv=>whnf
  refine xB 0 0 1 [] hk ?_;rintro o n' cs' r ⟨l2,rfl,rfl,ho,hl2,rfl⟩;cases ho;subst hl2;conv=>whnf
  refine xB 0 1 3 [] (hem l2 13 0 (by omega)) ?_;rintro o n' cs' r ⟨l4,rfl,rfl,ho,hl4,rfl⟩;cases ho
  have hz4:l4.length<=1000000:=by rw[hl4,xtw4,xtw31];omega
  conv=>whnf
  refine xB 0 3 4 [] (hem l4 14 0 hz4) ?_;rintro o n' cs' r ⟨l5,rfl,rfl,ho,hl5,rfl⟩;cases ho;conv=>whnf
  refine⟨4,?_⟩;conv=>whnf
  exact⟨l5,rfl,rfl,rfl,by rw[hl5,hl4,xtw40];rfl,rfl⟩
def whC(c b:Int->List Ic)(at':Int):List Ic:=c at'++(16,at'+(c at').length+(b (at'+(c at').length+1)).length+2)::(b (at'+(c at').length+1)++[(15,at')])
theorem jl4(u:Ut)(n:Int)(s:ByteArray)(kids:List Nt)(h3:kids.length=2)(hf:∀f∈kids,zY u f)(l:List Ic)(hl:l.length+(kids.map zN).sum+2<=1000000):nR 79 [eH u] l [.box 0 0,.agg (ntA (.mk 3 n s kids))] fun o l' r=>o=[eH u]/\l'=l++whC (jI (jZ u) (kids[0]'(by omega))) (jI (jZ u) (kids[1]'(by omega))) l.length/\r=.tup []:=by
 have hsum:zN (kids[0]'(by omega))+zN (kids[1]'(by omega))<=(kids.map zN).sum:=by
  match kids,h3 with
  |[a,b],_=>simp
 have hem:=fun(l:List Ic) (op n:Int) (h:l.length<=1000000)=>gF u l op n h
 have ha:=hf (kids[0]'(by omega)) (xtw10 _);have hb:=hf (kids[1]'(by omega)) (xtw10 _);have hr0:=jR kids 0 (by omega);have hr1:=jR kids 1 (by omega);generalize kids[0]'(by omega)=a at *;generalize kids[1]'(by omega)=b at *;have hz1:=ha.1 l.length;have h0:=ha.2 l (by omega);generalize hC:jI (jZ u) a l.length=C at *;have e1:(l++C).length=l.length+C.length:=xtw4;have h1:=hem (l++C) 16 0 (by omega)
 have e2:(l++C++[(16,0)]).length=l.length+C.length+1:=by rw[xtw4,e1];rfl
 have hz2:=hb.1 ((l++C++[((16:Int),(0:Int))]).length:Nat);have h2:=hb.2 (l++C++[(16,0)]) (by omega);generalize hB:jI (jZ u) b ((l++C++[((16:Int),(0:Int))]).length:Nat)=B at *
 have e3:(l++C++[(16,0)]++B).length=l.length+C.length+1+B.length:=by rw[xtw4,e2]
 have h4:=jtj u (l++C++[(16,0)]++B) 15 l.length (by omega)
 have e4:l++C++[(16,0)]++B++[(15,(l.length:Int))]=(l++C)++((16:Int),(0:Int))::(B++[(15,(l.length:Int))]):=by simp
 have e5:((l++C)++((16:Int),(0:Int))::(B++[((15:Int),(l.length:Int))])).length=l.length+C.length+1+B.length+1:=by rw[<- e4,xtw4,e3];rfl
 have h5:=jmH u (l++C) (B++[(15,(l.length:Int))]) 16 0 (by omega);rw[e5] at h5;rw[e4] at h4
 have hfin:l++whC (jI (jZ u) a) (jI (jZ u) b) l.length=(l++C)++((16:Int),((l.length+C.length+1+B.length+1:Nat):Int))::(B++[((15:Int),(l.length:Int))]):=by
  unfold whC;simp only[hC];rw[e2] at hB
  have k1:(l.length:Int)+(C.length:Int)+1=((l.length+C.length+1:Nat):Int):=by omega
  rw[k1,hB]
  have k2:(l.length:Int)+(C.length:Int)+(B.length:Int)+2=((l.length+C.length+1+B.length+1:Nat):Int):=by omega
  rw[k2];simp
 rw[hfin];rw[dQ];refine je3 (qE jK jT 1) Tryz.func79 rfl (by kernel_rfl) rfl ?_;intro _;conv=>whnf
 refine kB (qE jK jT 1) (dr:=[]) ⟨0,rfl⟩ (.inl rfl) (by kernel_rfl) (fun _ _ h=>h.elim) ?_;conv=>whnf
 refine kB (qE jK jT 1) (dr:=[]) ⟨0,rfl⟩ (.inl rfl) (by kernel_rfl) (fun _ _ h=>h.elim) ?_;conv=>whnf
 refine kB (qE jK jT 1) (dr:=[]) ⟨0,rfl⟩ (.inl rfl) (by kernel_rfl) (fun _ _ h=>h.elim) ?_;conv=>whnf
 refine⟨by omega,?_⟩;conv=>whnf
 (generalize hrq:jC _ _ (jQ kids)=rq;obtain rfl:rq=ntA a:=hrq.symm.trans (hr0);clear hrq;conv=>whnf)
 refine xB 0 0 1 [] h0 ?_;rintro o n' cs' r ⟨l2,rfl,rfl,ho,hl2,rfl⟩;cases ho;subst hl2;conv=>whnf
 refine kB (qE jK jT 1) (dr:=[]) ⟨0,rfl⟩ (.inl rfl) (by kernel_rfl) (fun _ _ h=>h.elim) ?_;conv=>whnf
 refine xB 0 1 2 [] h1 ?_;rintro o n' cs' r ⟨l3,rfl,rfl,ho,hl3,rfl⟩;cases ho;subst hl3;conv=>whnf
 refine jk7 ?_;refine pC (l:=[_,_]) [] (qE jK jT 1) ⟨0,rfl⟩ (fun _ _ h=>h.elim) rfl rfl rfl ?_;conv=>whnf
 refine kB (qE jK jT 1) ⟨1,rfl⟩ (.inl rfl) (by kernel_rfl) (fun _ _ h=>h.elim) ?_;conv=>whnf
 refine⟨by omega,?_⟩;conv=>whnf
 (generalize hrq:jC _ _ (jQ kids)=rq;obtain rfl:rq=ntA b:=hrq.symm.trans (hr1);clear hrq;conv=>whnf)
 refine xB 0 2 3 [] h2 ?_;rintro o n' cs' r ⟨l4,rfl,rfl,ho,hl4,rfl⟩;cases ho;subst hl4;conv=>whnf
 refine pC (l:=[_,_]) [] (qE jK jT 1) ⟨1,rfl⟩ (fun _ _ h=>h.elim) rfl rfl rfl ?_;conv=>whnf
 refine⟨.inl rfl,?_⟩;unfold iX;refine jmp 0 3 4 [] rfl rfl rfl rfl rfl h4 ?_;rintro o n' cs' r ⟨l5,rfl,rfl,ho,hl5,rfl⟩;cases ho;subst hl5;conv=>whnf
 refine jmp 0 4 5 [] rfl rfl rfl rfl rfl h5 ?_;rintro o n' cs' r ⟨l6,rfl,rfl,ho,hl6,rfl⟩;cases ho;conv=>whnf
 refine⟨5,?_⟩;conv=>whnf
 exact⟨l6,rfl,rfl,rfl,hl6,rfl⟩
theorem jaA{c y n:Int->List Ic}{a b d:Nat}(h1:∀at':Int,(c at').length<=a)(h2:∀at':Int,(y at').length<=b)(h3:∀at':Int,(n at').length<=d)(at':Int):(rG c y n at').length<=a+b+d+2:=by
 unfold rG;simp only[xtw4,xtw6];have q1:=h1 at';have q2:=h2 (at'+(c at').length+1);have q3:=h3 (at'+(c at').length+1+(y (at'+(c at').length+1)).length+1);omega
theorem jgI(s:ByteArray):(opC s).length<=2:=by
 unfold opC
 repeat' split
 all_goals decide
theorem jc4:∀l:List Nt,qX l=(l.map zN).sum
 |[]=>rfl
 |f::l=>by rw[xtw22,List.sum_cons,<- jc4 l];rfl
theorem b8(u:Ut)(k n:Int)(s:ByteArray)(kids:List Nt)(l:List Ic)(r:List Ic)(c:Nat)(hc:k=17/\c=76∨k=18/\c=77∨k=2/\c=78∨k=3/\c=79∨k=11/\c=80∨(k≠17/\k≠18/\k≠2/\k≠3/\k≠11)/\c=81)
  (h:nR c [eH u] l [.box 0 0,.agg (ntA (.mk k n s kids))] fun o l' q=>o=[eH u]/\l'=l++r/\q=.tup []):nR 39 [eH u] l [.box 0 0,.agg (ntA (.mk k n s kids))] fun o l' q=>o=[eH u]/\l'=l++r/\q=.tup []:=by
 rw[dQ] at h ⊢;rcases hc with ⟨rfl,rfl⟩|⟨rfl,rfl⟩|⟨rfl,rfl⟩|⟨rfl,rfl⟩|⟨rfl,rfl⟩|⟨⟨k1,k2,k3,k4,k5⟩,rfl⟩
 all_goals
  refine iL jK jT 1 Tryz.func39 rfl ?_;intro _;conv=>whnf
 all_goals try
  refine xB 0 0 2 [] h ?_;rintro o n' cs' r ⟨l2,rfl,rfl,ho,hl2,rfl⟩;cases ho;conv=>whnf
  refine⟨2,?_⟩;conv=>whnf
  exact⟨l2,rfl,rfl,rfl,hl2,rfl⟩
 rw[xtw0 k1];conv=>whnf
 rw[xtw0 k2];conv=>whnf
 rw[xtw0 k3];conv=>whnf
 rw[xtw0 k4];conv=>whnf
 rw[xtw0 k5];conv=>whnf
 refine xB 0 0 2 [] h ?_;rintro o n' cs' r ⟨l2,rfl,rfl,ho,hl2,rfl⟩;cases ho;conv=>whnf
 refine⟨2,?_⟩;conv=>whnf
 exact⟨l2,rfl,rfl,rfl,hl2,rfl⟩
theorem jem{l:List ByteArray}{s:ByteArray}(h:(l.any fun x=>decide (s=x))=true):s∈l:=by
 rw[xtw34] at h;obtain⟨x,h1,h2⟩:=h;rw[xtw17] at h2;rw[h2];exact h1
theorem jdA{s:ByteArray}(h:(opAll.any fun x=>decide (s=x))=true)(h1:s≠yW)(h2:s≠sD):(opBin.any fun x=>decide (s=x))=true:=by
 have h:=jem h;unfold opAll at h;simp only[xtw13,xtw42,xtw81] at h;rcases h with h|h|h|h|h|h|h|h|h|h|h|h
 ·exact absurd h h1
 ·exact absurd h h2
 all_goals(rw[h];decide)
theorem r9(u:Ut)(hu:WfU u):∀f:Nt,eJ f->zY u f
 |.mk k n s kids,hw=>by
  unfold eJ at hw;obtain⟨ha,hwk,-⟩:=hw;have hm:=sP ha
  have hk:∀f∈kids,zY u f:=fun f hf=>r9 u hu f (xQ hwk hf)
  have hsq:=fun at'=>kX (u:=u) kids at' hk
  have hss:=jc4 kids;unfold zY
  show(∀at':Int,(kV (jZ u) k n s (jH (jZ u) kids) at').length<=3+qX kids)/\∀l:List Ic,l.length+(3+qX kids)<=1000000->nR _ [eH u] l _ fun o l' r=>o=[eH u]/\l'=l++kV (jZ u) k n s (jH (jZ u) kids) l.length/\r=.tup []
  have lf:∀(hc:k=12∨k=13∨k=14∨k=15/\(builtL.any fun x=>decide (s=x))=true∨k=1∨k=4∨k=5∨k=6∨k=16∨k=7∨k=10∨k=8∨k=9),(∀at',kV (jZ u) k n s (jH (jZ u) kids) at'=zX (jH (jZ u) kids) at'++[jqC (jZ u) k n s])->(∀at':Int,(kV (jZ u) k n s (jH (jZ u) kids) at').length<=3+qX kids)/\∀l:List Ic,l.length+(3+qX kids)<=1000000->nR 39 [eH u] l [.box 0 0,.agg (ntA (.mk k n s kids))] fun o l' r=>o=[eH u]/\l'=l++kV (jZ u) k n s (jH (jZ u) kids) l.length/\r=.tup []:=fun hc he=>by
   refine⟨fun at'=>?_,fun l hl=>?_⟩
   ·have:=hsq at';rw[he,xtw4,xtw31];omega
   ·have h1:=jl1 u hu k n s kids hm hk hc l (by omega);rw[xtw40,<- he] at h1;refine b8 u k n s kids l _ _ (.inr (.inr (.inr (.inr (.inr ⟨?_,rfl⟩))))) h1;omega
  unfold arN at ha;by_cases h11:k=11
  ·subst h11
   have he:∀at',kV (jZ u) 11 n s (jH (jZ u) kids) at'=zX (jH (jZ u) kids) at':=fun at'=>xtw66 _
   refine⟨fun at'=>by rw[he];have:=hsq at';omega,fun l hl=>?_⟩;rw[he];exact b8 u 11 n s kids l _ _ (.inr (.inr (.inr (.inr (.inl ⟨rfl,rfl⟩))))) (mB u 11 n s kids hm hk l (by omega))
  rw[xtw2 h11] at ha;by_cases h0:k=12∨k=13∨k=14∨k=5∨k=6∨k=7∨k=10
  ·rw[xtw3 h0,xtw17] at ha;obtain rfl:=xtw15 ha;rcases h0 with rfl|rfl|rfl|rfl|rfl|rfl|rfl
   all_goals exact lf (by omega) fun at'=>rfl
  rw[xtw2 h0] at ha;by_cases h15:k=15
  ·rw[xtw3 h15,xtw14,xtw17] at ha;subst h15;obtain⟨ha,hb⟩:=ha;obtain rfl:=xtw15 ha
   exact lf (.inr (.inr (.inr (.inl ⟨rfl,hb⟩)))) fun at'=>rfl
  rw[xtw2 h15] at ha;by_cases h1:k=16∨k=1∨k=9
  ·rcases h1 with rfl|rfl|rfl
   all_goals exact lf (by omega) fun at'=>rfl
  rw[xtw2 h1] at ha;by_cases h17:k=17
  ·subst h17
   have he:∀at',kV (jZ u) 17 n s (jH (jZ u) kids) at'=zX (jH (jZ u) kids) at'++(if s=qB then [(10,0)] else [(14,0)]):=fun at'=>rfl
   refine⟨fun at'=>?_,fun l hl=>?_⟩
   ·have:=hsq at';rw[he,xtw4]
    split <;> simp only[xtw31] <;> omega
   ·rw[he];refine b8 u 17 n s kids l _ _ (.inl ⟨rfl,rfl⟩) ?_;have h2:=jfR u n s kids hm hk l (by omega);rw[xtw40] at h2;exact h2
  rw[xtw2 h17] at ha;by_cases h18:k=18
  ·rw[xtw3 h18,xtw14,xtw17] at ha;subst h18;obtain⟨ha,hb⟩:=ha;have k0:=hk (kids[0]'(by omega)) (xtw10 _);have k1:=hk (kids[1]'(by omega)) (xtw10 _)
   have hsum:zN (kids[0]'(by omega))+zN (kids[1]'(by omega))<=(kids.map zN).sum:=by
    match kids,ha with
    |[a,b],_=>simp
   have g0:(jH (jZ u) kids).getD 0 noI=jI (jZ u) (kids[0]'(by omega)):=by
    match kids,ha with
    |[a,b],_=>rfl
   have g1:(jH (jZ u) kids).getD 1 noI=jI (jZ u) (kids[1]'(by omega)):=by
    match kids,ha with
    |[a,b],_=>rfl
   by_cases hA:s=yW
   ·subst hA
    have he:∀at',kV (jZ u) 18 n yW (jH (jZ u) kids) at'=rG (jI (jZ u) (kids[0]'(by omega))) (jI (jZ u) (kids[1]'(by omega))) (fun _=>[(1,0)]) at':=fun at'=>by
     rw[<- g0,<- g1];rfl
    refine⟨fun at'=>?_,fun l hl=>?_⟩
    ·have:=jaA k0.1 k1.1 (fun _=>xtw11 1) (n:=fun _=>[((1:Int),(0:Int))]) at';rw[he];omega
    ·rw[he];exact b8 u 18 n yW kids l _ _ (.inr (.inl ⟨rfl,rfl⟩)) (joO u n kids ha hk l (by omega))
   by_cases hO:s=sD
   ·subst hO
    have he:∀at',kV (jZ u) 18 n sD (jH (jZ u) kids) at'=rG (jI (jZ u) (kids[0]'(by omega))) (fun _=>[(1,1)]) (jI (jZ u) (kids[1]'(by omega))) at':=fun at'=>by
     rw[<- g0,<- g1];rfl
    refine⟨fun at'=>?_,fun l hl=>?_⟩
    ·have:=jaA k0.1 (fun _=>xtw11 1) k1.1 (y:=fun _=>[((1:Int),(1:Int))]) at';rw[he];omega
    ·rw[he];exact b8 u 18 n sD kids l _ _ (.inr (.inl ⟨rfl,rfl⟩)) (jrb u n kids ha hk l (by omega))
   have he:∀at',kV (jZ u) 18 n s (jH (jZ u) kids) at'=zX (jH (jZ u) kids) at'++opC s:=fun at'=>by
    unfold kV;rw[xtw2 (by decide),xtw2 (by decide),xtw2 (by decide),xtw2 (by decide),xtw2 (by decide),xtw2 (by decide),xtw2 (by decide),xtw2 (by decide),xtw2 (by decide),xtw2 (fun h=>hA h.2),xtw2 (fun h=>hO h.2),xtw3 rfl]
   refine⟨fun at'=>?_,fun l hl=>?_⟩
   ·have:=hsq at';have:=jgI s;rw[he,xtw4];omega
   ·rw[he];refine b8 u 18 n s kids l _ _ (.inr (.inl ⟨rfl,rfl⟩)) ?_;have h2:=jra u n s (jdA hb hA hO) kids hm hk l (by omega);rw[xtw40] at h2;exact h2
  rw[xtw2 h18] at ha;by_cases h8:k=8∨k=3
  ·rw[xtw3 h8,xtw17] at ha;rcases h8 with rfl|rfl
   ·exact lf (by omega) fun at'=>rfl
   ·have k0:=hk (kids[0]'(by omega)) (xtw10 _);have k1:=hk (kids[1]'(by omega)) (xtw10 _)
    have hsum:zN (kids[0]'(by omega))+zN (kids[1]'(by omega))<=(kids.map zN).sum:=by
     match kids,ha with
     |[a,b],_=>simp
    have he:∀at',kV (jZ u) 3 n s (jH (jZ u) kids) at'=whC (jI (jZ u) (kids[0]'(by omega))) (jI (jZ u) (kids[1]'(by omega))) at':=fun at'=>by
     match kids,ha with
     |[a,b],_=>rfl
    refine⟨fun at'=>?_,fun l hl=>?_⟩
    ·rw[he];unfold whC;have q0:=k0.1 at';have q1:=k1.1 (at'+(jI (jZ u) (kids[0]'(by omega)) at').length+1);simp only[xtw4,xtw6,xtw8];omega
    ·rw[he];exact b8 u 3 n s kids l _ _ (.inr (.inr (.inr (.inl ⟨rfl,rfl⟩)))) (jl4 u n s kids ha hk l (by omega))
  rw[xtw2 h8] at ha;by_cases h2:k=2∨k=4
  ·rw[xtw3 h2,xtw17] at ha;rcases h2 with rfl|rfl
   ·have k0:=hk (kids[0]'(by omega)) (xtw10 _);have k1:=hk (kids[1]'(by omega)) (xtw10 _);have k2:=hk (kids[2]'(by omega)) (xtw10 _)
    have hsum:zN (kids[0]'(by omega))+zN (kids[1]'(by omega))+zN (kids[2]'(by omega))<=(kids.map zN).sum:=by
     match kids,ha with
     |[a,b,c],_=>simp;omega
    have he:∀at',kV (jZ u) 2 n s (jH (jZ u) kids) at'=rG (jI (jZ u) (kids[0]'(by omega))) (jI (jZ u) (kids[1]'(by omega))) (jI (jZ u) (kids[2]'(by omega))) at':=fun at'=>by
     match kids,ha with
     |[a,b,c],_=>rfl
    refine⟨fun at'=>?_,fun l hl=>?_⟩
    ·have:=jaA k0.1 k1.1 k2.1 at';rw[he];omega
    ·rw[he];exact b8 u 2 n s kids l _ _ (.inr (.inr (.inl ⟨rfl,rfl⟩))) (jfC u n s kids ha hk l (by omega))
   ·exact lf (by omega) fun at'=>rfl
  rw[xtw2 h2] at ha;cases ha
theorem pG(e:Nat->Int)(du vo:Int):pgE e du vo=enL e++[intA du,intA vo]:=rfl
theorem joZ(e:Nat->Int)(j:Nat)(v:Int):(enL e).set j (intA v)=enL fun i=>if i=j then v else e i:=by
 unfold enL;apply List.ext_getElem (by simp);intro i h1 h2;rw[List.getElem_set,xtw120,xtw120,List.getElem_range];by_cases h:j=i
 ·simp only[xtw3 h,xtw3 h.symm]
 ·simp only[xtw2 h,xtw2 (fun q:i=j=>h q.symm)]
theorem jpR(c0:A)(e:Nat->Int)(du vo v:Int)(j:Nat)(hj:j<40){K:List A->Prop}(h:K (c0::pgE (fun i=>if i=j then v else e i) du vo)):cM (c0::pgE e du vo) (1+j*1) (intA v) K:=by
 have hl:(enL e).length=40:=by unfold enL;simp
 refine fP ?_ ?_
 ·rw[pG,xtw6,xtw4,hl];omega
 ·rw[show 1+j*1=j+1 by omega,xtw46,pG,List.set_append_left _ _ (by rw[hl];exact hj),joZ];exact h
theorem lM(c0:A)(e e':Nat->Int)(du vo v:Int)(j:Nat)(hj:j<40)(he:∀i,i<40->(if i=j then v else e i)=e' i){K:List A->Prop}(h:K (c0::pgE e' du vo)):cM (c0::pgE e du vo) (1+j*1) (intA v) K:=by
 refine jpR c0 e du vo v j hj ?_
 have q:pgE (fun i=>if i=j then v else e i) du vo=pgE e' du vo:=by
  rw[pG,pG]
  congr 1
  unfold enL
  exact xtw109 fun i hi=>by simp only[he i (xtw98.1 hi)]
 rw[q];exact h
def e1(j:Nat):Nat->Int:=fun i=>if i<j then -1 else 0
theorem jpA{e e':Nat->Int}(h:∀i,i<40->e i=e' i)(du vo:Int):pgE e du vo=pgE e' du vo:=by
 rw[pG,pG]
 congr 1
 unfold enL
 exact xtw109 fun i hi=>by rw[h i (xtw98.1 hi)]
theorem rK(u:Ut)(hu:WfU u)(hz:pP u.on<=900000):Spec Tryz.prog 12 [] [.agg (cO u)] fun _ r=>r=jcu u:=by
 have hnode:=r9 u hu;have hdv:=hu.du;have hol:=hu.ol;refine eN jtK jT 0 Tryz.func12 rfl ?_;intro _;conv=>whnf
 refine jA [1,2,4] ?_;conv=>whnf
 refine jE (fun j:Nat=>[(19,.v (.int .i64 j))]) (fun j=>[cO u,eG,.v (.slice none 0 0)::pgE (e1 j) u.du.length u.vo.length]) (fun _=>[]) (fun j=>j<=40) (fun j=>40-j) 0 ?_ (by omega) ?_
 ·repeat' constructor
 intro j hj;conv=>whnf
 rcases xtw36 j 40 with hlt|hge
 ·rw[xtw1 (show(j:Int)<40 by omega)];conv=>whnf
  refine⟨show(0:Int)<=(j:Int)/\(j:Int)<((40:Nat):Int) from ⟨by omega,by omega⟩,?_⟩;conv=>whnf
  refine lM (.v (.slice none 0 0)) (e1 j) (e1 (j+1)) u.du.length u.vo.length (-1) j hlt (fun i hi=>?_) ?_
  ·unfold e1;by_cases h:i=j
   ·rw[xtw3 h,xtw3 (by omega)]
   ·rw[xtw2 h];by_cases h2:i<j
    ·rw[xtw3 h2,xtw3 (by omega)]
    ·rw[xtw2 h2,xtw2 (by omega)]
  conv=>whnf
  refine jN j (by omega) ?_;conv=>whnf
  refine⟨j+1,jD [] ?_,show j+1<=40 by omega,show 40-(j+1)<40-j by omega⟩;conv=>whnf
  repeat' constructor
 rw[xtw0 (show ¬(j:Int)<40 by omega)]
 obtain rfl:j=40:=by omega
 conv=>whnf
 refine qU 52 2 [] [(3,3)] ?_;conv=>whnf
 refine⟨trivial,?_⟩;conv=>whnf
 refine jA [1,2,4,6,30,31] ?_;conv=>whnf
 refine jE (fun x:Nat×List Ic×(Nat->Int)=>[(32,.v (.int .i64 x.1))]) (fun x=>[cO u,eG,.v (.slice none 0 0)::pgE x.2.2 u.du.length u.vo.length,eH u]) (fun x=>[.live 52 2 x.2.1.length (qF x.2.1)])
  (fun x=>x.1<=u.on.length/\o6 (jZ u) (u.on.drop x.1) x.2.1 x.2.2=yZ u/\x.2.1.length+pP (u.on.drop x.1)<=900000/\(∀i∈x.2.1,jfq i)/\∀i,x.2.2 i<x.2.1.length) (fun x=>u.on.length-x.1) (0,[],noE) ?_ ⟨xtw19 _,rfl,by simpa using hz,(fun i hi=>by cases hi),fun i=>show(-1:Int)<0 by decide⟩ ?_
 ·repeat' constructor
  show Row.live _ 2 0 []=Row.live _ 2 0 (qF []);rw[rS]
 rintro⟨j,l,e⟩ ⟨g1,g2,g3,g4,g5⟩
 simp only at g1 g2 g3 g4 g5
 conv=>whnf
 rcases xtw36 j u.on.length with hlt|hge
 ·have hrow:jC 5 j (zV u.on)=tC u.on[j]:=y9 u.on j hlt;have hon:=hu.on _ (xtw10 hlt);rw[xtw63 hlt] at g2 g3;generalize u.on[j]=hb at hrow hon g2 g3;obtain⟨h,b⟩:=hb;obtain⟨o1,o2,o3⟩:=hon;have hnd:=hnode b o3;unfold o6 at g2;unfold pP at g3
  simp only at o1 o2 g2 g3
  unfold tC at hrow
  simp only at hrow
  rw[xtw1 (show(j:Int)<(u.on.length:Int) by omega)];conv=>whnf
  refine⟨show(0:Int)<=(j:Int)/\(j:Int)<(u.on.length:Nat) from ⟨by omega,by omega⟩,?_⟩;conv=>whnf
  (generalize hrq:jC _ _ (zV u.on)=rq;obtain rfl:rq=intA h::ntA b:=hrq.symm.trans (hrow);clear hrq;conv=>whnf)
  refine⟨⟨o1,show h<((40:Nat):Int) by omega⟩,?_⟩;conv=>whnf
  refine lM (.v (.slice none 0 0)) e (fun i=>if i=h.toNat then(l.length:Int) else e i) u.du.length u.vo.length l.length h.toNat (by omega) (fun i hi=>rfl) ?_;conv=>whnf
  refine xB 3 0 1 [] (hnd.2 l (by omega)) ?_;rintro o n' cs' r ⟨l2,rfl,rfl,ho,hl2,rfl⟩;cases ho;have hl2:l2=l++jI (jZ u) b l.length:=hl2;have hsz:(jI (jZ u) b l.length).length<=zN b:=hnd.1 l.length
  have hl2':l2.length<=l.length+zN b:=by rw[hl2,xtw4];omega
  conv=>whnf
  have hem:=gF u l2 23 0 (by omega);refine xB 3 1 2 [] hem ?_;rintro o n' cs' r ⟨l3,rfl,rfl,ho,hl3,rfl⟩;cases ho;conv=>whnf
  refine jN j (by omega) ?_;conv=>whnf
  refine⟨(j+1,l3,fun i=>if i=h.toNat then(l.length:Int) else e i),jD [2] ?_,⟨show j+1<=u.on.length by omega,?_,?_,?_,?_⟩,show u.on.length-(j+1)<u.on.length-j by omega⟩
  ·conv=>whnf
   repeat' constructor
  ·rw[hl3,hl2];exact g2
  ·show l3.length+pP (u.on.drop (j+1))<=900000;rw[hl3,xtw4,xtw31];omega
  ·intro i hi
   simp only at hi
   rw[hl3,hl2] at hi;rcases xtw30.1 hi with hi|hi
   ·rcases xtw30.1 hi with hi|hi
    ·exact g4 i hi
    ·exact rJ (jZ u) b _ (by omega) i hi
   ·rw[xtw16.1 hi];exact⟨by simp,fun h=>by simp at h⟩
  ·intro i;show(if i=h.toNat then(l.length:Int) else e i)<(l3.length:Int);have g5i:=g5 i
   have:l3.length=l.length+(jI (jZ u) b l.length).length+1:=by rw[hl3,hl2,xtw4,xtw4,xtw31]
   split <;> omega
 rw[xtw0 (show ¬(j:Int)<(u.on.length:Int) by omega)]
 have hcm:o6 (jZ u) [] l e=yZ u:=by rw[<- g2,xtw51 hge]
 have hcl:l.length<=900000:=by omega
 unfold o6 at hcm;conv=>whnf
 unfold jcu u5;rw[<- hcm]
 simp only
 by_cases hbig:400<l.length
 ·rw[xtw1 (show(400:Int)<(l.length:Int) by omega)];conv=>whnf
  rw[xtw3 hbig,xtw2 (by decide)];rfl
 rw[xtw0 (show ¬(400:Int)<(l.length:Int) by omega)];rw[xtw2 hbig];conv=>whnf
 refine xM [0] ?_;conv=>whnf
 refine jA [2,4,63] ?_;conv=>whnf
 obtain⟨E,hE⟩:∃E,m8 l e 0 40=E:=⟨_,rfl⟩
 rw[hE];refine jE (fun j:Nat=>[(64,.v (.int .i64 j))]) (fun _=>[cO u,eG,pgL l e u.du.length u.vo.length,cO u++[.sl 2 l.length (qF l)]]) (fun _=>[]) (fun j=>j<=40/\m8 l e j (40-j)=E) (fun j=>40-j) 0 ?_ ⟨xtw19 _,hE⟩ ?_
 ·repeat' constructor
  done
 clear hE hge g1 g2 g3 hcm;clear j;rintro j ⟨hj,hE⟩;have hE:m8 l e j (40-j)=E:=hE;conv=>whnf
 rcases xtw36 j 40 with hlt|hge
 ·rw[xtw1 (show(j:Int)<40 by omega)];rw[show 40-j=(40-(j+1))+1 by omega] at hE;unfold m8 at hE;have hfo:=uH l e u.du.length u.vo.length (e j) (by omega) (by omega) (by omega) (fun i hi=>(g4 i hi).2) (fun i hi=>(g4 i hi).1) (g5 j);conv=>whnf
  refine⟨⟨show(0:Int)<=(j:Int) by omega,show(j:Int)<((40:Nat):Int) by omega⟩,intA (e j),jeD e j hlt,?_⟩;conv=>whnf
  refine jY [] hfo ?_;rintro r rfl;generalize kF l (e j)=f at hE;conv=>whnf
  by_cases h0:f=0
  ·rw[xtw1 h0];rw[xtw2 (fun h=>h h0)] at hE;conv=>whnf
   refine jN j (by omega) ?_;conv=>whnf
   refine⟨j+1,jD [] ?_,⟨show j+1<=40 by omega,hE⟩,show 40-(j+1)<40-j by omega⟩;conv=>whnf
   repeat' constructor
  rw[xtw0 h0];rw[xtw3 h0] at hE;conv=>whnf
  rw[<- hE,xtw2 h0];rfl
 obtain rfl:j=40:=by omega
 rw[xtw0 (show ¬((40:Nat):Int)<40 by omega)];obtain rfl:0=E:=hE;conv=>whnf
 rw[xtw3 rfl];rfl
theorem jrd(s:ByteArray)(hs:s.size<=1000000000)(u:Ut)(hp:eE s=.ok u)(hc:yH (toU u)=0):Spec Tryz.prog 21 [] [jJ s] fun _ r=>r=jcu u:=by
 have h1:=jbD s hs;rw[hp] at h1;unfold jdE at h1
 simp only at h1
 obtain⟨hu,hz⟩:=jkx hp;have h2:=joj u hu;rw[hc] at h2;have h3:=rK u hu (by omega);unfold jcu at h3 ⊢;refine eN jK jT 0 Tryz.func21 rfl ?_;intro _;conv=>whnf
 (refine jY [] h1 ?_;rintro r rfl;conv=>whnf)
 (refine jY [] h2 ?_;rintro r rfl;conv=>whnf)
 by_cases he:u5 u=0
 ·rw[xtw3 he] at h3 ⊢
  (refine jY [] h3 ?_;rintro r rfl;conv=>whnf)
  rfl
 ·rw[xtw2 he] at h3 ⊢
  (refine jY [] h3 ?_;rintro r rfl;conv=>whnf)
  rfl
def exS:ByteArray:=⟨#[100,117,114,97,98,108,101,32,120,59,32,111,110,32,115,116,97,114,116,32,123,32,120,32,61,32,49,32,43,32,50,59,32,125]⟩
def exX:ByteArray:=⟨#[120]⟩
def exU:Ut:=⟨[exX],[],[(0,.mk 11 0 eB [.mk 1 0 exX [.mk 18 0 bF [jtE 1,jtE 2]]])]⟩
def exI:List Ic:=[(1,1),(1,2),(6,0),(3,0),(23,0)]
def exE:Nat->Int:=fun j=>if j=0 then 0 else -1
theorem jrH:eE exS=.ok exU:=by kernel_rfl
theorem jp3:yH (toU exU)=0:=by kernel_rfl
theorem jp4:yZ exU=(exI,exE):=by kernel_rfl
theorem jp5:u5 exU=0:=by kernel_rfl
theorem jrI:jqc exI exE 1 0=0:=by kernel_rfl
theorem jmz:Spec Tryz.prog 21 [] [jJ exS] fun _ r=>r=.tup [sE exI exE 1 0,intA 0]:=by
 have h:=jrd exS (by decide) exU jrH jp3;unfold jcu at h;rw[jp5,jp4,xtw3 rfl] at h;exact h
def e2(j:Nat):Nat->Int:=fun i=>if 1<=i/\i<j then -1 else 0
theorem jiq:Spec Tryz.prog 17 [] [] fun _ r=>r=qA true:=by
 have h1:=jmz;have h2:=jdR exI exE 1 0 (by decide);have h3:=jhE exI exE 1 0 (by decide);rw[jrI] at h3
 have hpe:pgE exE 1 0=pgE (e2 40) 1 0:=jpA (fun i hi=>by
  unfold exE e2;by_cases h:i=0
  ·rw[xtw3 h,xtw2 (by omega)]
  ·rw[xtw2 h,xtw3 (by omega)]) 1 0
 have hpa:sE exI exE 1 0=sE exI (e2 40) 1 0:=by unfold sE pgL;rw[hpe]
 rw[show [sE exI exE 1 0,sE exI exE 1 0]=[sE exI exE 1 0,sE exI (e2 40) 1 0] by rw[<- hpa]] at h2;clear hpe hpa;refine eN jK jT 0 Tryz.func17 rfl ?_;intro _;conv=>whnf
 (refine jY [] h1 ?_;rintro r rfl;conv=>whnf)
 refine xM [0] ?_;conv=>whnf
 refine jA [1,2,3] ?_;conv=>whnf
 refine jE (fun j:Nat=>[(4,.v (.int .i64 j))]) (fun j=>[pgL exI exE 1 0,pgL exI (e2 j) 1 0]) (fun _=>[]) (fun j=>1<=j/\j<=40) (fun j=>40-j) 1 ?_ ⟨by omega,by omega⟩ ?_
 ·repeat' constructor
  unfold qF;rfl
 rintro j ⟨hj1,hj⟩;conv=>whnf
 rcases xtw36 j 40 with hlt|hge
 ·rw[xtw1 (show(j:Int)<40 by omega)];conv=>whnf
  refine⟨show(0:Int)<=(j:Int)/\(j:Int)<((40:Nat):Int) from ⟨by omega,by omega⟩,?_⟩;conv=>whnf
  refine lM (.sl 2 5 (qF exI)) (e2 j) (e2 (j+1)) 1 0 (-1) j hlt (fun i hi=>?_) ?_
  ·unfold e2;by_cases h:i=j
   ·rw[xtw3 h,xtw3 (by omega)]
   ·rw[xtw2 h];by_cases h2:1<=i/\i<j
    ·rw[xtw3 h2,xtw3 (by omega)]
    ·rw[xtw2 h2,xtw2 (by omega)]
  conv=>whnf
  refine jN j (by omega) ?_;conv=>whnf
  refine⟨j+1,jD [] ?_,⟨show 1<=j+1 by omega,show j+1<=40 by omega⟩,show 40-(j+1)<40-j by omega⟩;conv=>whnf
  repeat' constructor
 rw[xtw0 (show ¬(j:Int)<40 by omega)]
 obtain rfl:j=40:=by omega
 conv=>whnf
 (refine jY [] h2 ?_;rintro r rfl;conv=>whnf)
 (refine jY [] h3 ?_;rintro r rfl;conv=>whnf)
 rfl
theorem oU(x s:ByteArray):(x==s)=decide (x=s):=by
 cases x with
 |mk a=>cases s with
  |mk b =>
   show(a==b)=_;rw[Bool.eq_iff_iff,xtw17,beq_iff_eq];exact⟨fun h=>by rw[h],fun h=>by injection h⟩
theorem bJ(l:List ByteArray)(i:Nat)(hi:i<l.length):jC 1 i (xA l)=[jJ l[i]]:=wN jJ l i hi
theorem jh0(l:List ByteArray)(s:ByteArray)(hl:l.length<=1000000):Spec Tryz.prog 82 [] [.sl 1 l.length (xA l),jJ s] fun _ r=>r=intA (aA l s):=by
 refine eN jK jT 0 Tryz.func82 rfl ?_;intro _;conv=>whnf
 refine jA [0,1] ?_;conv=>whnf
 refine jE (fun j:Nat=>[(5,.v (.int .i64 j))]) (fun _=>[]) (fun _=>[]) (fun j=>j<=l.length/\∀i (h:i<l.length),i<j->(l[i]==s)=false) (fun j=>l.length-j) 0 ?_ ⟨xtw19 _,fun i h h2=>by omega⟩ ?_
 ·repeat' constructor
 rintro j ⟨hj,hn⟩;conv=>whnf
 rcases xtw36 j l.length with hlt|hge
 ·have hrow:=bJ l j hlt;rw[xtw1 (show(j:Int)<(l.length:Int) by omega)];conv=>whnf
  refine⟨show(0:Int)<=(j:Int)/\(j:Int)<(l.length:Nat) from ⟨by omega,by omega⟩,?_⟩;conv=>whnf
  (generalize hrq:jC _ _ (xA l)=rq;obtain rfl:rq=[jJ l[j]]:=hrq.symm.trans (hrow);clear hrq;conv=>whnf)
  by_cases he:l[j]=s
  ·rw[xtw1 he];rw[sG hlt (fun i h h2=>hn i h h2) (by rw[oU,he,xtw1 rfl])];conv=>whnf
   rfl
  rw[xtw0 he];conv=>whnf
  refine jN j (by omega) ?_;conv=>whnf
  refine⟨j+1,jD [] ?_,⟨show j+1<=l.length by omega,fun i h h2=>?_⟩,show l.length-(j+1)<l.length-j by omega⟩
  ·conv=>whnf
   repeat' constructor
  ·by_cases q:i=j
   ·subst q;rw[oU,xtw0 he]
   ·exact hn i h (by omega)
 rw[mI fun i h=>hn i h (by omega)];rw[xtw0 (show ¬(j:Int)<(l.length:Int) by omega)];conv=>whnf
 rfl
theorem jbJ:Spec Tryz.prog 83 [] [] fun _ r=>r=.sl 1 9 (xA builtL):=by
 refine eN jK jT 0 Tryz.func83 rfl ?_;intro _;conv=>whnf
 rfl
theorem jr9(s:ByteArray):aA builtL s=biF s:=by
 unfold aA biF;rw[show(fun x:ByteArray=>x==s)=fun x=>decide (x=s) from funext fun x=>oU x s]
 cases builtL.findIdx? (fun x=>decide (x=s)) <;> rfl
theorem u7(s:ByteArray)(h:(opBin.any fun x=>decide (s=x))=true):bY Tryz.prog 86 [jJ s] fun e k n cs r=>e=52/\k=2/\n=(opC s).length/\cs=qF (opC s)/\r=.own 0:=by
 have h:=jem h;unfold opBin at h;simp only[xtw13,xtw42,xtw81] at h;rcases h with rfl|rfl|rfl|rfl|rfl|rfl|rfl|rfl|rfl|rfl
 all_goals
  refine eNF jK jT Tryz.func86 rfl ?_;intro _;conv=>whnf
  refine⟨0,?_⟩;conv=>whnf
  exact⟨rfl,rfl,rfl,by unfold qF;rfl,rfl⟩
def jhL(l:List Ic)(e k n:Nat)(cs:List A)(r:A):Prop:=e=52/\k=2/\n=l.length/\cs=qF l/\r=.own 0
def yQ(u:Ut)(f:Nt):Prop:=∀at':Int,0<=at'->at'+zN f<=1000000->bY Tryz.prog 42 [.agg (cO u),.agg (ntA f),intA at'] (jhL (jI (jZ u) f at'))
theorem jsx(t:Nat)(l m:List Ic):Row.live t 2 (l.length+m.length) (qF l++qF m)=Row.live t 2 (l++m).length (qF (l++m)):=by rw[xtw4,kM]
theorem jlu(ix:ByteArray->Int)(l:List Nt)(j:Nat)(h:j<l.length)(at':Int):zX (jH ix (l.take (j+1))) at'=zX (jH ix (l.take j)) at'++jI ix l[j] (at'+(zX (jH ix (l.take j)) at').length):=by
 rw[xtw26 h,wU,wU,xtw59,List.map_singleton,tW]
theorem vE(u:Ut)(kids:List Nt)(hm:kids.length<=3002)(hf:∀f∈kids,zY u f)(hc:∀f∈kids,yQ u f)(at':Int)(h0:0<=at')(hz:at'+qX kids<=1000000):bY Tryz.prog 85 [.agg (cO u),.sl 4 kids.length (jQ kids),intA at'] (jhL (zX (jH (jZ u) kids) at')):=by
 have hsz:=fun j=>kX (u:=u) (kids.take j) at' fun f hf'=>hf f (xtw90 hf')
 refine eNF jtW jT Tryz.func85 rfl ?_;intro _;conv=>whnf
 refine qU 52 2 [7] [] ?_;conv=>whnf
 refine⟨trivial,?_⟩;conv=>whnf
 refine jA [1,2,3,7] ?_;conv=>whnf
 refine jE (fun j:Nat=>[(8,.v (.int .i64 j))]) (fun _=>[cO u]) (fun j=>[.live 52 2 (zX (jH (jZ u) (kids.take j)) at').length (qF (zX (jH (jZ u) (kids.take j)) at'))]) (fun j=>j<=kids.length) (fun j=>kids.length-j) 0 ?_ (xtw19 _) ?_
 ·repeat' constructor
  show Row.live _ 2 0 []=Row.live _ 2 0 (qF []);rw[rS]
 intro j hj;have hpre:=jhu kids j;have hszj:=hsz j;conv=>whnf
 rcases xtw36 j kids.length with hlt|hge
 ·have hrow:jC 4 j (jQ kids)=ntA kids[j]:=jR kids j hlt;have htk:=mW kids j hlt;have hnx:=jlu (jZ u) kids j hlt at';have hcj:=hc _ (xtw10 hlt);have hnj:=(hf _ (xtw10 hlt)).1;generalize kids[j]=f at hrow htk hnx hcj hnj
  obtain⟨l,hl⟩:∃l,zX (jH (jZ u) (kids.take j)) at'=l:=⟨_,rfl⟩
  rw[hl] at hszj hnx;have hcode:=hcj (at'+l.length) (by omega) (by omega);have hnl:=hnj (at'+l.length);generalize jI (jZ u) f (at'+l.length)=m at hcode hnx hnl;rw[hl];rw[xtw1 (show(j:Int)<(kids.length:Int) by omega)];conv=>whnf
  refine⟨show(0:Int)<=(j:Int)/\(j:Int)<(kids.length:Nat) from ⟨by omega,by omega⟩,?_⟩;conv=>whnf
  (generalize hrq:jC _ _ (jQ kids)=rq;obtain rfl:rq=ntA f:=hrq.symm.trans (hrow);clear hrq;conv=>whnf)
  refine⟨jG (by omega),?_⟩;conv=>whnf
  refine xH 1 [] rfl rfl (fun _=>hcode) ?_;rintro e k n cs r ⟨rfl,rfl,rfl,rfl,rfl⟩;conv=>whnf
  refine⟨⟨show l.length+m.length<=maxLen by unfold maxLen;omega,show(l.length+m.length)*16<=140737488355328 by omega⟩,?_⟩;conv=>whnf
  refine jN j (by omega) ?_;conv=>whnf
  refine⟨j+1,jD [0] ?_,show j+1<=kids.length by omega,show kids.length-(j+1)<kids.length-j by omega⟩;conv=>whnf
  rw[hnx];repeat' constructor
  exact jsx _ l m
 rw[xtw0 (show ¬(j:Int)<(kids.length:Int) by omega)];rw[xtw56 hge];conv=>whnf
 refine⟨0,?_⟩;conv=>whnf
 exact⟨rfl,rfl,rfl,rfl,rfl⟩
theorem jlf(u:Ut)(f:Nt)(hc:yQ u f)(n at':Int)(h0:0<=at')(hz:at'+zN f<=1000000):bY Tryz.prog 123 [.agg (cO u),.sl 4 1 (ntA f),intA n,intA at'] (jhL (jI (jZ u) f at')):=by
 have hcode:=hc at' h0 hz
 have hrow:jC 4 0 (ntA f)=ntA f:=by unfold jC;rfl
 generalize jI (jZ u) f at'=m at hcode;refine eNF jni jT Tryz.func123 rfl ?_;intro _;conv=>whnf
 refine⟨by decide,?_⟩;conv=>whnf
 (generalize hrq:jC _ _ (ntA f)=rq;obtain rfl:rq=ntA f:=hrq.symm.trans (hrow);clear hrq;conv=>whnf)
 refine xH 0 [] rfl rfl (fun _=>hcode) ?_;rintro e k n cs r ⟨rfl,rfl,rfl,rfl,rfl⟩;conv=>whnf
 refine⟨0,?_⟩;conv=>whnf
 exact⟨rfl,rfl,rfl,rfl,rfl⟩
theorem jle(u:Ut)(n at':Int):bY Tryz.prog 123 [.agg (cO u),.v (.slice none 0 0),intA n,intA at'] (jhL [(1,n)]):=by
 refine eNF jni jT Tryz.func123 rfl ?_;intro _;conv=>whnf
 refine⟨0,?_⟩;conv=>whnf
 exact⟨rfl,rfl,rfl,by unfold qF;rfl,rfl⟩
def joF(u:Ut)(a:A)(n:Int)(g:Int->List Ic)(z:Nat):Prop:=(∀at':Int,(g at').length<=z)/\∀at':Int,0<=at'->at'+z<=1000000->bY Tryz.prog 123 [.agg (cO u),a,intA n,intA at'] (jhL (g at'))
theorem p7(u:Ut)(f:Nt)(hf:zY u f)(hc:yQ u f)(n:Int):joF u (.sl 4 1 (ntA f)) n (jI (jZ u) f) (zN f):=⟨hf.1,fun at' h0 hz=>jlf u f hc n at' h0 hz⟩
theorem jfv(u:Ut)(n:Int):joF u (.v (.slice none 0 0)) n (fun _=>[(1,n)]) 1:=⟨fun _=>xtw11 _,fun at' h0 hz=>jle u n at'⟩
theorem fH(u:Ut)(c:Nt)(hf:zY u c)(hc:yQ u c)(ya na:A)(n:Int)(y m:Int->List Ic)(zy zm:Nat)(hy:joF u ya n y zy)(hn:joF u na n m zm)(hya:(∃cs,ya=.sl 4 1 cs)∨ya=.v (.slice none 0 0))(hna:(∃cs,na=.sl 4 1 cs)∨na=.v (.slice none 0 0))(at':Int)(h0:0<=at')(hz:at'+(zN c+zy+zm+2:Nat)<=1000000):bY Tryz.prog 84 [.agg (cO u),.agg (ntA c),ya,na,intA n,intA at'] (jhL (rG (jI (jZ u) c) y m at')):=by
 have hcode:=hc at' h0 (by omega);have hcl:=hf.1 at';unfold rG
 simp only
 generalize jI (jZ u) c at'=l at hcode hcl;have hyc:=hy.2 (at'+l.length+1) (by omega) (by omega);have hyl:=hy.1 (at'+l.length+1);generalize y (at'+l.length+1)=a at hyc hyl;have hnc:=hn.2 (at'+l.length+1+a.length+1) (by omega) (by omega);have hnl:=hn.1 (at'+l.length+1+a.length+1);generalize m (at'+l.length+1+a.length+1)=b at hnc hnl;simp only[ntA] at hcode;rcases hya with ⟨cy,rfl⟩|rfl
 all_goals rcases hna with ⟨cn,rfl⟩|rfl
 all_goals
  refine eNF jK jT Tryz.func84 rfl ?_;intro _;conv=>whnf
  refine xH 0 [] rfl rfl (fun _=>hcode) ?_;rintro e k n cs r ⟨rfl,rfl,rfl,rfl,rfl⟩;conv=>whnf
  refine⟨jG (by omega),?_⟩;conv=>whnf
  refine⟨jG (by omega),?_⟩;conv=>whnf
  refine xH 1 [] rfl rfl (fun _=>hyc) ?_;rintro e k n cs r ⟨rfl,rfl,rfl,rfl,rfl⟩;conv=>whnf
  refine⟨jG (by omega),?_⟩;conv=>whnf
  refine⟨jG (by omega),?_⟩;conv=>whnf
  refine⟨jG (by omega),?_⟩;conv=>whnf
  refine⟨jG (by omega),?_⟩;conv=>whnf
  refine xH 2 [] rfl rfl (fun _=>hnc) ?_;rintro e k n cs r ⟨rfl,rfl,rfl,rfl,rfl⟩;conv=>whnf
  refine⟨⟨by unfold maxLen;omega,by omega⟩,?_⟩;conv=>whnf
  refine⟨⟨by unfold maxLen;omega,by omega⟩,?_⟩;conv=>whnf
  refine⟨jG (by omega),?_⟩;conv=>whnf
  refine⟨⟨by unfold maxLen;omega,by omega⟩,?_⟩;conv=>whnf
  refine⟨⟨by unfold maxLen;omega,by omega⟩,?_⟩;conv=>whnf
  refine⟨0,?_⟩;conv=>whnf
  refine⟨rfl,rfl,?_,?_,rfl⟩
  ·simp only[xtw4,xtw6];omega
  ·rw[kM,gH,kM,gH];simp only[icA,xtw40,xtw61,xtw53];rfl
theorem fK(u:Ut)(hu:WfU u)(s:ByteArray):Spec Tryz.prog 67 [] [.agg (cO u),jJ s] fun _ r=>r=intA (jZ u s):=by
 have hdv:=hu.du
 obtain⟨R,hR⟩:∃R,jZ u s=R:=⟨_,rfl⟩
 rw[hR];unfold jZ vR at hR;refine eN jK jT 0 Tryz.func67 rfl ?_;intro _;conv=>whnf
 refine jA [1,2] ?_;conv=>whnf
 refine jE (fun j:Nat=>[(5,.v (.int .i64 j))]) (fun _=>[cO u]) (fun _=>[]) (fun j=>j<=u.du.length/\∀i (h:i<u.du.length),i<j->(u.du[i]==s)=false) (fun j=>u.du.length-j) 0 ?_ ⟨xtw19 _,fun i h h2=>by omega⟩ ?_
 ·repeat' constructor
 rintro j ⟨hj,hn⟩;conv=>whnf
 rcases xtw36 j u.du.length with hlt|hge
 ·have hrow:=bJ u.du j hlt;rw[xtw1 (show(j:Int)<(u.du.length:Int) by omega)];conv=>whnf
  refine⟨show(0:Int)<=(j:Int)/\(j:Int)<(u.du.length:Nat) from ⟨by omega,by omega⟩,?_⟩;conv=>whnf
  (generalize hrq:jC _ _ (xA u.du)=rq;obtain rfl:rq=[jJ u.du[j]]:=hrq.symm.trans (hrow);clear hrq;conv=>whnf)
  by_cases he:u.du[j]=s
  ·rw[xtw1 he];have hp:=sG hlt (fun i h h2=>hn i h h2) (show(u.du[j]==s)=true by rw[oU,he,xtw1 rfl]);rw[hp,xtw3 (by omega)] at hR;conv=>whnf
   rw[<- hR];rfl
  rw[xtw0 he];conv=>whnf
  refine jN j (by omega) ?_;conv=>whnf
  refine⟨j+1,jD [] ?_,⟨show j+1<=u.du.length by omega,fun i h h2=>?_⟩,show u.du.length-(j+1)<u.du.length-j by omega⟩
  ·conv=>whnf
   repeat' constructor
  ·by_cases q:i=j
   ·subst q;rw[oU,xtw0 he]
   ·exact hn i h (by omega)
 have m1:=mI (l:=u.du) (s:=s) fun i h=>hn i h (by omega)
 rw[xtw0 (show ¬(j:Int)<(u.du.length:Int) by omega)];clear hn hj hge;conv=>whnf
 rw[m1,xtw2 (by omega)] at hR;refine jA [1,2] ?_;conv=>whnf
 refine jE (fun j:Nat=>[(6,.v (.int .i64 j))]) (fun _=>[cO u]) (fun _=>[]) (fun j=>j<=u.vo.length/\∀i (h:i<u.vo.length),i<j->(u.vo[i]==s)=false) (fun j=>u.vo.length-j) 0 ?_ ⟨xtw19 _,fun i h h2=>by omega⟩ ?_
 ·repeat' constructor
 rintro j ⟨hj,hn⟩;conv=>whnf
 rcases xtw36 j u.vo.length with hlt|hge
 ·have hrow:=bJ u.vo j hlt;rw[xtw1 (show(j:Int)<(u.vo.length:Int) by omega)];conv=>whnf
  refine⟨show(0:Int)<=(j:Int)/\(j:Int)<(u.vo.length:Nat) from ⟨by omega,by omega⟩,?_⟩;conv=>whnf
  (generalize hrq:jC _ _ (xA u.vo)=rq;obtain rfl:rq=[jJ u.vo[j]]:=hrq.symm.trans (hrow);clear hrq;conv=>whnf)
  by_cases he:u.vo[j]=s
  ·rw[xtw1 he];have hp:=sG hlt (fun i h h2=>hn i h h2) (show(u.vo[j]==s)=true by rw[oU,he,xtw1 rfl]);rw[hp,xtw3 (by omega)] at hR;conv=>whnf
   refine⟨jG (by omega),?_⟩;conv=>whnf
   rw[<- hR];rfl
  rw[xtw0 he];conv=>whnf
  refine jN j (by omega) ?_;conv=>whnf
  refine⟨j+1,jD [] ?_,⟨show j+1<=u.vo.length by omega,fun i h h2=>?_⟩,show u.vo.length-(j+1)<u.vo.length-j by omega⟩
  ·conv=>whnf
   repeat' constructor
  ·by_cases q:i=j
   ·subst q;rw[oU,xtw0 he]
   ·exact hn i h (by omega)
 have m2:=mI (l:=u.vo) (s:=s) fun i h=>hn i h (by omega)
 rw[xtw0 (show ¬(j:Int)<(u.vo.length:Int) by omega)];clear hn hj hge;conv=>whnf
 rw[m2,xtw2 (by omega)] at hR;rw[<- hR];rfl
theorem jeT(l:List Nt)(k:Nat)(hk:k<l.length):((jQ l).drop (k*4)).take (1*4)=ntA l[k]:=by
 have h:=jR l k hk;unfold jC at h;rw[Nat.one_mul];exact h
def q9(u:Ut)(k n:Int)(s:ByteArray)(kids:List Nt)(l:List Ic)(at':Int):Prop:=bY Tryz.prog 42 [.agg (cO u),.agg [intA k,intA n,jJ s,.sl 4 kids.length (jQ kids)],intA at'] (jhL l)
theorem jmd(u:Ut)(k n:Int)(s:ByteArray)(kids:List Nt)(at':Int)(hk:k=12∨k=13):q9 u k n s kids [(1,n)] at':=by
 rcases hk with rfl|rfl
 all_goals
  unfold q9;refine eNF vT jT Tryz.func42 rfl ?_;intro _;conv=>whnf
  refine⟨0,?_⟩;conv=>whnf
  exact⟨rfl,rfl,rfl,by unfold qF;rfl,rfl⟩
theorem jrx(u:Ut)(n:Int)(s:ByteArray)(kids:List Nt)(at':Int):q9 u 5 n s kids [(18,n)] at':=by
 unfold q9;refine eNF vT jT Tryz.func42 rfl ?_;intro _;conv=>whnf
 refine⟨0,?_⟩;conv=>whnf
 exact⟨rfl,rfl,rfl,by unfold qF;rfl,rfl⟩
theorem jrn(u:Ut)(n:Int)(s:ByteArray)(kids:List Nt)(at':Int):q9 u 6 n s kids [(19,n)] at':=by
 unfold q9;refine eNF vT jT Tryz.func42 rfl ?_;intro _;conv=>whnf
 refine⟨0,?_⟩;conv=>whnf
 exact⟨rfl,rfl,rfl,by unfold qF;rfl,rfl⟩
theorem jrw(u:Ut)(n:Int)(s:ByteArray)(kids:List Nt)(at':Int):q9 u 7 n s kids [(20,0)] at':=by
 unfold q9;refine eNF vT jT Tryz.func42 rfl ?_;intro _;conv=>whnf
 refine⟨0,?_⟩;conv=>whnf
 exact⟨rfl,rfl,rfl,by unfold qF;rfl,rfl⟩
theorem jrv(u:Ut)(n:Int)(s:ByteArray)(kids:List Nt)(at':Int):q9 u 10 n s kids [(23,0)] at':=by
 unfold q9;refine eNF vT jT Tryz.func42 rfl ?_;intro _;conv=>whnf
 refine⟨0,?_⟩;conv=>whnf
 exact⟨rfl,rfl,rfl,by unfold qF;rfl,rfl⟩
theorem jry(u:Ut)(hu:WfU u)(n:Int)(s:ByteArray)(kids:List Nt)(at':Int):q9 u 14 n s kids [(2,jZ u s)] at':=by
 have hix:=fK u hu s;unfold q9;refine eNF vT jT Tryz.func42 rfl ?_;intro _;conv=>whnf
 refine jY [] hix ?_;rintro r rfl;conv=>whnf
 refine⟨0,?_⟩;conv=>whnf
 exact⟨rfl,rfl,rfl,by unfold qF;rfl,rfl⟩
theorem jrr(u:Ut)(n:Int)(s:ByteArray)(kids:List Nt)(at':Int):q9 u 15 n s kids [(4,biF s)] at':=by
 have hbu:=jbJ;have hfi:=jh0 builtL s (by decide);rw[jr9] at hfi;unfold q9;refine eNF vT jT Tryz.func42 rfl ?_;intro _;conv=>whnf
 refine jY [] hbu ?_;rintro r rfl;conv=>whnf
 refine jY [] hfi ?_;rintro r rfl;conv=>whnf
 refine⟨0,?_⟩;conv=>whnf
 exact⟨rfl,rfl,rfl,by unfold qF;rfl,rfl⟩
theorem jrm(u:Ut)(n:Int)(s:ByteArray)(kids:List Nt)(hm:kids.length<=3002)(hf:∀f∈kids,zY u f)(hc:∀f∈kids,yQ u f)(at':Int)(h0:0<=at')(hz:at'+qX kids<=1000000):q9 u 11 n s kids (zX (jH (jZ u) kids) at') at':=by
 have hsq:=vE u kids hm hf hc at' h0 hz;generalize zX (jH (jZ u) kids) at'=l at hsq;unfold q9;refine eNF vT jT Tryz.func42 rfl ?_;intro _;conv=>whnf
 refine xH 0 [] rfl rfl (fun _=>hsq) ?_;rintro e k n cs r ⟨rfl,rfl,rfl,rfl,rfl⟩;conv=>whnf
 refine⟨0,?_⟩;conv=>whnf
 exact⟨rfl,rfl,rfl,rfl,rfl⟩
theorem jrq(u:Ut)(n:Int)(s:ByteArray)(c y m:Nt)(h1:zY u c/\yQ u c)(h2:zY u y/\yQ u y)(h3:zY u m/\yQ u m)(at':Int)(h0:0<=at')(hz:at'+(zN c+zN y+zN m+2:Nat)<=1000000):q9 u 2 n s [c,y,m] (rG (jI (jZ u) c) (jI (jZ u) y) (jI (jZ u) m) at') at':=by
 have hb:=fH u c h1.1 h1.2 _ _ 0 _ _ _ _ (p7 u y h2.1 h2.2 0) (p7 u m h3.1 h3.2 0) (.inl ⟨_,rfl⟩) (.inl ⟨_,rfl⟩) at' h0 hz;generalize rG (jI (jZ u) c) (jI (jZ u) y) (jI (jZ u) m) at'=l at hb;have hr0:jC 4 0 (jQ [c,y,m])=ntA c:=jR [c,y,m] 0 (by simp);unfold q9;refine eNF vT jT Tryz.func42 rfl ?_;intro _;conv=>whnf
 refine⟨⟨by decide,show(0:Int)<((3:Nat):Int) by decide⟩,?_⟩;conv=>whnf
 (generalize hrq:jC _ _ (jQ [c,y,m])=rq;obtain rfl:rq=ntA c:=hrq.symm.trans (hr0);clear hrq;conv=>whnf)
 refine⟨⟨by decide,by decide,show(2:Int)<=((3:Nat):Int) by decide⟩,?_⟩;have e1:Int.toNat 2-Int.toNat 1=1:=rfl;have e2:List.take (1*4) (List.drop (Int.toNat 1*4) (jQ [c,y,m]))=ntA y:=jeT [c,y,m] 1 (by simp);rw[e1,e2];conv=>whnf
 refine⟨⟨by decide,by decide,show(3:Int)<=((3:Nat):Int) by decide⟩,?_⟩;have e3:Int.toNat 3-Int.toNat 2=1:=rfl;have e4:List.take (1*4) (List.drop (Int.toNat 2*4) (jQ [c,y,m]))=ntA m:=jeT [c,y,m] 2 (by simp);rw[e3,e4];conv=>whnf
 refine xH 0 [] rfl rfl (fun _=>hb) ?_;rintro e k n cs r ⟨rfl,rfl,rfl,rfl,rfl⟩;conv=>whnf
 refine⟨0,?_⟩;conv=>whnf
 exact⟨rfl,rfl,rfl,rfl,rfl⟩
end Go.Proofs.YtfbifdccmabdbaaGreatDoor.Vm
