/- Part 4 of the proof. -/
import Derived.Test.YtfbifdccmabdbaaGreatDoorW3
import Derived.RangeFuncBox
import Derived.RangeFuncLeaves
import Derived.WalkKit
import Derived.OwnWalkIn
import Derived.TacticsInMore
import Derived.LoopNIn
import Derived.LoopIn
import Derived.Maps.AppendAt
import Derived.Lib.IndexMore
import Derived.Shelf.Lay
import Derived.Shelf.Strings.Search3
import Derived.Ground.NamesProg
import Derived.Shelf.SlIterI.Nil
import Derived.Shelf.SortM.Plain
import Derived.Shelf.SortM.SortNone
set_option maxRecDepth 100000
set_option linter.unusedSimpArgs false
set_option linter.unusedVariables false
set_option linter.unusedSectionVars false
set_option maxHeartbeats 4000000
namespace Go.Proofs.YtfbifdccmabdbaaGreatDoor.Vm
open Go.RowKit
attribute [local go_sem] Oper.semAt_some
theorem nW{F:Fence}{n:Nat}{P:Program}(w:World){ops:Array Oper}{rest:List Oper}{o:Oper}{a:Act}{Q:Exit->Act->World->Prop}
  (hg:o.guard=none) (s x:Operand) (t:TypeId) (hop:o.op=Op.call { callee:=Callee.builtin Builtin.append,args := #[s,x],argTypes := #[t,t] })
  (base:Nat) (e:TypeId) (i:TypeInfo) (z:Value) (size bytes:Nat) (h1:P.underlying t=some (.slice e)) (h2:P.info? e=some i) (h3:i.zero=some z) (h4:i.size=size) (h5:i.bytes=bytes) (h6:z.cells.size=size) (h7:0<size)
  (v:Value) (k:Nat) (xs:List Value) (hs:a.eval s=v) (hown:w.ownsRow base e size v k xs) (ad:Addr) (m c:Nat) (news:List Value) (hx:a.eval x=.slice (some ad) m c) (hn:news.length=m*size)
  (hc:∀j u,news[j]?=some u->w.cell? (ad.add j)=some u) (h1c:∀u∈news,u.oneCell'=true) (b1:k+m<=maxLen) (b2:(k+m)*bytes<=140737488355328) (b3:base<=w.heap.size)
  (hK:∀v' w',w'.ownsRow base e size v' (k+m) (xs++news)->w.grownBy w' v.ownBlock->(v'.ownBlock=v.ownBlock∨v'.ownBlock=some w.heap.size)->wpListIn F n P ops Q rest (a.put o.dst v') w') :
  wpListIn F n P ops Q (o::rest) a w:=by
 refine wpListIn_plain hg fun K hK'=>?_
 obtain⟨v',w',hrun,r1,r2,r3⟩:=lI (P:=P) w base t o.type e i z size bytes h1 h2 h3 h4 h5 h6 h7 v k xs hown (some ad) m c news hn (fun e=>by cases e) (fun a e=>by cases e;exact hc) h1c b1 b2 b3;unfold Oper.wpIn;refine⟨?_,?_⟩
 ·simp[Oper.about,hop,resolve,Target.leads,Sem.run_pure]
 ·rw[Oper.semAt_plain F _ _ (by rw[hop];intro c hc';cases hc')];simp[execOp,hop,resolve,invoke,builtin,hs,hx,hrun,Result.andThen];exact hK' _ _ (hK v' w' r1 r2 r3)
theorem jaI(W:World)(a b c d:Value)(T:TypeId):∀(j:Nat) (u:Value),[a,b,c,d][j]?=some u->(W.alloc (.cells #[a,b,c,d] T)).cell? ((⟨W.heap.size,0,none⟩:Addr).add j)=some u:=fun j u h=>by
 have e:(⟨W.heap.size,0,none⟩:Addr).add j=⟨W.heap.size,j,none⟩:=by unfold Addr.add;split <;> simp_all
 rw[e];have:=World.alloc_heap_new W (.cells #[a,b,c,d] T);simp only[World.cell?,this];simpa using h
def tkV(t:Tk):List Value:=[.int .i64 t.kind,.int .i64 t.pos,.string t.text,.int .i64 t.n]
def pR(l:List Tk):List Value:=l.flatMap tkV
theorem jpc:(Tryz.prog.info? 162).map (fun i=>(i.zero,i.size,i.bytes))=some (some (.agg #[.int .i64 0,.int .i64 0,.string ⟨#[]⟩,.int .i64 0]),4,40):=by kernel_rfl
theorem jpO(s:ByteArray)(hs:s.size<=1000000000)(m:Nat)(w1:World)(C:Rd)(hg:Gok C w1)(hsub:Sub C (kR w1)):CallsIn Fence.wide m Tryz.prog 131 #[.string s] w1 fun e w2 =>
  ∃us:Array Value,e=.returned (.func (.func 149) #[] us)/\Keeps [] w1 w2/\A.repL [.pp [.v (.string s)],.pp (qL classOf)] ⟨qY C w1 w2,[],[]⟩ us.toList:=by
 refine callsIn_wide.2 (((jls s).2 w1 C [] [.string s] hg hsub xtw92 (by simp) rfl (fun i b cs hb=>by simp at hb) ?_).mono ?_)
 ·exact⟨_,_,rfl,A.rep_v (by show s.size<=maxLen;exact jmU hs),rfl⟩
 ·rintro e w2 ⟨outs,r,v,rfl,rfl,hk,_,_,hv⟩;unfold A.rep at hv;obtain⟨us,rfl,hus⟩:=hv;exact⟨us,rfl,hk,hus⟩
theorem jl0{W w1:World}{n₀ B g n k:Nat}{t e:TypeId}{y:Value}{cap m:Nat}{xs ys:List Value}{tmp:Obj}(c5:Boxed W B t y)(hrow:W.ownsRow n₀ e 4 y k xs)(hgrow:(W.alloc tmp).grownBy w1 y.ownBlock)(hw:(Value.slice (some ⟨g,0,none⟩) m cap).ownBlock=y.ownBlock∨(Value.slice (some ⟨g,0,none⟩) m cap).ownBlock=some (W.alloc tmp).heap.size)
  (hv2:Boxed (w1.setCell ⟨B,0,none⟩ (.slice (some ⟨g,0,none⟩) m cap)) B t (.slice (some ⟨g,0,none⟩) m cap)) (hr2:(w1.setCell ⟨B,0,none⟩ (.slice (some ⟨g,0,none⟩) m cap)).ownsRow n₀ e 4 (.slice (some ⟨g,0,none⟩) m cap) n ys):KpB B W (w1.setCell ⟨B,0,none⟩ (.slice (some ⟨g,0,none⟩) m cap)):=fun hv=>by
 have hsz:W.heap.size<=(w1.setCell ⟨B,0,none⟩ (.slice (some ⟨g,0,none⟩) m cap)).heap.size:=by
  have h1:=hgrow.size;have h2:=(grownBy_setCell' w1 B (.slice (some ⟨g,0,none⟩) m cap)).size;rw[World.size_alloc] at h1;omega
 have hg2:∀b,dS B (w1.setCell ⟨B,0,none⟩ (.slice (some ⟨g,0,none⟩) m cap)) b->b=B∨b=g:=fun b hb=>by
  rcases hb with hb|⟨a,l,c,h1,h2⟩
  ·exact .inl hb
  ·rw[hv2.cell] at h1;cases h1;exact .inr h2.symm
 have hgl:g<(w1.setCell ⟨B,0,none⟩ (.slice (some ⟨g,0,none⟩) m cap)).heap.size:=by
  rcases hr2.2 with ⟨h,_⟩|⟨g2,cap2,cur,h,_,hgb,_⟩
  ·cases h
  ·cases h;exact vP hgb
 have hyg:∀b,y.ownBlock=some b->dS B W b:=fun b hb=>by
  rcases hrow.2 with ⟨rfl,_⟩|⟨g2,cap2,cur,rfl,_,hgb,_⟩
  ·simp[Value.ownBlock] at hb
  ·exact .inr ⟨_,_,_,c5.cell,by simpa [Value.ownBlock] using hb⟩
 refine⟨⟨⟨_,hv2,rfl⟩,fun b hb=>?_⟩,hsz,fun b hb=>?_,fun b o hb ho hn=>?_⟩
 ·rcases hg2 b hb with rfl|rfl
  ·exact hv2.lt
  ·exact hgl
 ·rcases hg2 b hb with rfl|rfl
  ·exact .inl (.inl rfl)
  ·rcases hw with hw|hw
   ·exact .inl (hyg _ (by rw[<- hw];simp[Value.ownBlock]))
   ·have:b=W.heap.size+1:=by simpa [Value.ownBlock] using hw
    exact .inr (by omega)
 ·have h1:(W.alloc tmp).heap[b]?=some o:=(Below.heap_alloc _ _ _ (vP hb)).trans hb;have h2:w1.heap[b]?=some o:=(hgrow.block b (vP h1) fun e=>hn (hyg b e.symm)).trans h1;refine((grownBy_setCell' w1 B _).block b (vP h2) fun e=>hn (.inl ?_)).trans h2;cases e;rfl
def jsW(w:World)(pre:List It)(W:World):Prop:=(∀x∈pre,clE x.err=0)/\Boxed W w.heap.size 138 (.slice none 0 0)/\Boxed W (w.heap.size+1) 3 (.int .i64 0)/\Boxed W (w.heap.size+1+1) 32 (.int .i64 0) ∧
 (∃y,Boxed W (w.heap.size+1+1+1) 138 y/\W.ownsRow w.heap.size 162 4 y pre.length (pR (pre.map It.tok)))/\Below w.heap.size w W
def jsX(w:World)(c:Code)(pre:List It)(W:World):Prop:=c=.ret/\∃q x,pre=q++[x]/\clE x.err≠0/\W.cell? ⟨w.heap.size,0,none⟩=some (.slice none 0 0)/\W.cell? ⟨w.heap.size+1,0,none⟩=some (.int .i64 (clP x.pos:Nat))/\W.cell? ⟨w.heap.size+1+1,0,none⟩=some (.int .i64 (clE x.err))/\Below w.heap.size w W
def jsM(s:ByteArray)(us:Array Value)(w:World)(x:It)(b6 b7:Nat):Array Value :=
 #[.string s,undef,.pointer (some ⟨w.heap.size,0,none⟩),.pointer (some ⟨w.heap.size+1,0,none⟩),.pointer (some ⟨w.heap.size+1+1,0,none⟩),.pointer (some ⟨w.heap.size+1+1+1,0,none⟩),.pointer (some ⟨b6,0,none⟩),.pointer (some ⟨b7,0,none⟩),.string s,.func (.func 149) #[] us,
  jlA x.tok,.agg #[.int .i64 (clP x.pos:Nat),.int .i64 (clE x.err)],undef,undef,undef,undef,undef,undef,undef,undef,undef,undef,undef,undef,undef,undef,undef,undef,undef]
def jqX(s:ByteArray)(us:Array Value)(w:World)(x:It)(a':Act)(W:World):Prop:=∃b6 b7,a'={ tmps:=jsM s us w x b6 b7,defers:=[] }/\W.heap[b6]?=some (.cells (tkV x.tok).toArray 162 (0,0))/\W.heap[b7]?=some (.cells #[.int .i64 (clP x.pos:Nat),.int .i64 (clE x.err)] 164 (0,0))
theorem aJ{X Y:World}{row:Option Nat}{b B:Nat}{o:Obj}(h:X.heap[b]?=some o)(ho:o.isCells=true)(hg:X.grownBy Y row)(hrow:∀r,row=some r->B<=r/\∃o:Obj,X.heap[r]?=some o/\o.isCells=false):Y.heap[b]?=some o:=by
 refine(hg.block b (vP h) fun e=>?_).trans h;obtain⟨_,o2,h1,h2⟩:=hrow b e.symm;rw[h] at h1;cases h1;rw[ho] at h2;cases h2
theorem joo(s:ByteArray)(us:Array Value)(w:World)(x:It)(a':Act)(B:Nat):OwnFrom B (fun(_:Unit) W=>jqX s us w x a' W):=by
 rintro _ X Y row ⟨b6,b7,e,h1,h2⟩ hg hrow;exact⟨b6,b7,e,aJ h1 rfl hg hrow,aJ h2 rfl hg hrow⟩
theorem jcd(w:World)(B:Nat)(hB:w.heap.size<=B):OwnFrom B (jsW w):=by
 rintro pre X Y row ⟨e,h1,h2,h3,⟨y,h4,h5⟩,h6⟩ hg hrow;refine⟨e,aJ h1 rfl hg hrow,aJ h2 rfl hg hrow,aJ h3 rfl hg hrow,⟨y,aJ h4 rfl hg hrow,h5.kept hg ?_⟩,h6.grown hg h6.size fun k e=>by have:=(hrow k e).1;omega⟩;rcases h5.2 with ⟨rfl,_⟩|⟨g,cap,cur,rfl,_,hgb,_⟩
 ·exact .inl rfl
 ·refine .inr fun e'=>?_
  obtain⟨_,o,ho,hc⟩:=hrow g (by simpa [Value.ownBlock] using e'.symm);rw[hgb] at ho;cases ho;cases hc
theorem oW{X Y:World}{row:Option Nat}{a:Addr}{v:Value}{B:Nat}(h:X.cell? a=some v)(hg:X.grownBy Y row)(hrow:∀r,row=some r->B<=r/\∃o:Obj,X.heap[r]?=some o/\o.isCells=false):Y.cell? a=some v:=cell_kept h hg fun r e=>(hrow r e).2
theorem joq(w:World)(B:Nat)(hB:w.heap.size<=B)(c:Code):OwnFrom B (jsX w c):=by
 rintro pre X Y row ⟨e,q,x,e2,e3,h1,h2,h3,h6⟩ hg hrow;exact⟨e,q,x,e2,e3,oW h1 hg hrow,oW h2 hg hrow,oW h3 hg hrow,h6.grown hg h6.size fun k e=>by have:=(hrow k e).1;omega⟩
theorem vS:∀(f p:Nat) (l:List UInt8),(vI f p l).toks.length<=l.length/\∀q e,(vI f p l).err=some (q,e)->q<=p+l.length/\e≠0/\0<=e/\e<=100
 |0,p,l=>by simp[vI]
 |f+1,p,[]=>by simp[vI]
 |f+1,p,c::r=>by
  rw[vI];split
  ·obtain⟨h1,h2⟩:=vS f (p+1+jF kP r) (r.drop (jF kP r));have hle:=xN kP r;rw[xtw28] at h1 h2;refine⟨by simp;omega,fun q e h=>?_⟩;obtain⟨h3,h4⟩:=h2 q e h;exact⟨by simp;omega,h4⟩
  ·split
   ·obtain⟨h1,h2⟩:=vS f (p+1) r;refine⟨by simp;omega,fun q e h=>?_⟩;obtain⟨h3,h4⟩:=h2 q e h;exact⟨by simp;omega,h4⟩
   ·cases ht:qD (c::r) with
    |bad e =>
     refine⟨by simp,fun q e' h=>?_⟩;cases h;exact⟨by simp,jhw ht,jhx ht⟩
    |tok k len n =>
     have hl:=bN ht;obtain⟨h1,h2⟩:=vS f (p+len) ((c::r).drop len);rw[xtw28] at h1 h2;refine⟨by simp only[Lx.cons,xtw6] at hl h1 ⊢;omega,fun q e h=>?_⟩;obtain⟨h3,h4⟩:=h2 q e h;exact⟨by omega,h4⟩
theorem jme{e:Int}(h:0<=e/\e<=100):clE e=e:=xtw3 h
theorem jq1{l:List UInt8}{k:Int}{len:Nat}{n:Int}(h:qD l=.tok k len n):(1<=k/\k<=3)/\0<=n/\n<=2147483647:=by
 cases l with
 |nil=>simp[qD] at h
 |cons c r =>
  cases hL:isL c
  ·cases hD:wA c
   ·cases h3:qC pS (bs ((c::r).take 2))
    ·cases h4:qC tN (bs [c])
     ·simp only[qD,hL,hD,h3,h4] at h;cases h
     ·simp only[qD,hL,hD,h3,h4] at h;cases h;decide
    ·simp only[qD,hL,hD,h3] at h;cases h;decide
   ·simp only[qD,hL,hD] at h;have hm:=jcj (c::r.take (jF wA r)) 0 (by omega);split at h
    ·cases h
    ·rename_i hv;cases h;exact⟨by decide,by omega,hm⟩
  ·simp only[qD,hL] at h;split at h
   ·cases h
   ·cases h;decide
def jpY(t:Tk):Prop:=(1<=t.kind/\t.kind<=3)/\t.pos<=1000000000/\t.text.size<=1000000000/\0<=t.n/\t.n<=2147483647
theorem mF:∀(f p:Nat) (l:List UInt8),p+l.length<=1000000000->∀t∈(vI f p l).toks,jpY t
 |0,p,l,_=>by simp[vI]
 |f+1,p,[],_=>by simp[vI]
 |f+1,p,c::r,hp=>by
  rw[vI];simp only[xtw6] at hp;split
  ·have hle:=xN kP r;exact mF f _ _ (by rw[xtw28];omega)
  ·split
   ·exact mF f _ _ (by omega)
   ·cases ht:qD (c::r) with
    |bad e=>simp
    |tok k len n =>
     have hl:=bN ht;have hk:=jq1 ht;simp only[xtw6] at hl;intro t hm;simp only[Lx.cons,xtw13] at hm;rcases hm with rfl|hm
     ·exact⟨hk.1,by show p<=_;omega,by show(bs ((c::r).take len)).size<=_;rw[gR,xtw38];simp;omega,hk.2⟩
     ·exact mF f _ _ (by rw[xtw28];simp;omega) t hm
theorem jom{E:Env}{t:Tk}(h:jpY t∨t.kind=0/\t.pos<=1000000000/\t.text.size=0/\t.n=0):A.repC (cT t) E (tkV t):=by
 have h2:(0<=t.kind/\t.kind<=3)/\t.pos<=1000000000/\t.text.size<=1000000000/\0<=t.n/\t.n<=2147483647:=by
  rcases h with ⟨h1,h2,h3,h4⟩|⟨h1,h2,h3,h4⟩
  ·exact⟨by omega,h2,h3,h4⟩
  ·exact⟨by omega,h2,by omega,by omega⟩
 obtain⟨h1,h3,h4,h5⟩:=h2;exact⟨_,_,rfl,rfl,A.rep_v (okV_int.2 (jG (by omega))),_,_,rfl,rfl,A.rep_v (okV_int.2 (jG (by omega))),_,_,rfl,rfl,A.rep_v (jmU h4),_,_,rfl,rfl,A.rep_v (okV_int.2 (jG (by omega))),rfl⟩
theorem jkt{E:Env}:∀{l:List Tk},(∀t∈l,jpY t)->A.repC (z8 l) E (pR l)
 |[],_=>by simp[z8,pR,A.repC]
 |t::l,h=>by
  have:z8 (t::l)=cT t++z8 l:=rfl;rw[this,show pR (t::l)=tkV t++pR l from rfl];exact A.repC_append (jom (.inl (h t (by simp)))) (jkt fun u hu=>h u (by simp[hu]))
theorem jr5{s:ByteArray}{ys:List It}(h:bX s ys)(hp:∀x∈ys,clE x.err=0):(qM s).err=none/\ys=(qM s).toks.map itOk:=by
 unfold bX at h;split at h
 ·rename_i he;exact⟨he,h⟩
 ·rename_i q e he;obtain⟨t,rfl⟩:=h;have h1:=(vS _ _ _).2 q e he;have h2:=hp ⟨t,q,e⟩ (by simp)
  simp only at h2
  rw[jme h1.2.2] at h2;exact absurd h2 h1.2.1
theorem jo1{s:ByteArray}(hs:s.size<=1000000000){pre:List It}{x:It}(h:oP s (pre++[x]))(hx:clE x.err≠0):(qM s).err=some (x.pos,x.err)/\clP x.pos=x.pos/\clE x.err=x.err:=by
 obtain⟨ys,h1,h2⟩:=h;have hm:x∈ys:=h2.subset (by simp)
 have hit:∀t:Tk,(itOk t).err=0:=fun _=>rfl
 have hz:clE 0=0:=rfl;unfold bX at h1;split at h1
 ·subst h1;obtain⟨t,_,rfl⟩:=xtw60.1 hm;exact absurd hz hx
 ·rename_i q e he;obtain⟨t,rfl⟩:=h1;rcases xtw30.1 hm with hm|hm
  ·obtain⟨t,_,rfl⟩:=xtw60.1 hm;exact absurd hz hx
  ·obtain rfl:x=⟨t,q,e⟩:=by simpa using hm
   have h3:=(vS _ _ _).2 q e he;have hsl:=zQ s;exact⟨he,(show clP q=q from xtw3 (by omega)),jme h3.2.2⟩
theorem jjr{p q:Prop}(h:p)(k:q):p/\q:=⟨h,k⟩
def lH(s:ByteArray):List Tk:=match (qM s).err with|some _=>[]|none=>(qM s).toks++[rN s]
theorem gO{s:ByteArray}(h:(qM s).err=none):lH s=(qM s).toks++[rN s]:=by unfold lH;rw[h]
theorem jdQ{s:ByteArray}{p:Nat×Int}(h:(qM s).err=some p):lH s=[]:=by unfold lH;rw[h]
def jpK(s:ByteArray):Int×Int:=match (qM s).err with|some (p,e)=>(p,e)|none=>(0,0)
structure jsV(s:ByteArray)(w W':World)(v:Value):Prop where
 ex:∃y,v=.tuple #[y,.int .i64 (jpK s).1,.int .i64 (jpK s).2]/\W'.ownsRow w.heap.size 162 4 y (lH s).length (pR (lH s))
set_option maxRecDepth 100000 in
theorem jlC(s:ByteArray)(hs:s.size<=1000000000)(w:World)(C:Rd)(hg:Gok C w)(hsub:Sub C (kR w)) :
  CallsIn Fence.wide 5 Tryz.prog 100 #[.string s] w fun e W'=>∃v,e=.returned v/\Below w.heap.size w W'/\(tI s).rep ⟨qY C w W',[],[]⟩ v/\jsV s w W' v:=by
 obtain⟨i0,hi,hz0,hz1,hz2⟩:=info_parts jpc;refine callsIn_of_wp_marks Tryz.func100 rfl trivial ?_;simp only[Tryz.ntmps100,xtw32,xtw6,xtw8,Nat.reduceAdd,Nat.reduceSub,Array.replicate_succ,Array.replicate_zero,List.push_toArray,List.append_toArray,xtw53,xtw61]
 obtain⟨W0,hW0⟩:∃W0,W0=(((w.alloc (.cells #[.slice none 0 0] 138)).alloc (.cells #[.int .i64 0] 3)).alloc (.cells #[.int .i64 0] 32)).alloc (.cells #[.slice none 0 0] 138):=⟨_,rfl⟩
 have kp0:Keeps [] w W0:=by
  rw[hW0];exact(((Keeps.alloc w _).trans (Keeps.alloc _ _)).trans (Keeps.alloc _ _)).trans (Keeps.alloc _ _)
 have hsub0:Sub C (kR W0):=fun ad u hc=>kp0.cell (hsub ad u hc) (by simp)
 have hg0:Gok C W0:=hg.keep kp0 (by simp);have hF:Fence.wide.fn 131:=trivial
 gi_wp2_with (gi_at_call 131;rw[<- hW0];refine(jpO s hs _ W0 C hg0 hsub0).mono ?_;rintro e w2 ⟨us,rfl,hk,hus⟩)
 have hsz0:W0.heap.size=w.heap.size+1+1+1+1:=by rw[hW0];simp
 have hB2:Below w.heap.size w w2:=by
  have:Below w.heap.size w W0:=by
   rw[hW0];exact((((Below.refl _ w).alloc (xtw11 _) _).alloc (by simp) _).alloc (by simp;omega) _).alloc (by simp;omega) _
  exact this.trans ((Keeps.ext hk).mono (by omega))
 have bx2:Boxed w2 w.heap.size 138 (.slice none 0 0):=(hk.block _ (by omega) (by simp)).trans (by rw[hW0];exact(((Boxed.new w _ _).alloc _).alloc _).alloc _);have bx3:Boxed w2 (w.heap.size+1) 3 (.int .i64 0):=(hk.block _ (by omega) (by simp)).trans (by rw[hW0];have:=Boxed.new (w.alloc (.cells #[.slice none 0 0] 138)) 3 (.int .i64 0);rw[World.size_alloc] at this;exact(this.alloc _).alloc _);have bx4:Boxed w2 (w.heap.size+1+1) 32 (.int .i64 0):=(hk.block _ (by omega) (by simp)).trans (by rw[hW0];have:=Boxed.new ((w.alloc (.cells #[.slice none 0 0] 138)).alloc (.cells #[.int .i64 0] 3)) 32 (.int .i64 0);rw[World.size_alloc,World.size_alloc] at this;exact this.alloc _);have bx5:Boxed w2 (w.heap.size+1+1+1) 138 (.slice none 0 0):=(hk.block _ (by omega) (by simp)).trans (by rw[hW0];have:=Boxed.new (((w.alloc (.cells #[.slice none 0 0] 138)).alloc (.cells #[.int .i64 0] 3)).alloc (.cells #[.int .i64 0] 32)) 138 (.slice none 0 0);rw[World.size_alloc,World.size_alloc,World.size_alloc] at this;exact this)
 have hown:∀b,dS (w.heap.size+1+1+1) w2 b->b=w.heap.size+1+1+1:=by
  rintro b (e|⟨a,l,c,h1,h2⟩)
  ·exact e
  ·rw[bx5.cell] at h1;cases h1
 have hval:ValB (w.heap.size+1+1+1) w2:=⟨⟨_,bx5,rfl⟩,fun b hb=>by have:=hown b hb;have:=hk.size;omega⟩
 have hplus:Sub C (qY C W0 w2):=fun ad u hc=>by
  unfold qY;rw[xtw3 (qI W0 ad (hsub0 ad u hc))];exact hc
 have hseq:=jh7 s hs (5-1) (w.heap.size+1+1+1) us w2 (qY C W0 w2) hval (dU hsub0 (Y:=[]) (fun b hb=>by simp at hb) hk) ((hg0.keep hk (by simp)).mono hplus) (fun ad u hc ho=>by
  have e:=hown _ ho;unfold qY at hc;rw[xtw3 (by omega)] at hc;have:=qI w ad (hsub ad u hc)
  omega) hus
 refine wpIn_rangeFunc_ownH rfl (by decide) (gf:=149) (lb:=us) rfl trivial (enters_of Tryz.func149 (by kernel_rfl) rfl) hseq (fun h k=>h.trans k) (fun W l o o' _ h1 h2 h3=>KpB.put W l o o' h1 (jmN h2 h3)) (Below.refl _ _) (fun _=>rfl)
  (jsW w) (jsX w) (jcd w _ hB2.size) (fun c=>joq w _ hB2.size c) ⟨by simp,bx2,bx3,bx4,⟨_,bx5,World.ownsRow_nil _ _ _ _⟩,hB2⟩ (jqX s us w) (fun x a'=>joo s us w x a' _) ?assign ?body ?done ?stop
 case assign =>
  rintro l pre ⟨tk,xp0,xe0⟩ W K hI hK;simp only[jmv,jlA];simp only[jqX,jsM] at hK;generalize clP xp0=xp at *;generalize clE xe0=xe at *
  gi_wp2
  refine hK _ _ (((KeepsOthers.alloc W _).trans (KeepsOthers.alloc _ _)).from _) (KpB.keeps ((Keeps.alloc W _).trans (Keeps.alloc _ _))) ((jcd w _ (xtw11 _)).alloc _ ((jcd w _ (xtw11 _)).alloc _ hI)) ⟨_,_,rfl,?_,?_⟩
  ·exact(Below.heap_alloc _ _ _ (by simp)).trans (World.alloc_heap_new W _)
  ·have:=World.alloc_heap_new (W.alloc (.cells (tkV tk).toArray 162)) (.cells #[.int .i64 xp,.int .i64 xe] 164);rw[World.size_alloc] at this;exact this
 case body =>
  rintro l pre ⟨tk,xp0,xe0⟩ a' W hBl hrec ⟨hpre,c2,c3,c4,⟨y,c5,hrow⟩,hB⟩ ⟨b6,b7,rfl,hb6,hb7⟩ hlt;have hcy:=c5.cell;simp only[jsM,jlA,tkV] at hb6 hb7 ⊢;have hxpr:=jjB xp0;have hxer:=jjA xe0
  obtain⟨xp,hxp⟩:∃xp,xp=clP xp0:=⟨_,rfl⟩
  obtain⟨xe,hxe0⟩:∃xe,xe=clE xe0:=⟨_,rfl⟩
  rw[<- hxp] at hb7 hxpr ⊢;rw[<- hxe0] at hb7 hxer ⊢
  have d70:W.cell? ⟨b7,0,none⟩=some (.int .i64 xp):=by simp[World.cell?,hb7]
  have d71:W.cell? ⟨b7,1,none⟩=some (.int .i64 xe):=by simp[World.cell?,hb7]
  have d60:W.cell? ⟨b6,0,none⟩=some (.int .i64 tk.kind):=by simp[World.cell?,hb6]
  have d61:W.cell? ⟨b6,1,none⟩=some (.int .i64 tk.pos):=by simp[World.cell?,hb6]
  have d62:W.cell? ⟨b6,2,none⟩=some (.string tk.text):=by simp[World.cell?,hb6]
  have d63:W.cell? ⟨b6,3,none⟩=some (.int .i64 tk.n):=by simp[World.cell?,hb6]
  have hmL:pre.length+1<=maxLen:=by unfold maxLen;omega
  have hrow':=hrow.alloc (.cells #[.int .i64 tk.kind,.int .i64 tk.pos,.string tk.text,.int .i64 tk.n] 162);have hBs:=hB.size;by_cases hxe:xe=0
  ·rw[hxe] at hxe0 hb7 d71 ⊢
   gi_wp2_with (gi_at_builtin;refine nW _ rfl _ _ 138 rfl w.heap.size 162 i0 _ 4 40 Tryz.underlying138 hi hz0 hz1 hz2 rfl (by decide) y pre.length (pR (pre.map It.tok)) rfl hrow' ⟨W.heap.size,0,none⟩ 1 1 (tkV tk) rfl rfl (jaI _ _ _ _ _ _) (by simp[Value.oneCell',tkV]) hmL (by omega) (by simp;omega) ?_;intro v' w1 hown' hgrow hwhere;obtain⟨g',cap',rfl⟩:=ownsRow_succ hown';obtain⟨hv1,hv2,hr2,hk2,hb2⟩:=c5.appended (by decide) hrow hB.size (by omega) hown' hgrow;have hc1:=hv1.cell;have hf1:=hv1.frozen)
   have keep:∀{b T v},Boxed W b T v->T≠162->b≠w.heap.size+1+1+1->Boxed (w1.setCell ⟨w.heap.size+1+1+1,0,none⟩ (.slice (some ⟨g',0,none⟩) (pre.length+1) cap')) b T v:=fun h hT hb =>
    ((h.alloc _).kept hgrow (h.not_row hT hrow)).kept (grownBy_setCell' _ _ _) (fun e=>hb (by cases e;rfl))
   refine⟨hk2.from _,jl0 c5 hrow hgrow hwhere hv2 hr2,fun x hx=>?_,keep c2 (by decide) (by omega),keep c3 (by decide) (by omega),keep c4 (by decide) (by omega),⟨_,hv2,?_⟩,hB.trans hb2⟩
   ·rcases xtw30.1 hx with hx|hx
    ·exact hpre x hx
    ·obtain rfl:x=⟨tk,xp0,xe0⟩:=by simpa using hx
     exact hxe0.symm
   ·have:pR ((pre++[(⟨tk,xp0,xe0⟩:It)]).map It.tok)=pR (pre.map It.tok)++tkV tk:=by simp[pR]
    rw[this,xtw4];exact hr2
  ·gi_wp2
   rename_i K1 hK1 hb1 K2 hK2;have hc:(Cx.mk Tryz.prog tab jng (fun _=>[0,1,2]) 3 (fun _ _=>False)).okN:=jml jng (fun _=>[0,1,2]) 3
   obtain⟨C0,hC0⟩:∃C0:Rd,C0=fun ad=>if ad.block=b7 then kR W ad else C ad:=⟨_,rfl⟩
   have hsubW:Sub C (kR W):=fun ad u h=>(aC (w:=w) (hB.block _ (qI w ad (hsub ad u h)))).trans (hsub ad u h)
   have hgW:Gok C W:=hg.keep (Keeps.of_ext hB) (by simp)
   have hs0:Sub C0 (kR W):=fun ad u h=>by
    rw[hC0] at h
    simp only at h
    split at h
    ·exact h
    ·exact hsubW ad u h
   have hC:Sub C C0:=fun ad u h=>by
    rw[hC0]
    simp only
    split
    ·exact hsubW ad u h
    ·exact h
   have hne:∀{b T v},Boxed W b T v->T≠164->b≠b7:=fun h hT e=>by
    rw[e] at h;have:=h.symm.trans hb7;simp only[xtw76,Obj.cells.injEq] at this;exact hT this.2.1
   have hnone:∀b,b≠b7->w.heap.size<=b->∀o sp,C0 ⟨b,o,sp⟩=none:=fun b hb hw o sp=>by
    rw[hC0];simp only[xtw2 hb]
    cases h:C ⟨b,o,sp⟩ with
    |none=>rfl
    |some u =>
     have:b<w.heap.size:=qI w _ (hsub _ u h);omega
   have hpp:(A.pp [.v (.int .i64 xp),.v (.int .i64 xe)]).rep ⟨C0,[w.heap.size,w.heap.size+1,w.heap.size+1+1],[]⟩ (.pointer (some ⟨b7,0,none⟩)):=by
    unfold A.rep;refine⟨b7,0,rfl,⟨.int .i64 xp,?_,rfl,A.rep_v (okV_int.2 (jG (by omega)))⟩,⟨.int .i64 xe,?_,rfl,A.rep_v (okV_int.2 (jG (by omega)))⟩,trivial⟩
    ·rw[hC0];exact(xtw3 rfl).trans d70
    ·rw[hC0];exact(xtw3 rfl).trans d71
   have hinv:=fun(a:Act) ht hd=>jrU (a:=a) (C0:=C0) (W:=W) (β:=[w.heap.size,w.heap.size+1,w.heap.size+1+1]) (bx:=[[.v (.slice none 0 0)],[.v (.int .i64 0)],[.v (.int .i64 0)]]) (t:=[.dead,.dead,.box 0 0,.box 1 0,.box 2 0,.dead,.dead,.pp [.v (.int .i64 xp),.v (.int .i64 xe)],.dead,.dead,.dead,.dead,.dead,.dead,.dead,.dead,.dead,.dead,.dead,.dead,.dead,.dead,.dead,.dead,.dead,.dead,.dead,.dead,.dead]) (hgW.mono hC) hs0 (by simp;omega) (fun b hb=>by
     simp only[xtw13,xtw42,xtw81] at hb;rcases hb with rfl|rfl|rfl
     ·exact hnone _ (hne c2 (by decide)) (by omega)
     ·exact hnone _ (hne c3 (by decide)) (by omega)
     ·exact hnone _ (hne c4 (by decide)) (by omega)) rfl (fun i b cs h1 h2=>by
     match i,h1,h2 with
     |0,h1,h2=>cases h1;cases h2;exact jew c2 trivial
     |1,h1,h2=>cases h1;cases h2;exact jew c3 (okV_int.2 (jG (by omega)))
     |2,h1,h2=>cases h1;cases h2;exact jew c4 (okV_int.2 (jG (by omega)))
     |n+3,h1,h2=>simp at h1) ht hd
   refine jlk hc (hinv _ ?_ ?_) rfl rfl (by kernel_rfl) rfl ?_
   ·exact⟨_,_,rfl,A.rep_dead _ _,_,_,rfl,A.rep_dead _ _,_,_,rfl,(by unfold A.rep;exact⟨_,rfl,rfl⟩),_,_,rfl,(by unfold A.rep;exact⟨_,rfl,rfl⟩),_,_,rfl,(by unfold A.rep;exact⟨_,rfl,rfl⟩),_,_,rfl,A.rep_dead _ _,_,_,rfl,A.rep_dead _ _,_,_,rfl,hpp,_,_,rfl,A.rep_dead _ _,_,_,rfl,A.rep_dead _ _,_,_,rfl,A.rep_dead _ _,_,_,rfl,A.rep_dead _ _,_,_,rfl,A.rep_dead _ _,_,_,rfl,A.rep_dead _ _,_,_,rfl,A.rep_dead _ _,_,_,rfl,A.rep_dead _ _,_,_,rfl,A.rep_dead _ _,_,_,rfl,A.rep_dead _ _,_,_,rfl,A.rep_dead _ _,_,_,rfl,A.rep_dead _ _,_,_,rfl,A.rep_dead _ _,_,_,rfl,A.rep_dead _ _,_,_,rfl,A.rep_dead _ _,_,_,rfl,A.rep_dead _ _,_,_,rfl,A.rep_dead _ _,_,_,rfl,A.rep_dead _ _,_,_,rfl,A.rep_dead _ _,_,_,rfl,A.rep_dead _ _,_,_,rfl,A.rep_dead _ _,rfl⟩
   ·rfl
   conv=>whnf
   refine⟨rfl,fun a9 w9 hi9=>hK2 _ _ (wpIn_ret ?_)⟩;have h90:=jaz hi9 (i:=0) rfl rfl;have h91:=jaz hi9 (i:=1) rfl rfl;have h92:=jaz hi9 (i:=2) rfl rfl
   have hk9:Keeps [w.heap.size,w.heap.size+1,w.heap.size+1+1] W w9:=by obtain⟨E,hp,_,_⟩:=hi9;exact hp.keep
   refine⟨⟨hk9.size,fun b o hb h1 h2=>(hk9.block b (vP h1) fun hm=>?_).trans h1⟩,rfl,pre,_,rfl,by rw[<- hxe0];exact hxe,h90,by rw[<- hxp];exact h91,by rw[<- hxe0];exact h92,hB.trans ⟨hk9.os,hk9.tape,hk9.output,hk9.size,fun b hb=>hk9.block b (by omega) fun hm=>?_⟩⟩
   ·have hnc:∀{T v},Boxed W b T v->False:=fun h=>by
     have:=h.symm.trans h1;cases this;cases h2
    simp only[xtw13,xtw42,xtw81] at hm;rcases hm with rfl|rfl|rfl
    ·exact hnc c2
    ·exact hnc c3
    ·exact hnc c4
   ·simp only[xtw13,xtw42,xtw81] at hm;omega
 case done =>
  rintro D ys W hD hS ⟨hpre,c2,c3,c4,⟨y,c5,hrow⟩,hB⟩ hK;have hcy:=c5.cell;have hc2:=c2.cell;have hc3:=c3.cell;have hc4:=c4.cell;have hf2:=c2.frozen;have hf3:=c3.frozen;have hf4:=c4.frozen;have hrow':=hrow.alloc (.cells #[.int .i64 0,.int .i64 s.size,.string ⟨#[]⟩,.int .i64 0] 162);have hBs:=hB.size;obtain⟨herr,hys⟩:=jr5 hS hpre
  have hyl:ys.length<=s.size:=by
   rw[hys,xtw44];have:=(vS (s.data.toList.length+1) 0 s.data.toList).1;have hsl:=zQ s;exact xtw58 this (by omega)
  have hmL:ys.length+1<=maxLen:=by unfold maxLen;omega
  clear hcy hc2 hc3 hc4 hf2 hf3 hf4;have hcy:=c5.cell
  gi_wp2_with (gi_at_builtin;refine nW _ rfl _ _ 138 rfl w.heap.size 162 i0 _ 4 40 Tryz.underlying138 hi hz0 hz1 hz2 rfl (by decide) y ys.length (pR (ys.map It.tok)) rfl hrow' ⟨W.heap.size,0,none⟩ 1 1 (tkV (rN s)) rfl rfl (jaI _ _ _ _ _ _) (by simp[Value.oneCell',tkV]) hmL (by omega) (by simp;omega) ?_;intro v' w1 hown' hgrow hwhere;obtain⟨g',cap',rfl⟩:=ownsRow_succ hown';have k2:=(c2.alloc _).kept hgrow (c2.not_row (by decide) hrow);have k3:=(c3.alloc _).kept hgrow (c3.not_row (by decide) hrow);have k4:=(c4.alloc _).kept hgrow (c4.not_row (by decide) hrow);have hc2:=k2.cell;have hc3:=k3.cell;have hc4:=k4.cell;have hf2:=k2.frozen;have hf3:=k3.frozen;have hf4:=k4.frozen)
  have n25:w.heap.size≠w.heap.size+1:=by omega
  have hkD:w1.heap[D]?=some (.deferred (some [])):=by
   refine(hgrow.block D ?_ fun e=>?_).trans ((Below.heap_alloc _ _ _ (vP hK)).trans hK)
   ·have:=vP hK;rw[World.size_alloc];omega
   ·rcases hrow.2 with ⟨rfl,_⟩|⟨g,cap,cur,rfl,_,hgb,_⟩
    ·simp[Value.ownBlock] at e
    ·obtain rfl:D=g:=by simpa [Value.ownBlock] using e
     rw[hK] at hgb;cases hgb
  have hB1:Below w.heap.size W w1:=by
   refine((Below.refl w.heap.size W).alloc hBs _).grown hgrow (by simp;omega) fun j ej=>?_
   rcases hrow.2 with ⟨rfl,_⟩|⟨g,cap,cur,rfl,hb,_,_⟩
   ·simp[Value.ownBlock] at ej
   ·obtain rfl:g=j:=by simpa [Value.ownBlock] using ej
    exact hb
  have e1:w.heap.size≠w.heap.size+1:=by omega
  have e2:w.heap.size≠w.heap.size+1+1:=by omega
  have e3:w.heap.size+1≠w.heap.size+1+1:=by omega
  have hyn:ys.length=(qM s).toks.length:=by rw[hys,xtw44]
  rw[hyn] at hown';generalize hv':Value.slice (some ⟨g',0,none⟩) ((qM s).toks.length+1) cap'=v' at *;have o1:=hown'.kept (grownBy_setCell' w1 w.heap.size v') (.inr (k2.not_row (by decide) hown').symm);have k3a:=k3.other e1.symm v';have o2:=o1.kept (grownBy_setCell' _ (w.heap.size+1) (.int .i64 0)) (.inr (k3a.not_row (by decide) o1).symm);have k4b:=(k4.other e2.symm v').other e3.symm (.int .i64 0);have o3:=o2.kept (grownBy_setCell' _ (w.heap.size+1+1) (.int .i64 0)) (.inr (k4b.not_row (by decide) o2).symm);have x2:=((k2.set v').other e1 (.int .i64 0)).other e2 (.int .i64 0);have x3:=(k3a.set (.int .i64 0)).other e3 (.int .i64 0);have x4:=k4b.set (.int .i64 0);have hB3:=((hB1.setCell (p:=⟨w.heap.size,0,none⟩) (xtw11 _) v').setCell (p:=⟨w.heap.size+1,0,none⟩) (by simp) (.int .i64 0)).setCell (p:=⟨w.heap.size+1+1,0,none⟩) (by simp;omega) (.int .i64 0)
  have hDl:w.heap.size+1+1+1<D:=by have:=hk.size;omega
  have hD3:=(Below.heap_setCell _ ⟨w.heap.size+1+1,0,none⟩ (.int .i64 0) D (by simp;omega)).trans ((Below.heap_setCell _ ⟨w.heap.size+1,0,none⟩ (.int .i64 0) D (by simp;omega)).trans ((Below.heap_setCell _ ⟨w.heap.size,0,none⟩ v' D (by simp;omega)).trans hkD));generalize ((w1.setCell ⟨w.heap.size,0,none⟩ v').setCell ⟨w.heap.size+1,0,none⟩ (.int .i64 0)).setCell ⟨w.heap.size+1+1,0,none⟩ (.int .i64 0)=W3 at *;refine⟨by simp,.inl ⟨_,_,rfl,run_takeDeferred hD3,?_⟩⟩;have hg3:=grownBy_putObj' W3 D (.deferred none)
  have hr3:∀r,some D=some r->∃o:Obj,W3.heap[r]?=some o/\o.isCells=false:=fun r e=>by cases e;exact⟨_,hD3,rfl⟩
  have y2:=cell_kept x2.cell hg3 hr3;have y3:=cell_kept x3.cell hg3 hr3;have y4:=cell_kept x4.cell hg3 hr3;have o4:=ownsRow_putObj o3 (.deferred none) hD3 rfl;have hB4:=(hB.trans hB3).trans (belowK_b (w:=w) (xtw11 _) W3 D _ (.deferred none) (by omega) hD3 rfl rfl);generalize W3.putObj D (.deferred none)=W4 at *;refine⟨.tuple #[v',.int .i64 0,.int .i64 0],jgY jc6 rfl rfl rfl rfl rfl rfl rfl rfl rfl rfl y2 y3 y4,_,rfl,hB4,?_⟩
  have hxs0:ys.map It.tok=(qM s).toks:=by rw[hys,xtw88];exact List.map_id'' (fun _=>rfl) _
  refine jjr ?_ ⟨⟨v',by unfold jpK;rw[herr],by rw[gO herr,xtw4,xtw31];rw[hxs0] at o4;rw[show pR ((qM s).toks++[rN s])=pR (qM s).toks++tkV (rN s) by simp[pR]];exact o4⟩⟩
  have hlx:tI s=.tup [.sl 4 ((qM s).toks.length+1) (z8 (qM s).toks++cT (rN s)),intA 0,intA 0]:=by unfold tI;rw[herr];simp[z8]
  rw[hlx];unfold A.rep;refine⟨_,rfl,_,_,rfl,?_,_,_,rfl,A.rep_v (okV_int.2 (jG (by omega))),_,_,rfl,A.rep_v (okV_int.2 (jG (by omega))),rfl⟩
  have hxs:ys.map It.tok=(qM s).toks:=by rw[hys,xtw88];exact List.map_id'' (fun _=>rfl) _
  have hsl:=zQ s
  have htl:∀l:List Tk,(z8 l).length=l.length*4:=fun l=>by
   induction l with
   |nil=>rfl
   |cons t l ih=>rw[show z8 (t::l)=cT t++z8 l from rfl,xtw4,ih,xtw6];simp only[cT,xtw6,xtw8];omega
  rw[hxs] at o4;rcases o4.2 with ⟨h,_⟩|⟨g,cap,cur,hv4,hbg,hgb,hnc,hcm,hcs,htk⟩
  ·rw[<- hv'] at h;cases h
  ·unfold A.rep;refine⟨by rw[xtw4,htl];simp only[cT,xtw6,xtw8];omega,by rw[hyn] at hmL;exact hmL,some ⟨g,0,none⟩,g,0,cap,hv4,hnc,.inr rfl,(fun e=>by simp at e),?_⟩
   refine A.repAt_mk (A.repC_append (jkt (mF _ _ _ (by omega))) (jom (.inr ⟨rfl,by show s.size<=_;omega,rfl,rfl⟩))) fun j u hj=>?_
   show qY C w W4 ⟨g,0+j,none⟩=some u;rw[jbC hbg,xtw41];simp only[World.cell?,hgb];have hj2:(pR (qM s).toks++tkV (rN s))[j]?=some u:=hj;rw[<- htk,xtw83] at hj2;split at hj2
   ·simpa using hj2
   ·cases hj2
 case stop =>
  rintro D c pre W hD hSp ⟨rfl,q,x,rfl,hx,h2,h3,h4,hB⟩ hK;obtain⟨herr,hxp,hxe⟩:=jo1 hs hSp hx
  gi_wp2
  refine⟨by simp,.inl ⟨_,_,rfl,run_takeDeferred hK,?_⟩⟩;have hg3:=grownBy_putObj' W D (.deferred none)
  have hr3:∀r,some D=some r->∃o:Obj,W.heap[r]?=some o/\o.isCells=false:=fun r e=>by cases e;exact⟨_,hK,rfl⟩
  have g2:=cell_kept h2 hg3 hr3;have g3:=cell_kept h3 hg3 hr3;have g4:=cell_kept h4 hg3 hr3;refine⟨.tuple #[.slice none 0 0,.int .i64 (clP x.pos:Nat),.int .i64 (clE x.err)],?_,_,rfl,hB.trans (belowK_b (w:=w) (xtw11 _) W D _ _ (by have:=hB2.size;omega) hK rfl rfl),?_⟩
  ·exact jgY jc6 rfl rfl rfl rfl rfl rfl rfl rfl rfl rfl g2 g3 g4
  ·refine jjr ?_ ⟨⟨.slice none 0 0,by unfold jpK;rw[herr,hxp,hxe],by rw[jdQ herr];exact World.ownsRow_nil _ _ _ _⟩⟩
   have hlx:tI s=.tup [.v (.slice none 0 0),intA x.pos,intA x.err]:=by unfold tI;rw[herr]
   have hr1:=jjB x.pos;have hr2:=jjA x.err;rw[hlx,hxp,hxe];rw[hxp] at hr1;rw[hxe] at hr2;unfold A.rep;exact⟨_,rfl,_,_,rfl,A.rep_v trivial,_,_,rfl,A.rep_v (okV_int.2 (jG (by omega))),_,_,rfl,A.rep_v (okV_int.2 (jG (by omega))),rfl⟩
theorem jhy(s:ByteArray)(hs:s.size<=1000000000):Spec Tryz.prog 100 [] [.v (.string s)] fun _ r=>r=tI s:=by
 refine lO (eQ Tryz.func100 rfl (by kernel_rfl)) fun w C vals hg hsub hv=>?_
 obtain⟨u,us,rfl,h1,h2⟩:=hv;have e1:=(A.rep_v_iff.1 h1).1;obtain rfl:us=[]:=h2;subst e1;refine(callsIn_wide.1 (jlC s hs w C hg hsub)).mono ?_;rintro e w' ⟨v,rfl,hB,hr,_⟩;exact⟨v,rfl,hB,hr⟩
theorem jpL(s:ByteArray)(hs:s.size<=1000000000):∀t∈lH s,jpY t∨t.kind=0/\t.pos<=1000000000/\t.text.size=0/\t.n=0:=fun t ht=>by
 cases he:(qM s).err with
 |some p=>rw[jdQ he] at ht;cases ht
 |none =>
  rw[gO he] at ht;rcases xtw30.1 ht with h|h
  ·exact .inl (mF _ _ _ (by have:=zQ s;omega) t h)
  ·obtain rfl:=xtw16.1 h;exact .inr ⟨rfl,hs,rfl,rfl⟩
section
mutual
inductive Wk:A->A->Prop
 |refl (a:A):Wk a a
 |nil (k:Nat):Wk (.v (.slice none 0 0)) (.sl k 0 [])
 |dead (a:A):Wk a .dead
 |sl (k n:Nat) {cs ds:List A} (h:WkL cs ds):Wk (.sl k n cs) (.sl k n ds)
 |pp {cs ds:List A} (h:WkL cs ds):Wk (.pp cs) (.pp ds)
 |agg {cs ds:List A} (h:WkL cs ds):Wk (.agg cs) (.agg ds)
 |tup {cs ds:List A} (h:WkL cs ds):Wk (.tup cs) (.tup ds)
inductive WkL:List A->List A->Prop
 |nil:WkL [] []
 |cons {a b:A} {xs ys:List A} (h:Wk a b) (k:WkL xs ys):WkL (a::xs) (b::ys)
end
theorem WkL.refl:∀l:List A,WkL l l
 |[]=>.nil
 |a::l=>.cons (.refl a) (WkL.refl l)
theorem WkL.app{a b c d:List A}(h:WkL a b)(k:WkL c d):WkL (a++c) (b++d):=by
 induction a generalizing b with
 |nil=>cases h;exact k
 |cons x a ih=>cases h with|cons h1 h2=>exact .cons h1 (ih h2)
theorem WkL.length{a b:List A}(h:WkL a b):a.length=b.length:=by
 induction a generalizing b with
 |nil=>cases h;rfl
 |cons x a ih=>cases h with|cons h1 h2=>simp[ih h2]
mutual
theorem jji:∀{a b:A} {E:Env} {y:Value},Wk a b->a.rep E y->b.rep E y
 |_,_,_,_,.refl _,k=>k
 |_,_,_,_,.nil _,k=>jn4 k
 |_,_,_,_,.dead _,_=>A.rep_dead _ _
 |_,_,_,_,.sl k n h,r=>by
  unfold A.rep at r ⊢;obtain⟨h1,h2,p,b,off,cap,h3,h4,h6,h7,h8⟩:=r;exact⟨by rw[<- h.length];exact h1,h2,p,b,off,cap,h3,h4,h6,h7,jjh h h8⟩
 |_,_,_,_,.pp h,r=>by
  unfold A.rep at r ⊢;obtain⟨b,off,h1,h2⟩:=r;exact⟨b,off,h1,jjh h h2⟩
 |_,_,_,_,.agg h,r=>by
  unfold A.rep at r ⊢;obtain⟨us,h1,h2⟩:=r;exact⟨us,h1,A.repC_mk (jak h (A.repC_L h2)) (A.repC_one h2)⟩
 |_,_,_,_,.tup h,r=>by
  unfold A.rep at r ⊢;obtain⟨us,h1,h2⟩:=r;exact⟨us,h1,jak h h2⟩
theorem jak:∀{a b:List A} {E:Env} {us:List Value},WkL a b->A.repL a E us->A.repL b E us
 |_,_,_,_,.nil,k=>k
 |_,_,_,_,.cons h k,r=>by
  unfold A.repL at r ⊢;obtain⟨u,us',h1,h2,h3⟩:=r;exact⟨u,us',h1,jji h h2,jak k h3⟩
theorem jjh:∀{a b:List A} {E:Env} {bl off:Nat},WkL a b->A.repAt a E bl off->A.repAt b E bl off
 |_,_,_,_,_,.nil,_=>by unfold A.repAt;trivial
 |_,_,_,_,_,.cons h k,r=>by
  unfold A.repAt at r ⊢;obtain⟨⟨u,h1,h2,h3⟩,h4⟩:=r;exact⟨⟨u,h1,h2,jji h h3⟩,jjh k h4⟩
end
theorem joC{a:A}{t:Nat}(h:Wk a (.adr t)):a=.adr t:=by cases h;rfl
theorem joB{l:List A}{t:Nat}{r:List A}(h:WkL l (.adr t::r)):∃r',l=.adr t::r':=by
 cases h with
 |cons h1 h2=>exact⟨_,by rw[joC h1]⟩
theorem jqg{l m:List A}(h:WkL l m):WkL (nV l) (nV m):=by
 cases h with
 |nil=>exact .nil
 | @cons a b xs ys h k =>
  by_cases ha:∃t,a=.adr t
  ·obtain⟨t,rfl⟩:=ha
   cases h <;> exact .cons (.refl _) k
  ·have hb:∀t,b≠.adr t:=fun t e=>by subst e;exact ha ⟨t,joC h⟩
   rw[yY fun t r e=>ha ⟨t,by injection e⟩,yY fun t r e=>hb t (by injection e)];exact .cons h k
inductive WkB:List (List A)->List (List A)->Prop
 |nil:WkB [] []
 |cons {a b:List A} {xs ys:List (List A)} (h:WkL a b) (k:WkB xs ys):WkB (a::xs) (b::ys)
theorem WkB.refl:∀l:List (List A),WkB l l
 |[]=>.nil
 |a::l=>.cons (.refl a) (WkB.refl l)
theorem WkB.get{a b:List (List A)}(h:WkB a b){i:Nat}{c:List A}(hc:b[i]?=some c):∃c0,a[i]?=some c0/\WkL c0 c:=by
 induction a generalizing b i with
 |nil=>cases h;simp at hc
 |cons x a ih =>
  cases h with
  |cons h1 h2 =>
   cases i with
   |zero=>simp at hc;subst hc;exact⟨x,rfl,h1⟩
   |succ i=>simpa using ih h2 (by simpa using hc)
theorem WkB.length{a b:List (List A)}(h:WkB a b):a.length=b.length:=by
 induction a generalizing b with
 |nil=>cases h;rfl
 |cons x a ih=>cases h with|cons h1 h2=>simp[ih h2]
section
variable{P:Program}{f:Nat}{ins ins':List (List A)}{args args':List A}{post post':List (List A)->A->Prop}{pn pn':List PanicEntry->Prop}
theorem SpecP.weaken(h:SpecP P f ins args post pn)(hp:∀o r,post o r->∃o' r',post' o' r'/\WkB o o'/\Wk r r')(hn:∀ch,pn ch->pn' ch):SpecP P f ins args post' pn' :=
 ⟨h.1,fun w C β vals h0 h1 h2 h3 h4 h5 h6=>(h.2 w C β vals h0 h1 h2 h3 h4 h5 h6).mono fun e w' hh=>by
  rcases hh with ⟨outs,r,v,k1,k2,k3,k4,k5,k6⟩|⟨ch,ns,k1,k2,k3⟩
  ·obtain⟨o',r',g1,g2,g3⟩:=hp _ _ k2;refine .inl ⟨o',r',v,k1,g1,k3,by rw[<- g2.length];exact k4,fun i b cs q1 q2=>?_,jji g3 k6⟩;obtain⟨c0,q3,q4⟩:=g2.get q2;obtain⟨T,arr,q5,q6⟩:=k5 i b c0 q1 q3;exact⟨T,arr,q5,q6.rel WkL q4 (fun l m us e k=>jak e k) (fun l m e=>jqg e) fun l t r e=>joB e⟩
  ·exact .inr ⟨ch,ns,k1,hn _ k2,k3⟩⟩
theorem Spec.weaken(h:Spec P f ins args post)(hp:∀o r,post o r->∃o' r',post' o' r'/\WkB o o'/\Wk r r'):Spec P f ins args post' :=
 (h.toP.weaken hp (pn':=fun _=>False) fun _ h=>h).toS
end
end
end Go.Proofs.YtfbifdccmabdbaaGreatDoor.Vm
namespace Go.Proofs.YtfbifdccmabdbaaGreatDoor.Vm
open Go.RowKit Go.Shelf
inductive Fm where
 |mk (k a b n:Int) (kids:List Fm)
inductive Ps where
 |ok (f:Fm) (r:List Tk)
 |bad (p e:Int)
def tk0:Tk:=⟨0,0,⟨#[]⟩,0⟩
def hd(ts:List Tk):Tk:=ts.headD tk0
def isT(s:ByteArray)(ts:List Tk):Bool:=decide ((hd ts).text=s)&&((!decide ((hd ts).kind=2))&&(!decide ((hd ts).kind=0)))
theorem jpZ(l:List Tk):(z8 l).length=l.length*4:=by
 induction l with
 |nil=>rfl
 |cons t l ih=>rw[show z8 (t::l)=cT t++z8 l from rfl,xtw4,ih,xtw6];simp only[cT,xtw6,xtw8];omega
theorem nP{ts:List Tk}(h:0<ts.length):jC 4 (Int.toNat 0) (z8 ts)=cT (hd ts):=by
 cases ts with
 |nil=>simp at h
 |cons t r=>exact xV cT (fun _=>rfl) (t::r) 0 (by simp)
theorem jon{ts:List Tk}(h:0<ts.length):((z8 ts).drop 4).take ((ts.length-1)*4)=z8 ts.tail:=by
 cases ts with
 |nil=>simp at h
 |cons t r =>
  show(z8 r).take ((r.length+1-1)*4)=z8 r;refine xtw56 ?_;rw[jpZ];simp
inductive Nt where
 |mk (k n:Int) (s:ByteArray) (kids:List Nt)
def Nt.k:Nt->Int|.mk k _ _ _=>k
def Nt.n:Nt->Int|.mk _ n _ _=>n
def Nt.s:Nt->ByteArray|.mk _ _ s _=>s
def Nt.kids:Nt->List Nt|.mk _ _ _ l=>l
mutual
def nt0:Nt->List A
 |.mk k n s l=>[intA k,intA n,jJ s,.sl 4 l.length (jiz l)]
def jiz:List Nt->List A
 |[]=>[]
 |f::l=>nt0 f++jiz l
end
@[irreducible] def jQ(l:List Nt):List A:=jiz l
def ntA(f:Nt):List A:=[intA f.k,intA f.n,jJ f.s,.sl 4 f.kids.length (jQ f.kids)]
theorem jiy(f:Nt):nt0 f=ntA f:=by
 cases f with
 |mk k n s l=>unfold nt0 ntA jQ;rfl
theorem kN:jQ []=[]:=by unfold jQ jiz;rfl
theorem qV(f:Nt)(l:List Nt):jQ (f::l)=ntA f++jQ l:=by
 unfold jQ;rw[<- jiy]
 conv=>lhs;unfold jiz
theorem jn8(l m:List Nt):jQ (l++m)=jQ l++jQ m:=by
 induction l with
 |nil=>rw[xtw53,kN,xtw53]
 |cons f l ih=>rw[xtw61,qV,qV,ih,xtw40]
theorem jl7(l:List Nt):jQ l=l.flatMap ntA:=by
 induction l with
 |nil=>rw[kN];rfl
 |cons f l ih=>rw[qV,ih,xtw82]
theorem mG(l:List Nt)(f:Nt):jQ (l++[f])=jQ l++ntA f:=by rw[jn8,qV,kN,xtw66]
theorem jR(l:List Nt)(i:Nat)(hi:i<l.length):jC 4 i (jQ l)=ntA l[i]:=by rw[jl7];exact xV ntA (fun _=>rfl) l i hi
theorem jn9(l:List Nt):(jQ l).length=l.length*4:=by
 induction l with
 |nil=>rw[kN];rfl
 |cons f l ih=>rw[qV,xtw4,ih,xtw6];simp only[ntA,xtw6,xtw8];omega
def pLp:ByteArray:=⟨#[40]⟩
def pRp:ByteArray:=⟨#[41]⟩
def pLb:ByteArray:=⟨#[123]⟩
def pRb:ByteArray:=⟨#[125]⟩
def pSemi:ByteArray:=⟨#[59]⟩
def pComma:ByteArray:=⟨#[44]⟩
def pEq:ByteArray:=⟨#[61]⟩
def bU:ByteArray:=⟨#[33]⟩
def qB:ByteArray:=⟨#[45]⟩
def bF:ByteArray:=⟨#[43]⟩
def vC:ByteArray:=⟨#[42]⟩
def wK:ByteArray:=⟨#[47]⟩
def yW:ByteArray:=⟨#[38,38]⟩
def sD:ByteArray:=⟨#[124,124]⟩
def pLt:ByteArray:=⟨#[60]⟩
def pLe:ByteArray:=⟨#[60,61]⟩
def pGt:ByteArray:=⟨#[62]⟩
def pGe:ByteArray:=⟨#[62,61]⟩
def jnn:ByteArray:=⟨#[61,61]⟩
def pNe:ByteArray:=⟨#[33,61]⟩
def zR:ByteArray:=⟨#[100,117,114,97,98,108,101]⟩
def zH:ByteArray:=⟨#[118,111,108,97,116,105,108,101]⟩
def wOn:ByteArray:=⟨#[111,110]⟩
def wStart:ByteArray:=⟨#[115,116,97,114,116]⟩
def wRequest:ByteArray:=⟨#[114,101,113,117,101,115,116]⟩
def wTimer:ByteArray:=⟨#[116,105,109,101,114]⟩
def wMessage:ByteArray:=⟨#[109,101,115,115,97,103,101]⟩
def wIf:ByteArray:=⟨#[105,102]⟩
def wElse:ByteArray:=⟨#[101,108,115,101]⟩
def wWhile:ByteArray:=⟨#[119,104,105,108,101]⟩
def wSend:ByteArray:=⟨#[115,101,110,100]⟩
def wCancel:ByteArray:=⟨#[99,97,110,99,101,108]⟩
def wSync:ByteArray:=⟨#[115,121,110,99]⟩
def wReply:ByteArray:=⟨#[114,101,112,108,121]⟩
def wFail:ByteArray:=⟨#[102,97,105,108]⟩
def wStop:ByteArray:=⟨#[115,116,111,112]⟩
def oK:ByteArray:=⟨#[116,114,117,101]⟩
def cP:ByteArray:=⟨#[102,97,108,115,101]⟩
def wDraw:ByteArray:=⟨#[100,114,97,119]⟩
def keyL:List ByteArray:=[zR,zH,wOn,wStart,wRequest,wTimer,wMessage,wIf,wElse,wWhile,wSend,wCancel,wSync,wReply,wFail,wStop,oK,cP,wDraw]
def builtL:List ByteArray:=[⟨#[115,101,108,102]⟩,⟨#[110,111,100,101,115]⟩,⟨#[110,111,119]⟩,⟨#[102,114,111,109]⟩,⟨#[97]⟩,⟨#[98]⟩,⟨#[105,100]⟩,⟨#[111,112]⟩,⟨#[107,101,121]⟩]
def eB:ByteArray:=⟨#[]⟩
inductive Pn where
 |ok (f:Nt) (r:List Tk)
 |bad (p e:Int)
def zO(s:ByteArray)(ts:List Tk):Bool:=decide ((hd ts).text=s)&&(decide ((hd ts).kind=1)||decide ((hd ts).kind=3))
def cW(l:List ByteArray)(ts:List Tk):Bool:=l.any fun s=>zO s ts
def yB(ts:List Tk):Bool:=decide ((hd ts).kind=1) && !(keyL++builtL).any fun s=>decide ((hd ts).text=s)
def jii(ts:List Tk):Bool:=decide ((hd ts).kind=1)&&builtL.any fun s=>decide ((hd ts).text=s)
def synE(ts:List Tk):Pn:=.bad (hd ts).pos 10
def xpt(s:ByteArray)(ts:List Tk)(k:List Tk->Pn):Pn:=if zO s ts=true then k ts.tail else synE ts
def Pn.andThen:Pn->(Nt->List Tk->Pn)->Pn
 |.ok f r,k=>k f r
 |.bad x e,_=>.bad x e
structure Pa where
 no:List Tk->Pn
 un:List Tk->Pn
 ex:List Tk->Pn
 bl:List Tk->Pn
def dN(low:Option Pa)(ts:List Tk):Pn :=
 if zO pLp ts=true then match low with
  |none=>.bad (hd ts).pos 2
  |some p=>(p.ex ts.tail).andThen fun n r=>xpt pRp r fun r'=>.ok n r'
 else synE ts
def f0(low:Option Pa)(ts:List Tk):Pn :=
 if zO pLp ts=true then dN low ts
 else if zO wDraw ts=true then(dN low ts.tail).andThen fun n r=>.ok (.mk 16 0 eB [n]) r
 else if (hd ts).kind=2 then .ok (.mk 12 (hd ts).n eB []) ts.tail
 else if zO oK ts=true then .ok (.mk 13 1 eB []) ts.tail
 else if zO cP ts=true then .ok (.mk 13 0 eB []) ts.tail
 else if yB ts=true then .ok (.mk 14 0 (hd ts).text []) ts.tail
 else if jii ts=true then .ok (.mk 15 0 (hd ts).text []) ts.tail
 else synE ts
def u6(s:ByteArray)(op:Option (List Tk->Pn))(ts:List Tk):Pn:=match op with
 |none=>.bad (hd ts).pos 2
 |some f=>(f ts.tail).andThen fun n r=>.ok (.mk 17 0 s [n]) r
def aG(low:Option Pa)(ts:List Tk):Pn:=if zO qB ts=true then u6 qB (low.map (·.un)) ts else f0 low ts
def xI(op:List Tk->Pn)(signs:List ByteArray):Nat->Nt->List Tk->Pn
 |0,l,ts=>.ok l ts
 |n+1,l,ts=>if cW signs ts=true then(op ts.tail).andThen fun f r=>xI op signs n (.mk 18 0 (hd ts).text [l,f]) r else .ok l ts
def wG(op:List Tk->Pn)(signs:List ByteArray)(ts:List Tk):Pn:=(op ts).andThen fun f r=>xI op signs r.length f r
def dD:List ByteArray:=[pLt,pLe,pGt,pGe,jnn,pNe]
def jcI(low:Option Pa):List Tk->Pn:=wG (wG (aG low) [vC,wK]) [bF,qB]
def ntG(low:Option Pa)(ts:List Tk):Pn:=if zO bU ts=true then u6 bU (low.map (·.no)) ts
 else(jcI low ts).andThen fun l r=>if cW dD r=true then(jcI low r.tail).andThen fun m r'=>.ok (.mk 18 0 (hd r).text [l,m]) r' else .ok l r
def ji6(low:Option Pa):List Tk->Pn:=wG (wG (ntG low) [yW]) [sD]
def bE(limit:Int)(ts:List Tk)(k:Int->List Tk->Pn):Pn:=if (hd ts).kind≠2 then synE ts else if limit<=(hd ts).n then .bad (hd ts).pos 6 else k (hd ts).n ts.tail
def yG(l:List Nt):Nt:=.mk 11 0 eB l
def stG(ex bl:List Tk->Pn)(ts:List Tk):Pn :=
 if yB ts=true then xpt pEq ts.tail fun r=>(ex r).andThen fun e r=>xpt pSemi r fun r=>.ok (.mk 1 0 (hd ts).text [e]) r
 else if (hd ts).kind≠1 then synE ts
 else if (hd ts).text=wIf then(ex ts.tail).andThen fun c r=>(bl r).andThen fun b r=>if zO wElse r=true then(bl r.tail).andThen fun o r=>.ok (.mk 2 0 eB [c,b,o]) r else .ok (.mk 2 0 eB [c,b,yG []]) r
 else if (hd ts).text=wWhile then(ex ts.tail).andThen fun c r=>(bl r).andThen fun b r=>.ok (.mk 3 0 eB [c,b]) r
 else if (hd ts).text=wSend then(ex ts.tail).andThen fun t r=>xpt pComma r fun r=>bE 30 r fun n r=>xpt pComma r fun r=>(ex r).andThen fun a r=>xpt pComma r fun r=>(ex r).andThen fun b r=>xpt pSemi r fun r=>.ok (.mk 4 n eB [t,a,b]) r
 else if (hd ts).text=wTimer then bE 8 ts.tail fun n r=>xpt pSemi r fun r=>.ok (.mk 5 n eB []) r
 else if (hd ts).text=wCancel then bE 8 ts.tail fun n r=>xpt pSemi r fun r=>.ok (.mk 6 n eB []) r
 else if (hd ts).text=wSync then xpt pSemi ts.tail fun r=>.ok (.mk 7 0 eB []) r
 else if (hd ts).text=wReply then(ex ts.tail).andThen fun a r=>xpt pComma r fun r=>(ex r).andThen fun b r=>xpt pSemi r fun r=>.ok (.mk 8 0 eB [a,b]) r
 else if (hd ts).text=wFail then(ex ts.tail).andThen fun a r=>xpt pSemi r fun r=>.ok (.mk 9 0 eB [a]) r
 else if (hd ts).text=wStop then xpt pSemi ts.tail fun r=>.ok (.mk 10 0 eB []) r
 else synE ts
def mY(st:List Tk->Pn):Nat->List Nt->List Tk->Pn
 |0,_,ts=>synE ts
 |n+1,acc,ts=>if zO pRb ts=true then .ok (yG acc) ts.tail else(st ts).andThen fun s r=>mY st n (acc++[s]) r
def bkF(st:List Tk->Pn)(ts:List Tk):Pn:=xpt pLb ts fun r=>mY st r.length [] r
def bkN(ts:List Tk):Pn:=if zO pLb ts=true then .bad (hd ts).pos 2 else synE ts
def jmY:Option Pa->List Tk->Pn
 |none=>bkN
 |some p=>p.bl
def paG(low:Option Pa):Pa:=⟨ntG low,aG low,ji6 low,bkF (stG (ji6 low) (jmY low))⟩
def pa:Nat->Pa
 |0=>paG none
 |d+1=>paG (some (pa d))
structure Ut where
 du:List ByteArray
 vo:List ByteArray
 on:List (Int×Nt)
inductive PU where
 |ok (u:Ut)
 |bad (p e:Int)
inductive Pd where
 |ok (names out:List ByteArray) (r:List Tk)
 |bad (p e:Int)
def aU:Nat->List ByteArray->List ByteArray->List Tk->Pd
 |0,_,_,ts=>.bad (hd ts).pos 10
 |n+1,names,out,ts =>
  if yB ts.tail=false then .bad (hd ts.tail).pos 10
  else if names.any (fun s=>decide (s=(hd ts.tail).text))=true then .bad (hd ts.tail).pos 4
  else if names.length=16 then .bad (hd ts.tail).pos 2
  else if zO pComma ts.tail.tail=true then aU n (names++[(hd ts.tail).text]) (out++[(hd ts.tail).text]) ts.tail.tail
  else if zO pSemi ts.tail.tail=true then .ok (names++[(hd ts.tail).text]) (out++[(hd ts.tail).text]) ts.tail.tail.tail
  else .bad (hd ts.tail.tail).pos 10
def g9(h:Int×Nt):List (Int×Nt)->List (Int×Nt)
 |[]=>[h]
 |x::l=>if h.1<=x.1 then h::x::l else x::g9 h l
def vX(l:List (Int×Nt)):List (Int×Nt):=l.foldr g9 []
inductive Ph where
 |ok (n:Int) (r:List Tk)
 |bad (p e:Int)
def mZ(limit off:Int)(ts:List Tk):Ph:=if (hd ts).kind≠2 then .bad (hd ts).pos 10 else if limit<=(hd ts).n then .bad (hd ts).pos 6 else .ok (off+(hd ts).n) ts.tail
def uK(ts:List Tk):Ph :=
 if zO wStart ts=true then .ok 0 ts.tail
 else if zO wRequest ts=true then .ok 1 ts.tail
 else if zO wTimer ts=true then mZ 8 2 ts.tail
 else if zO wMessage ts=true then mZ 30 10 ts.tail
 else .bad (hd ts).pos 10
def s8(du vo:List ByteArray):Nat->List (Int×Nt)->List Tk->PU
 |0,_,ts=>.bad (hd ts).pos 10
 |n+1,hs,ts=>if (hd ts).kind=0 then .ok ⟨du,vo,vX hs⟩
  else if zO wOn ts=false then .bad (hd ts).pos 10
  else match uK ts.tail with
   |.bad x e=>.bad x e
   |.ok k r=>if hs.any (fun h=>decide (h.1=k))=true then .bad (hd ts.tail).pos 4
    else match (pa 19).bl r with
     |.bad x e=>.bad x e
     |.ok b r=>s8 du vo n (hs++[(k,b)]) r
def jaO:Nat->List ByteArray->List ByteArray->List ByteArray->List Tk->PU
 |0,_,_,_,ts=>.bad (hd ts).pos 10
 |n+1,names,du,vo,ts =>
  if zO zR ts=true then match aU ts.length names [] ts with
   |.bad x e=>.bad x e
   |.ok names' out r=>jaO n names' (du++out) vo r
  else if zO zH ts=true then match aU ts.length names [] ts with
   |.bad x e=>.bad x e
   |.ok names' out r=>jaO n names' du (vo++out) r
  else s8 du vo (ts.length+1) [] ts
def jnr(ts:List Tk):PU:=jaO (ts.length+1) [] [] [] ts
def eE(s:ByteArray):PU:=if 3000<s.size then .bad 3000 2 else match (qM s).err with
 |some (p,e)=>.bad p e
 |none=>jnr (lH s)
def spW:List (List UInt8)->List UInt8
 |[]=>[32]
 |w::l=>32::(w++spW l)
theorem jo2(l:List (List UInt8)):∃z,spW l=32::z:=by cases l <;> exact⟨_,rfl⟩
theorem jgO:∀(t w z:List UInt8),(∀c∈t,c≠32)->(∀c∈w,c≠32)->(t++[32]).isPrefixOf (w++32::z)=decide (t=w)
 |[],[],z,_,_=>by simp[List.isPrefixOf]
 |[],c::w,z,_,h=>by
  have:=h c xtw29;rw[xtw0 (by simp)];simp only[xtw53,xtw61,List.isPrefixOf];rw[beq_eq_false_iff_ne.2 (xtw106 this)];rfl
 |d::t,[],z,h,_=>by
  have:=h d xtw29;rw[xtw0 (by simp)];simp only[xtw53,xtw61,List.isPrefixOf];rw[beq_eq_false_iff_ne.2 this];rfl
 |d::t,c::w,z,h,k=>by
  have ih:=jgO t w z (fun x hx=>h x (xtw25 _ hx)) fun x hx=>k x (xtw25 _ hx)
  simp only[xtw61,List.isPrefixOf];rw[ih];by_cases hdc:d=c
  ·subst hdc;rw[beq_self_eq_true,Bool.true_and]
   congr 1
   simp
  ·rw[beq_eq_false_iff_ne.2 hdc,Bool.false_and,xtw0];intro e;rw[xtw74] at e;exact hdc e.1
theorem sS(b:UInt8)(l sub:List UInt8)(h:sub.isPrefixOf (b::l)=false):Lib.contains (b::l) sub=Lib.contains l sub:=by
 unfold Lib.contains;rw[Lib.index,h];rw[xtw2 (by decide)];have:=Lib.index_ge l sub;by_cases hm:Lib.index l sub = -1
 ·rw[xtw3 (by rw[hm];rfl),hm]
 ·rw[xtw2 (by rw[beq_iff_eq];exact hm),xtw1 (by omega),xtw1 (by omega)]
theorem jd0:∀(w l u:List UInt8),(∀c∈w,c≠32)->Lib.contains (w++l) (32::u)=Lib.contains l (32::u)
 |[],l,u,_=>rfl
 |c::w,l,u,h=>by
  have:=h c xtw29;rw[xtw61,sS _ _ _ (by simp only[List.isPrefixOf];rw[beq_eq_false_iff_ne.2 (xtw106 this)];rfl)]
  exact jd0 w l u fun x hx=>h x (xtw25 _ hx)
theorem oY(t:List UInt8)(ht:∀c∈t,c≠32):∀(l:List (List UInt8)),(∀w∈l,∀c∈w,c≠32)->Lib.contains (spW l) (32::(t++[32]))=decide (t∈l)
 |[],_=>by
  rw[xtw0 (by simp)];show Lib.contains [32] _=false
  rw[sS _ _ _ (by cases t with
   |nil=>simp[List.isPrefixOf]
   |cons c t=>simp[List.isPrefixOf])]
  unfold Lib.contains;rw[Lib.index];rfl
 |w::l,h=>by
  have ih:=oY t ht l fun x hx=>h x (xtw25 _ hx)
  obtain⟨z,hz⟩:=jo2 l
  have hp:(32::(t++[32])).isPrefixOf (32::(w++spW l))=decide (t=w):=by
   simp only[List.isPrefixOf];rw[beq_self_eq_true,Bool.true_and,hz];exact jgO t w z ht (h w xtw29)
  show Lib.contains (32::(w++spW l)) _=_;by_cases hw:t=w
  ·rw[xtw1 hw] at hp;unfold Lib.contains;rw[Lib.index,hp];simp only[xtw127];rw[xtw1 (by omega),xtw1 (by rw[hw];exact xtw29)]
  ·rw[xtw0 hw] at hp;rw[sS _ _ _ hp,jd0 w _ _ (h w xtw29),ih]
   congr 1
   simp[hw]
def jrR(ts:List Tk):List ByteArray->Int->Int
 |[],_ => -1
 |s::l,i=>if isT s ts=true then i else jrR ts l (i+1)
def tZ(t:Tk):Prop:=t.text.size<=1000000000/\jbX (oZ t.text).1.data.toList/\(oZ t.text).1.size<=1000000000/\0<=t.n/\t.n<=2147483647/\t.pos<=1000000000
def TkW:List Tk->Prop
 |[]=>False
 |t::r=>tZ t/\((r=[]/\t.kind=0/\t.text.data.toList=[])∨(t.kind≠0/\TkW r))
theorem TkW.pos{ts:List Tk}(h:TkW ts):0<ts.length:=by
 cases ts with
 |nil=>exact h.elim
 |cons t r=>simp
theorem TkW.good{ts:List Tk}(h:TkW ts):tZ (hd ts):=by
 cases ts with
 |nil=>exact h.elim
 |cons t r=>exact h.1
theorem TkW.tail{ts:List Tk}(h:TkW ts)(hk:(hd ts).kind≠0):TkW ts.tail:=by
 cases ts with
 |nil=>exact h.elim
 |cons t r =>
  rcases h.2 with ⟨_,h2,_⟩|⟨_,h2⟩
  ·exact absurd h2 hk
  ·exact h2
def jqu:List ByteArray:=[bs [60],bs [61,61],bs [62]]
def jtG:ByteArray:=⟨#[45]⟩
def jhf(ts:List Tk):Int×List Tk:=if isT jtG ts=true then(-1,ts.tail) else(1,ts)
def jun(ts:List Tk):Ps :=
 if (oZ (hd ts).text).2=false then .bad (hd ts).pos 10 else
 match juv (oZ (hd ts).text).1.data.toList with
 |none=>.bad (hd ts).pos 10
 |some n=>if 15<n then .bad (hd ts).pos 6 else
  if jrR ts.tail jqu 0<0 then .bad (hd ts.tail).pos 10 else
  if (hd (jhf ts.tail.tail).2).kind≠2 then .bad (hd (jhf ts.tail.tail).2).pos 10 else
  .ok (.mk 1 n (jrR ts.tail jqu 0) ((jhf ts.tail.tail).1*(hd (jhf ts.tail.tail).2).n) []) (jhf ts.tail.tail).2.tail
end Go.Proofs.YtfbifdccmabdbaaGreatDoor.Vm
namespace Go.Proofs.YtfbifdccmabdbaaGreatDoor.Vm
open Go.RowKit
section
def SpecV(P:Program)(f:Nat)(cs args:List A)(post:List A->A->Prop)(pn:List PanicEntry->Prop):Prop :=
 ∀y:Value,fX y->SpecP P f [cs++[.v y]] args (fun o r=>∃c,o=[c++[.v y]]/\post c r) pn
theorem lS{a:A}(ha:∀t,a≠.adr t):∀c:List A,nV (c++[a])=nV c++[a]
 |[]=>by cases a <;> first|rfl|exact absurd rfl (ha _)
 |x::c=>by cases x <;> rfl
theorem repL_snoc{E:Env}{a:A}:∀{c:List A} {us:List Value},A.repL (c++[a]) E us↔∃us1 u,us=us1++[u]/\A.repL c E us1/\a.rep E u
 |[],us=>by
  rw[xtw53];constructor
  ·intro h;unfold A.repL at h;obtain⟨u,us',rfl,h1,h2⟩:=h;unfold A.repL at h2;subst h2;exact⟨[],u,rfl,by unfold A.repL;rfl,h1⟩
  ·rintro⟨us1,u,rfl,h1,h2⟩;unfold A.repL at h1;subst h1;unfold A.repL;exact⟨u,[],rfl,h2,by unfold A.repL;rfl⟩
 |x::c,us=>by
  rw[xtw61];constructor
  ·intro h;unfold A.repL at h;obtain⟨u,us',rfl,h1,h2⟩:=h;obtain⟨us1,v,rfl,h3,h4⟩:=repL_snoc.1 h2;exact⟨u::us1,v,rfl,by unfold A.repL;exact⟨u,us1,rfl,h1,h3⟩,h4⟩
  ·rintro⟨us1,u,rfl,h1,h2⟩;unfold A.repL at h1;obtain⟨u1,us2,rfl,h3,h4⟩:=h1;unfold A.repL;exact⟨u1,us2++[u],rfl,h3,repL_snoc.2 ⟨us2,u,rfl,h4,h2⟩⟩
theorem jlh{nb nr:Nat}{l:List A}(h:wL nb nr l=true):wL nb nr (nV l)=true:=by
 cases l with
 |nil=>exact h
 |cons a l=>cases a <;> exact h
theorem lV{T b:Nat}{E F:Env}{c:List A}{a a':A}{arr:Array Value}(ha:∀t,a≠.adr t)(ha':∀t,a'≠.adr t)(hc:∀us,A.repL (nV c) E us->A.repL (nV c) F us)(hl:∀u,a.rep E u->u.oneCell'=true->a'.rep F u)(h:boxC T b (c++[a]) E arr):boxC T b (c++[a']) F arr:=by
 obtain⟨h1,h2⟩:=h;rw[lS ha] at h1;have hone:=A.repC_one h1;obtain⟨us1,u,he,h3,h4⟩:=repL_snoc.1 (A.repC_L h1);refine⟨?_,fun t r e=>?_⟩
 ·rw[lS ha'];refine A.repC_mk (repL_snoc.2 ⟨us1,u,he,hc _ h3,hl u h4 (hone u (by rw[he];simp))⟩) hone
 ·cases c with
  |nil =>
   rw[xtw53,xtw74] at e;exact absurd e.1 (ha' t)
  |cons x c =>
   rw[xtw61,xtw74] at e;exact h2 t (c++[a]) (by rw[e.1];rfl)
theorem jjI(C:Rd)(β:List Nat)(y:Value):(⟨C,β,[]⟩:Env).le ⟨C,β,[y]⟩:=⟨Sub.refl _,fun _ _ h=>h,fun _ _ h=>by simp at h⟩
theorem jpv{w:World}{e k:Nat}{y:Value}{n:Nat}{xs:List Value}(h:owR w e k y n xs):fX y:=by
 rcases h.kind with ⟨_,_,_,rfl⟩|⟨_,rfl⟩|⟨_,rfl⟩ <;> exact trivial
theorem jin{T b:Nat}{E:Env}{c:List A}{a:A}{arr:Array Value}(ha:∀t,a≠.adr t)(h:boxC T b (c++[a]) E arr):∃us1 u,arr.toList=us1++[u]/\a.rep E u:=by
 have h1:=h.1;rw[lS ha] at h1;obtain⟨us1,u,he,h3,h4⟩:=repL_snoc.1 (A.repC_L h1);exact⟨us1,u,he,h4⟩
section
variable{P:Program}{f:Nat}{cs args:List A}{post:List A->A->Prop}{pn:List PanicEntry->Prop}
theorem SpecV.rp(h:SpecV P f cs args post pn)(hc:wL 1 0 cs=true)(ha:wL 1 0 args=true)(e k n:Nat)(rc:List A) :
  iD P f [cs++[.own 0]] e k n rc args (fun o n' rc' r=>∃c,o=[c++[.own 0]]/\n'=n/\rc'=rc/\post c r) pn:=by
 refine⟨(h (.bool true) trivial).1,fun w C β vals y xs h0 h1 h2 h3 h4 h5 h6 h7 h8 h9=>?_⟩;obtain⟨b,rfl⟩:∃b,β=[b]:=xtw77.1 h4.symm;have hy:=jpv h6
 have drop:∀l us,wL 1 0 l=true->A.repL l ⟨C,[b],[y]⟩ us->A.repL l ⟨C,[b],[]⟩ us:=fun l us hr hl=>yE l hr hl
 refine((h y hy).2 w C [b] vals h0 h1 h2 h3 rfl (fun i b' c hb hi=>?_) (drop _ _ ha h9)).mono fun e' w' hh=>?_
 ·obtain⟨T,arr,hh,hbc⟩:=h5 i b' (cs++[.own 0]) hb (by cases i with
   |zero=>rfl
   |succ i=>simp at hi)
  have:c=cs++[.v y]:=by cases i with
   |zero=>simpa using hi.symm
   |succ i=>simp at hi
  subst this;refine⟨T,arr,hh,lV (fun t e=>by cases e) (fun t e=>by cases e) (fun us hu=>drop _ _ (jlh hc) hu) (fun u hu _=>?_) hbc⟩;unfold A.rep at hu
  have:y=u:=by simpa using hu
  subst this;exact A.rep_v hy
 ·rcases hh with ⟨outs,r,v,rfl,⟨c,rfl,hpost⟩,kp,k2,k3,k4⟩|⟨ch,ns,k1,k2,kp,k4,k5⟩
  ·have le:(⟨qY C w w',[b],[]⟩:Env).le ⟨qY C w w',[b],[y]⟩:=jjI _ _ _;have hsub:=dU h1 h3 kp;refine .inl ⟨[c++[.own 0]],n,rc,r,v,y,xs,qY C w w',rfl,⟨c,rfl,rfl,rfl,hpost⟩,⟨kp.os,kp.tape,kp.output,kp.size,fun q hq hn=>kp.block q hq fun hm=>hn (xtw55 _ hm)⟩,v6 h1,hsub,fun ad u hc=>?_,by simp,fun i b' c' hb hi=>?_,h6.same fun q hq=>?_,?_,fun q hq=>⟨fun o sp=>?_,.inr hq⟩,A.rep.mono _ le k4⟩
   ·unfold qY at hc;split at hc
    ·exact .inl hc
    ·exact .inr (.inl (by omega))
   ·obtain⟨T,arr,hh,hbc⟩:=k3 i b' (c++[.v y]) hb (by cases i with
     |zero=>rfl
     |succ i=>simp at hi)
    have:c'=c++[.own 0]:=by cases i with
     |zero=>simpa using hi.symm
     |succ i=>simp at hi
    subst this;refine⟨T,arr,hh,lV (fun t e=>by cases e) (fun t e=>by cases e) (fun us hu=>A.repL.mono _ le hu) (fun u hu _=>?_) hbc⟩;obtain⟨rfl,-⟩:=A.rep_v_iff.1 hu;unfold A.rep;rfl
   ·exact kp.block q (h6.lt hq) (h8 q hq).1
   ·exact A.repC.mono _ (show(⟨C,[],[]⟩:Env).le ⟨qY C w w',[],[]⟩ from ⟨v6 h1,fun _ _ h=>h,fun _ _ h=>h⟩) h7
   ·unfold qY;rw[xtw3 (show(⟨q,o,sp⟩:Addr).block<w.heap.size from h6.lt hq)];exact(h8 q hq).2 o sp
  ·exact .inr ⟨ch,ns,k1,k2,⟨kp.os,kp.tape,kp.output,kp.size,fun q hq hn=>kp.block q hq fun hm=>hn (xtw55 _ hm)⟩,k4,k5⟩
theorem SpecV.q(h:SpecV P f cs args post pn)(k n:Nat)(l:List A) :
  SpecP P f [cs++[.sl k n l]] args (fun o r=>∃c,o=[c++[.sl k n l]]/\post c r) pn:=by
 refine⟨(h (.bool true) trivial).1,fun w C β vals h0 h1 h2 h3 h4 h5 h6=>?_⟩;obtain⟨b,rfl⟩:∃b,β=[b]:=xtw77.1 h4.symm;obtain⟨T0,arr0,hb0,hc0⟩:=h5 0 b _ rfl rfl;obtain⟨us1,y,hy1,hy2⟩:=jin (fun t e=>by cases e) hc0
 have hy:fX y:=by
  unfold A.rep at hy2;obtain⟨_,_,p,b',off,cap,rfl,_⟩:=hy2;exact trivial
 refine((h y hy).2 w C [b] vals h0 h1 h2 h3 rfl (fun i b' c hb hi=>?_) h6).mono fun e' w' hh=>?_
 ·have hi0:i=0:=by cases i with
   |zero=>rfl
   |succ i=>simp at hi
  subst hi0
  obtain rfl:b=b':=by simpa using hb
  obtain rfl:cs++[.v y]=c:=by simpa using hi
  have hc0':boxC T0 b (cs++[.sl k n l]) ⟨C,[b],[]⟩ arr0:=hc0;refine⟨T0,arr0,hb0,?_⟩;obtain⟨g1,g2⟩:=hc0';rw[lS (fun t e=>by cases e)] at g1;have hone:=A.repC_one g1;obtain⟨us2,u2,he2,g3,g4⟩:=repL_snoc.1 (A.repC_L g1)
  have hu2:u2=y:=by
   rw[hy1] at he2;have:=List.append_inj_right' he2 rfl;simpa using this.symm
  subst hu2;refine⟨?_,fun t r e=>?_⟩
  ·rw[lS (fun t e=>by cases e)];exact A.repC_mk (repL_snoc.2 ⟨us2,u2,he2,g3,A.rep_v hy⟩) hone
  ·cases cs with
   |nil =>
    rw[xtw53,xtw74] at e;cases e.1
   |cons x c =>
    rw[xtw61,xtw74] at e;exact g2 t (c++[.sl k n l]) (by rw[e.1];rfl)
 ·rcases hh with ⟨outs,r,v,rfl,⟨c,rfl,hpost⟩,kp,k2,k3,k4⟩|hbad
  ·have le:(⟨C,[b],[]⟩:Env).le ⟨qY C w w',[b],[]⟩:=⟨v6 h1,fun _ _ h=>h,fun _ _ h=>h⟩
   refine .inl ⟨[c++[.sl k n l]],r,v,rfl,⟨c,rfl,hpost⟩,kp,by simp,fun i b' c' hb hi=>?_,k4⟩
   obtain⟨T,arr,hh,hbc⟩:=k3 i b' (c++[.v y]) hb (by cases i with
    |zero=>rfl
    |succ i=>simp at hi)
   have:c'=c++[.sl k n l]:=by cases i with
    |zero=>simpa using hi.symm
    |succ i=>simp at hi
   subst this;refine⟨T,arr,hh,lV (fun t e=>by cases e) (fun t e=>by cases e) (fun us hu=>hu) (fun u hu _=>?_) hbc⟩;obtain⟨rfl,-⟩:=A.rep_v_iff.1 hu;exact A.rep.mono _ le hy2
  ·exact .inr hbad
end
end
end Go.Proofs.YtfbifdccmabdbaaGreatDoor.Vm
namespace Go.Proofs.YtfbifdccmabdbaaGreatDoor.Vm
open Go.RowKit Go.Shelf
def tH:Go.Shelf.Ren:=⟨fun|143=>183|144=>171|217=>219|219=>209|224=>221|225=>220|266=>228|267=>222|314=>229|n=>n,fun|46=>205|51=>222|146=>246|n=>n,fun|1=>2|n=>n⟩
theorem jeN:Lays.n144 Tryz.prog tH where
 mixed:=by kernel_rfl
 f143:=Tryz.func183.trans (congrArg some (by kernel_rfl))
 f144:=Tryz.func171.trans (congrArg some (by kernel_rfl))
 f217:=Tryz.func219.trans (congrArg some (by kernel_rfl))
 f219:=Tryz.func209.trans (congrArg some (by kernel_rfl))
 f224:=Tryz.func221.trans (congrArg some (by kernel_rfl))
 f225:=Tryz.func220.trans (congrArg some (by kernel_rfl))
 f266:=Tryz.func228.trans (congrArg some (by kernel_rfl))
 f267:=Tryz.func222.trans (congrArg some (by kernel_rfl))
 f314:=Tryz.func229.trans (congrArg some (by kernel_rfl))
 t3:=Tryz.underlying3
 a3:=Tryz.isAgg3
 z3:=Tryz.sizeOf3
 v3:=Tryz.zeroValue3
 t4:=Tryz.underlying4
 a4:=Tryz.isAgg4
 z4:=Tryz.sizeOf4
 v4:=Tryz.zeroValue4
 t5:=Tryz.underlying5
 a5:=Tryz.isAgg5
 z5:=Tryz.sizeOf5
 v5:=Tryz.zeroValue5
 t9:=Tryz.underlying9
 a9:=Tryz.isAgg9
 z9:=Tryz.sizeOf9
 v9:=Tryz.zeroValue9
 t46:=Tryz.underlying205
 a46:=Tryz.isAgg205
 z46:=Tryz.sizeOf205
 v46:=Tryz.zeroValue205
 t51:=Tryz.underlying222
 a51:=Tryz.isAgg222
 z51:=Tryz.sizeOf222
 v51:=Tryz.zeroValue222
 t146:=Tryz.underlying246
 a146:=Tryz.isAgg246
 z146:=Tryz.sizeOf246
 v146:=Tryz.zeroValue246
 g1:=by kernel_rfl

theorem jbT(s sub:ByteArray)(hs:s.size<=1000000000):Spec Tryz.prog 171 [] [jJ s,jJ sub] fun _ r=>r=qA (Lib.contains s.data.toList sub.data.toList):=by
 refine lO (eQ Tryz.func171 rfl (by kernel_rfl)) fun w C vals h0 h1 h2=>?_
 obtain rfl:=jf7 (l:=[.string s,.string sub]) h2;have hg:=h0.at (g:=2) (cs:=[.num]) rfl;simp only[A.repAt,A.rep] at hg;obtain⟨⟨u,k1,k2,m,rfl⟩,-⟩:=hg;refine(Any.strings_Contains jeN s sub m w (by omega) (h1 _ _ k1)).mono ?_;rintro e w' ⟨rfl,rfl⟩;exact⟨_,rfl,Ext.refl _,A.rep_v trivial⟩
def xA(l:List ByteArray):List A:=l.map jJ
def hZ(nm:List ByteArray)(ts:List Tk):List A:=[.sl 4 ts.length (z8 ts),.sl 1 nm.length (xA nm)]
def qR(p e:Int):List PanicEntry:=[⟨.iface 142 (.agg #[.int .i64 p,.int .i64 e]),false,false⟩]
def bxN(ts:List Tk):List A:=[.sl 4 ts.length (z8 ts)]
theorem lE(ts:List Tk)(h:0<ts.length)(e:Int):SpecV Tryz.prog 160 (bxN ts) [.box 0 0,intA e] (fun _ _=>False) fun ch=>ch=qR (hd ts).pos e:=fun y hy=>by
 have hr:=nP h;refine vY (wH jK jT 1 (fun ch _=>(fun ch=>ch=qR (hd ts).pos e) ch)) (fun _ _ h=>h) Tryz.func160 rfl (by kernel_rfl) rfl (by kernel_rfl) ?_;intro _;generalize hd ts=t at *;conv=>whnf
 (refine cR ?_;try with_reducible exact trivial)
 (generalize hrq:jC _ _ (z8 ts)=rq;obtain rfl:rq=cT t:=hrq.symm.trans (hr);clear hrq;conv=>whnf)
 (refine cR ?_;try with_reducible exact trivial)
 rfl
theorem gJ(nm:List ByteArray)(ts:List Tk)(h:0<ts.length)(e:Int):SpecP Tryz.prog 160 [hZ nm ts] [.box 0 0,intA e] (fun _ _=>False) fun ch=>ch=qR (hd ts).pos e :=
 ((lE ts h e).q 1 nm.length (xA nm)).mono (fun _ _ ⟨_,_,k⟩=>k) fun _ k=>k
theorem tP(ts:List Tk)(h:0<ts.length):SpecV Tryz.prog 158 (bxN ts) [.box 0 0] (fun c r=>c=bxN ts.tail/\r=.agg (cT (hd ts))) fun _=>False:=fun y hy=>by
 have hr:=nP h;have htl:=jon h
 have hln:ts.tail.length=ts.length-1:=by simp
 refine vY (wH jK jT 1 (fun ch _=>(fun _=>False) ch)) (fun _ _ h=>h) Tryz.func158 rfl (by kernel_rfl) rfl (by kernel_rfl) ?_;intro _;generalize hd ts=t at *;conv=>whnf
 (refine cR ?_;try with_reducible exact trivial)
 (generalize hrq:jC _ _ (z8 ts)=rq;obtain rfl:rq=cT t:=hrq.symm.trans (hr);clear hrq;conv=>whnf)
 (refine cR ?_;try with_reducible exact trivial)
 refine⟨bxN ts.tail,?_,rfl,rfl⟩;unfold bxN;rw[show((ts.length:Int).toNat-Int.toNat 1)=ts.length-1 by omega,show Int.toNat 1*4=4 from rfl,htl,hln];rfl
theorem wV(nm:List ByteArray)(ts:List Tk)(h:0<ts.length):Spec Tryz.prog 158 [hZ nm ts] [.box 0 0] fun o r=>o=[hZ nm ts.tail]/\r=.agg (cT (hd ts)) :=
 (((tP ts h).q 1 nm.length (xA nm)).mono (fun _ _ ⟨_,k1,k2,k3⟩=>⟨by rw[k1,k2];rfl,k3⟩) fun _ k=>k).toS
theorem jpD(ts:List Tk)(h:0<ts.length)(s:ByteArray):SpecV Tryz.prog 132 (bxN ts) [.box 0 0,jJ s] (fun c r=>c=bxN ts/\r=qA (zO s ts)) fun _=>False:=fun y hy=>by
 have hr:=nP h;unfold zO;refine vY (wH jK jT 1 (fun ch _=>(fun _=>False) ch)) (fun _ _ h=>h) Tryz.func132 rfl (by kernel_rfl) rfl (by kernel_rfl) ?_;intro _;generalize hd ts=t at *;conv=>whnf
 (refine cR ?_;try with_reducible exact trivial)
 (generalize hrq:jC _ _ (z8 ts)=rq;obtain rfl:rq=cT t:=hrq.symm.trans (hr);clear hrq;conv=>whnf)
 by_cases h1:t.text=s
 ·rw[xtw1 h1];conv=>whnf
  by_cases h2:t.kind=1
  ·rw[xtw1 h2];conv=>whnf
   exact⟨_,rfl,rfl,rfl⟩
  ·rw[xtw0 h2];conv=>whnf
   exact⟨_,rfl,rfl,rfl⟩
 ·rw[xtw0 h1];conv=>whnf
  exact⟨_,rfl,rfl,rfl⟩
theorem nE(nm:List ByteArray)(ts:List Tk)(h:0<ts.length)(s:ByteArray):Spec Tryz.prog 132 [hZ nm ts] [.box 0 0,jJ s] fun o r=>o=[hZ nm ts]/\r=qA (zO s ts) :=
 (((jpD ts h s).q 1 nm.length (xA nm)).mono (fun _ _ ⟨_,k1,k2,k3⟩=>⟨by rw[k1,k2];rfl,k3⟩) fun _ k=>k).toS
theorem jpz{a b:ByteArray}(h:a.data.toList=b.data.toList):a=b:=ByteArray.ext (xtw80.1 h)
def jpG:List (List UInt8):=keyL.map (·.data.toList)++[]::builtL.map (·.data.toList)
theorem jav(l:List ByteArray)(t:ByteArray):(l.any fun s=>decide (t=s))=decide (t.data.toList∈l.map (·.data.toList)):=by
 induction l with
 |nil=>simp
 |cons s l ih =>
  rw[xtw114,ih,xtw22];by_cases h:t=s
  ·subst h;rw[xtw1 rfl,xtw1 xtw29];rfl
  ·rw[xtw0 h,Bool.false_or]
   congr 1
   rw[xtw13,eq_iff_iff];constructor
   ·exact .inr
   ·rintro (e|e)
    ·exact absurd (jpz e) h
    ·exact e
def wOk(t:Tk):Prop:=t.kind=1->t.text.data.toList≠[]/\∀c∈t.text.data.toList,c≠32
theorem jsr:∀w∈jpG,∀c∈w,c≠32:=by decide +kernel
theorem jre:∀w∈builtL.map (·.data.toList),∀c∈w,c≠32:=by decide +kernel
theorem jay(t:ByteArray):((⟨#[32]⟩:ByteArray)++t++⟨#[32]⟩).data.toList=32::(t.data.toList++[32]):=by simp
theorem jpH(t:ByteArray)(h:t.data.toList≠[]):decide (t.data.toList∈jpG)=(keyL++builtL).any fun s=>decide (t=s):=by
 rw[List.any_append,jav,jav,<- Bool.decide_or];unfold jpG
 congr 1
 rw[xtw30,xtw13,eq_iff_iff];constructor
 ·rintro (e|e|e)
  ·exact .inl e
  ·exact absurd e h
  ·exact .inr e
 ·rintro (e|e)
  ·exact .inl e
  ·exact .inr (.inr e)
theorem jiM(ts:List Tk)(h:0<ts.length)(hw:wOk (hd ts))(hz:(hd ts).text.size<=1000000000):SpecV Tryz.prog 159 (bxN ts) [.box 0 0] (fun c r=>c=bxN ts/\r=qA (yB ts)) fun _=>False:=fun y hy=>by
 have hr:=nP h;unfold yB;refine vY (wH jK jT 1 (fun ch _=>(fun _=>False) ch)) (fun _ _ h=>h) Tryz.func159 rfl (by kernel_rfl) rfl (by kernel_rfl) ?_;intro _;unfold wOk at hw;generalize hd ts=t at *;conv=>whnf
 (refine cR ?_;try with_reducible exact trivial)
 (generalize hrq:jC _ _ (z8 ts)=rq;obtain rfl:rq=cT t:=hrq.symm.trans (hr);clear hrq;conv=>whnf)
 by_cases h1:t.kind=1
 ·obtain⟨w1,w2⟩:=hw h1
  have hc:∀K:ByteArray,K.size<=1000000000->K.data.toList=spW jpG->Spec Tryz.prog 171 [] [jJ K,jJ ((⟨#[32]⟩:ByteArray)++t.text++⟨#[32]⟩)] fun _ r=>r=qA ((keyL++builtL).any fun s=>decide (t.text=s)):=fun K hK hK2=>by
   have:=jbT K ((⟨#[32]⟩:ByteArray)++t.text++⟨#[32]⟩) hK;rw[jay,hK2,oY _ w2 _ jsr,jpH _ w1] at this;exact this
  have hs1:(⟨#[32]⟩:ByteArray).size=1:=rfl;rw[xtw1 h1];conv=>whnf
  refine⟨by rw[hs1];unfold maxLen;omega,?_⟩;conv=>whnf
  refine⟨by rw[xtw7,hs1];unfold maxLen;omega,?_⟩;conv=>whnf
  (refine jcY [] rfl (fun _=>hc _ (by decide +kernel) (by decide +kernel)) ?_;rintro r rfl;conv=>whnf)
  exact⟨_,rfl,rfl,rfl⟩
 ·rw[xtw0 h1];conv=>whnf
  exact⟨_,rfl,rfl,rfl⟩
theorem fF(nm:List ByteArray)(ts:List Tk)(h:0<ts.length)(hw:wOk (hd ts))(hz:(hd ts).text.size<=1000000000):Spec Tryz.prog 159 [hZ nm ts] [.box 0 0] fun o r=>o=[hZ nm ts]/\r=qA (yB ts) :=
 (((jiM ts h hw hz).q 1 nm.length (xA nm)).mono (fun _ _ ⟨_,k1,k2,k3⟩=>⟨by rw[k1,k2];rfl,k3⟩) fun _ k=>k).toS
theorem jgQ(ts:List Tk)(h:0<ts.length)(s:ByteArray):SpecV Tryz.prog 134 (bxN ts) [.box 0 0,jJ s] (fun c r=>zO s ts=true/\c=bxN ts.tail/\r=.tup []) fun ch=>zO s ts=false/\ch=qR (hd ts).pos 10:=fun y hy=>by
 refine vY (wH jK jT 1 (fun ch _=>(fun ch=>zO s ts=false/\ch=qR (hd ts).pos 10) ch)) (fun _ _ h=>h) Tryz.func134 rfl (by kernel_rfl) rfl (by kernel_rfl) ?_;intro _;conv=>whnf
 refine kQ 0 [] (jpD ts h s y hy) (fun ch bx' hp=>hp.elim) ?_;rintro o r ⟨c,ho,rfl,rfl⟩;cases ho;conv=>whnf
 cases hq:zO s ts with
 |true =>
  conv=>whnf
  refine kQ 0 [] (tP ts h y hy) (fun ch bx' hp=>hp.elim) ?_;rintro o r ⟨c,ho,rfl,rfl⟩;cases ho;conv=>whnf
  exact⟨_,rfl,rfl,rfl,rfl⟩
 |false =>
  conv=>whnf
  refine kQ 0 [] (lE ts h 10 y hy) (fun ch bx' hp=>⟨rfl,hp⟩) ?_;rintro o r ⟨_,_,⟨⟩⟩
theorem jV(nm:List ByteArray)(ts:List Tk)(h:0<ts.length)(s:ByteArray):SpecP Tryz.prog 134 [hZ nm ts] [.box 0 0,jJ s] (fun o r=>zO s ts=true/\o=[hZ nm ts.tail]/\r=.tup []) fun ch=>zO s ts=false/\ch=qR (hd ts).pos 10 :=
 ((jgQ ts h s).q 1 nm.length (xA nm)).mono (fun _ _ ⟨_,k1,k2,k3,k4⟩=>⟨k2,by rw[k1,k3];rfl,k4⟩) fun _ k=>k
theorem fG(nm:List ByteArray)(ts:List Tk)(h:0<ts.length)(s:ByteArray)(lv:Int):SpecP Tryz.prog 162 [hZ nm ts] [.box 0 0,jJ s,intA lv] (fun o r=>(zO s ts=true/\lv<=20)/\o=[hZ nm ts.tail]/\r=.tup [])
  fun ch=>(zO s ts=true/\20<lv/\ch=qR (hd ts).pos 2)∨(zO s ts=false/\ch=qR (hd ts).pos 10):=by
 refine vY (wH jK jT 1 (fun ch _=>(fun ch=>(zO s ts=true/\20<lv/\ch=qR (hd ts).pos 2)∨(zO s ts=false/\ch=qR (hd ts).pos 10)) ch)) (fun _ _ h=>h) Tryz.func162 rfl (by kernel_rfl) rfl (by kernel_rfl) ?_;intro _;conv=>whnf
 refine jL 0 [] (nE nm ts h s) ?_;rintro o r ⟨ho,rfl⟩;cases ho;conv=>whnf
 cases hq:zO s ts with
 |true =>
  conv=>whnf
  by_cases h1:20<lv
  ·rw[xtw1 h1];conv=>whnf
   refine kQ 0 [] (gJ nm ts h 2) (fun ch bx' hp=>.inl ⟨rfl,h1,hp⟩) ?_;rintro o r ⟨⟩
  ·rw[xtw0 h1];conv=>whnf
   refine kQ 0 [] (jV nm ts h s) (fun ch bx' hp=>.inr (by rw[hq] at hp;exact hp)) ?_;rintro o r ⟨_,ho,rfl⟩;cases ho;conv=>whnf
   exact⟨⟨rfl,by omega⟩,rfl,rfl⟩
 |false =>
  conv=>whnf
  refine kQ 0 [] (jV nm ts h s) (fun ch bx' hp=>.inr (by rw[hq] at hp;exact hp)) ?_;rintro o r ⟨hx,ho,rfl⟩;rw[hq] at hx;cases hx
section
end
structure Pr where
 un:List Tk->Ps
 ch:List Tk->Ps
 fo:List Tk->Ps
def jut:ByteArray:=⟨#[33]⟩
def jtA:ByteArray:=⟨#[110,101,120,116]⟩
def jur:ByteArray:=⟨#[97,108,119,97,121,115]⟩
def kEv:ByteArray:=⟨#[101,118,101,110,116,117,97,108,108,121]⟩
def jqA:ByteArray:=⟨#[116,114,117,101]⟩
def jrY:ByteArray:=⟨#[102,97,108,115,101]⟩
def kLp:ByteArray:=⟨#[40]⟩
def kRp:ByteArray:=⟨#[41]⟩
def jrZ:ByteArray:=⟨#[117,110,116,105,108]⟩
def kOr:ByteArray:=⟨#[124,124]⟩
def jus:ByteArray:=⟨#[38,38]⟩
def jsP(s:ByteArray):Option Int:=if s=jut then some 2 else if s=jtA then some 5 else if s=jur then some 7 else if s=kEv then some 8 else none
def jrC(b:Bool):Fm:=.mk (if b=true then 3 else 4) 0 0 0 []
def unG(low:Option Pr)(ts:List Tk):Ps :=
 match jsP (hd ts).text with
 |some k=>match low with
  |none=>.bad (hd ts).pos 2
  |some p=>match p.un ts.tail with
   |.ok f r=>.ok (.mk k 0 0 0 [f]) r
   |.bad x e=>.bad x e
 |none=>if (isT jqA ts||isT jrY ts)=true then .ok (jrC (decide ((hd ts).text=jqA))) ts.tail else
  if isT kLp ts=true then match low with
   |none=>.bad (hd ts).pos 2
   |some p=>match p.fo ts.tail with
    |.ok f r=>if isT kRp r=true then .ok f r.tail else .bad (hd r).pos 10
    |.bad x e=>.bad x e
  else jun ts
def chG(un:List Tk->Ps)(low:Option Pr)(ts:List Tk):Ps :=
 match un ts with
 |.bad x e=>.bad x e
 |.ok f r=>if isT jrZ r=true then match low with
   |none=>.bad (hd r).pos 2
   |some p=>match p.ch r.tail with
    |.ok g r'=>.ok (.mk 6 0 0 0 [f,g]) r'
    |.bad x e=>.bad x e
  else .ok f r
inductive Lr where
 |ok (l:List Fm) (r:List Tk)
 |bad (p e:Int)
def jtD(op:List Tk->Ps)(sign:ByteArray):Nat->List Fm->List Tk->Lr
 |0,acc,ts=>.ok acc ts
 |n+1,acc,ts=>if isT sign ts=true then match op ts.tail with
   |.ok f r=>jtD op sign n (acc++[f]) r
   |.bad x e=>.bad x e
  else .ok acc ts
def jup(kind:Int):Lr->Ps
 |.bad x e=>.bad x e
 |.ok [f] r=>.ok f r
 |.ok l r=>.ok (.mk kind 0 0 0 l) r
def liF(op:List Tk->Ps)(kind:Int)(sign:ByteArray)(ts:List Tk):Ps :=
 match op ts with
 |.bad x e=>.bad x e
 |.ok f r=>jup kind (jtD op sign r.length [f] r)
def foG(ch:List Tk->Ps):List Tk->Ps:=liF (liF ch 3 jus) 4 kOr
def prG(low:Option Pr):Pr:=⟨unG low,chG (unG low) low,foG (chG (unG low) low)⟩
def pr:Nat->Pr
 |0=>prG none
 |d+1=>prG (some (pr d))
def TkB(ts:List Tk):Prop:=TkW ts/\ts.length<=1000000
theorem TkB.tail{ts:List Tk}(h:TkB ts)(hk:(hd ts).kind≠0):TkB ts.tail/\ts.tail.length+1=ts.length:=by
 have h1:=h.1.pos;refine⟨⟨h.1.tail hk,?_⟩,?_⟩
 ·have:=h.2;simp;omega
 ·simp;omega
theorem mJ(nm:List ByteArray)(ts:List Tk)(h:0<ts.length)(lim:Int):SpecP Tryz.prog 161 [hZ nm ts] [.box 0 0,intA lim] (fun o r=>((hd ts).kind=2/\(hd ts).n<lim)/\o=[hZ nm ts.tail]/\r=intA (hd ts).n)
  fun ch=>((hd ts).kind≠2/\ch=qR (hd ts).pos 10)∨((hd ts).kind=2/\lim<=(hd ts).n/\ch=qR (hd ts).pos 6):=by
 have hr:=nP h
 have hf:=fun e=>gJ nm ts h e
 have hn:=wV nm ts h;refine vY (wH jK jT 1 (fun ch _=>(fun ch=>((hd ts).kind≠2/\ch=qR (hd ts).pos 10)∨((hd ts).kind=2/\lim<=(hd ts).n/\ch=qR (hd ts).pos 6)) ch)) (fun _ _ h=>h) Tryz.func161 rfl (by kernel_rfl) rfl (by kernel_rfl) ?_;intro _;generalize hd ts=t at *;conv=>whnf
 (refine cR ?_;try with_reducible exact trivial)
 (generalize hrq:jC _ _ (z8 ts)=rq;obtain rfl:rq=cT t:=hrq.symm.trans (hr);clear hrq;conv=>whnf)
 by_cases h1:t.kind=2
 ·rw[xtw1 h1];conv=>whnf
  by_cases h2:lim<=t.n
  ·rw[xtw1 h2];conv=>whnf
   refine kQ 0 [] (hf 6) (fun ch bx' hp=>.inr ⟨h1,h2,hp⟩) ?_;rintro o r ⟨⟩
  ·rw[xtw0 h2];conv=>whnf
   refine jL 0 [] hn ?_;rintro o r ⟨ho,rfl⟩;cases ho;conv=>whnf
   exact⟨⟨h1,by omega⟩,rfl,rfl⟩
 ·rw[xtw0 h1];conv=>whnf
  refine kQ 0 [] (hf 10) (fun ch bx' hp=>.inl ⟨h1,hp⟩) ?_;rintro o r ⟨⟩
def oB(ts:List Tk):List ByteArray->Int->Int
 |[],_ => -1
 |s::l,i=>if zO s ts=true then i else oB ts l (i+1)
theorem jde(ts:List Tk):∀(l:List ByteArray) (i:Int),0<=i->(0<=oB ts l i↔cW l ts=true)
 |[],i,_=>by simp[oB,cW]
 |s::l,i,h=>by
  have ih:=jde ts l (i+1) (by omega);unfold oB cW;rw[xtw114];by_cases hs:zO s ts=true
  ·rw[xtw3 hs,hs];simp[h]
  ·rw[xtw2 hs,Bool.not_eq_true] at *;rw[hs,Bool.false_or];exact ih
theorem jld(nm:List ByteArray)(ts:List Tk)(h:0<ts.length)(l:List ByteArray)(hl:l.length<=1000):Spec Tryz.prog 223 [hZ nm ts] [.sl 1 l.length (wO l),.bm 132 [.box 0 0]] fun o r=>o=[hZ nm ts]/\r=intA (oB ts l 0):=by
 refine eN jK jT 1 Tryz.func223 rfl ?_;intro _;conv=>whnf
 refine jA [0,1,7] ?_;conv=>whnf
 refine jE (fun k:Nat=>[(8,.v (.int .i64 k))]) (fun _=>[hZ nm ts]) (fun _=>[]) (fun k=>k<=l.length/\oB ts (l.drop k) k=oB ts l 0) (fun k=>l.length-k) 0 ?_ ⟨xtw19 _,rfl⟩ ?_
 ·repeat' constructor
 ·rintro k ⟨hk,hinv⟩;conv=>whnf
  by_cases hlt:k<l.length
  ·have hr:=fL l k hlt;rw[xtw63 hlt] at hinv;generalize l[k]=s at *
   (refine cR ?_;try with_reducible exact trivial)
   (generalize hrq:jC _ _ (wO l)=rq;obtain rfl:rq=[jJ s]:=hrq.symm.trans (hr);clear hrq;conv=>whnf)
   refine jL 0 [] (nE nm ts h s) ?_;rintro o r ⟨ho,rfl⟩;cases ho;conv=>whnf
   cases hq:zO s ts with
   |true =>
    (refine cR ?_;try with_reducible exact trivial)
    rw[oB,xtw3 hq] at hinv;rw[<- hinv];exact⟨rfl,rfl⟩
   |false =>
    (refine cR ?_;try with_reducible exact trivial)
    rw[oB,xtw2 (by rw[hq];simp)] at hinv;refine⟨jG (by omega),?_⟩;conv=>whnf
    refine⟨k+1,zW ?_,⟨hlt,by push_cast;exact hinv⟩,by omega⟩;repeat' constructor
  ·(refine cR ?_;try with_reducible exact trivial)
   rw[xtw51 (by omega)] at hinv;rw[<- hinv];exact⟨rfl,rfl⟩
theorem jbI(nm:List ByteArray)(ts:List Tk)(h:0<ts.length)(l:List ByteArray)(hl:l.length<=1000):Spec Tryz.prog 210 [hZ nm ts] [.sl 1 l.length (wO l),.bm 132 [.box 0 0]] fun o r=>o=[hZ nm ts]/\r=qA (cW l ts):=by
 have hi:=jde ts l 0 (by omega);refine eN jK jT 1 Tryz.func210 rfl ?_;intro _;conv=>whnf
 refine jL 0 [] (jld nm ts h l hl) ?_;rintro o r ⟨ho,rfl⟩;cases ho;generalize oB ts l 0=i at *;conv=>whnf
 refine⟨rfl,?_⟩
 cases hq:cW l ts with
 |true=>rw[xtw1 (hi.2 hq)];rfl
 |false=>rw[xtw0 (fun e=>by rw[hi.1 e] at hq;cases hq)];rfl
theorem jjZ{X:Type}{np:Nat}{t t0:List A}{bx:List (List A)}{rw:List Row}{g:X->List (Nat×A)}{hb:X->List (List A)}{hr:X->List Row}{x:X}(ids sel:List Nat)
  (h:j9 (jB rw ids) fun rw'=>n8 (fR rw') t fun t'=>jc1 rw' bx fun bx'=>jlM sel t' bx' rw' fun s'=>jb8 t0 g hb hr x fun s2=>LeS np s' s2):Le np ⟨t,bx,rw⟩ (m9 t0 g hb hr x):=by
 rw[qP,qN,mV] at h;exact((jio (np:=np) (s:=⟨t,bx,rw⟩) ids).trans jip).trans (jD sel h)
def TkP(ts:List Tk):Prop:=TkB ts/\∀t∈ts,wOk t
theorem TkP.pos{ts:List Tk}(h:TkP ts):0<ts.length:=h.1.1.pos
theorem TkP.hd{ts:List Tk}(h:TkP ts):wOk (hd ts):=by
 have:=h.pos
 cases ts with
 |nil=>simp at this
 |cons t r=>exact h.2 t xtw29
theorem TkP.good{ts:List Tk}(h:TkP ts):tZ (Vm.hd ts):=h.1.1.good
theorem TkP.tail{ts:List Tk}(h:TkP ts)(hk:(Vm.hd ts).kind≠0):TkP ts.tail/\ts.tail.length+1=ts.length :=
 ⟨⟨(h.1.tail hk).1,fun t ht=>h.2 t (List.mem_of_mem_tail ht)⟩,(h.1.tail hk).2⟩
theorem yU{s:ByteArray}{ts:List Tk}(h:zO s ts=true):(hd ts).kind≠0:=by
 unfold zO at h;simp only[xtw14,xtw72,xtw17] at h
 rcases h.2 with h|h <;> omega
theorem TkP.is{s:ByteArray}{ts:List Tk}(h:TkP ts)(k:zO s ts=true):TkP ts.tail/\ts.tail.length+1=ts.length:=h.tail (yU k)
theorem eK{l:List ByteArray}{ts:List Tk}(h:cW l ts=true):∃s,zO s ts=true:=by
 unfold cW at h;obtain⟨s,_,h⟩:=xtw34.1 h;exact⟨s,h⟩
def qT(op:List Tk->Pn):Prop:=∀ts f r,TkP ts->op ts=.ok f r->TkP r/\r.length<=ts.length
def pnQ(p:Pn)(ch:List PanicEntry):Prop:=match p with
 |.bad x e=>ch=qR x e
 |_=>False
def poQ(nm:List ByteArray)(p:Pn)(o:List (List A))(r:A):Prop:=match p with
 |.ok f ts=>o=[hZ nm ts]/\r=.agg (ntA f)
 |_=>False
theorem j8{nm:List ByteArray}{p:Pn}{o:List (List A)}{r:A}(h:poQ nm p o r):∃f ts,p=.ok f ts/\o=[hZ nm ts]/\r=.agg (ntA f):=by
 unfold poQ at h;split at h
 ·exact⟨_,_,rfl,h.1,h.2⟩
 ·exact h.elim
theorem zK{p:Pn}{ch:List PanicEntry}(h:pnQ p ch):∃x e,p=.bad x e/\ch=qR x e:=by
 unfold pnQ at h;split at h
 ·exact⟨_,_,rfl,h⟩
 ·exact h.elim
theorem jM{p:Pn}{x e:Int}{ch:List PanicEntry}(h:p=.bad x e)(k:ch=qR x e):pnQ p ch:=by subst h;exact k
def jcn:List A:=[intA 0,intA 0,jJ ⟨#[]⟩,.v (.slice none 0 0)]
def zZ(nm:List ByteArray)(g:Nat)(lv:Int)(op:List Tk->Pn):Prop:=∀ts,TkP ts->SpecP Tryz.prog g [hZ nm ts] [.box 0 0,intA lv] (poQ nm (op ts)) (pnQ (op ts))
theorem eT(nm:List ByteArray)(op:List Tk->Pn)(signs:List ByteArray)(lv:Int)(g:Nat)(hsg:signs.length<=1000)(hgo:qT op)(hop:zZ nm g lv op)(ts:List Tk)(h:TkP ts) :
  SpecP Tryz.prog 184 [hZ nm ts] [.box 0 0,intA lv,.bm g [.box 0 0],.sl 1 signs.length (wO signs)] (poQ nm (wG op signs ts)) (pnQ (wG op signs ts)):=by
 obtain⟨P,hP⟩:∃P,wG op signs ts=P:=⟨_,rfl⟩
 rw[hP];refine eNP jsi (fun _=>[0]) Tryz.func184 rfl ?_;intro _;unfold wG at hP;have hspec:=hop ts h;conv=>whnf
 refine kQ 0 [] hspec (fun ch bx' hp=>?_) ?_
 ·obtain⟨x,e,he,hc⟩:=zK hp;rw[he] at hP;exact jM hP.symm hc
 rintro o r hpo;obtain⟨f,r1,he,ho,rfl⟩:=j8 hpo;cases ho;rw[he] at hP;simp only[Pn.andThen] at hP;obtain⟨h1,l1⟩:=hgo _ _ _ h he;conv=>whnf
 refine jA [0,1,2,3,8,9] ?_;conv=>whnf
 refine jE (fun _:Nat×Nt×List Tk=>[]) (fun x=>[hZ nm x.2.2,jcn,ntA x.2.1]) (fun _=>[]) (fun x=>TkP x.2.2/\x.2.2.length<=x.1/\xI op signs x.1 x.2.1 x.2.2=P) (fun x=>x.2.2.length) (r1.length,f,r1) ?_ ⟨h1,xtw11 _,hP⟩ ?_
 ·repeat' constructor
 rintro⟨n,left,ts1⟩ ⟨g1,g2,g5⟩
 simp only at g1 g2 g5
 conv=>whnf
 refine jL 0 [] (jbI nm ts1 g1.pos signs hsg) ?_;rintro o r ⟨ho,rfl⟩;cases ho;conv=>whnf
 cases hq:cW signs ts1 with
 |true =>
  obtain⟨s0,hs0⟩:=eK hq;obtain⟨q1,q2⟩:=g1.is hs0
  obtain⟨m,rfl⟩:∃m,n=m+1:=⟨n-1,by have:=g1.pos;omega⟩
  rw[xI,xtw3 hq] at g5;have hnx:=wV nm ts1 g1.pos;generalize ts1.tail=ts2 at *;generalize hd ts1=t at *;conv=>whnf
  refine jL 0 [] hnx ?_;rintro o r ⟨ho,rfl⟩;cases ho;conv=>whnf
  refine kQ 0 [] (hop ts2 q1) (fun ch bx' hp=>?_) ?_
  ·obtain⟨x,e,he,hc⟩:=zK hp;rw[he] at g5;exact jM g5.symm hc
  rintro o r hpo;obtain⟨f2,r2,he2,ho,rfl⟩:=j8 hpo;cases ho;rw[he2] at g5;simp only[Pn.andThen] at g5;obtain⟨h2,l2⟩:=hgo _ _ _ q1 he2;refine⟨(m,.mk 18 0 t.text [left,f2],r2),jjZ [0] [] ?_,⟨h2,by simp only;omega,g5⟩,by simp only;omega⟩;conv=>whnf
  repeat' constructor
  show A.sl 4 2 _=A.sl 4 2 (jQ [left,f2]);rw[qV,qV,kN];rfl
 |false =>
  have hlg:xI op signs n left ts1=.ok left ts1:=by
   cases n with
   |zero=>rfl
   |succ m=>rw[xI,xtw2 (by rw[hq];simp)]
  rw[hlg] at g5;subst g5;conv=>whnf
  (refine cR ?_;try with_reducible exact trivial)
  exact⟨rfl,rfl⟩
theorem kO(k n:Int)(s:ByteArray)(f:Nt):ntA (.mk k n s [f])=[intA k,intA n,jJ s,.sl 4 1 (ntA f)]:=by
 have e1:ntA f=jQ [f]:=by rw[qV,kN,xtw66]
 rw[e1];rfl
theorem z6(k n:Int)(s:ByteArray)(f g:Nt):ntA (.mk k n s [f,g])=[intA k,intA n,jJ s,.sl 4 2 (ntA f++ntA g)]:=by
 have e1:ntA f++ntA g=jQ [f,g]:=by rw[qV,qV,kN,xtw66]
 rw[e1];rfl
def LowQ(nm:List ByteArray)(lv:Int)(low:Option Pa):Prop:=0<=lv/\((low=none/\lv=20)∨∃p,low=some p/\lv+1<=20/\qT p.no/\qT p.un/\qT p.ex/\qT p.bl ∧
 zZ nm 211 (lv+1) p.no/\zZ nm 235 (lv+1) p.un/\zZ nm 172 (lv+1) p.ex/\zZ nm 136 (lv+1) p.bl)
def jqU(nm:List ByteArray)(lv:Int)(g:Nat)(op:Option (List Tk->Pn)):Prop:=0<=lv/\((op=none/\lv=20)∨∃f,op=some f/\lv+1<=20/\qT f/\zZ nm g (lv+1) f)
theorem LowQ.no{nm:List ByteArray}{lv:Int}{low:Option Pa}(h:LowQ nm lv low):jqU nm lv 211 (low.map (·.no)):=by
 obtain⟨h0,⟨rfl,h1⟩|⟨p,rfl,h1,a,b,c,d,e,f,g,i⟩⟩:=h
 ·exact⟨h0,.inl ⟨rfl,h1⟩⟩
 ·exact⟨h0,.inr ⟨_,rfl,h1,a,e⟩⟩
theorem LowQ.un{nm:List ByteArray}{lv:Int}{low:Option Pa}(h:LowQ nm lv low):jqU nm lv 235 (low.map (·.un)):=by
 obtain⟨h0,⟨rfl,h1⟩|⟨p,rfl,h1,a,b,c,d,e,f,g,i⟩⟩:=h
 ·exact⟨h0,.inl ⟨rfl,h1⟩⟩
 ·exact⟨h0,.inr ⟨_,rfl,h1,b,f⟩⟩
theorem oG(nm:List ByteArray)(s:ByteArray)(lv:Int)(g:Nat)(op:Option (List Tk->Pn))(hlo:jqU nm lv g op)(ts:List Tk)(h:TkP ts)(hs:zO s ts=true) :
  SpecP Tryz.prog 224 [hZ nm ts] [.box 0 0,intA lv,jJ s,.bm g [.box 0 0]] (poQ nm (u6 s op ts)) (pnQ (u6 s op ts)):=by
 obtain⟨hlv,hlo⟩:=hlo
 obtain⟨P,hP⟩:∃P,u6 s op ts=P:=⟨_,rfl⟩
 rw[hP];have hopen:=fG nm ts h.pos s (lv+1);obtain⟨q1,q2⟩:=h.is hs;unfold u6 at hP;rcases hlo with ⟨rfl,rfl⟩|⟨f,rfl,hle,gf,sf⟩
 ·simp only at hP
  refine eNP jK jT Tryz.func224 rfl ?_;intro _;conv=>whnf
  refine⟨jG (by omega),?_⟩;conv=>whnf
  refine kQ 0 [] hopen (fun ch bx' hp=>?_) ?_
  ·rcases hp with ⟨_,_,hp⟩|⟨hp,_⟩
   ·exact jM hP.symm hp
   ·rw[hs] at hp;cases hp
  rintro o r ⟨⟨_,hbad⟩,_⟩;omega
 ·simp only at hP
  refine eNP jK jT Tryz.func224 rfl ?_;intro _;conv=>whnf
  refine⟨jG (by omega),?_⟩;conv=>whnf
  refine kQ 0 [] hopen (fun ch bx' hp=>?_) ?_
  ·rcases hp with ⟨_,hp,_⟩|⟨hp,_⟩
   ·omega
   ·rw[hs] at hp;cases hp
  rintro o r ⟨_,ho,rfl⟩;cases ho;generalize ts.tail=ts1 at *;conv=>whnf
  refine⟨jG (by omega),?_⟩;conv=>whnf
  refine kQ 0 [] (sf ts1 q1) (fun ch bx' hp=>?_) ?_
  ·obtain⟨x,e,he,hc⟩:=zK hp;rw[he] at hP;exact jM hP.symm hc
  rintro o r hpo;obtain⟨k,r1,he,ho,rfl⟩:=j8 hpo;cases ho;rw[he] at hP;simp only[Pn.andThen] at hP;subst hP;conv=>whnf
  exact⟨rfl,by rw[kO];rfl⟩
theorem jgA{nm:List ByteArray}{lv:Int}{low:Option Pa}(hlo:LowQ nm lv low):zZ nm 243 lv (dN low):=fun ts h=>by
 obtain⟨hlv,hlo⟩:=hlo
 obtain⟨P,hP⟩:∃P,dN low ts=P:=⟨_,rfl⟩
 rw[hP];have hopen:=fG nm ts h.pos pLp (lv+1);unfold dN at hP;refine eNP jK jT Tryz.func243 rfl ?_;intro _;conv=>whnf
 have hlv2:lv<=20:=by rcases hlo with ⟨_,h⟩|⟨_,_,h,_⟩ <;> omega
 refine⟨jG (by omega),?_⟩;conv=>whnf
 refine kQ 0 [] hopen (fun ch bx' hp=>?_) ?_
 ·rcases hp with ⟨h1,h2,hp⟩|⟨h1,hp⟩
  ·rw[xtw3 h1] at hP;rcases hlo with ⟨rfl,rfl⟩|⟨p,rfl,hle,_⟩
   ·exact jM hP.symm hp
   ·omega
  ·rw[xtw2 (by rw[h1];simp)] at hP;exact jM hP.symm hp
 rintro o r ⟨⟨h1,h2⟩,ho,rfl⟩;cases ho;rw[xtw3 h1] at hP;obtain⟨q1,q2⟩:=h.is h1;rcases hlo with ⟨rfl,rfl⟩|⟨p,rfl,hle,_,_,ge,_,_,_,se,_⟩
 ·omega
 simp only at hP
 generalize ts.tail=ts1 at *;conv=>whnf
 refine⟨jG (by omega),?_⟩;conv=>whnf
 refine kQ 0 [] (se ts1 q1) (fun ch bx' hp=>?_) ?_
 ·obtain⟨x,e,he,hc⟩:=zK hp;rw[he] at hP;exact jM hP.symm hc
 rintro o r hpo;obtain⟨k,r1,he,ho,rfl⟩:=j8 hpo;cases ho;rw[he] at hP;simp only[Pn.andThen,xpt] at hP;obtain⟨g1,g2⟩:=ge _ _ _ q1 he;conv=>whnf
 refine kQ 0 [] (jV nm r1 g1.pos pRp) (fun ch bx' hp=>?_) ?_
 ·rw[xtw2 (by rw[hp.1];simp)] at hP;exact jM hP.symm hp.2
 rintro o r ⟨h3,ho,rfl⟩;cases ho;rw[xtw3 h3] at hP;subst hP;conv=>whnf
 exact⟨rfl,rfl⟩
def jpE(f:Nt):List A:=[intA f.k,intA f.n,jJ f.s,.v (.slice none 0 0)]
theorem j4{f:Nt}(h:f.kids=[]):WkL (jpE f) (ntA f):=by
 unfold jpE ntA;rw[h,kN];exact .cons (.refl _) (.cons (.refl _) (.cons (.refl _) (.cons (.nil 4) .nil)))
def poW(nm:List ByteArray)(p:Pn)(o:List (List A))(r:A):Prop:=match p with
 |.ok f ts=>o=[hZ nm ts]/\∃c,r=.agg c/\WkL c (ntA f)
 |_=>False
theorem jU:∀l:List A,WkL l l
 |[]=>.nil
 |a::l=>.cons (.refl a) (jU l)
theorem jiG{nm:List ByteArray}{p:Pn}{o:List (List A)}{r:A}(h:poQ nm p o r):poW nm p o r:=by
 obtain⟨f,ts,rfl,rfl,rfl⟩:=j8 h;exact⟨rfl,_,rfl,jU _⟩
theorem jkr{nm:List ByteArray}{g:Nat}{ins:List (List A)}{args:List A}{p:Pn}(h:SpecP Tryz.prog g ins args (poW nm p) (pnQ p)):SpecP Tryz.prog g ins args (poQ nm p) (pnQ p) :=
 h.weaken (fun o r k=>by
  unfold poW at k;split at k
  ·rename_i f ts;obtain⟨k1,c,rfl,k2⟩:=k;exact⟨o,.agg (ntA f),⟨k1,rfl⟩,.refl o,.agg k2⟩
  ·exact k.elim) fun ch k=>k
theorem jf3{nm:List ByteArray}{lv:Int}{low:Option Pa}(hlo:LowQ nm lv low):zZ nm 240 lv (f0 low):=fun ts h=>by
 have hne:=jgA hlo;refine jkr ?_
 obtain⟨P,hP⟩:∃P,f0 low ts=P:=⟨_,rfl⟩
 rw[hP];have hl:=h.pos;have hr:=nP hl;have hw:=h.hd;have hgd:=h.good
 have his:=fun s=>nE nm ts hl s
 have hnx:=wV nm ts hl;have hnm:=fF nm ts hl hw hgd.1;have hfl:=gJ nm ts hl 10;have htl:=h.tail
 have hps:=fun s (hs:zO s ts=true)=>h.is hs
 unfold wOk at hw;have hz:=hgd.1;clear hgd;have hbi:jii ts=(decide ((hd ts).kind=1)&&builtL.any fun s=>decide ((hd ts).text=s)):=rfl;unfold f0 at hP;refine eNP jK jT Tryz.func240 rfl ?_;intro _;have hsyn:synE ts=.bad (hd ts).pos 10:=rfl;have hn0:=hne ts h;generalize hd ts=t at *;conv=>whnf
 (refine cR ?_;try with_reducible exact trivial)
 (generalize hrq:jC _ _ (z8 ts)=rq;obtain rfl:rq=cT t:=hrq.symm.trans (hr);clear hrq;conv=>whnf)
 refine jL 0 [] (his pLp) ?_;rintro o r ⟨ho,rfl⟩;cases ho;conv=>whnf
 cases hq1:zO pLp ts with
 |true =>
  rw[xtw3 hq1] at hP;conv=>whnf
  rw[hP] at hn0;refine kQ 0 [] hn0 (fun ch bx' hp=>hp) ?_;rintro o r hpo;obtain⟨f,r1,rfl,ho,rfl⟩:=j8 hpo;cases ho;conv=>whnf
  exact jiG (p:=.ok f r1) (show _/\_ from ⟨rfl,rfl⟩)
 |false =>
  rw[xtw2 (by rw[hq1];simp)] at hP;conv=>whnf
  refine jL 0 [] (his wDraw) ?_;rintro o r ⟨ho,rfl⟩;cases ho;conv=>whnf
  cases hq2:zO wDraw ts with
  |true =>
   rw[xtw3 hq2] at hP;obtain⟨q1,q2⟩:=hps _ hq2;generalize ts.tail=ts1 at *;conv=>whnf
   refine jL 0 [] hnx ?_;rintro o r ⟨ho,rfl⟩;cases ho;conv=>whnf
   refine kQ 0 [] (hne ts1 q1) (fun ch bx' hp=>?_) ?_
   ·obtain⟨x,e,he,hc⟩:=zK hp;rw[he] at hP;exact jM hP.symm hc
   rintro o r hpo;obtain⟨f,r1,he,ho,rfl⟩:=j8 hpo;cases ho;rw[he] at hP;simp only[Pn.andThen] at hP;subst hP;conv=>whnf
   exact jiG (p:=.ok (.mk 16 0 eB [f]) r1) (show _/\_ from ⟨rfl,by rw[kO];rfl⟩)
  |false =>
   rw[xtw2 (by rw[hq2];simp)] at hP;conv=>whnf
   by_cases hk2:t.kind=2
   ·rw[xtw1 hk2];rw[xtw3 hk2] at hP;conv=>whnf
    refine jL 0 [] hnx ?_;rintro o r ⟨ho,rfl⟩;cases ho;subst hP;conv=>whnf
    exact⟨rfl,_,rfl,j4 (f:=.mk 12 t.n eB []) rfl⟩
   ·rw[xtw0 hk2];rw[xtw2 hk2] at hP;conv=>whnf
    refine jL 0 [] (his oK) ?_;rintro o r ⟨ho,rfl⟩;cases ho;conv=>whnf
    cases hq3:zO oK ts with
    |true =>
     rw[xtw3 hq3] at hP;conv=>whnf
     refine jL 0 [] hnx ?_;rintro o r ⟨ho,rfl⟩;cases ho;subst hP;conv=>whnf
     exact⟨rfl,_,rfl,j4 (f:=.mk 13 1 eB []) rfl⟩
    |false =>
     rw[xtw2 (by rw[hq3];simp)] at hP;conv=>whnf
     refine jL 0 [] (his cP) ?_;rintro o r ⟨ho,rfl⟩;cases ho;conv=>whnf
     cases hq4:zO cP ts with
     |true =>
      rw[xtw3 hq4] at hP;conv=>whnf
      refine jL 0 [] hnx ?_;rintro o r ⟨ho,rfl⟩;cases ho;subst hP;conv=>whnf
      exact⟨rfl,_,rfl,j4 (f:=.mk 13 0 eB []) rfl⟩
     |false =>
      rw[xtw2 (by rw[hq4];simp)] at hP;conv=>whnf
      refine jL 0 [] hnm ?_;rintro o r ⟨ho,rfl⟩;cases ho;conv=>whnf
      cases hq5:yB ts with
      |true =>
       rw[xtw3 hq5] at hP;conv=>whnf
       refine jL 0 [] hnx ?_;rintro o r ⟨ho,rfl⟩;cases ho;subst hP;conv=>whnf
       exact⟨rfl,_,rfl,j4 (f:=.mk 14 0 t.text []) rfl⟩
      |false =>
       rw[xtw2 (by rw[hq5];simp)] at hP;conv=>whnf
       by_cases hk1:t.kind=1
       ·obtain⟨w1,w2⟩:=hw hk1
        have hc:∀K:ByteArray,K.size<=1000000000->K.data.toList=spW (builtL.map (·.data.toList))->Spec Tryz.prog 171 [] [jJ K,jJ ((⟨#[32]⟩:ByteArray)++t.text++⟨#[32]⟩)] fun _ r=>r=qA (builtL.any fun s=>decide (t.text=s)):=fun K hK hK2=>by
         have:=jbT K ((⟨#[32]⟩:ByteArray)++t.text++⟨#[32]⟩) hK;rw[jay,hK2,oY _ w2 _ jre,<- jav] at this;exact this
        have hs1:(⟨#[32]⟩:ByteArray).size=1:=rfl;rw[xtw1 hk1,Bool.true_and] at hbi;rw[xtw1 hk1];conv=>whnf
        refine⟨by rw[hs1];unfold maxLen;omega,?_⟩;conv=>whnf
        refine⟨by rw[xtw7,hs1];unfold maxLen;omega,?_⟩;conv=>whnf
        (refine jcY [] rfl (fun _=>hc _ (by decide +kernel) (by decide +kernel)) ?_;rintro r rfl;conv=>whnf)
        rw[hbi] at hP
        cases hq6:builtL.any fun s=>decide (t.text=s) with
        |true =>
         rw[hq6,xtw3 rfl] at hP;conv=>whnf
         refine jL 0 [] hnx ?_;rintro o r ⟨ho,rfl⟩;cases ho;subst hP;conv=>whnf
         exact⟨rfl,_,rfl,j4 (f:=.mk 15 0 t.text []) rfl⟩
        |false =>
         rw[hq6,xtw2 (by simp),hsyn] at hP;conv=>whnf
         refine kQ 0 [] hfl (fun ch bx' hp=>jM hP.symm hp) ?_;rintro o r ⟨⟩
       ·rw[xtw0 hk1,Bool.false_and] at hbi;rw[hbi,xtw2 (by simp),hsyn] at hP;rw[xtw0 hk1];conv=>whnf
        refine kQ 0 [] hfl (fun ch bx' hp=>jM hP.symm hp) ?_;rintro o r ⟨⟩
def cV(low:Option Pa):Prop:=∀p,low=some p->qT p.no/\qT p.un/\qT p.ex/\qT p.bl
theorem j6{p:Pn}{k:Nt->List Tk->Pn}{f:Nt}{r:List Tk}(h:p.andThen k=.ok f r):∃g s,p=.ok g s/\k g s=.ok f r:=by
 cases p with
 |ok g s=>exact⟨g,s,rfl,h⟩
 |bad x e=>cases h
theorem xX{s:ByteArray}{ts:List Tk}{k:List Tk->Pn}{f:Nt}{r:List Tk}(h:xpt s ts k=.ok f r):zO s ts=true/\k ts.tail=.ok f r:=by
 unfold xpt at h;split at h
 ·rename_i hs;exact⟨hs,h⟩
 ·cases h
theorem jdb{low:Option Pa}(hl:cV low):qT (dN low):=fun ts f r h e=>by
 unfold dN at e;split at e
 ·rename_i hs;obtain⟨q1,q2⟩:=h.is hs
  cases low with
  |none=>cases e
  |some p =>
   simp only at e
   obtain⟨n,s,e1,e2⟩:=j6 e;obtain⟨g1,g2⟩:=(hl p rfl).2.2.1 _ _ _ q1 e1;obtain⟨e3,e4⟩:=xX e2;obtain⟨g3,g4⟩:=g1.is e3;cases e4;exact⟨g3,by omega⟩
 ·cases e
theorem jg7{s:ByteArray}{op:Option (List Tk->Pn)}(hg:∀f,op=some f->qT f)(ts:List Tk)(f:Nt)(r:List Tk)(h:TkP ts)(hs:zO s ts=true)(e:u6 s op ts=.ok f r):TkP r/\r.length<=ts.length:=by
 obtain⟨q1,q2⟩:=h.is hs
 cases op with
 |none=>cases e
 |some o =>
  unfold u6 at e
  simp only at e
  obtain⟨n,s,e1,e2⟩:=j6 e;obtain⟨g1,g2⟩:=hg o rfl _ _ _ q1 e1;cases e2;exact⟨g1,by omega⟩
theorem jkS{low:Option Pa}(hl:cV low):qT (f0 low):=fun ts f r h e=>by
 unfold f0 at e;split at e
 ·exact jdb hl ts f r h e
 split at e
 ·rename_i hs;obtain⟨q1,q2⟩:=h.is hs;obtain⟨n,s,e1,e2⟩:=j6 e;obtain⟨g1,g2⟩:=jdb hl _ _ _ q1 e1;cases e2;exact⟨g1,by omega⟩
 split at e
 ·rename_i hk;obtain⟨q1,q2⟩:=h.tail (by rw[hk];decide);cases e;exact⟨q1,by omega⟩
 split at e
 ·rename_i hs;obtain⟨q1,q2⟩:=h.is hs;cases e;exact⟨q1,by omega⟩
 split at e
 ·rename_i hs;obtain⟨q1,q2⟩:=h.is hs;cases e;exact⟨q1,by omega⟩
 split at e
 ·rename_i hs;unfold yB at hs;simp only[xtw14,xtw17] at hs;obtain⟨q1,q2⟩:=h.tail (by rw[hs.1];decide);cases e;exact⟨q1,by omega⟩
 split at e
 ·rename_i hs;unfold jii at hs;simp only[xtw14,xtw17] at hs;obtain⟨q1,q2⟩:=h.tail (by rw[hs.1];decide);cases e;exact⟨q1,by omega⟩
 ·cases e
theorem gZ{low:Option Pa}(hl:cV low):qT (aG low):=fun ts f r h e=>by
 unfold aG at e;split at e
 ·rename_i hs;refine jg7 (fun o ho=>?_) ts f r h hs e;rw[xtw49] at ho;obtain⟨p,hp,rfl⟩:=ho;exact(hl p hp).2.1
 ·exact jkS hl ts f r h e
theorem jb6{op:List Tk->Pn}(hg:qT op)(signs:List ByteArray):∀(n:Nat) (l:Nt) (ts:List Tk) (f:Nt) (r:List Tk),TkP ts->xI op signs n l ts=.ok f r->TkP r/\r.length<=ts.length
 |0,l,ts,f,r,h,e=>by cases e;exact⟨h,xtw11 _⟩
 |n+1,l,ts,f,r,h,e=>by
  rw[xI] at e;split at e
  ·rename_i hs;obtain⟨s,hs⟩:=eK hs;obtain⟨q1,q2⟩:=h.is hs;obtain⟨g,s,e1,e2⟩:=j6 e;obtain⟨g1,g2⟩:=hg _ _ _ q1 e1;obtain⟨g3,g4⟩:=jb6 hg signs n _ _ _ _ g1 e2;exact⟨g3,by omega⟩
  ·cases e;exact⟨h,xtw11 _⟩
theorem xK{op:List Tk->Pn}(hg:qT op)(signs:List ByteArray):qT (wG op signs):=fun ts f r h e=>by
 unfold wG at e;obtain⟨g,s,e1,e2⟩:=j6 e;obtain⟨g1,g2⟩:=hg _ _ _ h e1;obtain⟨g3,g4⟩:=jb6 hg signs _ _ _ _ _ g1 e2;exact⟨g3,by omega⟩
theorem iP{low:Option Pa}(hl:cV low):qT (jcI low):=xK (xK (gZ hl) _) _
theorem gY{low:Option Pa}(hl:cV low):qT (ntG low):=fun ts f r h e=>by
 unfold ntG at e;split at e
 ·rename_i hs;refine jg7 (fun o ho=>?_) ts f r h hs e;rw[xtw49] at ho;obtain⟨p,hp,rfl⟩:=ho;exact(hl p hp).1
 ·obtain⟨g,s,e1,e2⟩:=j6 e;obtain⟨g1,g2⟩:=iP hl _ _ _ h e1;split at e2
  ·rename_i hs;obtain⟨_,hs⟩:=eK hs;obtain⟨q1,q2⟩:=g1.is hs;obtain⟨g',s',e3,e4⟩:=j6 e2;obtain⟨g3,g4⟩:=iP hl _ _ _ q1 e3;cases e4;exact⟨g3,by omega⟩
  ·cases e2;exact⟨g1,g2⟩
theorem gX{low:Option Pa}(hl:cV low):qT (ji6 low):=xK (xK (gY hl) _) _
theorem LowQ.goes{nm:List ByteArray}{lv:Int}{low:Option Pa}(h:LowQ nm lv low):cV low:=fun p hp=>by
 obtain⟨h0,⟨rfl,h1⟩|⟨q,rfl,h1,a,b,c,d,e,f,g,i⟩⟩:=h
 ·cases hp
 ·cases hp;exact⟨a,b,c,d⟩
theorem jch{nm:List ByteArray}{lv:Int}{low:Option Pa}(hlo:LowQ nm lv low):zZ nm 235 lv (aG low):=fun ts h=>by
 have hpr:=jf3 hlo ts h
 obtain⟨P,hP⟩:∃P,aG low ts=P:=⟨_,rfl⟩
 rw[hP];have his:=nE nm ts h.pos qB
 have hpre:=fun hs=>oG nm qB lv _ _ hlo.un ts h hs
 unfold aG at hP;refine eNP jK jT Tryz.func235 rfl ?_;intro _;conv=>whnf
 refine jL 0 [] his ?_;rintro o r ⟨ho,rfl⟩;cases ho;conv=>whnf
 cases hq:zO qB ts with
 |true =>
  have hpre:=hpre hq;rw[xtw3 hq] at hP;rw[hP] at hpre;conv=>whnf
  refine kQ 0 [] hpre (fun ch bx' hp=>hp) ?_;rintro o r hpo;obtain⟨f,r1,rfl,ho,rfl⟩:=j8 hpo;cases ho;conv=>whnf
  exact⟨rfl,rfl⟩
 |false =>
  rw[xtw2 (by rw[hq];simp)] at hP;rw[hP] at hpr;conv=>whnf
  refine kQ 0 [] hpr (fun ch bx' hp=>hp) ?_;rintro o r hpo;obtain⟨f,r1,rfl,ho,rfl⟩:=j8 hpo;cases ho;conv=>whnf
  exact⟨rfl,rfl⟩
theorem jf4{nm:List ByteArray}{lv:Int}{low:Option Pa}(hlo:LowQ nm lv low):zZ nm 230 lv (wG (aG low) [vC,wK]):=by
 have hop:=jch hlo;have hgo:=gZ hlo.goes;intro ts h
 obtain⟨P,hP⟩:∃P,wG (aG low) [vC,wK] ts=P:=⟨_,rfl⟩
 have hch:=eT nm (aG low) [vC,wK] lv 235 (by decide) hgo hop ts h;show SpecP _ _ _ _ (poQ nm (wG (aG low) [vC,wK] ts)) (pnQ (wG (aG low) [vC,wK] ts));rw[hP] at hch ⊢;refine eNP jK jT Tryz.func230 rfl ?_;intro _;conv=>whnf
 refine kQ 0 [0] hch (fun ch bx' hp=>hp) ?_;rintro o r hpo;obtain⟨f,r1,rfl,ho,rfl⟩:=j8 hpo;cases ho;conv=>whnf
 exact⟨rfl,rfl⟩
theorem jof{nm:List ByteArray}{lv:Int}{low:Option Pa}(hlo:LowQ nm lv low):zZ nm 225 lv (jcI low):=by
 have hop:=jf4 hlo;have hgo:=xK (gZ hlo.goes) [vC,wK];show zZ _ _ _ (wG (wG (aG low) [vC,wK]) [bF,qB]);intro ts h
 obtain⟨P,hP⟩:∃P,wG (wG (aG low) [vC,wK]) [bF,qB] ts=P:=⟨_,rfl⟩
 have hch:=eT nm (wG (aG low) [vC,wK]) [bF,qB] lv 230 (by decide) hgo hop ts h;show SpecP _ _ _ _ (poQ nm (wG (wG (aG low) [vC,wK]) [bF,qB] ts)) (pnQ (wG (wG (aG low) [vC,wK]) [bF,qB] ts));rw[hP] at hch ⊢;refine eNP jK jT Tryz.func225 rfl ?_;intro _;conv=>whnf
 refine kQ 0 [0] hch (fun ch bx' hp=>hp) ?_;rintro o r hpo;obtain⟨f,r1,rfl,ho,rfl⟩:=j8 hpo;cases ho;conv=>whnf
 exact⟨rfl,rfl⟩
theorem jgD{nm:List ByteArray}{lv:Int}{low:Option Pa}(hlo:LowQ nm lv low):zZ nm 211 lv (ntG low):=fun ts h=>by
 have hsm:=jof hlo;have hgs:=iP hlo.goes
 obtain⟨P,hP⟩:∃P,ntG low ts=P:=⟨_,rfl⟩
 rw[hP];have his:=nE nm ts h.pos bU
 have hpre:=fun hs=>oG nm bU lv _ _ hlo.no ts h hs
 unfold ntG at hP;generalize jcI low=op at *;refine eNP jsm (fun _=>[0]) Tryz.func211 rfl ?_;intro _;conv=>whnf
 refine jL 0 [] his ?_;rintro o r ⟨ho,rfl⟩;cases ho;conv=>whnf
 cases hq:zO bU ts with
 |true =>
  have hpre:=hpre hq;rw[xtw3 hq] at hP;rw[hP] at hpre;conv=>whnf
  refine kQ 0 [] hpre (fun ch bx' hp=>hp) ?_;rintro o r hpo;obtain⟨f,r1,rfl,ho,rfl⟩:=j8 hpo;cases ho;conv=>whnf
  exact⟨rfl,rfl⟩
 |false =>
  rw[xtw2 (by rw[hq];simp)] at hP;conv=>whnf
  refine kQ 0 [] (hsm ts h) (fun ch bx' hp=>?_) ?_
  ·obtain⟨x,e,he,hc⟩:=zK hp;rw[he] at hP;exact jM hP.symm hc
  rintro o r hpo;obtain⟨f,r1,he,ho,rfl⟩:=j8 hpo;cases ho;rw[he] at hP;simp only[Pn.andThen] at hP;obtain⟨g1,g2⟩:=hgs _ _ _ h he;have hct:=jbI nm r1 g1.pos dD (by decide);conv=>whnf
  refine jL 0 [0] hct ?_;rintro o r ⟨ho,rfl⟩;cases ho;conv=>whnf
  cases hc:cW dD r1 with
  |true =>
   rw[xtw3 hc] at hP;obtain⟨_,hs⟩:=eK hc;obtain⟨q1,q2⟩:=g1.is hs;have hnx:=wV nm r1 g1.pos;generalize r1.tail=r2 at *;generalize hd r1=t at *;conv=>whnf
   refine jL 0 [] hnx ?_;rintro o r ⟨ho,rfl⟩;cases ho;conv=>whnf
   refine kQ 0 [] (hsm r2 q1) (fun ch bx' hp=>?_) ?_
   ·obtain⟨x,e,he,hc⟩:=zK hp;rw[he] at hP;exact jM hP.symm hc
   rintro o r hpo;obtain⟨f2,r3,he2,ho,rfl⟩:=j8 hpo;cases ho;rw[he2] at hP;simp only[Pn.andThen] at hP;subst hP;conv=>whnf
   exact⟨rfl,by rw[z6];rfl⟩
  |false =>
   rw[xtw2 (by rw[hc];simp)] at hP;subst hP;conv=>whnf
   exact⟨rfl,rfl⟩
theorem jlT{nm:List ByteArray}{lv:Int}{low:Option Pa}(hlo:LowQ nm lv low):zZ nm 185 lv (wG (ntG low) [yW]):=by
 have hop:=jgD hlo;have hgo:=gY hlo.goes;intro ts h
 obtain⟨P,hP⟩:∃P,wG (ntG low) [yW] ts=P:=⟨_,rfl⟩
 have hch:=eT nm (ntG low) [yW] lv 211 (by decide) hgo hop ts h;show SpecP _ _ _ _ (poQ nm (wG (ntG low) [yW] ts)) (pnQ (wG (ntG low) [yW] ts));rw[hP] at hch ⊢;refine eNP jK jT Tryz.func185 rfl ?_;intro _;conv=>whnf
 refine kQ 0 [0] hch (fun ch bx' hp=>hp) ?_;rintro o r hpo;obtain⟨f,r1,rfl,ho,rfl⟩:=j8 hpo;cases ho;conv=>whnf
 exact⟨rfl,rfl⟩
theorem jd6{nm:List ByteArray}{lv:Int}{low:Option Pa}(hlo:LowQ nm lv low):zZ nm 172 lv (ji6 low):=by
 have hop:=jlT hlo;have hgo:=xK (gY hlo.goes) [yW];show zZ _ _ _ (wG (wG (ntG low) [yW]) [sD]);intro ts h
 obtain⟨P,hP⟩:∃P,wG (wG (ntG low) [yW]) [sD] ts=P:=⟨_,rfl⟩
 have hch:=eT nm (wG (ntG low) [yW]) [sD] lv 185 (by decide) hgo hop ts h;show SpecP _ _ _ _ (poQ nm (wG (wG (ntG low) [yW]) [sD] ts)) (pnQ (wG (wG (ntG low) [yW]) [sD] ts));rw[hP] at hch ⊢;refine eNP jK jT Tryz.func172 rfl ?_;intro _;conv=>whnf
 refine kQ 0 [0] hch (fun ch bx' hp=>hp) ?_;rintro o r hpo;obtain⟨f,r1,rfl,ho,rfl⟩:=j8 hpo;cases ho;conv=>whnf
 exact⟨rfl,rfl⟩
end Go.Proofs.YtfbifdccmabdbaaGreatDoor.Vm
namespace Go.Proofs.YtfbifdccmabdbaaGreatDoor.Vm
open Go.RowKit
section
section
variable{w0:W0}{C0:Rd}{β0:List Nat}{bx:List (List A)}{rw:List Row}{w:World}{E:Env}
theorem Hp.learn(h:Hp w0 C0 β0 bx rw w E){b:Nat}(hf:w0.fr b)(hβ:b∉E.β)(hr:∀(g e k n:Nat) (cs:List A) (y:Value),rw[g]?=some (.live e k n cs)->E.ρ[g]?=some y->blk y≠some b) :
  ∃C',Hp w0 C0 β0 bx rw w ⟨C',E.β,E.ρ⟩/\E.le ⟨C',E.β,E.ρ⟩/\∀ad,ad.block=b->C' ad=kR w ad:=by
 refine⟨fun ad=>if ad.block=b then kR w ad else E.C ad,?_⟩
 have hC:Sub E.C (fun ad=>if ad.block=b then kR w ad else E.C ad):=fun ad u hc=>by
  simp only
  split
  ·exact h.sub ad u hc
  ·exact hc
 have le:E.le ⟨fun ad=>if ad.block=b then kR w ad else E.C ad,E.β,E.ρ⟩:=⟨hC,fun _ _ h=>h,fun _ _ h=>h⟩
 refine⟨⟨fun ad u hc=>?_,h.base.trans hC,fun ad u hc=>?_,h.bp,h.bnd,fun b' hb' o sp=>?_,h.bl,fun i b cs' h1 h2=>(h.bxs i b cs' h1 h2).mono le,h.rl,fun j r' z h1 h2=>(h.rws j r' z h1 h2).mono le (fun _ _ _ _ _ _ _=>rfl),fun j e' k' n' cs' z b' h1 h2 h3=>?_,h.rd,h.rs,h.keep,h.gk⟩,le,fun ad e=>xtw3 e⟩
 ·simp only at hc
  split at hc
  ·exact hc
  ·exact h.sub ad u hc
 ·simp only at hc
  split at hc
  ·rename_i hb2;right;rw[hb2];exact hf
  ·exact h.fresh ad u hc
 ·simp only
  rw[xtw2 (fun hb2:b'=b=>hβ (by rw[<- hb2];exact hb'))];exact h.bC b' hb' o sp
 ·obtain⟨q1,q2⟩:=h.rC j e' k' n' cs' z b' h1 h2 h3;refine⟨q1,fun o sp=>?_⟩
  simp only
  rw[xtw2 (fun hb2:b'=b=>hr j e' k' n' cs' z h1 h2 (by rw[<- hb2];exact h3))];exact q2 o sp
end
def jfG(n nr:Nat)(x:Value)(a:A):A:=match a with
 |.box i o=>match Nat.beq i n with
  |true=>match o with
   |0=>.pp [.v x]
   |_+1=>.dead
  |false=>match y8 n nr a with
   |true=>a
   |false=>.dead
 |a=>match y8 n nr a with
  |true=>a
  |false=>.dead
theorem jkK{E:Env}{C':Rd}{n nr b:Nat}{x:Value}{a:A}{y:Value}(hb:E.β[n]?=some b)(hC:Sub E.C C')(hx:C' ⟨b,0,none⟩=some x)(h1:x.oneCell'=true)(hv:fX x)(h:a.rep E y):(jfG n nr x a).rep ⟨C',E.β.take n,E.ρ.take nr⟩ y:=by
 have le:(⟨E.C,E.β.take n,E.ρ.take nr⟩:Env).le ⟨C',E.β.take n,E.ρ.take nr⟩:=⟨hC,fun _ _ h=>h,fun _ _ h=>h⟩
 have gen:∀a:A,a.rep E y->(match y8 n nr a with|true=>a|false=>.dead:A).rep ⟨C',E.β.take n,E.ρ.take nr⟩ y:=fun a h=>by
  split
  ·rename_i hr;exact A.rep.mono a le (lF a hr h)
  ·exact A.rep_dead _ _
 cases a with
 |box i o =>
  unfold jfG
  simp only
  split
  ·rename_i hi;have hi:=xtw24 hi;subst hi;unfold A.rep at h;obtain⟨b',h2,rfl⟩:=h;rw[hb] at h2;cases h2
   cases o with
   |zero =>
    simp only
    unfold A.rep;refine⟨b,0,rfl,?_⟩;unfold A.repAt;exact⟨⟨x,hx,h1,A.rep_v hv⟩,by unfold A.repAt;trivial⟩
   |succ o=>exact A.rep_dead _ _
  ·exact gen _ h
 |_=>exact gen _ h
theorem jcZ{E:Env}{C':Rd}{n nr b:Nat}{x:Value}(hb:E.β[n]?=some b)(hC:Sub E.C C')(hx:C' ⟨b,0,none⟩=some x)(h1:x.oneCell'=true)(hv:fX x):∀{l:List A} {us:List Value},A.repL l E us->A.repL (l.map (jfG n nr x)) ⟨C',E.β.take n,E.ρ.take nr⟩ us
 |[],us,h=>by unfold A.repL at h ⊢;exact h
 |a::r,us,h=>by
  unfold A.repL at h;obtain⟨u,us',rfl,h2,h3⟩:=h;rw[xtw22];unfold A.repL;exact⟨u,us',rfl,jkK hb hC hx h1 hv h2,jcZ hb hC hx h1 hv h3⟩
theorem jgr:∀l:List A,LeL l l
 |[]=>trivial
 |a::l=>⟨.inr rfl,jgr l⟩
theorem jjY:∀(l m:List (List A)),LeB (l++m) l
 |[],[]=>trivial
 |[],_::_=>trivial
 |a::l,m=>⟨jgr a,jjY l m⟩
theorem jgs:∀l:List Row,LeR l l
 |[]=>trivial
 |a::l=>⟨.inr rfl,jgs l⟩
theorem jph{np:Nat}{t:List A}{bx:List (List A)}{rw:List Row}{x:Value}(hn:Nat.ble np bx.length=true)(hrf:uT bx.length rw.length bx=true):Le np ⟨t,bx++[[.v x]],rw⟩ ⟨t.map (jfG bx.length rw.length x),bx,rw⟩:=by
 rintro dr w0 C0 β0 a w hdr e ⟨E,hp,hrep,hd⟩;have hn':=xtw95 hn;rw[<- e] at hn';have hpw:=hp.weaken (bx':=bx) (rw':=rw) hn' (jjY _ _) (jgs _) hrf;have hbl:=hp.bl;simp only[xtw4,xtw6,xtw8] at hbl
 have hlt:bx.length<E.β.length:=by omega
 obtain⟨b,hb⟩:∃b,E.β[bx.length]?=some b:=⟨_,xtw21 hlt⟩
 obtain⟨T,arr,h1,h2⟩:=hp.bxs bx.length b [.v x] hb (by simp);have h2:=h2.plain (fun t r e=>by cases e);unfold A.repC at h2;obtain⟨u,us',h3,h4,h5,-⟩:=h2;obtain⟨rfl,h6⟩:=A.rep_v_iff.1 h5
 have hsee:kR w ⟨b,0,none⟩=some u:=by
  refine jbU ?_
  have h0:arr[0]?=some u:=by
   have:=congrArg (·[0]?) h3;simpa using this
  simp[World.cell?,h1,h0]
 have hbm:b∈E.β:=List.mem_of_getElem? hb
 have hfr:w0.fr b:=by
  obtain⟨β',hβ,hβ'⟩:=hp.bp;refine .inl (hβ' b ?_);rw[hβ,xtw33 hn'] at hb;exact List.mem_of_getElem? hb
 have hnt:b∉E.β.take bx.length:=fun hm=>by
  obtain⟨i,hi,he⟩:=xtw67.1 hm;rw[xtw38] at hi;rw[List.getElem_take] at he
  have h7:E.β[i]?=some b:=by rw[xtw21 (by omega),he]
  have:=(List.getElem?_inj (by omega) hp.bnd).1 (h7.trans hb.symm);omega
 obtain⟨C',hp2,le,hC'⟩:=hpw.learn hfr hnt (fun g e k n cs y hg hy hk=>by
  have hy':E.ρ[g]?=some y:=by
   rw[xtw83] at hy;split at hy
   ·exact hy
   ·cases hy
  exact(hp.rC g e k n cs y b hg hy' hk).1 hbm)
 refine⟨⟨C',E.β.take bx.length,E.ρ.take rw.length⟩,hp2,?_,?_⟩
 ·exact jcZ hb le.C (show C' ⟨b,0,none⟩=some u by rw[hC' _ rfl];exact hsee) h4 h6 hrep
 ·exact(mK (by rw[e] at hn';exact hn') hdr hd).mono le
theorem jka{c:Cx}{x:Code}{t:List A}{bx:List (List A)}{rw:List Row}{v:Value}{q:Exit->S->Prop}(hn:Nat.ble c.np bx.length=true)(hrf:uT bx.length rw.length bx=true)(h:n8 (jfG bx.length rw.length v) t fun t'=>Ok c x ⟨t',bx,rw⟩ q):Ok c x ⟨t,bx++[[.v v]],rw⟩ q:=by
 rw[qN] at h;exact jqH (jph hn hrf) h
end
end Go.Proofs.YtfbifdccmabdbaaGreatDoor.Vm
namespace Go.Proofs.YtfbifdccmabdbaaGreatDoor.Vm
open Go.RowKit Go.Shelf
theorem jhl(k:Int):Spec Tryz.prog 186 [] [intA k] fun _ r=>r=.clo 187 [.pp [intA k]]:=by
 refine bL (qE jK jT 0) (fun _ _ h=>h) Tryz.func186 rfl (by kernel_rfl) rfl ?_;intro _;refine yO (qE _ _ _) (by kernel_rfl) ?_;conv=>whnf
 refine jka (bx:=[]) (v:=.int .i64 k) rfl rfl ?_;conv=>whnf
 refine kK (qE _ _ _) (by kernel_rfl) ?_;conv=>whnf
 rfl
theorem jhm(k:Int):Spec Tryz.prog 188 [] [intA k] fun _ r=>r=.clo 189 [.pp [intA k]]:=by
 refine bL (qE jK jT 0) (fun _ _ h=>h) Tryz.func188 rfl (by kernel_rfl) rfl ?_;intro _;refine yO (qE _ _ _) (by kernel_rfl) ?_;conv=>whnf
 refine jka (bx:=[]) (v:=.int .i64 k) rfl rfl ?_;conv=>whnf
 refine kK (qE _ _ _) (by kernel_rfl) ?_;conv=>whnf
 rfl
def stmL:List (ByteArray×A):=[(wIf,.clo 190 []),(wWhile,.clo 191 []),(wSend,.clo 192 []),(wTimer,.clo 189 [.pp [intA 5]]),(wCancel,.clo 189 [.pp [intA 6]]),(wSync,.clo 187 [.pp [intA 7]]),(wStop,.clo 187 [.pp [intA 10]]),(wReply,.clo 193 []),(wFail,.clo 194 [])]
def stmA:A:=.mp (stmL.map fun p=>.string p.1) (stmL.map (·.2))
theorem f9:Spec Tryz.prog 173 [] [] fun _ r=>r=stmA:=by
 refine bL (qE jK jT 0) (fun _ _ h=>h) Tryz.func173 rfl (by kernel_rfl) rfl ?_;intro _;refine yO (qE _ _ _) (by kernel_rfl) ?_;conv=>whnf
 refine yO (qE _ _ _) (by kernel_rfl) ?_;conv=>whnf
 refine yO (qE _ _ _) (by kernel_rfl) ?_;conv=>whnf
 refine yO (qE _ _ _) (by kernel_rfl) ?_;conv=>whnf
 have h5:=jhm 5;have h6:=jhm 6;have h7:=jhl 7;have h10:=jhl 10
 (refine jY [] h5 ?_;rintro r rfl;conv=>whnf)
 conv=>whnf
 (refine jY [] h6 ?_;rintro r rfl;conv=>whnf)
 conv=>whnf
 (refine jY [] h7 ?_;rintro r rfl;conv=>whnf)
 conv=>whnf
 (refine jY [] h10 ?_;rintro r rfl;conv=>whnf)
 conv=>whnf
 refine jeW 0 ?_;conv=>whnf
 refine kK (qE _ _ _) (by kernel_rfl) ?_;conv=>whnf
 rfl
def jap(nm:List ByteArray)(lv:Int)(g:Nat)(caps:List A)(op:List Tk->Pn):Prop:=∀ts,TkP ts->SpecP Tryz.prog g [hZ nm ts] ([.box 0 0,intA lv]++caps) (poQ nm (op ts)) (pnQ (op ts))
theorem je4(nm:List ByteArray)(lv k:Int):jap nm lv 187 [.pp [intA k]] fun ts=>xpt pSemi ts fun r=>.ok (.mk k 0 eB []) r:=fun ts h=>by
 refine jkr ?_
 obtain⟨P,hP⟩:∃P,(xpt pSemi ts fun r=>.ok (.mk k 0 eB []) r)=P:=⟨_,rfl⟩
 simp only
 rw[hP];unfold xpt at hP;refine eNP jK jT Tryz.func187 rfl ?_;intro _;conv=>whnf
 refine kQ 0 [] (jV nm ts h.pos pSemi) (fun ch bx' hp=>?_) ?_
 ·rw[xtw2 (by rw[hp.1];simp)] at hP;exact jM hP.symm hp.2
 rintro o r ⟨hx,ho,rfl⟩;cases ho;rw[xtw3 hx] at hP;subst hP;conv=>whnf
 exact⟨rfl,_,rfl,j4 (f:=.mk k 0 eB []) rfl⟩
theorem je5(nm:List ByteArray)(lv k:Int):jap nm lv 189 [.pp [intA k]] fun ts=>bE 8 ts fun n r=>xpt pSemi r fun r=>.ok (.mk k n eB []) r:=fun ts h=>by
 refine jkr ?_
 obtain⟨P,hP⟩:∃P,(bE 8 ts fun n r=>xpt pSemi r fun r=>.ok (.mk k n eB []) r)=P:=⟨_,rfl⟩
 simp only
 rw[hP];have hnum:=mJ nm ts h.pos 8;unfold bE at hP;have htl:=h.tail;refine eNP jsj (fun _=>[0]) Tryz.func189 rfl ?_;intro _;conv=>whnf
 unfold fU;refine⟨_,?_,fun _ h=>h⟩;conv=>whnf
 refine⟨?_,?_⟩
 ·conv=>whnf
  refine kQ 0 [] hnum (fun ch bx' hp=>?_) ?_
  ·rcases hp with ⟨h1,h2⟩|⟨h1,h2,h3⟩
   ·rw[xtw3 h1] at hP;exact jM hP.symm h2
   ·rw[xtw2 (by rw[h1];simp),xtw3 h2] at hP;exact jM hP.symm h3
  rintro o r ⟨⟨h1,h2⟩,ho,rfl⟩;cases ho;rw[xtw2 (by rw[h1];simp),xtw2 (by omega)] at hP;obtain⟨q1,q2⟩:=htl (by rw[h1];decide);generalize ts.tail=ts1 at *;generalize (hd ts).n=n at *;conv=>whnf
  simp only[xpt] at hP;refine kQ 0 [] (jV nm ts1 q1.pos pSemi) (fun ch bx' hp=>?_) ?_
  ·rw[xtw2 (by rw[hp.1];simp)] at hP;exact jM hP.symm hp.2
  rintro o r ⟨hx,ho,rfl⟩;cases ho;rw[xtw3 hx] at hP;subst hP;conv=>whnf
  exact⟨rfl,_,rfl,j4 (f:=.mk k n eB []) rfl⟩
 ·conv=>whnf
  refine kQ 0 [] hnum (fun ch bx' hp=>?_) ?_
  ·rcases hp with ⟨h1,h2⟩|⟨h1,h2,h3⟩
   ·rw[xtw3 h1] at hP;exact jM hP.symm h2
   ·rw[xtw2 (by rw[h1];simp),xtw3 h2] at hP;exact jM hP.symm h3
  rintro o r ⟨⟨h1,h2⟩,ho,rfl⟩;cases ho;rw[xtw2 (by rw[h1];simp),xtw2 (by omega)] at hP;obtain⟨q1,q2⟩:=htl (by rw[h1];decide);generalize ts.tail=ts1 at *;generalize (hd ts).n=n at *;conv=>whnf
  simp only[xpt] at hP;refine kQ 0 [] (jV nm ts1 q1.pos pSemi) (fun ch bx' hp=>?_) ?_
  ·rw[xtw2 (by rw[hp.1];simp)] at hP;exact jM hP.symm hp.2
  rintro o r ⟨hx,ho,rfl⟩;cases ho;rw[xtw3 hx] at hP;subst hP;conv=>whnf
  exact⟨rfl,_,rfl,j4 (f:=.mk k n eB []) rfl⟩
theorem jmA{nm:List ByteArray}{lv:Int}{ex:List Tk->Pn}(hex:zZ nm 172 lv ex)(gex:qT ex):jap nm lv 194 [] fun ts=>(ex ts).andThen fun a r=>xpt pSemi r fun r=>.ok (.mk 9 0 eB [a]) r:=fun ts h=>by
 obtain⟨P,hP⟩:∃P,((ex ts).andThen fun a r=>xpt pSemi r fun r=>.ok (.mk 9 0 eB [a]) r)=P:=⟨_,rfl⟩
 simp only
 rw[hP];refine eNP jK jT Tryz.func194 rfl ?_;intro _;conv=>whnf
 refine kQ 0 [] (hex ts h) (fun ch bx' hp=>?_) ?_
 ·obtain⟨x,e,he,hc⟩:=zK hp;rw[he] at hP;exact jM hP.symm hc
 rintro o r hpo;obtain⟨f,r1,he,ho,rfl⟩:=j8 hpo;cases ho;rw[he] at hP;simp only[Pn.andThen,xpt] at hP;obtain⟨g1,l1⟩:=gex _ _ _ h he;conv=>whnf
 refine kQ 0 [] (jV nm r1 g1.pos pSemi) (fun ch bx' hp=>?_) ?_
 ·rw[xtw2 (by rw[hp.1];simp)] at hP;exact jM hP.symm hp.2
 rintro o r ⟨hx,ho,rfl⟩;cases ho;rw[xtw3 hx] at hP;subst hP;conv=>whnf
 exact⟨rfl,by rw[kO];rfl⟩
theorem jlF{nm:List ByteArray}{lv:Int}{ex bl:List Tk->Pn}(hlv:0<=lv/\lv<=20)(hex:zZ nm 172 lv ex)(gex:qT ex)(hbl:zZ nm 136 (lv+1) bl)(gbl:qT bl):jap nm lv 191 [] fun ts=>(ex ts).andThen fun c r=>(bl r).andThen fun b r=>.ok (.mk 3 0 eB [c,b]) r:=fun ts h=>by
 obtain⟨P,hP⟩:∃P,((ex ts).andThen fun c r=>(bl r).andThen fun b r=>.ok (.mk 3 0 eB [c,b]) r)=P:=⟨_,rfl⟩
 simp only
 rw[hP];refine eNP jK jT Tryz.func191 rfl ?_;intro _;conv=>whnf
 refine kQ 0 [] (hex ts h) (fun ch bx' hp=>?_) ?_
 ·obtain⟨x,e,he,hc⟩:=zK hp;rw[he] at hP;exact jM hP.symm hc
 rintro o r hpo;obtain⟨f,r1,he,ho,rfl⟩:=j8 hpo;cases ho;rw[he] at hP;simp only[Pn.andThen,xpt] at hP;obtain⟨g1,l1⟩:=gex _ _ _ h he;conv=>whnf
 refine⟨jG (by omega),?_⟩;conv=>whnf
 refine kQ 0 [] (hbl r1 g1) (fun ch bx' hp=>?_) ?_
 ·obtain⟨x,e,he,hc⟩:=zK hp;rw[he] at hP;exact jM hP.symm hc
 rintro o r hpo;obtain⟨f2,r2,he,ho,rfl⟩:=j8 hpo;cases ho;rw[he] at hP;simp only[Pn.andThen,xpt] at hP;obtain⟨g2,l2⟩:=gbl _ _ _ g1 he;subst hP;conv=>whnf
 exact⟨rfl,by rw[z6];rfl⟩
theorem kT(k n:Int)(s:ByteArray)(f g h:Nt):ntA (.mk k n s [f,g,h])=[intA k,intA n,jJ s,.sl 4 3 (ntA f++(ntA g++ntA h))]:=by
 have e1:ntA f++(ntA g++ntA h)=jQ [f,g,h]:=by rw[qV,qV,qV,kN,xtw66]
 rw[e1];rfl
theorem jlo{nm:List ByteArray}{lv:Int}{ex:List Tk->Pn}(hex:zZ nm 172 lv ex)(gex:qT ex):jap nm lv 193 [] fun ts=>(ex ts).andThen fun a r=>xpt pComma r fun r=>(ex r).andThen fun b r=>xpt pSemi r fun r=>.ok (.mk 8 0 eB [a,b]) r:=fun ts h=>by
 obtain⟨P,hP⟩:∃P,((ex ts).andThen fun a r=>xpt pComma r fun r=>(ex r).andThen fun b r=>xpt pSemi r fun r=>.ok (.mk 8 0 eB [a,b]) r)=P:=⟨_,rfl⟩
 simp only
 rw[hP];refine eNP jsl (fun _=>[0]) Tryz.func193 rfl ?_;intro _;conv=>whnf
 refine kQ 0 [] (hex ts h) (fun ch bx' hp=>?_) ?_
 ·obtain⟨x,e,he,hc⟩:=zK hp;rw[he] at hP;exact jM hP.symm hc
 rintro o r hpo;obtain⟨f,r1,he,ho,rfl⟩:=j8 hpo;cases ho;rw[he] at hP;simp only[Pn.andThen,xpt] at hP;obtain⟨g1,l1⟩:=gex _ _ _ h he;conv=>whnf
 refine kQ 0 [] (jV nm r1 g1.pos pComma) (fun ch bx' hp=>?_) ?_
 ·rw[xtw2 (by rw[hp.1];simp)] at hP;exact jM hP.symm hp.2
 rintro o r ⟨hx,ho,rfl⟩;cases ho;rw[xtw3 hx] at hP;obtain⟨q2,q3⟩:=g1.is hx;generalize r1.tail=r2 at *;conv=>whnf
 unfold fU;refine⟨_,?_,fun _ h=>h⟩;conv=>whnf
 refine⟨?_,?_⟩
 ·conv=>whnf
  refine kQ 0 [] (hex r2 q2) (fun ch bx' hp=>?_) ?_
  ·obtain⟨x,e,he,hc⟩:=zK hp;rw[he] at hP;exact jM hP.symm hc
  rintro o r hpo;obtain⟨f2,r3,he,ho,rfl⟩:=j8 hpo;cases ho;rw[he] at hP;simp only[Pn.andThen,xpt] at hP;obtain⟨g3,l3⟩:=gex _ _ _ q2 he;conv=>whnf
  refine⟨?_,?_⟩
  ·conv=>whnf
   refine kQ 0 [] (jV nm r3 g3.pos pSemi) (fun ch bx' hp=>?_) ?_
   ·rw[xtw2 (by rw[hp.1];simp)] at hP;exact jM hP.symm hp.2
   rintro o r ⟨hx,ho,rfl⟩;cases ho;rw[xtw3 hx] at hP;subst hP;conv=>whnf
   exact⟨rfl,by rw[z6];rfl⟩
  ·conv=>whnf
   refine kQ 0 [] (jV nm r3 g3.pos pSemi) (fun ch bx' hp=>?_) ?_
   ·rw[xtw2 (by rw[hp.1];simp)] at hP;exact jM hP.symm hp.2
   rintro o r ⟨hx,ho,rfl⟩;cases ho;rw[xtw3 hx] at hP;subst hP;conv=>whnf
   exact⟨rfl,by rw[z6];rfl⟩
 ·conv=>whnf
  refine kQ 0 [] (hex r2 q2) (fun ch bx' hp=>?_) ?_
  ·obtain⟨x,e,he,hc⟩:=zK hp;rw[he] at hP;exact jM hP.symm hc
  rintro o r hpo;obtain⟨f2,r3,he,ho,rfl⟩:=j8 hpo;cases ho;rw[he] at hP;simp only[Pn.andThen,xpt] at hP;obtain⟨g3,l3⟩:=gex _ _ _ q2 he;conv=>whnf
  conv=>whnf
  refine kQ 0 [] (jV nm r3 g3.pos pSemi) (fun ch bx' hp=>?_) ?_
  ·rw[xtw2 (by rw[hp.1];simp)] at hP;exact jM hP.symm hp.2
  rintro o r ⟨hx,ho,rfl⟩;cases ho;rw[xtw3 hx] at hP;subst hP;conv=>whnf
  exact⟨rfl,by rw[z6];rfl⟩
theorem jhX{nm:List ByteArray}{lv:Int}{ex bl:List Tk->Pn}(hlv:0<=lv/\lv<=20)(hex:zZ nm 172 lv ex)(gex:qT ex)(hbl:zZ nm 136 (lv+1) bl)(gbl:qT bl):jap nm lv 190 [] fun ts=>(ex ts).andThen fun c r=>(bl r).andThen fun b r=>if zO wElse r=true then(bl r.tail).andThen fun o r=>.ok (.mk 2 0 eB [c,b,o]) r else .ok (.mk 2 0 eB [c,b,yG []]) r:=fun ts h=>by
 refine jkr ?_
 obtain⟨P,hP⟩:∃P,((ex ts).andThen fun c r=>(bl r).andThen fun b r=>if zO wElse r=true then(bl r.tail).andThen fun o r=>.ok (.mk 2 0 eB [c,b,o]) r else .ok (.mk 2 0 eB [c,b,yG []]) r)=P:=⟨_,rfl⟩
 simp only
 rw[hP];refine eNP jK jT Tryz.func190 rfl ?_;intro _;conv=>whnf
 refine kQ 0 [] (hex ts h) (fun ch bx' hp=>?_) ?_
 ·obtain⟨x,e,he,hc⟩:=zK hp;rw[he] at hP;exact jM hP.symm hc
 rintro o r hpo;obtain⟨f,r1,he,ho,rfl⟩:=j8 hpo;cases ho;rw[he] at hP;simp only[Pn.andThen,xpt] at hP;obtain⟨g1,l1⟩:=gex _ _ _ h he;conv=>whnf
 refine⟨jG (by omega),?_⟩;conv=>whnf
 refine kQ 0 [] (hbl r1 g1) (fun ch bx' hp=>?_) ?_
 ·obtain⟨x,e,he,hc⟩:=zK hp;rw[he] at hP;exact jM hP.symm hc
 rintro o r hpo;obtain⟨f2,r2,he,ho,rfl⟩:=j8 hpo;cases ho;rw[he] at hP;simp only[Pn.andThen,xpt] at hP;obtain⟨g2,l2⟩:=gbl _ _ _ g1 he;conv=>whnf
 refine jL 0 [] (nE nm r2 g2.pos wElse) ?_;rintro o r ⟨ho,rfl⟩;cases ho;conv=>whnf
 cases hq:zO wElse r2 with
 |true =>
  rw[xtw3 hq] at hP;obtain⟨q2,q3⟩:=g2.is hq;have hnx:=wV nm r2 g2.pos;generalize r2.tail=r3 at *;conv=>whnf
  refine jL 0 [] hnx ?_;rintro o r ⟨ho,rfl⟩;cases ho;conv=>whnf
  refine⟨jG (by omega),?_⟩;conv=>whnf
  refine kQ 0 [] (hbl r3 q2) (fun ch bx' hp=>?_) ?_
  ·obtain⟨x,e,he,hc⟩:=zK hp;rw[he] at hP;exact jM hP.symm hc
  rintro o r hpo;obtain⟨f3,r4,he,ho,rfl⟩:=j8 hpo;cases ho;rw[he] at hP;simp only[Pn.andThen,xpt] at hP;obtain⟨g4,l4⟩:=gbl _ _ _ q2 he;subst hP;conv=>whnf
  refine⟨by omega,?_⟩;conv=>whnf
  exact jiG (p:=.ok (.mk 2 0 eB [f,f2,f3]) r4) (show _/\_ from ⟨rfl,by rw[kT];rfl⟩)
 |false =>
  rw[xtw2 (by rw[hq];simp)] at hP;subst hP;conv=>whnf
  refine⟨rfl,_,rfl,?_⟩;rw[kT];exact .cons (.refl _) (.cons (.refl _) (.cons (.refl _) (.cons (.sl 4 3 (cs:=ntA f++(ntA f2++jpE (yG []))) (WkL.app (WkL.refl (ntA f)) (WkL.app (WkL.refl (ntA f2)) (j4 (f:=yG []) rfl)))) .nil)))
def lK(ex:List Tk->Pn)(n:Int):Nat->List Nt->List Tk->Pn
 |0,l,ts=>xpt pSemi ts fun r=>.ok (.mk 4 n eB l) r
 |k+1,l,ts=>xpt pComma ts fun r=>(ex r).andThen fun a r=>lK ex n k (l++[a]) r
theorem jnV{nm:List ByteArray}{lv:Int}{ex:List Tk->Pn}(hex:zZ nm 172 lv ex)(gex:qT ex):jap nm lv 192 [] fun ts=>(ex ts).andThen fun t r=>xpt pComma r fun r=>bE 30 r fun n r=>lK ex n 2 [t] r:=fun ts h=>by
 obtain⟨P,hP⟩:∃P,((ex ts).andThen fun t r=>xpt pComma r fun r=>bE 30 r fun n r=>lK ex n 2 [t] r)=P:=⟨_,rfl⟩
 simp only
 rw[hP];refine eNP jsk (fun _=>[0]) Tryz.func192 rfl ?_;intro _;conv=>whnf
 refine kQ 0 [] (hex ts h) (fun ch bx' hp=>?_) ?_
 ·obtain⟨x,e,he,hc⟩:=zK hp;rw[he] at hP;exact jM hP.symm hc
 rintro o r hpo;obtain⟨f,r1,he,ho,rfl⟩:=j8 hpo;cases ho;rw[he] at hP;simp only[Pn.andThen,xpt] at hP;obtain⟨g1,l1⟩:=gex _ _ _ h he;conv=>whnf
 refine kQ 0 [] (jV nm r1 g1.pos pComma) (fun ch bx' hp=>?_) ?_
 ·rw[xtw2 (by rw[hp.1];simp)] at hP;exact jM hP.symm hp.2
 rintro o r ⟨hx,ho,rfl⟩;cases ho;rw[xtw3 hx] at hP;obtain⟨q2,q3⟩:=g1.is hx;generalize r1.tail=r2 at *;simp only[bE] at hP;conv=>whnf
 refine kQ 0 [] (mJ nm r2 q2.pos 30) (fun ch bx' hp=>?_) ?_
 ·rcases hp with ⟨h1,h2⟩|⟨h1,h2,h3⟩
  ·rw[xtw3 h1] at hP;exact jM hP.symm h2
  ·rw[xtw2 (by rw[h1];simp),xtw3 h2] at hP;exact jM hP.symm h3
 rintro o r ⟨⟨h1,h2⟩,ho,rfl⟩;cases ho;rw[xtw2 (by rw[h1];simp),xtw2 (by omega)] at hP;obtain⟨q4,q5⟩:=q2.tail (by rw[h1];decide);generalize r2.tail=r3 at *;generalize (hd r2).n=n at *;conv=>whnf
 refine jA [0,1,4,5] ?_;conv=>whnf
 refine jE (fun x:Nat×List Nt×List Tk=>[(16,.v (.int .i64 x.1))]) (fun x=>[hZ nm x.2.2,jcn,[intA 4,intA n,jJ ⟨#[]⟩,.own 0]]) (fun x=>[.live 65 4 x.2.1.length (jQ x.2.1)]) (fun x=>TkP x.2.2/\x.1<=2/\x.2.1.length<=1+x.1/\lK ex n (2-x.1) x.2.1 x.2.2=P) (fun x=>2-x.1) (0,[f],r3) ?_ ⟨q4,by simp,by simp,hP⟩ ?_
 ·have e1:jQ [f]=ntA f:=by rw[qV,kN,xtw66]
  repeat' constructor
  show Row.live _ _ _ _=Row.live _ 4 1 (jQ [f]);rw[e1];rfl
 rintro⟨j,l,ts1⟩ ⟨g2,g3,g4,g5⟩
 simp only at g2 g3 g4 g5
 conv=>whnf
 by_cases hj:j<2
 ·rw[xtw1 (show(j:Int)<2 by omega)]
  obtain⟨m,hm⟩:∃m,2-j=m+1:=⟨1-j,by omega⟩
  rw[hm] at g5;simp only[lK,xpt] at g5;have hP:=g5;conv=>whnf
  refine kQ 0 [] (jV nm ts1 g2.pos pComma) (fun ch bx' hp=>?_) ?_
  ·rw[xtw2 (by rw[hp.1];simp)] at hP;exact jM hP.symm hp.2
  rintro o r ⟨hx,ho,rfl⟩;cases ho;rw[xtw3 hx] at hP;obtain⟨q6,q7⟩:=g2.is hx;generalize ts1.tail=ts2 at *;conv=>whnf
  refine kQ 0 [] (hex ts2 q6) (fun ch bx' hp=>?_) ?_
  ·obtain⟨x,e,he,hc⟩:=zK hp;rw[he] at hP;exact jM hP.symm hc
  rintro o r hpo;obtain⟨f2,r4,he,ho,rfl⟩:=j8 hpo;cases ho;rw[he] at hP;simp only[Pn.andThen,xpt] at hP;obtain⟨g6,l6⟩:=gex _ _ _ q6 he;conv=>whnf
  refine⟨⟨by simp only;unfold maxLen;omega,by simp only;omega⟩,?_⟩;conv=>whnf
  refine⟨jG (by omega),?_⟩;conv=>whnf
  refine⟨(j+1,l++[f2],r4),jD [0] ?_,⟨g6,hj,by simp only[xtw4,xtw6,xtw8];omega,by simp only;rw[show 2-(j+1)=m by omega];exact hP⟩,by simp only;omega⟩;conv=>whnf
  repeat' constructor
  simp only[xtw4,xtw6,xtw8];rw[mG];rfl
 ·rw[xtw0 (show ¬(j:Int)<2 by omega)];rw[show 2-j=0 by omega] at g5;simp only[lK,xpt] at g5;have hP:=g5;conv=>whnf
  refine kQ 0 [] (jV nm ts1 g2.pos pSemi) (fun ch bx' hp=>?_) ?_
  ·rw[xtw2 (by rw[hp.1];simp)] at hP;exact jM hP.symm hp.2
  rintro o r ⟨hx,ho,rfl⟩;cases ho;rw[xtw3 hx] at hP;subst hP;conv=>whnf
  exact⟨rfl,rfl⟩
def stK(ex bl:List Tk->Pn)(w:ByteArray)(ts:List Tk):Pn :=
 if w=wIf then(ex ts).andThen fun c r=>(bl r).andThen fun b r=>if zO wElse r=true then(bl r.tail).andThen fun o r=>.ok (.mk 2 0 eB [c,b,o]) r else .ok (.mk 2 0 eB [c,b,yG []]) r
 else if w=wWhile then(ex ts).andThen fun c r=>(bl r).andThen fun b r=>.ok (.mk 3 0 eB [c,b]) r
 else if w=wSend then(ex ts).andThen fun t r=>xpt pComma r fun r=>bE 30 r fun n r=>lK ex n 2 [t] r
 else if w=wTimer then bE 8 ts fun n r=>xpt pSemi r fun r=>.ok (.mk 5 n eB []) r
 else if w=wCancel then bE 8 ts fun n r=>xpt pSemi r fun r=>.ok (.mk 6 n eB []) r
 else if w=wSync then xpt pSemi ts fun r=>.ok (.mk 7 0 eB []) r
 else if w=wStop then xpt pSemi ts fun r=>.ok (.mk 10 0 eB []) r
 else if w=wReply then(ex ts).andThen fun a r=>xpt pComma r fun r=>(ex r).andThen fun b r=>xpt pSemi r fun r=>.ok (.mk 8 0 eB [a,b]) r
 else(ex ts).andThen fun a r=>xpt pSemi r fun r=>.ok (.mk 9 0 eB [a]) r
theorem joa{nm:List ByteArray}{lv:Int}{ex bl:List Tk->Pn}(hlv:0<=lv/\lv<=20)(hex:zZ nm 172 lv ex)(gex:qT ex)(hbl:zZ nm 136 (lv+1) bl)(gbl:qT bl)(ts:List Tk)(h:TkP ts)(P:Pn)(hn:yB ts=false)
  (hP:(if (hd ts).kind≠1 then .bad (hd ts).pos 10 else stK ex bl (hd ts).text ts.tail)=P) (hw:(hd ts).text=wIf∨(hd ts).text=wWhile∨(hd ts).text=wSend∨(hd ts).text=wTimer∨(hd ts).text=wCancel∨(hd ts).text=wSync∨(hd ts).text=wStop∨(hd ts).text=wReply∨(hd ts).text=wFail):SpecP Tryz.prog 163 [hZ nm ts] [.box 0 0,intA lv] (poQ nm P) (pnQ P):=by
 have hl:=h.pos;have hr:=nP hl;have hnm:=fF nm ts hl h.hd h.good.1;rw[hn] at hnm;have hnx:=wV nm ts hl;have hfl:=gJ nm ts hl 10;have htl:=h.tail;have sIf:=jhX hlv hex gex hbl gbl;have sWhile:=jlF hlv hex gex hbl gbl;have sSend:=jnV hex gex;have sTimer:=je5 nm lv 5;have sCancel:=je5 nm lv 6;have sSync:=je4 nm lv 7;have sStop:=je4 nm lv 10;have sReply:=jlo hex gex;have sFail:=jmA hex gex;refine eNP jiC (fun _=>[0]) Tryz.func163 rfl ?_;intro _;generalize hd ts=t at *;conv=>whnf
 (refine cR ?_;try with_reducible exact trivial)
 (generalize hrq:jC _ _ (z8 ts)=rq;obtain rfl:rq=cT t:=hrq.symm.trans (hr);clear hrq;conv=>whnf)
 refine jL 0 [] hnm ?_;rintro o r ⟨ho,rfl⟩;cases ho;conv=>whnf
 refine jY [] f9 ?_;rintro r rfl;conv=>whnf
 unfold stK at hP;by_cases g0:t.text=wIf
 ·rw[show decide (t.text=(wIf,A.clo 190 []).fst)=true from xtw1 g0];rw[xtw3 g0] at hP;conv=>whnf
  by_cases hk:t.kind=1
  ·rw[xtw1 hk];rw[xtw2 (by rw[hk];simp)] at hP;obtain⟨q1,q2⟩:=htl (by rw[hk];decide);have hs:=sIf ts.tail q1
   simp only at hs
   rw[hP] at hs;generalize ts.tail=r1 at *;conv=>whnf
   refine jL 0 [] hnx ?_;rintro o r ⟨ho,rfl⟩;cases ho;conv=>whnf
   refine kQ 0 [] hs (fun ch bx' hp=>hp) ?_;rintro o r hpo;obtain⟨f,r2,rfl,ho,rfl⟩:=j8 hpo;cases ho;conv=>whnf
   exact⟨rfl,rfl⟩
  ·rw[xtw0 hk];rw[xtw3 hk] at hP;conv=>whnf
   refine kQ 0 [] hfl (fun ch bx' hp=>jM hP.symm hp) ?_;rintro o r ⟨⟩
 rw[show decide (t.text=(wIf,A.clo 190 []).fst)=false from xtw0 g0];rw[xtw2 g0] at hP;conv=>whnf
 by_cases g1:t.text=wWhile
 ·rw[show decide (t.text=(wWhile,A.clo 191 []).fst)=true from xtw1 g1];rw[xtw3 g1] at hP;conv=>whnf
  by_cases hk:t.kind=1
  ·rw[xtw1 hk];rw[xtw2 (by rw[hk];simp)] at hP;obtain⟨q1,q2⟩:=htl (by rw[hk];decide);have hs:=sWhile ts.tail q1
   simp only at hs
   rw[hP] at hs;generalize ts.tail=r1 at *;conv=>whnf
   refine jL 0 [] hnx ?_;rintro o r ⟨ho,rfl⟩;cases ho;conv=>whnf
   refine kQ 0 [] hs (fun ch bx' hp=>hp) ?_;rintro o r hpo;obtain⟨f,r2,rfl,ho,rfl⟩:=j8 hpo;cases ho;conv=>whnf
   exact⟨rfl,rfl⟩
  ·rw[xtw0 hk];rw[xtw3 hk] at hP;conv=>whnf
   refine kQ 0 [] hfl (fun ch bx' hp=>jM hP.symm hp) ?_;rintro o r ⟨⟩
 rw[show decide (t.text=(wWhile,A.clo 191 []).fst)=false from xtw0 g1];rw[xtw2 g1] at hP;conv=>whnf
 by_cases g2:t.text=wSend
 ·rw[show decide (t.text=(wSend,A.clo 192 []).fst)=true from xtw1 g2];rw[xtw3 g2] at hP;conv=>whnf
  by_cases hk:t.kind=1
  ·rw[xtw1 hk];rw[xtw2 (by rw[hk];simp)] at hP;obtain⟨q1,q2⟩:=htl (by rw[hk];decide);have hs:=sSend ts.tail q1
   simp only at hs
   rw[hP] at hs;generalize ts.tail=r1 at *;conv=>whnf
   refine jL 0 [] hnx ?_;rintro o r ⟨ho,rfl⟩;cases ho;conv=>whnf
   refine kQ 0 [] hs (fun ch bx' hp=>hp) ?_;rintro o r hpo;obtain⟨f,r2,rfl,ho,rfl⟩:=j8 hpo;cases ho;conv=>whnf
   exact⟨rfl,rfl⟩
  ·rw[xtw0 hk];rw[xtw3 hk] at hP;conv=>whnf
   refine kQ 0 [] hfl (fun ch bx' hp=>jM hP.symm hp) ?_;rintro o r ⟨⟩
 rw[show decide (t.text=(wSend,A.clo 192 []).fst)=false from xtw0 g2];rw[xtw2 g2] at hP;conv=>whnf
 by_cases g3:t.text=wTimer
 ·rw[show decide (t.text=(wTimer,A.clo 189 [.pp [intA 5]]).fst)=true from xtw1 g3];rw[xtw3 g3] at hP;conv=>whnf
  by_cases hk:t.kind=1
  ·rw[xtw1 hk];rw[xtw2 (by rw[hk];simp)] at hP;obtain⟨q1,q2⟩:=htl (by rw[hk];decide);have hs:=sTimer ts.tail q1
   simp only at hs
   rw[hP] at hs;generalize ts.tail=r1 at *;conv=>whnf
   refine jL 0 [] hnx ?_;rintro o r ⟨ho,rfl⟩;cases ho;conv=>whnf
   refine kQ 0 [] hs (fun ch bx' hp=>hp) ?_;rintro o r hpo;obtain⟨f,r2,rfl,ho,rfl⟩:=j8 hpo;cases ho;conv=>whnf
   exact⟨rfl,rfl⟩
  ·rw[xtw0 hk];rw[xtw3 hk] at hP;conv=>whnf
   refine kQ 0 [] hfl (fun ch bx' hp=>jM hP.symm hp) ?_;rintro o r ⟨⟩
 rw[show decide (t.text=(wTimer,A.clo 189 [.pp [intA 5]]).fst)=false from xtw0 g3];rw[xtw2 g3] at hP;conv=>whnf
 by_cases g4:t.text=wCancel
 ·rw[show decide (t.text=(wCancel,A.clo 189 [.pp [intA 6]]).fst)=true from xtw1 g4];rw[xtw3 g4] at hP;conv=>whnf
  by_cases hk:t.kind=1
  ·rw[xtw1 hk];rw[xtw2 (by rw[hk];simp)] at hP;obtain⟨q1,q2⟩:=htl (by rw[hk];decide);have hs:=sCancel ts.tail q1
   simp only at hs
   rw[hP] at hs;generalize ts.tail=r1 at *;conv=>whnf
   refine jL 0 [] hnx ?_;rintro o r ⟨ho,rfl⟩;cases ho;conv=>whnf
   refine kQ 0 [] hs (fun ch bx' hp=>hp) ?_;rintro o r hpo;obtain⟨f,r2,rfl,ho,rfl⟩:=j8 hpo;cases ho;conv=>whnf
   exact⟨rfl,rfl⟩
  ·rw[xtw0 hk];rw[xtw3 hk] at hP;conv=>whnf
   refine kQ 0 [] hfl (fun ch bx' hp=>jM hP.symm hp) ?_;rintro o r ⟨⟩
 rw[show decide (t.text=(wCancel,A.clo 189 [.pp [intA 6]]).fst)=false from xtw0 g4];rw[xtw2 g4] at hP;conv=>whnf
 by_cases g5:t.text=wSync
 ·rw[show decide (t.text=(wSync,A.clo 187 [.pp [intA 7]]).fst)=true from xtw1 g5];rw[xtw3 g5] at hP;conv=>whnf
  by_cases hk:t.kind=1
  ·rw[xtw1 hk];rw[xtw2 (by rw[hk];simp)] at hP;obtain⟨q1,q2⟩:=htl (by rw[hk];decide);have hs:=sSync ts.tail q1
   simp only at hs
   rw[hP] at hs;generalize ts.tail=r1 at *;conv=>whnf
   refine jL 0 [] hnx ?_;rintro o r ⟨ho,rfl⟩;cases ho;conv=>whnf
   refine kQ 0 [] hs (fun ch bx' hp=>hp) ?_;rintro o r hpo;obtain⟨f,r2,rfl,ho,rfl⟩:=j8 hpo;cases ho;conv=>whnf
   exact⟨rfl,rfl⟩
  ·rw[xtw0 hk];rw[xtw3 hk] at hP;conv=>whnf
   refine kQ 0 [] hfl (fun ch bx' hp=>jM hP.symm hp) ?_;rintro o r ⟨⟩
 rw[show decide (t.text=(wSync,A.clo 187 [.pp [intA 7]]).fst)=false from xtw0 g5];rw[xtw2 g5] at hP;conv=>whnf
 by_cases g6:t.text=wStop
 ·rw[show decide (t.text=(wStop,A.clo 187 [.pp [intA 10]]).fst)=true from xtw1 g6];rw[xtw3 g6] at hP;conv=>whnf
  by_cases hk:t.kind=1
  ·rw[xtw1 hk];rw[xtw2 (by rw[hk];simp)] at hP;obtain⟨q1,q2⟩:=htl (by rw[hk];decide);have hs:=sStop ts.tail q1
   simp only at hs
   rw[hP] at hs;generalize ts.tail=r1 at *;conv=>whnf
   refine jL 0 [] hnx ?_;rintro o r ⟨ho,rfl⟩;cases ho;conv=>whnf
   refine kQ 0 [] hs (fun ch bx' hp=>hp) ?_;rintro o r hpo;obtain⟨f,r2,rfl,ho,rfl⟩:=j8 hpo;cases ho;conv=>whnf
   exact⟨rfl,rfl⟩
  ·rw[xtw0 hk];rw[xtw3 hk] at hP;conv=>whnf
   refine kQ 0 [] hfl (fun ch bx' hp=>jM hP.symm hp) ?_;rintro o r ⟨⟩
 rw[show decide (t.text=(wStop,A.clo 187 [.pp [intA 10]]).fst)=false from xtw0 g6];rw[xtw2 g6] at hP;conv=>whnf
 by_cases g7:t.text=wReply
 ·rw[show decide (t.text=(wReply,A.clo 193 []).fst)=true from xtw1 g7];rw[xtw3 g7] at hP;conv=>whnf
  by_cases hk:t.kind=1
  ·rw[xtw1 hk];rw[xtw2 (by rw[hk];simp)] at hP;obtain⟨q1,q2⟩:=htl (by rw[hk];decide);have hs:=sReply ts.tail q1
   simp only at hs
   rw[hP] at hs;generalize ts.tail=r1 at *;conv=>whnf
   refine jL 0 [] hnx ?_;rintro o r ⟨ho,rfl⟩;cases ho;conv=>whnf
   refine kQ 0 [] hs (fun ch bx' hp=>hp) ?_;rintro o r hpo;obtain⟨f,r2,rfl,ho,rfl⟩:=j8 hpo;cases ho;conv=>whnf
   exact⟨rfl,rfl⟩
  ·rw[xtw0 hk];rw[xtw3 hk] at hP;conv=>whnf
   refine kQ 0 [] hfl (fun ch bx' hp=>jM hP.symm hp) ?_;rintro o r ⟨⟩
 rw[show decide (t.text=(wReply,A.clo 193 []).fst)=false from xtw0 g7];rw[xtw2 g7] at hP;conv=>whnf
 have g8:t.text=wFail:=by
  rcases hw with e|e|e|e|e|e|e|e|e <;> first|exact e|contradiction
 rw[show decide (t.text=(wFail,A.clo 194 []).fst)=true from xtw1 g8];conv=>whnf
 by_cases hk:t.kind=1
 ·rw[xtw1 hk];rw[xtw2 (by rw[hk];simp)] at hP;obtain⟨q1,q2⟩:=htl (by rw[hk];decide);have hs:=sFail ts.tail q1
  simp only at hs
  rw[hP] at hs;generalize ts.tail=r1 at *;conv=>whnf
  refine jL 0 [] hnx ?_;rintro o r ⟨ho,rfl⟩;cases ho;conv=>whnf
  refine kQ 0 [] hs (fun ch bx' hp=>hp) ?_;rintro o r hpo;obtain⟨f,r2,rfl,ho,rfl⟩:=j8 hpo;cases ho;conv=>whnf
  exact⟨rfl,rfl⟩
 ·rw[xtw0 hk];rw[xtw3 hk] at hP;conv=>whnf
  refine kQ 0 [] hfl (fun ch bx' hp=>jM hP.symm hp) ?_;rintro o r ⟨⟩
theorem jo9(nm:List ByteArray)(lv:Int)(ts:List Tk)(h:TkP ts)(hn:yB ts=false)(hw:¬((hd ts).text=wIf∨(hd ts).text=wWhile∨(hd ts).text=wSend∨(hd ts).text=wTimer∨(hd ts).text=wCancel∨(hd ts).text=wSync∨(hd ts).text=wStop∨(hd ts).text=wReply∨(hd ts).text=wFail)):SpecP Tryz.prog 163 [hZ nm ts] [.box 0 0,intA lv] (poQ nm (synE ts)) (pnQ (synE ts)):=by
 obtain⟨P,hP⟩:∃P,Pn.bad (hd ts).pos 10=P:=⟨_,rfl⟩
 unfold synE;rw[hP];have hl:=h.pos;have hr:=nP hl;have hnm:=fF nm ts hl h.hd h.good.1;rw[hn] at hnm;have hfl:=gJ nm ts hl 10;simp only[not_or] at hw;obtain⟨g0,g1,g2,g3,g4,g5,g6,g7,g8⟩:=hw;refine eNP jiC (fun _=>[0]) Tryz.func163 rfl ?_;intro _;generalize hd ts=t at *;conv=>whnf
 (refine cR ?_;try with_reducible exact trivial)
 (generalize hrq:jC _ _ (z8 ts)=rq;obtain rfl:rq=cT t:=hrq.symm.trans (hr);clear hrq;conv=>whnf)
 refine jL 0 [] hnm ?_;rintro o r ⟨ho,rfl⟩;cases ho;conv=>whnf
 refine jY [] f9 ?_;rintro r rfl;conv=>whnf
 rw[show decide (t.text=(wIf,A.clo 190 []).fst)=false from xtw0 g0];conv=>whnf
 rw[show decide (t.text=(wWhile,A.clo 191 []).fst)=false from xtw0 g1];conv=>whnf
 rw[show decide (t.text=(wSend,A.clo 192 []).fst)=false from xtw0 g2];conv=>whnf
 rw[show decide (t.text=(wTimer,A.clo 189 [.pp [intA 5]]).fst)=false from xtw0 g3];conv=>whnf
 rw[show decide (t.text=(wCancel,A.clo 189 [.pp [intA 6]]).fst)=false from xtw0 g4];conv=>whnf
 rw[show decide (t.text=(wSync,A.clo 187 [.pp [intA 7]]).fst)=false from xtw0 g5];conv=>whnf
 rw[show decide (t.text=(wStop,A.clo 187 [.pp [intA 10]]).fst)=false from xtw0 g6];conv=>whnf
 rw[show decide (t.text=(wReply,A.clo 193 []).fst)=false from xtw0 g7];conv=>whnf
 rw[show decide (t.text=(wFail,A.clo 194 []).fst)=false from xtw0 g8];conv=>whnf
 by_cases hk:t.kind=1
 ·rw[xtw1 hk];conv=>whnf
  refine kQ 0 [] hfl (fun ch bx' hp=>jM hP.symm hp) ?_;rintro o r ⟨⟩
 ·rw[xtw0 hk];conv=>whnf
  refine kQ 0 [] hfl (fun ch bx' hp=>jM hP.symm hp) ?_;rintro o r ⟨⟩
theorem jj7{nm:List ByteArray}{lv:Int}{ex:List Tk->Pn}(hex:zZ nm 172 lv ex)(gex:qT ex)(ts:List Tk)(h:TkP ts)(hn:yB ts=true)(P:Pn)(hP:(xpt pEq ts.tail fun r=>(ex r).andThen fun e r=>xpt pSemi r fun r=>.ok (.mk 1 0 (hd ts).text [e]) r)=P):SpecP Tryz.prog 163 [hZ nm ts] [.box 0 0,intA lv] (poQ nm P) (pnQ P):=by
 have hl:=h.pos;have hr:=nP hl;have hnm:=fF nm ts hl h.hd h.good.1;rw[hn] at hnm;have hnx:=wV nm ts hl
 have hk1:(hd ts).kind=1:=by
  unfold yB at hn;simp only[xtw14,xtw17] at hn;exact hn.1
 obtain⟨q1,q2⟩:=h.tail (by rw[hk1];decide);simp only[xpt] at hP;refine eNP jiC (fun _=>[0]) Tryz.func163 rfl ?_;intro _;generalize hd ts=t at *;generalize ts.tail=r1 at *;conv=>whnf
 (refine cR ?_;try with_reducible exact trivial)
 (generalize hrq:jC _ _ (z8 ts)=rq;obtain rfl:rq=cT t:=hrq.symm.trans (hr);clear hrq;conv=>whnf)
 refine jL 0 [] hnm ?_;rintro o r ⟨ho,rfl⟩;cases ho;conv=>whnf
 refine jL 0 [] hnx ?_;rintro o r ⟨ho,rfl⟩;cases ho;conv=>whnf
 refine kQ 0 [] (jV nm r1 q1.pos pEq) (fun ch bx' hp=>?_) ?_
 ·rw[xtw2 (by rw[hp.1];simp)] at hP;exact jM hP.symm hp.2
 rintro o r ⟨hx,ho,rfl⟩;cases ho;rw[xtw3 hx] at hP;obtain⟨q4,q5⟩:=q1.is hx;generalize r1.tail=r2 at *;conv=>whnf
 unfold fU;refine⟨_,?_,fun _ h=>h⟩;conv=>whnf
 refine⟨?_,?_⟩
 ·conv=>whnf
  refine kQ 0 [] (hex r2 q4) (fun ch bx' hp=>?_) ?_
  ·obtain⟨x,e,he,hc⟩:=zK hp;rw[he] at hP;exact jM hP.symm hc
  rintro o r hpo;obtain⟨f2,r3,he,ho,rfl⟩:=j8 hpo;cases ho;rw[he] at hP;simp only[Pn.andThen,xpt] at hP;obtain⟨g3,l3⟩:=gex _ _ _ q4 he;conv=>whnf
  refine⟨?_,?_⟩
  ·conv=>whnf
   refine kQ 0 [] (jV nm r3 g3.pos pSemi) (fun ch bx' hp=>?_) ?_
   ·rw[xtw2 (by rw[hp.1];simp)] at hP;exact jM hP.symm hp.2
   rintro o r ⟨hx,ho,rfl⟩;cases ho;rw[xtw3 hx] at hP;subst hP;conv=>whnf
   exact⟨rfl,by rw[kO];rfl⟩
  ·conv=>whnf
   refine kQ 0 [] (jV nm r3 g3.pos pSemi) (fun ch bx' hp=>?_) ?_
   ·rw[xtw2 (by rw[hp.1];simp)] at hP;exact jM hP.symm hp.2
   rintro o r ⟨hx,ho,rfl⟩;cases ho;rw[xtw3 hx] at hP;subst hP;conv=>whnf
   exact⟨rfl,by rw[kO];rfl⟩
 ·conv=>whnf
  refine kQ 0 [] (hex r2 q4) (fun ch bx' hp=>?_) ?_
  ·obtain⟨x,e,he,hc⟩:=zK hp;rw[he] at hP;exact jM hP.symm hc
  rintro o r hpo;obtain⟨f2,r3,he,ho,rfl⟩:=j8 hpo;cases ho;rw[he] at hP;simp only[Pn.andThen,xpt] at hP;obtain⟨g3,l3⟩:=gex _ _ _ q4 he;conv=>whnf
  conv=>whnf
  refine kQ 0 [] (jV nm r3 g3.pos pSemi) (fun ch bx' hp=>?_) ?_
  ·rw[xtw2 (by rw[hp.1];simp)] at hP;exact jM hP.symm hp.2
  rintro o r ⟨hx,ho,rfl⟩;cases ho;rw[xtw3 hx] at hP;subst hP;conv=>whnf
  exact⟨rfl,by rw[kO];rfl⟩
theorem jm5{nm:List ByteArray}{lv:Int}{st:List Tk->Pn}(hlv:0<=lv/\lv<=20)(hst:zZ nm 163 lv st)(gst:qT st)(sst:∀ts f r,TkP ts->st ts=.ok f r->r.length<ts.length):zZ nm 136 lv (bkF st):=fun ts h=>by
 obtain⟨P,hP⟩:∃P,bkF st ts=P:=⟨_,rfl⟩
 rw[hP];have hopen:=fG nm ts h.pos pLb lv;simp only[bkF,xpt] at hP;have hb0:=h.1.2;refine eNP jnj (fun _=>[0]) Tryz.func136 rfl ?_;intro _;conv=>whnf
 refine kQ 0 [] hopen (fun ch bx' hp=>?_) ?_
 ·rcases hp with ⟨h1,h2,hp⟩|⟨h1,hp⟩
  ·omega
  ·rw[xtw2 (by rw[h1];simp)] at hP;exact jM hP.symm hp
 rintro o r ⟨⟨h1,h2⟩,ho,rfl⟩;cases ho;rw[xtw3 h1] at hP;obtain⟨q1,q2⟩:=h.is h1;generalize ts.tail=r1 at *;conv=>whnf
 refine qU 65 4 [] [(2,3)] ?_;conv=>whnf
 refine⟨trivial,?_⟩;conv=>whnf
 refine jA [0,1,4,5] ?_;conv=>whnf
 refine jE (fun _:Nat×List Nt×List Tk=>[]) (fun x=>[hZ nm x.2.2,jcn,[intA 11,intA 0,jJ ⟨#[]⟩,.own 0]]) (fun x=>[.live 65 4 x.2.1.length (jQ x.2.1)]) (fun x=>TkP x.2.2/\x.2.2.length<=x.1/\x.2.1.length+x.2.2.length<=1000001/\mY st x.1 x.2.1 x.2.2=P) (fun x=>x.2.2.length) (r1.length,[],r1) ?_ ⟨q1,xtw11 _,by simp only[xtw8];omega,hP⟩ ?_
 ·repeat' constructor
  show Row.live _ _ _ _=Row.live _ 4 0 (jQ []);rw[kN]
 rintro⟨n,acc,ts1⟩ ⟨g1,g2,g3,g5⟩
 simp only at g1 g2 g3 g5
 obtain⟨m,rfl⟩:∃m,n=m+1:=⟨n-1,by have:=g1.pos;omega⟩
 rw[mY] at g5;conv=>whnf
 refine jL 0 [] (nE nm ts1 g1.pos pRb) ?_;rintro o r ⟨ho,rfl⟩;cases ho;conv=>whnf
 cases hq:zO pRb ts1 with
 |false =>
  rw[xtw2 (by rw[hq];simp)] at g5;have hP:=g5;conv=>whnf
  refine kQ 0 [] (hst ts1 g1) (fun ch bx' hp=>?_) ?_
  ·obtain⟨x,e,he,hc⟩:=zK hp;rw[he] at hP;exact jM hP.symm hc
  rintro o r hpo;obtain⟨f2,r2,he,ho,rfl⟩:=j8 hpo;cases ho;rw[he] at hP;simp only[Pn.andThen] at hP;obtain⟨g6,l6⟩:=gst _ _ _ g1 he;have hlt:=sst _ _ _ g1 he;conv=>whnf
  refine⟨⟨by simp only;unfold maxLen;omega,by simp only;omega⟩,?_⟩;conv=>whnf
  refine⟨(m,acc++[f2],r2),jD [0] ?_,⟨g6,by simp only;omega,by simp only[xtw4,xtw6,xtw8];omega,hP⟩,by simp only;omega⟩;conv=>whnf
  repeat' constructor
  simp only[xtw4,xtw6,xtw8];rw[mG];rfl
 |true =>
  rw[xtw3 hq] at g5;have hnx:=wV nm ts1 g1.pos;subst g5;conv=>whnf
  refine jL 0 [] hnx ?_;rintro o r ⟨ho,rfl⟩;cases ho;conv=>whnf
  exact⟨rfl,rfl⟩
theorem jhV(nm:List ByteArray):zZ nm 136 21 bkN:=fun ts h=>by
 obtain⟨P,hP⟩:∃P,bkN ts=P:=⟨_,rfl⟩
 rw[hP];have hopen:=fG nm ts h.pos pLb 21;unfold bkN at hP;refine eNP jnj (fun _=>[0]) Tryz.func136 rfl ?_;intro _;conv=>whnf
 refine kQ 0 [] hopen (fun ch bx' hp=>?_) ?_
 ·rcases hp with ⟨h1,h2,hp⟩|⟨h1,hp⟩
  ·rw[xtw3 h1] at hP;exact jM hP.symm hp
  ·rw[xtw2 (by rw[h1];simp)] at hP;exact jM hP.symm hp
 rintro o r ⟨⟨h1,h2⟩,ho,rfl⟩;exact absurd h2 (by decide)
theorem jho(ex bl:List Tk->Pn)(ts:List Tk)(hn:yB ts=false)(hw:(hd ts).text=wIf∨(hd ts).text=wWhile∨(hd ts).text=wSend∨(hd ts).text=wTimer∨(hd ts).text=wCancel∨(hd ts).text=wSync∨(hd ts).text=wStop∨(hd ts).text=wReply∨(hd ts).text=wFail) :
  (if (hd ts).kind≠1 then .bad (hd ts).pos 10 else stK ex bl (hd ts).text ts.tail)=stG ex bl ts:=by
 unfold stG stK;rw[xtw2 (show ¬yB ts=true by rw[hn];simp)];by_cases hk:(hd ts).kind≠1
 ·rw[xtw3 hk,xtw3 hk];rfl
 ·rw[xtw2 hk,xtw2 hk]
  rcases hw with e|e|e|e|e|e|e|e|e <;> rw[e] <;> rfl
theorem jhn(ex bl:List Tk->Pn)(ts:List Tk)(hn:yB ts=false)(hw:¬((hd ts).text=wIf∨(hd ts).text=wWhile∨(hd ts).text=wSend∨(hd ts).text=wTimer∨(hd ts).text=wCancel∨(hd ts).text=wSync∨(hd ts).text=wStop∨(hd ts).text=wReply∨(hd ts).text=wFail)):stG ex bl ts=synE ts:=by
 simp only[not_or] at hw;obtain⟨g0,g1,g2,g3,g4,g5,g6,g7,g8⟩:=hw;unfold stG;rw[xtw2 (show ¬yB ts=true by rw[hn];simp),xtw2 g0,xtw2 g1,xtw2 g2,xtw2 g3,xtw2 g4,xtw2 g5,xtw2 g7,xtw2 g8,xtw2 g6]
 split <;> rfl
theorem jc0{nm:List ByteArray}{lv:Int}{ex bl:List Tk->Pn}(hlv:0<=lv/\lv<=20)(hex:zZ nm 172 lv ex)(gex:qT ex)(hbl:zZ nm 136 (lv+1) bl)(gbl:qT bl):zZ nm 163 lv (stG ex bl):=fun ts h=>by
 cases hn:yB ts with
 |true=>exact jj7 hex gex ts h hn _ (by unfold stG;rw[hn,xtw3 rfl])
 |false =>
  by_cases hw:(hd ts).text=wIf∨(hd ts).text=wWhile∨(hd ts).text=wSend∨(hd ts).text=wTimer∨(hd ts).text=wCancel∨(hd ts).text=wSync∨(hd ts).text=wStop∨(hd ts).text=wReply∨(hd ts).text=wFail
  ·exact joa hlv hex gex hbl gbl ts h _ hn (jho ex bl ts hn hw) hw
  ·rw[jhn ex bl ts hn hw];exact jo9 nm lv ts h hn hw
def GoesS(op:List Tk->Pn):Prop:=∀ts f r,TkP ts->op ts=.ok f r->TkP r/\r.length<ts.length
theorem GoesS.goes{op:List Tk->Pn}(h:GoesS op):qT op:=fun ts f r k e=>⟨(h ts f r k e).1,Nat.le_of_lt (h ts f r k e).2⟩
theorem jeU{lim:Int}{ts:List Tk}{k:Int->List Tk->Pn}{f:Nt}{r:List Tk}(h:bE lim ts k=.ok f r):(hd ts).kind=2/\k (hd ts).n ts.tail=.ok f r:=by
 unfold bE at h;split at h
 ·cases h
 ·split at h
  ·cases h
  ·rename_i h1 h2;exact⟨xtw107.1 h1,h⟩
theorem y6{ts:List Tk}(h:yB ts=true):(hd ts).kind=1:=by
 have h2:(decide ((hd ts).kind=1) && !(keyL++builtL).any fun s=>decide ((hd ts).text=s))=true:=h;exact xtw23 (Bool.and_eq_true_iff.1 h2).1
theorem nM{c:Prop}[Decidable c]{a b x:Pn}(h:(if c then a else b)=x):(c/\a=x)∨(¬c/\b=x):=by
 by_cases hc:c
 ·rw[xtw3 hc] at h;exact .inl ⟨hc,h⟩
 ·rw[xtw2 hc] at h;exact .inr ⟨hc,h⟩
theorem rQ{ex bl:List Tk->Pn}(gex:qT ex)(gbl:qT bl):GoesS (stG ex bl):=fun ts f r h e=>by
 unfold stG at e;rcases nM e with ⟨hn,e⟩|⟨hn,e⟩
 ·obtain⟨q1,q2⟩:=h.tail (by rw[y6 hn];decide);obtain⟨i,e⟩:=xX e;obtain⟨g1,l1⟩:=q1.is i;obtain⟨_,_,i,e⟩:=j6 e;obtain⟨g2,l2⟩:=gex _ _ _ g1 i;obtain⟨i,e⟩:=xX e;obtain⟨g3,l3⟩:=g2.is i;cases e;exact⟨g3,by omega⟩
 rcases nM e with ⟨hk,e⟩|⟨hk,e⟩
 ·cases e
 obtain⟨q1,q2⟩:=h.tail (by rw[xtw107.1 hk];decide);rcases nM e with ⟨_,e⟩|⟨_,e⟩
 ·obtain⟨_,_,i,e⟩:=j6 e;obtain⟨g1,l1⟩:=gex _ _ _ q1 i;obtain⟨_,_,i,e⟩:=j6 e;obtain⟨g2,l2⟩:=gbl _ _ _ g1 i;rcases nM e with ⟨hs,e⟩|⟨hs,e⟩
  ·obtain⟨g3,l3⟩:=g2.is hs;obtain⟨_,_,i,e⟩:=j6 e;obtain⟨g4,l4⟩:=gbl _ _ _ g3 i;cases e;exact⟨g4,by omega⟩
  ·cases e;exact⟨g2,by omega⟩
 rcases nM e with ⟨_,e⟩|⟨_,e⟩
 ·obtain⟨_,_,i,e⟩:=j6 e;obtain⟨g1,l1⟩:=gex _ _ _ q1 i;obtain⟨_,_,i,e⟩:=j6 e;obtain⟨g2,l2⟩:=gbl _ _ _ g1 i;cases e;exact⟨g2,by omega⟩
 rcases nM e with ⟨_,e⟩|⟨_,e⟩
 ·obtain⟨_,_,i,e⟩:=j6 e;obtain⟨g1,l1⟩:=gex _ _ _ q1 i;obtain⟨i,e⟩:=xX e;obtain⟨g2,l2⟩:=g1.is i;obtain⟨i,e⟩:=jeU e;obtain⟨g3,l3⟩:=g2.tail (by rw[i];decide);obtain⟨i,e⟩:=xX e;obtain⟨g4,l4⟩:=g3.is i;obtain⟨_,_,i,e⟩:=j6 e;obtain⟨g5,l5⟩:=gex _ _ _ g4 i;obtain⟨i,e⟩:=xX e;obtain⟨g6,l6⟩:=g5.is i;obtain⟨_,_,i,e⟩:=j6 e;obtain⟨g7,l7⟩:=gex _ _ _ g6 i;obtain⟨i,e⟩:=xX e;obtain⟨g8,l8⟩:=g7.is i;cases e;exact⟨g8,by omega⟩
 rcases nM e with ⟨_,e⟩|⟨_,e⟩
 ·obtain⟨i,e⟩:=jeU e;obtain⟨g3,l3⟩:=q1.tail (by rw[i];decide);obtain⟨i,e⟩:=xX e;obtain⟨g4,l4⟩:=g3.is i;cases e;exact⟨g4,by omega⟩
 rcases nM e with ⟨_,e⟩|⟨_,e⟩
 ·obtain⟨i,e⟩:=jeU e;obtain⟨g3,l3⟩:=q1.tail (by rw[i];decide);obtain⟨i,e⟩:=xX e;obtain⟨g4,l4⟩:=g3.is i;cases e;exact⟨g4,by omega⟩
 rcases nM e with ⟨_,e⟩|⟨_,e⟩
 ·obtain⟨i,e⟩:=xX e;obtain⟨g4,l4⟩:=q1.is i;cases e;exact⟨g4,by omega⟩
 rcases nM e with ⟨_,e⟩|⟨_,e⟩
 ·obtain⟨_,_,i,e⟩:=j6 e;obtain⟨g1,l1⟩:=gex _ _ _ q1 i;obtain⟨i,e⟩:=xX e;obtain⟨g2,l2⟩:=g1.is i;obtain⟨_,_,i,e⟩:=j6 e;obtain⟨g3,l3⟩:=gex _ _ _ g2 i;obtain⟨i,e⟩:=xX e;obtain⟨g4,l4⟩:=g3.is i;cases e;exact⟨g4,by omega⟩
 rcases nM e with ⟨_,e⟩|⟨_,e⟩
 ·obtain⟨_,_,i,e⟩:=j6 e;obtain⟨g1,l1⟩:=gex _ _ _ q1 i;obtain⟨i,e⟩:=xX e;obtain⟨g2,l2⟩:=g1.is i;cases e;exact⟨g2,by omega⟩
 rcases nM e with ⟨_,e⟩|⟨_,e⟩
 ·obtain⟨i,e⟩:=xX e;obtain⟨g4,l4⟩:=q1.is i;cases e;exact⟨g4,by omega⟩
 ·cases e
theorem jda{st:List Tk->Pn}(gst:GoesS st):∀(n:Nat) (acc:List Nt) (ts:List Tk) (f:Nt) (r:List Tk),TkP ts->mY st n acc ts=.ok f r->TkP r/\r.length<=ts.length
 |0,acc,ts,f,r,h,e=>by cases e
 |n+1,acc,ts,f,r,h,e=>by
  rw[mY] at e;split at e
  ·rename_i hs;obtain⟨g1,l1⟩:=h.is hs;cases e;exact⟨g1,by omega⟩
  ·obtain⟨_,_,i,e⟩:=j6 e;obtain⟨g1,l1⟩:=gst _ _ _ h i;obtain⟨g2,l2⟩:=jda gst n _ _ _ _ g1 e;exact⟨g2,by omega⟩
theorem jjP{st:List Tk->Pn}(gst:GoesS st):GoesS (bkF st):=fun ts f r h e=>by
 unfold bkF at e;obtain⟨i,e⟩:=xX e;obtain⟨g1,l1⟩:=h.is i;obtain⟨g2,l2⟩:=jda gst _ _ _ _ _ g1 e;exact⟨g2,by omega⟩
theorem gG{low:Option Pa}(hl:cV low):qT (jmY low):=by
 cases low with
 |none =>
  intro ts f r h e;have e2:(if zO pLb ts=true then Pn.bad (hd ts).pos 2 else .bad (hd ts).pos 10)=.ok f r:=e
  split at e2 <;> cases e2
 |some p=>exact(hl p rfl).2.2.2
theorem jeJ{low:Option Pa}(hl:cV low):cV (some (paG low)):=fun p hp=>by
 cases hp;exact⟨gY hl,gZ hl,gX hl,(jjP (rQ (gX hl) (gG hl))).goes⟩
theorem jdu{nm:List ByteArray}{lv:Int}{low:Option Pa}(h:LowQ nm lv low):zZ nm 136 (lv+1) (jmY low):=by
 obtain⟨h0,⟨rfl,rfl⟩|⟨p,rfl,h1,a,b,c,d,e,f,g,i⟩⟩:=h
 ·exact jhV nm
 ·exact i
theorem jgv{nm:List ByteArray}{lv:Int}{low:Option Pa}(h0:0<=lv)(h1:lv+1<=20)(h:LowQ nm (lv+1) low):LowQ nm lv (some (paG low)):=by
 have hg:=h.goes;obtain⟨a,b,c,d⟩:=jeJ hg _ rfl;have hst:=jc0 (lv:=lv+1) ⟨by omega,h1⟩ (jd6 h) (gX hg) (jdu h) (gG hg);have gst:=rQ (gX hg) (gG hg);exact⟨h0,.inr ⟨_,rfl,h1,a,b,c,d,jgD h,jch h,jd6 h,jm5 ⟨by omega,h1⟩ hst gst.goes fun ts f r k e=>(gst ts f r k e).2⟩⟩
theorem jeZ(nm:List ByteArray):∀d:Nat,d<=19->LowQ nm (19-d) (some (pa d))
 |0,_=>jgv (by decide) (by decide) ⟨by decide,.inl ⟨rfl,rfl⟩⟩
 |d+1,h=>by
  have ih:=jeZ nm d (by omega);refine jgv (by omega) (by omega) ?_;rw[show(19-((d+1:Nat):Int)+1)=19-(d:Int) by push_cast;omega];exact ih
theorem jfB(nm:List ByteArray):zZ nm 136 1 (pa 19).bl:=jdu (jeZ nm 19 (by decide))
theorem iH:GoesS (pa 19).bl:=by
 have h:=(jeZ [] 18 (by decide)).goes;exact jjP (rQ (gX h) (gG h))
theorem uY(l:List ByteArray)(s:ByteArray)(hl:l.length<=1000000):Spec Tryz.prog 157 [] [.sl 1 l.length (xA l),jJ s] fun _ r=>r=qA (qC l s):=by
 have hi:=oI l s hl;refine eN jK jT 0 Tryz.func157 rfl ?_;intro _;conv=>whnf
 refine jY [] hi ?_;rintro r ⟨n,hn,hq,rfl⟩;conv=>whnf
 rw[hq];rfl
def deH(n:Nat)(nm out:List ByteArray)(ts:List Tk):Pd :=
 if zO pComma ts=true then aU n nm out ts else if zO pSemi ts=true then .ok nm out ts.tail else .bad (hd ts).pos 10
theorem ja6(n:Nat)(nm out:List ByteArray)(ts:List Tk):aU (n+1) nm out ts =
  (if yB ts.tail=false then .bad (hd ts.tail).pos 10
  else if qC nm (hd ts.tail).text=true then .bad (hd ts.tail).pos 4
  else if nm.length=16 then .bad (hd ts.tail).pos 2
  else deH n (nm++[(hd ts.tail).text]) (out++[(hd ts.tail).text]) ts.tail.tail):=rfl
def pdQ(p:Pd)(ch:List PanicEntry):Prop:=match p with
 |.bad x e=>ch=qR x e
 |_=>False
theorem pF{p:Pd}{x e:Int}{ch:List PanicEntry}(h:p=.bad x e)(k:ch=qR x e):pdQ p ch:=by subst h;exact k
def doQ(p:Pd)(o:List (List A))(n:Nat)(cs:List A)(r:A):Prop:=match p with
 |.ok nm out ts=>o=[bxN ts++[.own 0]]/\n=nm.length/\cs=xA nm/\r=.sl 1 out.length (xA out)
 |_=>False
theorem lR(l:List ByteArray)(s:ByteArray):xA (l++[s])=xA l++[jJ s]:=by unfold xA;rw[xtw59];rfl
theorem jd5(nm:List ByteArray)(ts:List Tk)(h:TkP ts)(hk:(hd ts).kind≠0)(hl16:nm.length<=16) :
  iD Tryz.prog 133 [bxN ts++[.own 0]] 9 1 nm.length (xA nm) [.box 0 0] (doQ (aU ts.length nm [] ts)) (pdQ (aU ts.length nm [] ts)):=by
 obtain⟨P,hP⟩:∃P,aU ts.length nm [] ts=P:=⟨_,rfl⟩
 rw[hP];have hb0:=h.1.2;refine sJ (wH jK jT 1 (fun ch _=>(pdQ P) ch)) (fun _ _ h=>h) Tryz.func133 rfl (by kernel_rfl) rfl (by kernel_rfl) ?_;intro _;conv=>whnf
 refine qU 9 1 [3] [] ?_;conv=>whnf
 refine⟨trivial,?_⟩;conv=>whnf
 refine jA [0,3] ?_;conv=>whnf
 refine jE (fun x:Nat×Bool×List ByteArray×List ByteArray×List Tk=>[(4,.v (.bool x.2.1))]) (fun x=>[bxN x.2.2.2.2++[.own 0]]) (fun x=>[.live 9 1 x.2.2.1.length (xA x.2.2.1),.live 9 1 x.2.2.2.1.length (xA x.2.2.2.1)])
  (fun x=>TkP x.2.2.2.2/\x.2.2.2.2.length<=x.1/\x.2.2.1.length<=16/\x.2.2.2.1.length+x.2.2.2.2.length<=1000001/\(x.2.1=true->(hd x.2.2.2.2).kind≠0/\aU x.1 x.2.2.1 x.2.2.2.1 x.2.2.2.2=P)/\(x.2.1=false->deH x.1 x.2.2.1 x.2.2.2.1 x.2.2.2.2=P)) (fun x=>x.2.2.2.2.length) (ts.length,true,nm,[],ts) ?_ ⟨h,xtw11 _,hl16,by simp only[xtw8];omega,fun _=>⟨hk,hP⟩,fun e=>by cases e⟩ ?_
 ·repeat' constructor
 rintro⟨n0,b,nm1,out,ts0⟩ ⟨g1,g2,g3,g4,g5,g6⟩
 simp only at g1 g2 g3 g4 g5 g6
 conv=>whnf
 cases b with
 |true =>
  obtain⟨g7,hP⟩:=g5 rfl
  obtain⟨n,rfl⟩:∃n,n0=n+1:=⟨n0-1,by have:=g1.pos;omega⟩
  rw[ja6] at hP;obtain⟨q1,q2⟩:=g1.tail g7;have hnx:=tP ts0 g1.pos;have hp1:=q1.pos;generalize hd ts0=t0 at *;generalize ts0.tail=ts1 at *;conv=>whnf
  refine qK 0 0 2 [] rfl rfl rfl rfl rfl rfl rfl (fun _=>(hnx).rp rfl rfl _ _ _ _) (fun ch bx' hp=>hp.elim) ?_;rintro o n' cs' r ⟨c,ho,rfl,rfl,rfl,rfl⟩;cases ho;conv=>whnf
  have hnm:=jiM ts1 hp1 q1.hd q1.good.1;refine qK 0 2 3 [] rfl rfl rfl rfl rfl rfl rfl (fun _=>(hnm).rp rfl rfl _ _ _ _) (fun ch bx' hp=>hp.elim) ?_;rintro o n' cs' r ⟨c,ho,rfl,rfl,rfl,rfl⟩;cases ho;conv=>whnf
  cases hn:yB ts1 with
  |false =>
   rw[xtw3 hn] at hP;conv=>whnf
   refine qK 0 3 4 [] rfl rfl rfl rfl rfl rfl rfl (fun _=>(lE ts1 hp1 10).rp rfl rfl _ _ _ _) (fun ch bx' hp _ _=>pF hP.symm hp) ?_;rintro o n' cs' r ⟨c,ho,_,_,⟨⟩⟩
  |true =>
   rw[xtw2 (by rw[hn];simp)] at hP;have hr1:=nP hp1;obtain⟨q4,q5⟩:=q1.tail (by rw[y6 hn];decide);have hnx2:=tP ts1 hp1;have hz1:=q1.good.1;generalize hts2:ts1.tail=ts2 at *;generalize ht1:hd ts1=t1 at *;have hct:=uY nm1 t1.text (by omega);conv=>whnf
   (refine cR ?_;try with_reducible exact trivial)
   (generalize hrq:jC _ _ (z8 ts1)=rq;obtain rfl:rq=cT t1:=hrq.symm.trans (hr1);clear hrq;conv=>whnf)
   refine jjx [3] rfl (fun _=>hct) ?_;rintro r rfl;refine⟨_,rfl,?_⟩;conv=>whnf
   cases hh:qC nm1 t1.text with
   |true =>
    rw[xtw3 hh] at hP;rw[<- ht1] at hP;conv=>whnf
    refine qK 0 3 4 [] rfl rfl rfl rfl rfl rfl rfl (fun _=>(lE ts1 hp1 4).rp rfl rfl _ _ _ _) (fun ch bx' hp _ _=>pF hP.symm hp) ?_;rintro o n' cs' r ⟨c,ho,_,_,⟨⟩⟩
   |false =>
    rw[xtw2 (by rw[hh];simp)] at hP;conv=>whnf
    by_cases h16:nm1.length=16
    ·rw[xtw1 (show(nm1.length:Int)=16 by omega)];rw[xtw3 h16] at hP;rw[<- ht1] at hP;conv=>whnf
     refine qK 0 3 4 [] rfl rfl rfl rfl rfl rfl rfl (fun _=>(lE ts1 hp1 2).rp rfl rfl _ _ _ _) (fun ch bx' hp _ _=>pF hP.symm hp) ?_;rintro o n' cs' r ⟨c,ho,_,_,⟨⟩⟩
    ·rw[xtw0 (show ¬(nm1.length:Int)=16 by omega)];rw[xtw2 h16] at hP;conv=>whnf
     refine⟨⟨by simp only;unfold maxLen;omega,by simp only;omega⟩,?_⟩;conv=>whnf
     refine⟨⟨by simp only;unfold maxLen;omega,by simp only;omega⟩,?_⟩;conv=>whnf
     refine qK 0 3 6 [] rfl rfl rfl rfl rfl rfl rfl (fun _=>(hnx2).rp rfl rfl _ _ _ _) (fun ch bx' hp=>hp.elim) ?_;rintro o n' cs' r ⟨c,ho,rfl,rfl,rfl,rfl⟩;cases ho;conv=>whnf
     refine⟨(n,false,nm1++[t1.text],out++[t1.text],ts2),jD [6,1] ?_,⟨q4,by simp only;omega,by simp only[xtw4,xtw6,xtw8];omega,by simp only[xtw4,xtw6,xtw8];omega,fun e=>(by cases e),fun _=>hP⟩,by simp only;omega⟩;conv=>whnf
     simp only[xtw4,xtw6,xtw8,lR];repeat' constructor
 |false =>
  have hP:=g6 rfl;have hpos:=g1.pos;have hcm:=jpD ts0 hpos pComma;conv=>whnf
  refine qK 0 0 2 [] rfl rfl rfl rfl rfl rfl rfl (fun _=>(hcm).rp rfl rfl _ _ _ _) (fun ch bx' hp=>hp.elim) ?_;rintro o n' cs' r ⟨c,ho,rfl,rfl,rfl,rfl⟩;cases ho;conv=>whnf
  unfold deH at hP
  cases hq:zO pComma ts0 with
  |true =>
   rw[xtw3 hq] at hP
   obtain⟨n,rfl⟩:∃n,n0=n+1:=⟨n0-1,by omega⟩
   rw[ja6] at hP;obtain⟨q1,q2⟩:=g1.is hq;have hnx:=tP ts0 hpos;have hp1:=q1.pos;generalize hd ts0=t0 at *;generalize ts0.tail=ts1 at *;conv=>whnf
   refine qK 0 2 3 [] rfl rfl rfl rfl rfl rfl rfl (fun _=>(hnx).rp rfl rfl _ _ _ _) (fun ch bx' hp=>hp.elim) ?_;rintro o n' cs' r ⟨c,ho,rfl,rfl,rfl,rfl⟩;cases ho;conv=>whnf
   have hnm:=jiM ts1 hp1 q1.hd q1.good.1;refine qK 0 3 4 [] rfl rfl rfl rfl rfl rfl rfl (fun _=>(hnm).rp rfl rfl _ _ _ _) (fun ch bx' hp=>hp.elim) ?_;rintro o n' cs' r ⟨c,ho,rfl,rfl,rfl,rfl⟩;cases ho;conv=>whnf
   cases hn:yB ts1 with
   |false =>
    rw[xtw3 hn] at hP;conv=>whnf
    refine qK 0 4 5 [] rfl rfl rfl rfl rfl rfl rfl (fun _=>(lE ts1 hp1 10).rp rfl rfl _ _ _ _) (fun ch bx' hp _ _=>pF hP.symm hp) ?_;rintro o n' cs' r ⟨c,ho,_,_,⟨⟩⟩
   |true =>
    rw[xtw2 (by rw[hn];simp)] at hP;have hr1:=nP hp1;obtain⟨q4,q5⟩:=q1.tail (by rw[y6 hn];decide);have hnx2:=tP ts1 hp1;have hz1:=q1.good.1;generalize hts2:ts1.tail=ts2 at *;generalize ht1:hd ts1=t1 at *;have hct:=uY nm1 t1.text (by omega);conv=>whnf
    (refine cR ?_;try with_reducible exact trivial)
    (generalize hrq:jC _ _ (z8 ts1)=rq;obtain rfl:rq=cT t1:=hrq.symm.trans (hr1);clear hrq;conv=>whnf)
    refine jjx [4] rfl (fun _=>hct) ?_;rintro r rfl;refine⟨_,rfl,?_⟩;conv=>whnf
    cases hh:qC nm1 t1.text with
    |true =>
     rw[xtw3 hh] at hP;rw[<- ht1] at hP;conv=>whnf
     refine qK 0 4 5 [] rfl rfl rfl rfl rfl rfl rfl (fun _=>(lE ts1 hp1 4).rp rfl rfl _ _ _ _) (fun ch bx' hp _ _=>pF hP.symm hp) ?_;rintro o n' cs' r ⟨c,ho,_,_,⟨⟩⟩
    |false =>
     rw[xtw2 (by rw[hh];simp)] at hP;conv=>whnf
     by_cases h16:nm1.length=16
     ·rw[xtw1 (show(nm1.length:Int)=16 by omega)];rw[xtw3 h16] at hP;rw[<- ht1] at hP;conv=>whnf
      refine qK 0 4 5 [] rfl rfl rfl rfl rfl rfl rfl (fun _=>(lE ts1 hp1 2).rp rfl rfl _ _ _ _) (fun ch bx' hp _ _=>pF hP.symm hp) ?_;rintro o n' cs' r ⟨c,ho,_,_,⟨⟩⟩
     ·rw[xtw0 (show ¬(nm1.length:Int)=16 by omega)];rw[xtw2 h16] at hP;conv=>whnf
      refine⟨⟨by simp only;unfold maxLen;omega,by simp only;omega⟩,?_⟩;conv=>whnf
      refine⟨⟨by simp only;unfold maxLen;omega,by simp only;omega⟩,?_⟩;conv=>whnf
      refine qK 0 4 7 [] rfl rfl rfl rfl rfl rfl rfl (fun _=>(hnx2).rp rfl rfl _ _ _ _) (fun ch bx' hp=>hp.elim) ?_;rintro o n' cs' r ⟨c,ho,rfl,rfl,rfl,rfl⟩;cases ho;conv=>whnf
      refine⟨(n,false,nm1++[t1.text],out++[t1.text],ts2),jD [7,1] ?_,⟨q4,by simp only;omega,by simp only[xtw4,xtw6,xtw8];omega,by simp only[xtw4,xtw6,xtw8];omega,fun e=>(by cases e),fun _=>hP⟩,by simp only;omega⟩;conv=>whnf
      simp only[xtw4,xtw6,xtw8,lR];repeat' constructor
  |false =>
   rw[xtw2 (by rw[hq];simp)] at hP;conv=>whnf
   refine qK 0 2 3 [] rfl rfl rfl rfl rfl rfl rfl (fun _=>(jgQ ts0 hpos pSemi).rp rfl rfl _ _ _ _) (fun ch bx' hp _ _=>?_) ?_
   ·rw[xtw2 (by rw[hp.1];simp)] at hP;exact pF hP.symm hp.2
   rintro o n' cs' r ⟨c,ho,rfl,rfl,hs,rfl,rfl⟩;cases ho;rw[xtw3 hs] at hP;subst hP;conv=>whnf
   refine⟨3,?_⟩;conv=>whnf
   exact⟨rfl,rfl,rfl,rfl⟩
end Go.Proofs.YtfbifdccmabdbaaGreatDoor.Vm
namespace Go.Proofs.YtfbifdccmabdbaaGreatDoor.Vm
open Go.RowKit
section
mutual
def jbs:A->Bool
 |.mp _ _=>false
 |.sl _ _ cs=>yN cs
 |.pp cs=>yN cs
 |.clo _ l=>yN l
 |.bm _ l=>yN l
 |.agg l=>yN l
 |.tup l=>yN l
 |_=>true
def yN:List A->Bool
 |[]=>true
 |a::r=>jbs a&&yN r
end
theorem noMpL_iff:∀{l:List A},yN l=true↔∀a∈l,jbs a=true
 |[]=>by unfold yN;simp
 |a::r=>by
  unfold yN;rw[xtw14,noMpL_iff];simp
theorem jl6{l:List A}(h:yN l=true):yN (nV l)=true:=by
 cases l with
 |nil=>exact h
 |cons a l=>cases a <;> exact h
def jqk(D C:Rd):Prop:=∀b o u,D ⟨b,o,none⟩=some u->C ⟨b,o,none⟩=some u
section
variable{D C:Rd}(hC:jqk D C)
include hC
mutual
theorem r8:∀(a:A) {β:List Nat} {ρ:List Value} {y:Value},jbs a=true->a.rep ⟨D,β,ρ⟩ y->a.rep ⟨C,β,ρ⟩ y
 |.dead,_,_,_,_,h=>by unfold A.rep;trivial
 |.v x,_,_,_,_,h=>by unfold A.rep at h ⊢;exact h
 |.sl k n cs,_,_,_,hm,h=>by
  unfold A.rep at h ⊢;obtain⟨h1,h2,p,b,off,cap,h3,h4,h6,h7,h8⟩:=h;exact⟨h1,h2,p,b,off,cap,h3,h4,h6,h7,jeS cs (by unfold jbs at hm;exact hm) h8⟩
 |.own g,_,_,_,_,h=>by unfold A.rep at h ⊢;exact h
 |.orow g off,_,_,_,_,h=>by unfold A.rep at h ⊢;exact h
 |.box i off,_,_,_,_,h=>by unfold A.rep at h ⊢;exact h
 |.pp cs,_,_,_,hm,h=>by
  unfold A.rep at h ⊢;obtain⟨b,off,h1,h2⟩:=h;exact⟨b,off,h1,jeS cs (by unfold jbs at hm;exact hm) h2⟩
 |.gp _ _,_,_,_,_,h=>by unfold A.rep at h ⊢;exact h
 |.adr _,_,_,_,_,h=>by unfold A.rep at h;exact h.elim
 |.err,_,_,_,_,h=>by unfold A.rep at h ⊢;exact h
 |.num,_,_,_,_,h=>by unfold A.rep at h ⊢;exact h
 |.clo f caps,_,_,_,hm,h=>by
  unfold A.rep at h ⊢;obtain⟨us,h1,h2⟩:=h;exact⟨us,h1,jeR caps (by unfold jbs at hm;exact hm) h2⟩
 |.bm f fs,_,_,_,hm,h=>by
  unfold A.rep at h ⊢;obtain⟨us,h1,h2⟩:=h;exact⟨us,h1,jeR fs (by unfold jbs at hm;exact hm) h2⟩
 |.mp ks vs,_,_,_,hm,h=>by unfold jbs at hm;cases hm
 |.agg l,_,_,_,hm,h=>by
  unfold A.rep at h ⊢;obtain⟨us,h1,h2⟩:=h;exact⟨us,h1,jit l (by unfold jbs at hm;exact hm) h2⟩
 |.tup l,_,_,_,hm,h=>by
  unfold A.rep at h ⊢;obtain⟨us,h1,h2⟩:=h;exact⟨us,h1,jeR l (by unfold jbs at hm;exact hm) h2⟩
theorem jeS:∀(l:List A) {β:List Nat} {ρ:List Value} {b off:Nat},yN l=true->A.repAt l ⟨D,β,ρ⟩ b off->A.repAt l ⟨C,β,ρ⟩ b off
 |[],_,_,_,_,_,_=>by unfold A.repAt;trivial
 |a::ar,_,_,_,_,hm,h=>by
  unfold yN at hm;rw[xtw14] at hm;unfold A.repAt at h ⊢;obtain⟨⟨u,h1,h2,h3⟩,h4⟩:=h;exact⟨⟨u,hC _ _ _ h1,h2,r8 a hm.1 h3⟩,jeS ar hm.2 h4⟩
theorem jeR:∀(l:List A) {β:List Nat} {ρ:List Value} {us:List Value},yN l=true->A.repL l ⟨D,β,ρ⟩ us->A.repL l ⟨C,β,ρ⟩ us
 |[],_,_,_,_,h=>by unfold A.repL at h ⊢;exact h
 |a::ar,_,_,_,hm,h=>by
  unfold yN at hm;rw[xtw14] at hm;unfold A.repL at h ⊢;obtain⟨u,us',h1,h2,h3⟩:=h;exact⟨u,us',h1,r8 a hm.1 h2,jeR ar hm.2 h3⟩
theorem jit:∀(l:List A) {β:List Nat} {ρ:List Value} {us:List Value},yN l=true->A.repC l ⟨D,β,ρ⟩ us->A.repC l ⟨C,β,ρ⟩ us
 |[],_,_,_,_,h=>by unfold A.repC at h ⊢;exact h
 |a::ar,_,_,_,hm,h=>by
  unfold yN at hm;rw[xtw14] at hm;unfold A.repC at h ⊢;obtain⟨u,us',h1,h2,h3,h4⟩:=h;exact⟨u,us',h1,h2,r8 a hm.1 h3,jit ar hm.2 h4⟩
end
end
def jdn:A->A
 |.agg l=>.agg (l.map fun _=>.dead)
 |_=>.dead
theorem jd3{F:Env}:∀{us:List Value},(∀u∈us,u.oneCell'=true)->∀{l:List A},us.length=l.length->A.repC (l.map fun _=>A.dead) F us
 |[],_,[],_=>by simp[A.repC]
 |u::us,h,a::l,hl=>by
  rw[xtw22];unfold A.repC;exact⟨u,us,rfl,h u xtw29,A.rep_dead _ _,jd3 (fun v hv=>h v (xtw25 _ hv)) (by simpa using hl)⟩
 |[],_,_::_,hl=>by simp at hl
 |_::_,_,[],hl=>by simp at hl
theorem jkZ{a:A}{E F:Env}{y:Value}(h:a.rep E y):(jdn a).rep F y:=by
 cases a with
 |agg l =>
  unfold A.rep at h;obtain⟨us,h1,h2⟩:=h;unfold jdn A.rep;exact⟨us,h1,jd3 (A.repC_one h2) (A.repC_len h2)⟩
 |_=>exact A.rep_dead _ _
theorem jdo{E F:Env}:∀{l:List A} {us:List Value},A.repL l E us->A.repL (l.map jdn) F us
 |[],us,h=>by unfold A.repL at h;subst h;simp[A.repL]
 |a::r,us,h=>by
  unfold A.repL at h;obtain⟨u,us',rfl,h2,h3⟩:=h;rw[xtw22];unfold A.repL;exact⟨u,us',rfl,jkZ h2,jdo h3⟩
section
variable{P:Program}{pan:List PanicEntry->S->Prop}{Xr:Nat->Bool}{f:Nat}{s:S}{K:A->S->Prop}{post:List (List A)->A->Prop}
theorem jrg(i g:Nat){e n:Nat}{kA vs c0 c1:List A}{ks:List Value}{pn:List PanicEntry->Prop}(hX:Xr i=true)(hi:s.bx[i]?=some c0)(hg:s.rw[g]?=some (.live e 0 n [.clo 0 kA,.clo 0 vs]))(hkk:oC kA fun l=>l=ks)(h1:q8 [i] s.rw c0=some c1)
  (hs:SpecP P f [c1] [.box 0 0,.mp ks (vs.map jdn)] post pn) (hno:∀o r,post o r->(∀c∈o,yN c=true)/\jbs r=true)
  (hpn:∀ch bx',pn ch->bx'.length=s.bx.length->(∀j,j≠i->bx'[j]?=s.bx[j]?)->pan ch ⟨s.t,bx',s.rw⟩)
  (hk:∀o r,post [o] r->iA [i] s.bx [i] [o] fun bx'=>zT (back [i] r) fun r'=>j9 s.rw fun rw'=>kS s bx' rw' (K r')):kL P pan Xr f [.box i 0,.own g] s K:=by
 unfold kL
 right;right;right;right;right
 refine⟨hs.1,fun w0 C0 β0 E w vals hp hargs=>?_⟩;have hil:=(xtw5.1 hi).1;unfold A.repL at hargs;obtain⟨v0,us0,rfl,hv0,hargs⟩:=hargs;unfold A.repL at hargs;obtain⟨y,us1,rfl,hy,hargs⟩:=hargs;unfold A.repL at hargs;subst hargs
 have hyg:E.ρ[g]?=some y:=by unfold A.rep at hy;exact hy
 obtain⟨r,es,c,us,rfl,hr,hn,hst,h2,hks,hvs⟩:=jac hp hg hyg;obtain⟨ks',hke,hka⟩:=tE hkk;subst hke;obtain⟨hkeys,hok⟩:=hka E.per _ hks
 have hseeM:kR w ⟨r,0,some 0⟩=some (.tuple #[.tuple ks'.toArray,.tuple us.toArray]):=by
  unfold kR cK;simp only[hr];rw[xtw3 hst]
  have q1:es.map (·.key)=ks'.toArray:=by
   apply xtw80.1;rw[<- hkeys];simp
  have q2:es.map (·.val)=us.toArray:=by
   apply xtw80.1;rw[<- h2];simp
  rw[q1,q2]
 have hlen:(vs.map jdn).length=ks'.length:=by
  rw[xtw44,<- A.repL_len hvs,<- h2,<- hkeys];simp
 have hno0:∀o,kR w ⟨r,o,none⟩=none:=fun o=>by
  unfold kR World.cell?;simp[hr]
 have hcall:=jaG (Cl:=fun vals w1 R=>w1=w->vals.toList[1]?=some (.map (some r))->Calls P f vals w R) (fun h k e1 e2=>Calls.mono (k e1 e2) fun e w'=>h e w') (pan:=pan) (pn:=pn) (X:=[i]) (ids:=[]) (ins:=[c1]) (post:=post) (Xr:=Xr) (args:=[.box i 0,.dead]) (args':=[.box 0 0,.dead]) (vs:=[v0,.map (some r)]) (K:=K) hp
  (by
   unfold A.repL;refine⟨_,_,rfl,hv0,?_⟩;unfold A.repL
   exact⟨_,_,rfl,A.rep_dead _ _,by unfold A.repL;rfl⟩)
  (by simp) (by simpa using hX) (by simpa using hil)
  (by
   have:s.bx.getD i []=c0:=by simp[xtw9,hi]
   simp only[xtw22,xtw104,this];show nF [i] s.rw [c0]=_
   simp only[nF,h1])
  (by
   show q8 [i] s.rw [.box i 0,.dead]=_
   simp[q8,ren,idx])
  (fun _ w1 C β vals1 g0 g1 g2 g3 g4 g5 g6 hw hv=>?_)
  (fun outs r' hp' hl=>by
   obtain⟨o,rfl⟩:∃o,outs=[o]:=xtw77.1 (by simpa using hl)
   exact hk o r' hp')
  (fun ch bx' h h1 h2=>hpn ch bx' h h1 fun j hj=>h2 j (by simpa using hj))
 ·exact hcall rfl rfl
 ·subst hw;obtain⟨b,rfl⟩:∃b,β=[b]:=xtw77.1 g4.symm
  have hbr:b≠r:=fun e=>by
   obtain⟨T,arr,hb,_⟩:=g5 0 b c1 rfl rfl;rw[e,hr] at hb;cases hb
  obtain⟨C1,hC1⟩:∃C1:Rd,C1=fun ad=>if ad.block=r then kR w1 ad else C ad:=⟨_,rfl⟩
  have sub1:Sub C C1:=fun ad u hc=>by
   rw[hC1]
   simp only
   split
   ·exact g1 ad u hc
   ·exact hc
  have sub2:Sub C1 (kR w1):=fun ad u hc=>by
   rw[hC1] at hc
   simp only at hc
   split at hc
   ·exact hc
   ·exact g1 ad u hc
  have hβ1:∀b'∈[b],∀o sp,C1 ⟨b',o,sp⟩=none:=fun b' hb' o sp=>by
   have e:b'=b:=by simpa using hb'
   subst e;rw[hC1]
   simp only
   rw[xtw2 hbr];exact g3 _ hb' o sp
  have le1:(⟨C,[b],[]⟩:Env).le ⟨C1,[b],[]⟩:=⟨sub1,fun _ _ h=>h,fun _ _ h=>h⟩
  unfold A.repL at g6;obtain⟨p,l1,rfl,hp0,g6⟩:=g6;unfold A.repL at g6;obtain⟨q,l2,rfl,-,g6⟩:=g6;unfold A.repL at g6;subst g6
  obtain rfl:q=.map (some r):=by simpa using hv
  have tr:∀w',jqk (qY C1 w1 w') (qY C w1 w'):=fun w' b' o u hc=>by
   unfold qY at hc ⊢;split
   ·rename_i hlt;rw[xtw3 hlt,hC1] at hc
    simp only at hc
    split at hc
    ·rename_i hbr2;subst hbr2;rw[hno0] at hc;cases hc
    ·exact hc
   ·rename_i hlt;rw[xtw2 hlt] at hc;exact hc
  refine(hs.2 w1 C1 [b] [p,.map (some r)] (g0.mono sub1) sub2 g2 hβ1 g4 (fun j b' cs hj hcs=>(g5 j b' cs hj hcs).mono le1) ?_).mono fun e' w' hh=>?_
  ·unfold A.repL;refine⟨_,_,rfl,A.rep.mono _ le1 hp0,?_⟩;unfold A.repL;refine⟨_,_,rfl,?_,by unfold A.repL;rfl⟩;unfold A.rep;refine⟨r,us,rfl,?_,hlen,jdo hvs,hok⟩;rw[hC1];simp only[xtw127];exact hseeM
  ·rcases hh with ⟨outs,r',v,rfl,hpost,kp,k2,k3,k4⟩|⟨ch,ns,k1,k2,kp,k4,k5⟩
   ·obtain⟨n1,n2⟩:=hno _ _ hpost;refine .inl ⟨outs,r',v,rfl,hpost,kp,k2,fun j b' cs hj hcs=>?_,r8 (tr w') r' n2 k4⟩;obtain⟨T,arr,hh,hbc⟩:=k3 j b' cs hj hcs;exact⟨T,arr,hh,jit (tr w') _ (jl6 (n1 cs (List.mem_of_getElem? hcs))) hbc.1,hbc.2⟩
   ·refine .inr ⟨ch,ns,k1,k2,kp,k4,fun j b' n' hj hn'=>?_⟩;obtain⟨T,arr,hh,hbc⟩:=k5 j b' n' hj hn'
    exact⟨T,arr,hh,.mk' (A.repC_mk (aB (jaP hbc.1)) (by
     have:=A.repC_one hbc.1
     exact this))⟩
end
end
end Go.Proofs.YtfbifdccmabdbaaGreatDoor.Vm
namespace Go.Proofs.YtfbifdccmabdbaaGreatDoor.Vm
open Go.RowKit Go.Shelf
def haA(h:Int×Nt):Int×A:=(h.1,.agg (intA h.1::ntA h.2))
def v8(l:List (Int×Nt)):List (Int×A):=l.map haA
def uI(hs:List (Int×Nt))(ts:List Tk):Ph:=match uK ts with
 |.bad x e=>.bad x e
 |.ok k r=>if hs.any (fun h=>decide (h.1=k))=true then .bad (hd ts).pos 4 else .ok k r
def phQ(p:Ph)(ch:List PanicEntry):Prop:=match p with
 |.bad x e=>ch=qR x e
 |_=>False
theorem fD{p:Ph}{x e:Int}{ch:List PanicEntry}(h:p=.bad x e)(k:ch=qR x e):phQ p ch:=by subst h;exact k
def hoQ(nm:List ByteArray)(p:Ph)(o:List (List A))(r:A):Prop:=match p with
 |.ok k ts=>o=[hZ nm ts]/\r=intA k
 |_=>False
def haD(h:Int×Nt):Int×A:=(h.1,.agg [.dead,.dead,.dead,.dead,.dead])
def rR(l:List (Int×Nt)):List (Int×A):=l.map haD
theorem jn0(l:List (Int×Nt)):mkV (rR l)=mkV (v8 l):=by
 unfold mkV rR v8;rw[xtw88,xtw88];rfl
theorem jn1(l:List (Int×Nt)):(pY (v8 l)).map jdn=pY (rR l):=by
 unfold pY rR v8;rw[xtw88,xtw88,xtw88];rfl
theorem lZ(g:Int×Nt->Int×A)(hg:∀h,(g h).1=h.1)(hs:List (Int×Nt))(k:Int):(hs.any (fun h=>decide (h.1=k))=true/\∃h∈hs,h.1=k/\wI (hs.map g) k=some (g h).2)∨(hs.any (fun h=>decide (h.1=k))=false/\wI (hs.map g) k=none):=by
 induction hs with
 |nil=>exact .inr ⟨rfl,rfl⟩
 |cons h l ih =>
  by_cases e:h.1=k
  ·left;refine⟨by rw[xtw114,xtw1 e];rfl,h,xtw29,e,?_⟩;unfold wI;rw[xtw22,List.find?_cons_of_pos (p:=fun p:Int×A=>decide (k=p.1)) (show decide (k=(g h).1)=true from xtw1 (by rw[hg];exact e.symm))];rfl
  ·have hf:wI ((h::l).map g) k=wI (l.map g) k:=by
    unfold wI;rw[xtw22,List.find?_cons_of_neg (p:=fun p:Int×A=>decide (k=p.1)) (show ¬decide (k=(g h).1)=true by rw[xtw0 (fun e2:k=(g h).1=>e (by rw[e2,hg]))];simp)]
   rw[hf,xtw114,xtw0 e,Bool.false_or];rcases ih with ⟨h1,x,h2,h3,h4⟩|⟨h1,h2⟩
   ·exact .inl ⟨h1,x,xtw25 _ h2,h3,h4⟩
   ·exact .inr ⟨h1,h2⟩
theorem jdw{α:Type}(f:α->List A)(hf:∀x,yN (f x)=true)(l:List α):yN (l.flatMap f)=true:=by
 rw[noMpL_iff];intro a ha;obtain⟨x,_,hx⟩:=List.mem_flatMap.1 ha;exact noMpL_iff.1 (hf x) a hx
theorem jn7(nm:List ByteArray)(ts:List Tk):yN (hZ nm ts)=true:=by
 have h1:yN (z8 ts)=true:=jdw cT (fun _=>rfl) ts
 have h2:yN (xA nm)=true:=by
  unfold xA;rw[jgy];exact jdw (fun x=>[jJ x]) (fun _=>rfl) nm
 refine noMpL_iff.2 fun a ha=>?_
 rcases xtw13.1 ha with rfl|ha
 ·exact h1
 ·rw[xtw16.1 ha];exact h2
theorem jkV(nm:List ByteArray)(hs:List (Int×Nt))(ts:List Tk)(h:TkP ts) :
  SpecP Tryz.prog 135 [hZ nm ts] [.box 0 0,.mp (mkV (rR hs)) (pY (rR hs))] (hoQ nm (uI hs ts)) (phQ (uI hs ts)):=by
 obtain⟨P,hP⟩:∃P,uI hs ts=P:=⟨_,rfl⟩
 rw[hP];have hpos:=h.pos
 have his:=fun s=>nE nm ts hpos s
 have hnx:=wV nm ts hpos
 have hfl:=fun e=>gJ nm ts hpos e
 have hps:=fun s (hs:zO s ts=true)=>h.is hs
 unfold uI uK at hP;refine vY (wH jK jT 1 (fun ch _=>(phQ P) ch)) (fun _ _ h=>h) Tryz.func135 rfl (by kernel_rfl) rfl (by kernel_rfl) ?_;intro _;conv=>whnf
 refine jL 0 [] (his wStart) ?_;rintro o r ⟨ho,rfl⟩;cases ho;conv=>whnf
 cases hq1:zO wStart ts with
 |true =>
  rw[xtw3 hq1] at hP
  simp only at hP
  obtain⟨q1,q2⟩:=hps _ hq1;conv=>whnf
  refine jL 0 [] hnx ?_;rintro o r ⟨ho,rfl⟩;cases ho;conv=>whnf
  refine kH _ _ ?_;rcases lZ haD (fun _=>rfl) hs (0) with ⟨hany,hx,hm,hek,hf⟩|⟨hany,hf⟩
  ·rw[show wI (rR hs) _=_ from hf];rw[xtw3 hany] at hP;conv=>whnf
   refine kQ 0 [] (hfl 4) (fun ch bx' hp=>fD hP.symm hp) ?_;rintro o r ⟨⟩
  ·rw[show wI (rR hs) _=_ from hf];rw[xtw2 (by rw[hany];simp)] at hP;subst hP;conv=>whnf
   exact⟨rfl,rfl⟩
 |false =>
  rw[xtw2 (by rw[hq1];simp)] at hP;conv=>whnf
  refine jL 0 [] (his wRequest) ?_;rintro o r ⟨ho,rfl⟩;cases ho;conv=>whnf
  cases hq2:zO wRequest ts with
  |true =>
   rw[xtw3 hq2] at hP
   simp only at hP
   obtain⟨q1,q2⟩:=hps _ hq2;conv=>whnf
   refine jL 0 [] hnx ?_;rintro o r ⟨ho,rfl⟩;cases ho;conv=>whnf
   refine kH _ _ ?_;rcases lZ haD (fun _=>rfl) hs (1) with ⟨hany,hx,hm,hek,hf⟩|⟨hany,hf⟩
   ·rw[show wI (rR hs) _=_ from hf];rw[xtw3 hany] at hP;conv=>whnf
    refine kQ 0 [] (hfl 4) (fun ch bx' hp=>fD hP.symm hp) ?_;rintro o r ⟨⟩
   ·rw[show wI (rR hs) _=_ from hf];rw[xtw2 (by rw[hany];simp)] at hP;subst hP;conv=>whnf
    exact⟨rfl,rfl⟩
  |false =>
   rw[xtw2 (by rw[hq2];simp)] at hP;conv=>whnf
   refine jL 0 [] (his wTimer) ?_;rintro o r ⟨ho,rfl⟩;cases ho;conv=>whnf
   cases hq:zO wTimer ts with
   |true =>
    rw[xtw3 hq] at hP;obtain⟨q1,q2⟩:=hps _ hq;have hnu:=mJ nm ts.tail q1.pos 8;have hnp:=q1.good;generalize ts.tail=ts1 at *;conv=>whnf
    refine jL 0 [] hnx ?_;rintro o r ⟨ho,rfl⟩;cases ho;conv=>whnf
    refine kQ 0 [] hnu (fun ch bx' hp=>?_) ?_
    ·unfold mZ at hP;rcases hp with ⟨h1,h2⟩|⟨h1,h2,h3⟩
     ·rw[xtw3 h1] at hP;exact fD hP.symm h2
     ·rw[xtw2 (by rw[h1];simp),xtw3 h2] at hP;exact fD hP.symm h3
    rintro o r ⟨⟨h1,h2⟩,ho,rfl⟩;cases ho;unfold mZ at hP;rw[xtw2 (by rw[h1];simp),xtw2 (by omega)] at hP
    simp only at hP
    have hn0:0<=(hd ts1).n:=hnp.2.2.2.1;generalize hd ts1=t1 at *;conv=>whnf
    refine⟨jG (by omega),?_⟩;conv=>whnf
    refine kH _ _ ?_;rcases lZ haD (fun _=>rfl) hs (2+t1.n) with ⟨hany,hx,hm,hek,hf⟩|⟨hany,hf⟩
    ·rw[show wI (rR hs) _=_ from hf];rw[xtw3 hany] at hP;conv=>whnf
     refine kQ 0 [] (hfl 4) (fun ch bx' hp=>fD hP.symm hp) ?_;rintro o r ⟨⟩
    ·rw[show wI (rR hs) _=_ from hf];rw[xtw2 (by rw[hany];simp)] at hP;subst hP;conv=>whnf
     exact⟨rfl,rfl⟩
   |false =>
    rw[xtw2 (by rw[hq];simp)] at hP;clear hq;conv=>whnf
    refine jL 0 [] (his wMessage) ?_;rintro o r ⟨ho,rfl⟩;cases ho;conv=>whnf
    cases hq:zO wMessage ts with
    |true =>
     rw[xtw3 hq] at hP;obtain⟨q1,q2⟩:=hps _ hq;have hnu:=mJ nm ts.tail q1.pos 30;have hnp:=q1.good;generalize ts.tail=ts1 at *;conv=>whnf
     refine jL 0 [] hnx ?_;rintro o r ⟨ho,rfl⟩;cases ho;conv=>whnf
     refine kQ 0 [] hnu (fun ch bx' hp=>?_) ?_
     ·unfold mZ at hP;rcases hp with ⟨h1,h2⟩|⟨h1,h2,h3⟩
      ·rw[xtw3 h1] at hP;exact fD hP.symm h2
      ·rw[xtw2 (by rw[h1];simp),xtw3 h2] at hP;exact fD hP.symm h3
     rintro o r ⟨⟨h1,h2⟩,ho,rfl⟩;cases ho;unfold mZ at hP;rw[xtw2 (by rw[h1];simp),xtw2 (by omega)] at hP
     simp only at hP
     have hn0:0<=(hd ts1).n:=hnp.2.2.2.1;generalize hd ts1=t1 at *;conv=>whnf
     refine⟨jG (by omega),?_⟩;conv=>whnf
     refine kH _ _ ?_;rcases lZ haD (fun _=>rfl) hs (10+t1.n) with ⟨hany,hx,hm,hek,hf⟩|⟨hany,hf⟩
     ·rw[show wI (rR hs) _=_ from hf];rw[xtw3 hany] at hP;conv=>whnf
      refine kQ 0 [] (hfl 4) (fun ch bx' hp=>fD hP.symm hp) ?_;rintro o r ⟨⟩
     ·rw[show wI (rR hs) _=_ from hf];rw[xtw2 (by rw[hany];simp)] at hP;subst hP;conv=>whnf
      exact⟨rfl,rfl⟩
    |false =>
     rw[xtw2 (by rw[hq];simp)] at hP;conv=>whnf
     refine kQ 0 [] (hfl 10) (fun ch bx' hp=>fD hP.symm hp) ?_;rintro o r ⟨⟩
end Go.Proofs.YtfbifdccmabdbaaGreatDoor.Vm
namespace Go.Proofs.YtfbifdccmabdbaaGreatDoor.Vm
open Go.RowKit
section
section
variable{C D:Rd}{y:Value}{k n:Nat}{cs:List A}
end
theorem jsn{w:World}{base e k n:Nat}{y:Value}{xs:List Value}{cs:List A}{D:Rd}(h:w.ownsRow base e k y n xs)(hr:A.repC cs ⟨D,[],[]⟩ xs)(hD:∀b,y.ownBlock=some b->∀o u,w.cell? ⟨b,o,none⟩=some u->D ⟨b,o,none⟩=some u):(A.sl k n cs).rep ⟨D,[],[]⟩ y:=by
 have hlen:cs.length=n*k:=by rw[<- A.repC_len hr,h.1]
 rcases h.2 with ⟨rfl,rfl⟩|⟨b,cap,cur,rfl,hb,hbb,hn,hcm,hcs,htake⟩
 ·unfold A.rep;have hcs:cs=[]:=xtw15 (by simpa using hlen);subst hcs;exact⟨by simp,by simp,none,0,0,0,rfl,xtw11 _,.inl rfl,fun _=>rfl,by simp[A.repAt]⟩
 ·unfold A.rep;refine⟨hlen,xtw58 hn hcm,_,b,0,cap,rfl,hn,.inr rfl,by simp,?_⟩;refine A.repAt_mk (E:=⟨D,[],[]⟩) hr (fun j' u hu=>?_);have:=h.cells (g:=b) rfl j' u hu;rw[jej] at this;exact hD b rfl _ u this
end
end Go.Proofs.YtfbifdccmabdbaaGreatDoor.Vm
namespace Go.Proofs.YtfbifdccmabdbaaGreatDoor.Vm
open Go.RowKit Go.Shelf Go.Maps Go.Sort
def bA:Go.Shelf.Ren:=⟨fun|7=>138|10=>166|n=>n,fun|3=>67|23=>165|26=>3|27=>168|28=>169|33=>195|n=>n,fun|n=>n⟩
theorem iV:SlLaysZI.n7 Tryz.prog bA where
 mixed:=by kernel_rfl
 f7:=⟨ "maps.Keys[map[int]simproof/api.Handler,int,simproof/api.Handler]",xtw23 (by kernel_rfl),Tryz.func138.trans (congrArg some (by kernel_rfl))⟩
 f10:=⟨ "maps.Keys[map[int]simproof/api.Handler,int,simproof/api.Handler]$1",xtw23 (by kernel_rfl),Tryz.func166.trans (congrArg some (by kernel_rfl))⟩
 t0:=Tryz.underlying0
 a0:=Tryz.isAgg0
 z0:=Tryz.sizeOf0
 v0:=Tryz.zeroValue0
 t4:=Tryz.underlying4
 a4:=Tryz.isAgg4
 z4:=Tryz.sizeOf4
 v4:=Tryz.zeroValue4
 t23:=Tryz.underlying165
 a23:=Tryz.isAgg165
 z23:=Tryz.sizeOf165
 v23:=Tryz.zeroValue165
 t26:=Tryz.underlying3
 a26:=Tryz.isAgg3
 z26:=Tryz.sizeOf3
 v26:=Tryz.zeroValue3
 t27:=Tryz.underlying168
 a27:=Tryz.isAgg168
 z27:=Tryz.sizeOf168
 v27:=Tryz.zeroValue168
 t28:=Tryz.underlying169
 a28:=Tryz.isAgg169
 z28:=Tryz.sizeOf169
 v28:=Tryz.zeroValue169
 t33:=Tryz.underlying195
 a33:=Tryz.isAgg195
 z33:=Tryz.sizeOf195
 v33:=Tryz.zeroValue195

def aZ:Go.Shelf.Ren:=⟨fun|6=>137|8=>164|9=>165|11=>174|12=>175|13=>176|14=>195|15=>196|16=>197|17=>198|18=>199|19=>200|20=>201|21=>202|22=>203|23=>204|24=>205|25=>212|26=>213|27=>214|28=>215|29=>216|30=>217|31=>226|n=>n,fun|24=>22|26=>3|28=>169|33=>195|37=>205|39=>215|40=>216|45=>124|48=>222|50=>186|51=>229|55=>233|57=>242|58=>243|n=>n,fun|n=>n⟩
theorem jbi:SlLaysZI.n6 Tryz.prog aZ where
 mixed:=by kernel_rfl
 f6:=⟨ "slices.Sorted[int]",xtw23 (by kernel_rfl),Tryz.func137.trans (congrArg some (by kernel_rfl))⟩
 f8:=⟨ "slices.Collect[int]",xtw23 (by kernel_rfl),Tryz.func164.trans (congrArg some (by kernel_rfl))⟩
 f11:=⟨ "slices.AppendSeq[[]int,int]",xtw23 (by kernel_rfl),Tryz.func174.trans (congrArg some (by kernel_rfl))⟩
 t0:=Tryz.underlying0
 a0:=Tryz.isAgg0
 z0:=Tryz.sizeOf0
 v0:=Tryz.zeroValue0
 t24:=Tryz.underlying22
 a24:=Tryz.isAgg22
 z24:=Tryz.sizeOf22
 v24:=Tryz.zeroValue22
 t26:=Tryz.underlying3
 a26:=Tryz.isAgg3
 z26:=Tryz.sizeOf3
 v26:=Tryz.zeroValue3
 t28:=Tryz.underlying169
 a28:=Tryz.isAgg169
 z28:=Tryz.sizeOf169
 v28:=Tryz.zeroValue169
 i26:=by kernel_rfl

def rV:Go.Shelf.Ren:=⟨fun|5=>165|7=>175|8=>176|10=>195|11=>196|12=>197|13=>198|14=>199|15=>200|16=>201|17=>202|18=>203|19=>204|20=>205|30=>212|31=>213|32=>214|33=>215|34=>216|35=>217|40=>226|n=>n,fun|23=>22|25=>3|32=>205|35=>215|36=>216|41=>124|44=>222|46=>186|53=>229|57=>233|63=>242|64=>243|n=>n,fun|n=>n⟩
theorem oD:SlLaysM.n5 Tryz.prog rV where
 mixed:=by kernel_rfl
 f5:=⟨ "slices.Sort[[]int,int]",xtw23 (by kernel_rfl),Tryz.func165.trans (congrArg some (by kernel_rfl))⟩
 f7:=⟨ "slices.pdqsortOrdered[int]",xtw23 (by kernel_rfl),Tryz.func175.trans (congrArg some (by kernel_rfl))⟩
 f8:=Tryz.func176.trans (congrArg some (by kernel_rfl))
 f10:=⟨ "slices.insertionSortOrdered[int]",xtw23 (by kernel_rfl),Tryz.func195.trans (congrArg some (by kernel_rfl))⟩
 f11:=⟨ "slices.heapSortOrdered[int]",xtw23 (by kernel_rfl),Tryz.func196.trans (congrArg some (by kernel_rfl))⟩
 f12:=⟨ "slices.breakPatternsOrdered[int]",xtw23 (by kernel_rfl),Tryz.func197.trans (congrArg some (by kernel_rfl))⟩
 f13:=⟨ "slices.choosePivotOrdered[int]",xtw23 (by kernel_rfl),Tryz.func198.trans (congrArg some (by kernel_rfl))⟩
 f14:=⟨ "slices.reverseRangeOrdered[int]",xtw23 (by kernel_rfl),Tryz.func199.trans (congrArg some (by kernel_rfl))⟩
 f15:=⟨ "slices.partialInsertionSortOrdered[int]",xtw23 (by kernel_rfl),Tryz.func200.trans (congrArg some (by kernel_rfl))⟩
 f16:=⟨ "cmp.Less[int]",xtw23 (by kernel_rfl),Tryz.func201.trans (congrArg some (by kernel_rfl))⟩
 f17:=⟨ "slices.partitionEqualOrdered[int]",xtw23 (by kernel_rfl),Tryz.func202.trans (congrArg some (by kernel_rfl))⟩
 f18:=⟨ "slices.partitionOrdered[int]",xtw23 (by kernel_rfl),Tryz.func203.trans (congrArg some (by kernel_rfl))⟩
 f19:=Tryz.func204.trans (congrArg some (by kernel_rfl))
 f20:=Tryz.func205.trans (congrArg some (by kernel_rfl))
 f30:=⟨ "slices.siftDownOrdered[int]",xtw23 (by kernel_rfl),Tryz.func212.trans (congrArg some (by kernel_rfl))⟩
 f31:=Tryz.func213.trans (congrArg some (by kernel_rfl))
 f32:=Tryz.func214.trans (congrArg some (by kernel_rfl))
 f33:=⟨ "slices.medianAdjacentOrdered[int]",xtw23 (by kernel_rfl),Tryz.func215.trans (congrArg some (by kernel_rfl))⟩
 f34:=⟨ "slices.medianOrdered[int]",xtw23 (by kernel_rfl),Tryz.func216.trans (congrArg some (by kernel_rfl))⟩
 f35:=⟨ "cmp.isNaN[int]",xtw23 (by kernel_rfl),Tryz.func217.trans (congrArg some (by kernel_rfl))⟩
 f40:=⟨ "slices.order2Ordered[int]",xtw23 (by kernel_rfl),Tryz.func226.trans (congrArg some (by kernel_rfl))⟩
 t0:=Tryz.underlying0
 a0:=Tryz.isAgg0
 z0:=Tryz.sizeOf0
 v0:=Tryz.zeroValue0
 t3:=Tryz.underlying3
 a3:=Tryz.isAgg3
 z3:=Tryz.sizeOf3
 v3:=Tryz.zeroValue3
 t4:=Tryz.underlying4
 a4:=Tryz.isAgg4
 z4:=Tryz.sizeOf4
 v4:=Tryz.zeroValue4
 t5:=Tryz.underlying5
 a5:=Tryz.isAgg5
 z5:=Tryz.sizeOf5
 v5:=Tryz.zeroValue5
 t9:=Tryz.underlying9
 a9:=Tryz.isAgg9
 z9:=Tryz.sizeOf9
 v9:=Tryz.zeroValue9
 t22:=Tryz.underlying22
 a22:=Tryz.isAgg22
 z22:=Tryz.sizeOf22
 v22:=Tryz.zeroValue22
 t23:=Tryz.underlying22
 a23:=Tryz.isAgg22
 z23:=Tryz.sizeOf22
 v23:=Tryz.zeroValue22
 t25:=Tryz.underlying3
 a25:=Tryz.isAgg3
 z25:=Tryz.sizeOf3
 v25:=Tryz.zeroValue3
 t32:=Tryz.underlying205
 a32:=Tryz.isAgg205
 z32:=Tryz.sizeOf205
 v32:=Tryz.zeroValue205
 t35:=Tryz.underlying215
 a35:=Tryz.isAgg215
 z35:=Tryz.sizeOf215
 v35:=Tryz.zeroValue215
 t36:=Tryz.underlying216
 a36:=Tryz.isAgg216
 z36:=Tryz.sizeOf216
 v36:=Tryz.zeroValue216
 t41:=Tryz.underlying124
 a41:=Tryz.isAgg124
 z41:=Tryz.sizeOf124
 v41:=Tryz.zeroValue124
 t44:=Tryz.underlying222
 a44:=Tryz.isAgg222
 z44:=Tryz.sizeOf222
 v44:=Tryz.zeroValue222
 t46:=Tryz.underlying186
 a46:=Tryz.isAgg186
 z46:=Tryz.sizeOf186
 v46:=Tryz.zeroValue186
 t53:=Tryz.underlying229
 a53:=Tryz.isAgg229
 z53:=Tryz.sizeOf229
 v53:=Tryz.zeroValue229
 t57:=Tryz.underlying233
 a57:=Tryz.isAgg233
 z57:=Tryz.sizeOf233
 v57:=Tryz.zeroValue233
 t63:=Tryz.underlying242
 a63:=Tryz.isAgg242
 z63:=Tryz.sizeOf242
 v63:=Tryz.zeroValue242
 t64:=Tryz.underlying243
 a64:=Tryz.isAgg243
 z64:=Tryz.sizeOf243
 v64:=Tryz.zeroValue243

def jk3:Nat:=166
theorem jim(ks:List Value)(vs:List A):bY Tryz.prog 138 [.mp ks vs] fun e k n cs r=>e=165/\k=1/\n=1/\cs=[.mp ks vs]/\r=.clo jk3 [.orow 0 0]:=by
 refine⟨eQ Tryz.func138 rfl (by kernel_rfl),fun w C vals h0 h1 h2=>?_⟩;unfold A.repL at h2;obtain⟨u,us,rfl,h3,h4⟩:=h2;unfold A.repL at h4;subst h4;have h3':=h3;unfold A.rep at h3;obtain⟨r,us,rfl,hC,hlen,hvs,hok⟩:=h3;refine((callsIn_wide (n:=6)).1 (AnyZI.keys_in iV Fence.wide 6 trivial rfl (some r) w)).mono ?_;rintro e w' ⟨rfl,rfl⟩;have hB:Ext w (w.alloc (.cells #[.map (some r)] 165)):=(Below.refl _ w).alloc (xtw11 _) _;have kp:=Keeps.of_ext hB;refine⟨_,_,_,_,_,_,.slice (some ⟨w.heap.size,0,none⟩) 1 1,[.map (some r)],C,rfl,⟨rfl,rfl,rfl,rfl,rfl⟩,kp,Sub.refl _,fun ad u hc=>?_,fun ad u hc=>.inl hc,fun b hb=>?_,.inl ⟨by decide,?_⟩,?_,?_⟩
 ·refine kp.cell (h1 ad u hc) (fun hm=>by simp at hm)
 ·obtain rfl:w.heap.size=b:=by simpa [blk] using hb
  refine⟨fun o sp=>?_,xtw11 _⟩
  cases hc:C ⟨w.heap.size,o,sp⟩ with
  |none=>rfl
  |some u =>
   have:=qI w _ (h1 _ _ hc);simp at this
 ·refine⟨rfl,.inr ⟨w.heap.size,1,#[.map (some r)],rfl,xtw19 _,World.alloc_heap_new w _,xtw11 _,by unfold maxLen;omega,rfl,rfl⟩⟩
 ·unfold A.repC;exact⟨_,[],rfl,rfl,h3',by unfold A.repC;rfl⟩
 ·unfold A.rep;refine⟨#[.pointer (some ⟨w.heap.size,0,none⟩)],rfl,?_⟩;unfold A.repL;refine⟨_,[],rfl,?_,by unfold A.repL;rfl⟩;unfold A.rep;exact⟨w.heap.size,1,1,rfl,rfl⟩
theorem jsG(m:Nat):AnyZI.SortsIn Tryz.prog aZ Fence.wide m :=
 ⟨fun blk off cap ss W hH hblk hsz=>callsIn_wide.2 (AnyM.slices_Sort_int oD blk off cap ss W hH hblk hsz),
 fun p cap W=>callsIn_wide.2 (AnyM.slices_Sort_int_none oD p cap W)⟩
theorem jlc{w:World}{r c:Nat}{es:Array MapEntry}{l:List (Int×A)}(hr:w.heap[r]?=some (.map es c))(hst:fQ es c)(hk:es.toList.map (·.key)=mkV l)(hok:∀k∈mkV l,fX k)(hnd:(l.map (·.1)).Nodup)(hn:l.length<=1000000) :
  ∃D0:DataW Unit,w.ownsMap Tryz.prog 3 (fun _=>some (.nil,[])) r l.length D0/\(intKeys D0).Perm (l.map (·.1))/\Maps.size D0=l.length:=by
 have hu:Tryz.prog.underlying 3=some (.int .i64):=by kernel_rfl
 have hlen:es.size=l.length:=by
  have:=congrArg List.length hk;unfold mkV at this;simpa using this
 have hkey:∀x∈es.toList,∃a:Int,x.key=.int .i64 a/\(Lit.int .i64 a).wf=true:=fun x hx=>by
  have h1:x.key∈mkV l:=by rw[<- hk];exact xtw60.2 ⟨x,hx,rfl⟩
  have h2:=hok _ h1;unfold mkV at h1;obtain⟨p,_,hp⟩:=xtw60.1 h1;rw[<- hp] at h2;refine⟨p.1,hp.symm,?_⟩;have:=okV_int.1 h2;simp[Lit.wf];exact this
 have hrd:∀x∈es.toList,∀a:Int,x.key=.int .i64 a->(Lit.int .i64 a).wf=true->WideElems.rd Tryz.prog 3 (fun _=>some ((DataW.nil:DataW Unit),([]:List MemPlace))) x=some (.int .i64 a,.nil):=fun x hx a h1 h2=>by
  unfold WideElems.rd;rw[h1,keyOf_int_mk hu h2];rfl
 have hrg:es.toList.map (fun x=>Go.intOf (WideElems.rg Tryz.prog 3 (fun _=>some ((DataW.nil:DataW Unit),([]:List MemPlace))) x).1)=l.map (·.1):=by
  have h1:es.toList.map (fun x=>Go.intOf (WideElems.rg Tryz.prog 3 (fun _=>some ((DataW.nil:DataW Unit),([]:List MemPlace))) x).1)=(es.toList.map (·.key)).map fun v=>match v with|.int _ a=>a|_=>0:=by
   rw[xtw88]
   refine xtw109 fun x hx=>?_
   obtain⟨a,e1,e2⟩:=hkey x hx;rw[WideElems.rg_of (hrd x hx a e1 e2)];simp[Go.intOf,e1]
  rw[h1,hk];unfold mkV;rw[xtw88]
  exact xtw109 fun p hp=>rfl
 have hfit:WideElems.Fit Tryz.prog 3 (fun _=>some ((DataW.nil:DataW Unit),([]:List MemPlace))) es c:=by
  refine⟨by rw[hlen];unfold maxLen;omega,⟨?_,?_,?_⟩,fun x hx=>?_⟩
  ·intro x hx;obtain⟨i,hi,e⟩:=xtw67.1 hx
   have hi':i<es.size:=by simpa using hi
   have h2:=hst.2 i es[i] (xtw62 hi')
   have e':es[i]=x:=by rw[<- e];simp
   rw[<- e',h2,hst.1];exact hi'
  ·have h2:es.toList.map (·.born)=List.range es.size:=by
    apply xtw75;intro i;rw[xtw48,xtw103];by_cases hi:i<es.size
    ·rw[xtw62 hi,xtw93 hi];simp only[xtw85];rw[hst.2 i es[i] (xtw62 hi)]
    ·rw[Array.getElem?_eq_none (by omega),xtw78 (by simp;omega)];rfl
   rw[h2];exact List.nodup_range
  ·rw[hk];unfold mkV
   have:(l.map fun p:Int×A=>Value.int .i64 p.1)=(l.map (·.1)).map (Value.int .i64):=by rw[xtw88];rfl
   rw[this];exact List.pairwise_map.2 (hnd.imp fun h e=>h (by cases e;rfl))
  ·obtain⟨a,e1,e2⟩:=hkey x hx;exact⟨_,hrd x hx a e1 e2⟩
 refine⟨_,⟨es,c,hr,hfit,by omega,rfl⟩,?_,?_⟩
 ·show(List.map (fun p:Lit×DataW Unit=>Go.intOf p.1) _).Perm _;refine((WideShapes.sorted_perm _).map _).trans ?_;rw[xtw88];exact List.Perm.of_eq hrg
 ·show(List.foldr DataW.insert [] _).length=_;rw[(WideShapes.sorted_perm _).length_eq,xtw44,xtw108,hlen]
theorem jri{P:Program}{pan:List PanicEntry->S->Prop}{Xr:Nat->Bool}{f:Nat}{args args':List A}{s:S}{K:A->S->Prop}{post:List (List A)->Nat->List A->A->Prop}(g m:Nat)(ids:List Nat)(hm:s.rw.length=m){e k n:Nat}{cs:List A}(hf:Xr 1000000007=true)(hg:(jB s.rw ids)[g]?=some (.live e k n cs))(h2:kC [] g (jB s.rw ids) args=some args')(hs:nK args'->pZ P f [] e k n cs args' post)
  (hk:∀n' cs' r,post [] n' cs' r->fZ [] m s.bx [] [] fun bx'=>zT (backG [] m r) fun r'=>j9 ((jB s.rw ids).set g .gone++[.live e k n' cs']) fun rw'=>kS s bx' rw' (K r')):kL P pan Xr f args s K:=by
 subst hm;unfold kL
 right;right;right;right;left
 refine⟨hf,[],ids,g,e,k,n,cs,[],args',post,fun _=>False,by simp,by simp,by simp,hg,rfl,h2,hs,fun outs n' cs' r hp hl=>?_,fun ch bx' h=>h.elim⟩;obtain rfl:outs=[]:=xtw15 (by simpa using hl);exact hk n' cs' r hp
theorem jff(l:List (Int×A))(hnd:(l.map (·.1)).Nodup)(hn:l.length<=1000000):pZ Tryz.prog 137 [] 165 1 1 [.mp (mkV l) (pY l)] [.clo jk3 [.orow 0 0]] fun o n' cs' r=>r=.sl 1 l.length (((l.map (·.1)).mergeSort leI).map intA):=by
 refine⟨eQ Tryz.func137 rfl (by kernel_rfl),fun w C β vals y xs h0 h1 h2 h3 h4 h5 h6 h7 h8 h9=>?_⟩;obtain rfl:β=[]:=xtw15 (by simpa using h4.symm);unfold A.repL at h9;obtain⟨v,vs',rfl,hv,h9⟩:=h9;unfold A.repL at h9;subst h9;unfold A.rep at hv;obtain⟨us,rfl,hus⟩:=hv;unfold A.repL at hus;obtain⟨p,us',hus,hp,h9⟩:=hus;unfold A.repL at h9;subst h9
 obtain rfl:us = #[p]:=by apply xtw80.1;simpa using hus
 unfold A.rep at hp;obtain⟨b,n1,cap1,hy,rfl⟩:=hp
 obtain rfl:y=.slice (some ⟨b,0,none⟩) n1 cap1:=by simpa using hy
 have hrow:=h6.row (by decide);unfold A.repC at h7;obtain⟨u,us',rfl,-,hu,h7⟩:=h7;unfold A.repC at h7;subst h7;unfold A.rep at hu;obtain⟨r,us,rfl,hC,hlen,hvs,hok⟩:=hu;obtain⟨es,c,hr,hk1,hk2,hst⟩:=jai (h1 _ _ hC);obtain⟨D0,hown,hperm,hsize⟩:=jlc hr hst hk1 hok hnd hn
 have hcell:w.cell? ⟨b,0,none⟩=some (.map (some r)):=by
  rcases hrow.2 with ⟨h,_⟩|⟨g,cap,cur,h,_,hb,_,_,_,htake⟩
  ·cases h
  ·cases h
   have h0:cur[0]?=some (.map (some r)):=by
    have:=congrArg (·[0]?) htake;simpa using this
   simp[World.cell?,hb,h0]
 have hbl:b<w.heap.size:=h6.lt rfl
 have hseq:SeqGives Fence.wide 2 Tryz.prog jk3 #[.pointer (some ⟨b,0,none⟩)] encZ (fun ss=>ss.Perm (intKeys D0)) (Maps.size D0) w :=
  AnyZI.keys_gives (ρ:=bA) { iV with } Fence.wide _ trivial rfl (by omega) b r l.length D0 w hbl hcell hown
 have cS:=AnyZI.sorted_in jbi Fence.wide 5 trivial trivial trivial trivial rfl (by omega) (jsG _) (enters_of Tryz.func165 (by kernel_rfl) rfl) jk3 #[.pointer (some ⟨b,0,none⟩)] trivial (enters_of Tryz.func166 (by kernel_rfl) rfl) _ _ (by rw[hsize];unfold maxLen;omega) (by rw[hsize];omega) _ hseq;refine(callsIn_wide.1 cS).mono ?_;rintro e w' ⟨v,ss,rfl,hS,hrw,hnil,hB⟩;have hB:Ext w w':=hB;have kp:=Keeps.of_ext hB;have hpm:ss.mergeSort (fun x y=>decide (x<=y))=(l.map (·.1)).mergeSort leI:=mergeSort_of_perm_i (hS.trans hperm)
 have hlen2:ss.length=l.length:=by rw[(hS.trans hperm).length_eq,xtw44]
 rw[hpm,hlen2] at hrw;refine .inl ⟨[],1,[.mp (mkV l) (pY l)],_,v,_,[.map (some r)],qY C w w',rfl,rfl,⟨kp.os,kp.tape,kp.output,kp.size,fun q hq hn=>kp.block q hq (by simp)⟩,v6 h1,dU h1 h3 kp,fun ad u hc=>?_,rfl,fun i b cs hb=>by simp at hb,h6.same fun q hq=>kp.block q (h6.lt hq) (by simp),?_,fun q hq=>⟨fun o sp=>?_,.inr hq⟩,?_⟩
 ·unfold qY at hc;split at hc
  ·exact .inl hc
  ·exact .inr (.inl (by omega))
 ·unfold A.repC;refine⟨_,[],rfl,rfl,?_,by unfold A.repC;rfl⟩;unfold A.rep;exact⟨r,us,rfl,v6 h1 _ _ hC,hlen,A.repL.mono _ (show(⟨C,[],[]⟩:Env).per.le (⟨qY C w w',[],[]⟩:Env).per from ⟨v6 h1,fun _ _ h=>h,fun _ _ h=>h⟩) hvs,hok⟩
 ·unfold qY;rw[xtw3 (show(⟨q,o,sp⟩:Addr).block<w.heap.size from h6.lt hq)];exact(h8 q hq).2 o sp
 ·refine A.rep.mono _ (jjI (qY C w w') [] _) (jsn hrw (D:=qY C w w') ?_ fun b' hb o u hc=>?_)
  ·refine A.repC_mk ?_ (fun u hu=>?_)
   ·have:=A.repL_map (E:=⟨qY C w w',[],[]⟩) ((l.map (·.1)).mergeSort leI) intA encZ (fun x hx=>?_)
    ·exact this
    ·refine A.rep_v (okV_int.2 ?_);have hx':x∈l.map (·.1):=(List.mergeSort_perm _ _).mem_iff.1 hx;obtain⟨p,hp,rfl⟩:=xtw60.1 hx';exact okV_int.1 (hok _ (by unfold mkV;exact xtw60.2 ⟨p,hp,rfl⟩))
   ·obtain⟨x,_,rfl⟩:=xtw60.1 hu;rfl
  ·unfold qY;have:=(hrw.lt b' hb).1;rw[xtw2 (by simp only;omega)];exact jbU hc
theorem aK(h:Int×Nt):∀l:List (Int×Nt),(g9 h l).Perm (h::l)
 |[]=>List.Perm.refl _
 |x::l=>by
  unfold g9;split
  ·exact List.Perm.refl _
  ·exact((aK h l).cons x).trans (List.Perm.swap h x l)
theorem wX:∀l:List (Int×Nt),(vX l).Perm l
 |[]=>List.Perm.refl _
 |h::l=>(aK h (vX l)).trans ((wX l).cons h)
theorem iR(h:Int×Nt):∀l:List (Int×Nt),l.Pairwise (fun a b=>a.1<=b.1)->(g9 h l).Pairwise fun a b=>a.1<=b.1
 |[],_=>by unfold g9;simp
 |x::l,hp=>by
  obtain⟨h1,h2⟩:=xtw122.1 hp;unfold g9;split
  ·rename_i hx;refine xtw122.2 ⟨fun b hb=>?_,hp⟩;rcases xtw13.1 hb with rfl|hb
   ·exact hx
   ·exact Int.le_trans hx (h1 b hb)
  ·rename_i hx;refine xtw122.2 ⟨fun b hb=>?_,iR h l h2⟩;rcases xtw13.1 ((aK h l).mem_iff.1 hb) with rfl|hb
   ·omega
   ·exact h1 b hb
theorem aF:∀l:List (Int×Nt),(vX l).Pairwise fun a b=>a.1<=b.1
 |[]=>List.Pairwise.nil
 |h::l=>iR h _ (aF l)
theorem jj2(l:List (Int×Nt)):((v8 l).map (·.1)).mergeSort leI=(vX l).map (·.1):=by
 have e:(v8 l).map (·.1)=l.map (·.1):=by unfold v8;rw[xtw88];rfl
 rw[e]
 have tr:∀a b c:Int,leI a b=true->leI b c=true->leI a c=true:=fun a b c h1 h2=>by simp only[leI,xtw17] at *;exact Int.le_trans h1 h2
 have to:∀a b:Int,(leI a b||leI b a)=true:=fun a b=>by simp only[leI,xtw72,xtw17];exact Int.le_total a b
 refine List.Perm.eq_of_pairwise (le:=fun a b=>leI a b=true) (fun a b _ _ h1 h2=>?_) (List.pairwise_mergeSort tr to _) ?_ ((List.mergeSort_perm _ leI).trans ((wX l).map _).symm)
 ·simp only[leI,xtw17] at h1 h2;exact Int.le_antisymm h1 h2
 ·exact List.pairwise_map.2 ((aF l).imp fun h=>by simpa [leI] using h)
theorem jiv(l:List (Int×Nt)):((v8 l).map (·.1)).Nodup↔(l.map (·.1)).Nodup:=by
 have e:(v8 l).map (·.1)=l.map (·.1):=by unfold v8;rw[xtw88];rfl
 rw[e]
theorem jmB{l:List (Int×Nt)}(hnd:(l.map (·.1)).Nodup){h:Int×Nt}(hm:h∈l):wI (v8 l) h.1=some (haA h).2:=by
 induction l with
 |nil=>simp at hm
 |cons x l ih =>
  rw[xtw22,xtw121] at hnd;unfold wI v8;rw[xtw22];rcases xtw13.1 hm with rfl|hm
  ·rw[List.find?_cons_of_pos (p:=fun p:Int×A=>decide (h.1=p.1)) (show decide (h.1=(haA h).1)=true from xtw1 rfl)];rfl
  ·have hne:h.1≠x.1:=fun e=>hnd.1 (by rw[<- e];exact xtw60.2 ⟨h,hm,rfl⟩)
   rw[List.find?_cons_of_neg (p:=fun p:Int×A=>decide (h.1=p.1)) (show ¬decide (h.1=(haA x).1)=true by rw[xtw0 (show ¬h.1=(haA x).1 from hne)];simp)];exact ih hnd.2 hm
def tC(h:Int×Nt):List A:=intA h.1::ntA h.2
@[irreducible] def zV(l:List (Int×Nt)):List A:=l.flatMap tC
theorem aW:zV []=[]:=by unfold zV;rfl
theorem dL(l:List (Int×Nt))(h:Int×Nt):zV (l++[h])=zV l++tC h:=by
 unfold zV;rw[List.flatMap_append,xtw82,List.flatMap_nil,xtw66]
theorem jgb(l:List (Int×Nt)):(zV l).length=l.length*5:=by
 induction l with
 |nil=>rw[aW];rfl
 |cons h l ih =>
  have:zV (h::l)=tC h++zV l:=by unfold zV;rw[xtw82]
  rw[this,xtw4,ih,xtw6];simp only[tC,ntA,xtw6,xtw8];omega
theorem y9(l:List (Int×Nt))(i:Nat)(hi:i<l.length):jC 5 i (zV l)=tC l[i]:=by
 unfold zV;exact xV tC (fun _=>rfl) l i hi
theorem jkT(l:List (Int×Nt))(k:Int)(b:Nt):v8 l++[(k,.agg (intA k::ntA b))]=v8 (l++[(k,b)]):=by
 unfold v8;rw[xtw59];rfl
def cO(u:Ut):List A:=[.sl 1 u.du.length (xA u.du),.sl 1 u.vo.length (xA u.vo),.sl 5 u.on.length (zV u.on)]
def puQ(p:PU)(ch:List PanicEntry):Prop:=match p with
 |.bad x e=>ch=qR x e
 |_=>False
theorem pH{p:PU}{x e:Int}{ch:List PanicEntry}(h:p=.bad x e)(k:ch=qR x e):puQ p ch:=by subst h;exact k
def uoQ(p:PU)(r:A):Prop:=match p with
 |.ok u=>r=.agg (cO u)
 |_=>False
def ju2(id:Nat):Tr:=match Nat.beq id 4||Nat.beq id 5 with
 |true=>.q 0 3 (.q 2 3 (.alt 1 2 (.alt 3 2 (.alt 4 2 (.q 5 3 (.alt 6 2 .nil .nil)) .nil) .nil) (.alt 3 2 (.alt 1 2 (.alt 4 2 (.q 5 3 (.alt 6 2 .nil .nil)) .nil) .nil) .nil)))
 |false=>.nil
theorem x8:∀(n:Nat) (nm out:List ByteArray) (ts:List Tk) (nm' out':List ByteArray) (r:List Tk),TkP ts->(hd ts).kind≠0->nm.length<=16->aU n nm out ts=.ok nm' out' r->TkP r/\r.length<ts.length/\nm'.length<=16/\out'.length+r.length<=out.length+ts.length
 |0,nm,out,ts,nm',out',r,h,hk,h16,e=>by cases e
 |n+1,nm,out,ts,nm',out',r,h,hk,h16,e=>by
  rw[ja6] at e;obtain⟨q1,q2⟩:=h.tail hk;by_cases hn:yB ts.tail=false
  ·rw[xtw3 hn] at e;cases e
  rw[xtw2 hn] at e;by_cases hh:qC nm (hd ts.tail).text=true
  ·rw[xtw3 hh] at e;cases e
  rw[xtw2 hh] at e;by_cases h6:nm.length=16
  ·rw[xtw3 h6] at e;cases e
  rw[xtw2 h6] at e;obtain⟨q3,q4⟩:=q1.tail (by rw[y6 (by simpa using hn)];decide);unfold deH at e;by_cases hc:zO pComma ts.tail.tail=true
  ·rw[xtw3 hc] at e;obtain⟨g1,g2,g3,g4⟩:=x8 n _ _ _ _ _ _ q3 (yU hc) (by simp only[xtw4,xtw6,xtw8];omega) e;refine⟨g1,by omega,g3,?_⟩;simp only[xtw4,xtw6,xtw8] at g4;omega
  ·rw[xtw2 hc] at e;by_cases hs:zO pSemi ts.tail.tail=true
   ·rw[xtw3 hs] at e;cases e;obtain⟨g1,g2⟩:=q3.is hs;refine⟨g1,by omega,by simp only[xtw4,xtw6,xtw8];omega,by simp only[xtw4,xtw6,xtw8];omega⟩
   ·rw[xtw2 hs] at e;cases e
theorem ja7(du vo:List ByteArray)(n:Nat)(hs:List (Int×Nt))(ts:List Tk):s8 du vo (n+1) hs ts=(if (hd ts).kind=0 then .ok ⟨du,vo,vX hs⟩
  else if zO wOn ts=false then .bad (hd ts).pos 10
  else match uI hs ts.tail with
   |.bad x e=>.bad x e
   |.ok k r=>match (pa 19).bl r with
    |.bad x e=>.bad x e
    |.ok b r=>s8 du vo n (hs++[(k,b)]) r):=by
 rw[s8];unfold uI
 cases uK ts.tail with
 |bad x e=>rfl
 |ok k r =>
  simp only
  by_cases hd:(hs.any fun h=>decide (h.1=k))=true
  ·rw[xtw3 hd,xtw3 hd]
  ·rw[xtw2 hd,xtw2 hd];try rfl
theorem jif{hs:List (Int×Nt)}{ts:List Tk}{k:Int}{r:List Tk}(h:TkP ts)(e:uI hs ts=.ok k r):(∀p∈hs,k≠p.1)/\TkP r/\r.length<ts.length:=by
 unfold uI at e
 cases hh:uK ts with
 |bad x e2=>rw[hh] at e;cases e
 |ok k2 r2 =>
  rw[hh] at e
  simp only at e
  by_cases hdp:(hs.any fun h=>decide (h.1=k2))=true
  ·rw[xtw3 hdp] at e;cases e
  rw[xtw2 hdp] at e;cases e;refine⟨fun p hp e=>hdp (xtw34.2 ⟨p,hp,xtw1 e.symm⟩),?_⟩
  have num:∀(lim off:Int) (t:List Tk),TkP t->t.length+1=ts.length->mZ lim off t=.ok k r->TkP r/\r.length<ts.length:=fun lim off t ht hl e=>by
   unfold mZ at e;split at e
   ·cases e
   ·split at e
    ·cases e
    ·rename_i h2 _;obtain⟨q1,q2⟩:=ht.tail (by rw[xtw107.1 h2];decide);cases e;exact⟨q1,by omega⟩
  unfold uK at hh;by_cases h1:zO wStart ts=true
  ·rw[xtw3 h1] at hh;obtain⟨q1,q2⟩:=h.is h1;cases hh;exact⟨q1,by omega⟩
  rw[xtw2 h1] at hh;by_cases h2:zO wRequest ts=true
  ·rw[xtw3 h2] at hh;obtain⟨q1,q2⟩:=h.is h2;cases hh;exact⟨q1,by omega⟩
  rw[xtw2 h2] at hh;by_cases h3:zO wTimer ts=true
  ·rw[xtw3 h3] at hh;obtain⟨q1,q2⟩:=h.is h3;exact num _ _ _ q1 q2 hh
  rw[xtw2 h3] at hh;by_cases h4:zO wMessage ts=true
  ·rw[xtw3 h4] at hh;obtain⟨q1,q2⟩:=h.is h4;exact num _ _ _ q1 q2 hh
  rw[xtw2 h4] at hh;cases hh
def eF:List A:=[.v (.slice none 0 0),.v (.slice none 0 0),.v (.slice none 0 0)]
theorem cF(l m:List ByteArray):xA (l++m)=xA l++xA m:=by unfold xA;rw[xtw59]
theorem jf5(ts:List Tk)(h:TkP ts):SpecP Tryz.prog 102 [bxN ts++[.v (.slice none 0 0)]] [.box 0 0] (fun o r=>(∃nm ts',o=[hZ nm ts'])/\uoQ (jnr ts) r) (puQ (jnr ts)):=by
 obtain⟨P,hP⟩:∃P,jnr ts=P:=⟨_,rfl⟩
 rw[hP];have hb0:=h.1.2;refine lN (wH ju2 (fun _=>[0]) 1 (fun ch _=>puQ P ch)) (fun _ _ h=>h) Tryz.func102 rfl (by kernel_rfl) rfl ?_;intro _;conv=>whnf
 refine yO (wH _ _ _ _) (by kernel_rfl) ?_;conv=>whnf
 refine yO (wH _ _ _ _) (by kernel_rfl) ?_;conv=>whnf
 refine yO (wH _ _ _ _) (by kernel_rfl) ?_;conv=>whnf
 refine qU 9 1 [] [(0,1)] ?_;conv=>whnf
 refine⟨trivial,?_⟩;conv=>whnf
 refine qU 9 1 [] [(2,0)] ?_;conv=>whnf
 refine⟨trivial,?_⟩;conv=>whnf
 refine qU 9 1 [] [(2,1)] ?_;conv=>whnf
 refine⟨trivial,?_⟩;conv=>whnf
 refine jA [0,2,3] ?_;conv=>whnf
 refine jE (fun x:Nat×List ByteArray×List ByteArray×List ByteArray×List Tk=>[]) (fun x=>[bxN x.2.2.2.2++[.own 0],eF,[.own 1,.own 2,.v (.slice none 0 0)]]) (fun x=>[.live 9 1 x.2.1.length (xA x.2.1),.live 9 1 x.2.2.1.length (xA x.2.2.1),.live 9 1 x.2.2.2.1.length (xA x.2.2.2.1)])
  (fun x=>TkP x.2.2.2.2/\x.2.2.2.2.length+1<=x.1/\x.2.1.length<=16/\x.2.2.1.length+x.2.2.2.1.length+x.2.2.2.2.length<=1000001/\jaO x.1 x.2.1 x.2.2.1 x.2.2.2.1 x.2.2.2.2=P) (fun x=>x.2.2.2.2.length) (ts.length+1,[],[],[],ts) ?_ ⟨h,xtw11 _,xtw19 _,by simp only[xtw8];omega,hP⟩ ?_
 ·repeat' constructor
 rintro⟨n0,nm,du,vo,ts0⟩ ⟨g1,g2,g3,g4,hP⟩
 simp only at g1 g2 g3 g4 hP
 obtain⟨n,rfl⟩:∃n,n0=n+1:=⟨n0-1,by omega⟩
 have hpos:=g1.pos;rw[jaO] at hP
 have his:=fun s=>jpD ts0 hpos s
 conv=>whnf
 refine qK 0 0 3 [] rfl rfl rfl rfl rfl rfl rfl (fun _=>(his zR).rp rfl rfl _ _ _ _) (fun ch bx' hp=>hp.elim) ?_;rintro o n' cs' r ⟨c,ho,rfl,rfl,rfl,rfl⟩;cases ho;conv=>whnf
 cases hq1:zO zR ts0 with
 |true =>
  rw[xtw3 hq1] at hP;have hkd:=yU hq1;have hde:=jd5 nm ts0 g1 hkd g3;conv=>whnf
  refine qK 0 3 4 [] rfl rfl rfl rfl rfl rfl rfl (fun _=>(his zR).rp rfl rfl _ _ _ _) (fun ch bx' hp=>hp.elim) ?_;rintro o n' cs' r ⟨c,ho,rfl,rfl,rfl,rfl⟩;cases ho;conv=>whnf
  rw[hq1];conv=>whnf
  unfold fU;refine⟨_,?_,fun _ h=>h⟩;conv=>whnf
  refine⟨?_,?_⟩
  ·refine qK 0 4 5 [] rfl rfl rfl rfl rfl rfl rfl (fun _=>hde) (fun ch bx' hp _ _=>?_) ?_
   ·unfold pdQ at hp;split at hp
    ·rename_i he;rw[he] at hP;exact pH hP.symm hp
    ·exact hp.elim
   rintro o n' cs' r hdo;unfold doQ at hdo;split at hdo
   rotate_left
   ·exact hdo.elim
   rename_i nm2 out r1 he;obtain⟨ho,rfl,rfl,rfl⟩:=hdo;rw[he] at hP
   simp only at hP
   obtain⟨k1,k2,k3,k4⟩:=x8 _ _ _ _ _ _ _ g1 hkd g3 he;simp only[xtw8] at k4;cases ho;conv=>whnf
   refine⟨⟨by simp only;unfold maxLen;omega,by simp only;omega⟩,?_⟩;conv=>whnf
   refine⟨(n,nm2,du++out,vo,r1),jD [5,1,2] ?_,⟨k1,by simp only;omega,k3,by simp only[xtw4];omega,hP⟩,by simp only;omega⟩;conv=>whnf
   simp only[xtw4,cF];repeat' constructor
  ·refine qK 0 4 5 [] rfl rfl rfl rfl rfl rfl rfl (fun _=>hde) (fun ch bx' hp _ _=>?_) ?_
   ·unfold pdQ at hp;split at hp
    ·rename_i he;rw[he] at hP;exact pH hP.symm hp
    ·exact hp.elim
   rintro o n' cs' r hdo;unfold doQ at hdo;split at hdo
   rotate_left
   ·exact hdo.elim
   rename_i nm2 out r1 he;obtain⟨ho,rfl,rfl,rfl⟩:=hdo;rw[he] at hP
   simp only at hP
   obtain⟨k1,k2,k3,k4⟩:=x8 _ _ _ _ _ _ _ g1 hkd g3 he;simp only[xtw8] at k4;cases ho;conv=>whnf
   refine⟨⟨by simp only;unfold maxLen;omega,by simp only;omega⟩,?_⟩;conv=>whnf
   refine⟨(n,nm2,du++out,vo,r1),jD [5,1,2] ?_,⟨k1,by simp only;omega,k3,by simp only[xtw4];omega,hP⟩,by simp only;omega⟩;conv=>whnf
   simp only[xtw4,cF];repeat' constructor
 |false =>
  rw[xtw2 (by rw[hq1];simp)] at hP;conv=>whnf
  refine qK 0 3 4 [] rfl rfl rfl rfl rfl rfl rfl (fun _=>(his zH).rp rfl rfl _ _ _ _) (fun ch bx' hp=>hp.elim) ?_;rintro o n' cs' r ⟨c,ho,rfl,rfl,rfl,rfl⟩;cases ho;conv=>whnf
  cases hq2:zO zH ts0 with
  |true =>
   rw[xtw3 hq2] at hP;have hkd:=yU hq2;have hde:=jd5 nm ts0 g1 hkd g3;conv=>whnf
   refine qK 0 4 5 [] rfl rfl rfl rfl rfl rfl rfl (fun _=>(his zR).rp rfl rfl _ _ _ _) (fun ch bx' hp=>hp.elim) ?_;rintro o n' cs' r ⟨c,ho,rfl,rfl,rfl,rfl⟩;cases ho;conv=>whnf
   rw[hq1];conv=>whnf
   unfold fU;refine⟨_,?_,fun _ h=>h⟩;conv=>whnf
   refine⟨?_,?_⟩
   ·refine qK 0 5 6 [] rfl rfl rfl rfl rfl rfl rfl (fun _=>hde) (fun ch bx' hp _ _=>?_) ?_
    ·unfold pdQ at hp;split at hp
     ·rename_i he;rw[he] at hP;exact pH hP.symm hp
     ·exact hp.elim
    rintro o n' cs' r hdo;unfold doQ at hdo;split at hdo
    rotate_left
    ·exact hdo.elim
    rename_i nm2 out r1 he;obtain⟨ho,rfl,rfl,rfl⟩:=hdo;rw[he] at hP
    simp only at hP
    obtain⟨k1,k2,k3,k4⟩:=x8 _ _ _ _ _ _ _ g1 hkd g3 he;simp only[xtw8] at k4;cases ho;conv=>whnf
    refine⟨⟨by simp only;unfold maxLen;omega,by simp only;omega⟩,?_⟩;conv=>whnf
    refine⟨(n,nm2,du,vo++out,r1),jD [6,1,2] ?_,⟨k1,by simp only;omega,k3,by simp only[xtw4];omega,hP⟩,by simp only;omega⟩;conv=>whnf
    simp only[xtw4,cF];repeat' constructor
   ·refine qK 0 5 6 [] rfl rfl rfl rfl rfl rfl rfl (fun _=>hde) (fun ch bx' hp _ _=>?_) ?_
    ·unfold pdQ at hp;split at hp
     ·rename_i he;rw[he] at hP;exact pH hP.symm hp
     ·exact hp.elim
    rintro o n' cs' r hdo;unfold doQ at hdo;split at hdo
    rotate_left
    ·exact hdo.elim
    rename_i nm2 out r1 he;obtain⟨ho,rfl,rfl,rfl⟩:=hdo;rw[he] at hP
    simp only at hP
    obtain⟨k1,k2,k3,k4⟩:=x8 _ _ _ _ _ _ _ g1 hkd g3 he;simp only[xtw8] at k4;cases ho;conv=>whnf
    refine⟨⟨by simp only;unfold maxLen;omega,by simp only;omega⟩,?_⟩;conv=>whnf
    refine⟨(n,nm2,du,vo++out,r1),jD [6,1,2] ?_,⟨k1,by simp only;omega,k3,by simp only[xtw4];omega,hP⟩,by simp only;omega⟩;conv=>whnf
    simp only[xtw4,cF];repeat' constructor
  |false =>
   rw[xtw2 (by rw[hq2];simp)] at hP
   have g4':du.length+vo.length<=1000001:=by omega
   conv=>whnf
   refine yO (wH _ _ _ _) (by kernel_rfl) ?_;conv=>whnf
   refine yO (wH _ _ _ _) (by kernel_rfl) ?_;conv=>whnf
   refine xM [4] ?_;conv=>whnf
   refine nC [1,2,5] ?_;conv=>whnf
   refine jA [0,2,3,4] ?_;conv=>whnf
   refine jE (fun x:Nat×List (Int×Nt)×List Tk=>[]) (fun x=>[hZ nm x.2.2,eF,[.own 0,.own 1,.v (.slice none 0 0)]]) (fun x=>[.live 9 1 du.length (xA du),.live 9 1 vo.length (xA vo),.live 165 0 x.2.1.length [.clo 0 (mkA (v8 x.2.1)),.clo 0 (pY (v8 x.2.1))]])
    (fun x=>TkP x.2.2/\x.2.2.length+1<=x.1/\(x.2.1.map (·.1)).Nodup/\x.2.1.length+x.2.2.length<=1000000/\s8 du vo x.1 x.2.1 x.2.2=P) (fun x=>x.2.2.length) (ts0.length+1,[],ts0) ?_ ⟨g1,xtw11 _,xtw92,by have:=g1.1.2;simp only[xtw8];omega,hP⟩ ?_
   ·repeat' constructor
    show Row.live _ _ _ _=Row.live _ 0 0 [.clo 0 (mkA (v8 [])),.clo 0 (pY (v8 []))];rw[show v8 []=[] from rfl,jpl,jpm]
   clear hP hq1 hq2 his hpos g2 g1;rintro⟨n0,hs,ts1⟩ ⟨g1,g2,gnd,g5,hP⟩
   simp only at g1 g2 gnd g5 hP
   obtain⟨n1,rfl⟩:∃n1,n0=n1+1:=⟨n0-1,by omega⟩
   have hpos:=g1.pos;rw[ja7] at hP;have hr:=nP hpos;have htl:=g1.tail
   have hbl:=fun r (q:TkP r)=>jfB nm r q
   generalize ht1:hd ts1=t1 at *;conv=>whnf
   (refine cR ?_;try with_reducible exact trivial)
   (generalize hrq:jC _ _ (z8 ts1)=rq;obtain rfl:rq=cT t1:=hrq.symm.trans (hr);clear hrq;conv=>whnf)
   by_cases hk:t1.kind=0
   ·rw[xtw1 hk];rw[xtw3 hk] at hP;conv=>whnf
    refine jeW 2 ?_;refine aY _ ?_;conv=>whnf
    have hlh:(v8 hs).length=hs.length:=by unfold v8;rw[xtw44]
    have hso:=jff (v8 hs) ((jiv hs).2 gnd) (by omega);rw[jj2,hlh] at hso;have hpm:=wX hs
    have hfind:=fun h (hm:h∈vX hs)=>jmB gnd (hpm.mem_iff.1 hm)
    have hln:hs.length=(vX hs).length:=hpm.length_eq.symm;rw[hln] at hso;refine kK (wH _ _ _ _) (by kernel_rfl) ?_;conv=>whnf
    refine xH 3 [] rfl rfl (fun _=>jim _ _) ?_;rintro e k n r x ⟨rfl,rfl,rfl,rfl,rfl⟩;conv=>whnf
    refine jri 3 4 [] rfl rfl rfl rfl (fun _=>hso) ?_;rintro n' cs' r rfl;generalize vX hs=L at *;conv=>whnf
    refine qU 67 5 [] [(2,2)] ?_;conv=>whnf
    refine⟨trivial,?_⟩;conv=>whnf
    refine nC [0,1,5] ?_;conv=>whnf
    refine jA [2,3,4,50,51] ?_;conv=>whnf
    refine jE (fun j:Nat=>[(52,.v (.int .i64 j))]) (fun _=>[hZ nm ts1,eF,[.own 0,.own 1,.own 2]]) (fun j=>[.live 9 1 du.length (xA du),.live 9 1 vo.length (xA vo),.live 67 5 (L.take j).length (zV (L.take j))])
     (fun j=>j<=L.length) (fun j=>L.length-j) 0 ?_ (xtw19 _) ?_
    ·repeat' constructor
     show Row.live _ _ _ _=Row.live _ 5 0 (zV []);rw[aW]
    intro j hj;conv=>whnf
    by_cases hlt:j<L.length
    ·have hrow:jC 1 j ((L.map fun x=>x.1).map intA)=[intA L[j].1]:=by
      have:=wN intA (L.map fun x=>x.1) j (by simpa using hlt);rw[this,xtw120]
     have hfj:=hfind L[j] (xtw10 hlt);have htk:L.take (j+1)=L.take j++[L[j]]:=xtw26 hlt
     have hlj:(L.take j).length=j:=by rw[xtw38];omega
     generalize L[j]=h at *
     (refine cR ?_;try with_reducible exact trivial)
     (generalize hrq:jC _ _ ((L.map fun x=>x.1).map intA)=rq;obtain rfl:rq=[intA h.1]:=hrq.symm.trans (hrow);clear hrq;conv=>whnf)
     refine kH _ _ ?_;rw[hfj];conv=>whnf
     refine⟨⟨by unfold maxLen;omega,by omega⟩,?_⟩;conv=>whnf
     refine⟨jG (by omega),?_⟩;conv=>whnf
     refine⟨j+1,jD [0,1,2] ?_,hlt,by omega⟩;conv=>whnf
     rw[htk];repeat' constructor
     show Row.live _ 5 _ _=Row.live _ 5 (L.take j++[h]).length (zV (L.take j++[h]));rw[dL,xtw4];rfl
    ·(refine cR ?_;try with_reducible exact trivial)
     rw[show j=L.length by omega,xtw54];subst hP;exact⟨⟨nm,ts1,rfl⟩,rfl⟩
   ·rw[xtw0 hk];rw[xtw2 hk] at hP;obtain⟨q1,q2⟩:=htl hk;have hx:=jV nm ts1 hpos wOn;rw[ht1] at hx;generalize ts1.tail=ts2 at *;have hh:=jkV nm hs ts2 q1;rw[jn0,<- jn1] at hh
    have hhok:=fun k r=>jif (hs:=hs) (k:=k) (r:=r) q1
    conv=>whnf
    refine kQ 0 [] hx (fun ch bx' hp=>?_) ?_
    ·rw[xtw3 hp.1] at hP;exact pH hP.symm hp.2
    rintro o r ⟨hon,ho,rfl⟩;cases ho;rw[xtw2 (by rw[hon];simp)] at hP;conv=>whnf
    refine jrg 0 2 rfl rfl rfl (aY _ rfl) rfl hh (fun o r hho=>?_) (fun ch bx' hp _ _=>?_) ?_
    ·unfold hoQ at hho;split at hho
     ·obtain⟨rfl,rfl⟩:=hho;exact⟨fun c hc=>by rw[xtw16.1 hc];exact jn7 _ _,rfl⟩
     ·exact hho.elim
    ·unfold phQ at hp;split at hp
     ·rename_i he;rw[he] at hP;exact pH hP.symm hp
     ·exact hp.elim
    rintro o r hho;unfold hoQ at hho;split at hho
    rotate_left
    ·exact hho.elim
    rename_i k r1 he;obtain⟨ho,rfl⟩:=hho;rw[he] at hP
    simp only at hP
    obtain⟨hnk,k1,k2⟩:=hhok _ _ he;have hb:=hbl r1 k1;cases ho;conv=>whnf
    refine kQ 0 [] hb (fun ch bx' hp=>?_) ?_
    ·obtain⟨x,e,he,hc⟩:=zK hp;rw[he] at hP;exact pH hP.symm hc
    rintro o r hpo;obtain⟨b,r2,he2,ho,rfl⟩:=j8 hpo;cases ho;rw[he2] at hP
    simp only at hP
    obtain⟨k3,k4⟩:=iH _ _ _ k1 he2;conv=>whnf
    refine jdg (fun p hp=>?_) ?_
    ·unfold v8 at hp;obtain⟨q,hq,rfl⟩:=xtw60.1 hp;exact hnk q hq
    conv=>whnf
    refine⟨(n1,hs++[(k,b)],r2),jD [0,1,2] ?_,⟨k3,by simp only;omega,?_,by simp only[xtw4,xtw6,xtw8];omega,hP⟩,by simp only;omega⟩
    ·conv=>whnf
     repeat' constructor
     show Row.live _ 0 (hs.length+1) [.clo 0 (mkA (v8 hs++[(k,.agg (intA k::ntA b))])),.clo 0 (pY (v8 hs++[(k,.agg (intA k::ntA b))]))]=Row.live _ 0 (hs++[(k,b)]).length [.clo 0 (mkA (v8 (hs++[(k,b)]))),.clo 0 (pY (v8 (hs++[(k,b)])))];rw[jkT,xtw4];rfl
    ·simp only
     rw[xtw59,xtw115];refine⟨gnd,by simp,fun a ha c hc e=>?_⟩;simp at hc;subst hc;obtain⟨q,hq,rfl⟩:=xtw60.1 ha;exact hnk q hq e.symm
end Go.Proofs.YtfbifdccmabdbaaGreatDoor.Vm
namespace Go.Proofs.YtfbifdccmabdbaaGreatDoor.Vm
open Go.RowKit Go.Shelf
theorem jrV{c:UInt8}(h:wA c=true):c.toNat-48<=9:=by
 simp only[wA,xtw14,xtw17] at h;omega
theorem jbx(n:Nat):jgE n []=n:=rfl
theorem jdy(n:Nat)(c:UInt8)(r:List UInt8):jgE n (c::r)=jgE (10*n+(c.toNat-48)) r:=by kernel_rfl
theorem jps(l:List UInt8):∀(n:Nat),jcs l=true->jgE n l+1<=(n+1)*10 ^ l.length:=by
 induction l with
 |nil=>intro n _;rw[jbx];simp
 |cons c r ih =>
  intro n h;simp only[jcs,xtw113,xtw14] at h;have:=jrV h.1;have ih:=ih (10*n+(c.toNat-48)) h.2;rw[jdy,xtw6,Nat.pow_succ];refine xtw58 ih ?_;generalize 10 ^ r.length=p at *;rw[show(n+1)*(p*10)=(10*n+10)*p by rw[Nat.mul_comm p 10,<- Nat.mul_assoc];congr 1;omega];exact xtw70 _ (by omega)
theorem jhg{l:List UInt8}(h:l.length<=10):jbX l:=fun k hk hd=>by
 have h1:=jps _ 0 hd
 have h2:(l.take k).length<=10:=by rw[xtw38];omega
 have h3:10 ^ (l.take k).length<=10 ^ 10:=Nat.pow_le_pow_right (by decide) h2
 have h4:(10:Nat) ^ 10=10000000000:=by decide
 omega
theorem jdz:∀(l:List UInt8) (n:Nat) (k:Nat),0<=xP n l->jcs l=true->n<=2147483647->jgE n (l.take k)<=2147483647
 |[],n,k,_,_,hn=>by rw[List.take_nil,jbx];exact hn
 |c::r,n,k,h,hd,hn=>by
  simp only[jcs,xtw113,xtw14] at hd;have hc:=hd.1;simp only[wA,xtw14,xtw17] at hc;rw[xP] at h;split at h
  ·omega
  ·rename_i hv
   cases k with
   |zero=>rw[xtw99,jbx];exact hn
   |succ k =>
    rw[xtw79,jdy]
    have e:(((10*n+(c.toNat-48):Nat)):Int)=10*(n:Int)+c.toNat-48:=by omega
    refine jdz r (10*n+(c.toNat-48)) k ?_ hd.2 (by omega);rw[e];exact h
theorem jcQ:∀r:List UInt8,jcs (r.take (jF wA r))=true
 |[]=>rfl
 |c::r=>by
  rw[jF]
  cases h:wA c with
  |false=>rfl
  |true =>
   simp only[xtw79,jcs,xtw113,h,Bool.true_and];exact jcQ r
theorem jqz{c:UInt8}(h:isL c=true):wA c=false:=by
 simp only[isL,xtw14,xtw17] at h;simp only[wA,Bool.and_eq_false_iff,xtw101]
 right;omega
theorem jaM(s:ByteArray):(oZ s).1.size<=s.size:=by
 cases h:s.data.toList with
 |nil=>rw[jmk h];exact xtw11 _
 |cons c r =>
  have hl:=zQ s;rw[h,xtw6] at hl;by_cases hc:c=118
  ·subst hc;rw[jrD h,gR];omega
  ·rw[jjD h hc];exact xtw11 _
theorem sT{s:ByteArray}(h:s.size<=10):jbX (oZ s).1.data.toList:=by
 have h1:=jaM s;have h2:=zQ (oZ s).1;exact jhg (by omega)
theorem jlB{l:List UInt8}{k:Int}{len:Nat}{n:Int}(h:qD l=.tok k len n):jbX (oZ (bs (l.take len))).1.data.toList:=by
 have hle:=bN h;have hsz:(bs (l.take len)).size=len:=aQ l len hle.2
 cases l with
 |nil=>simp[qD] at h
 |cons c r =>
  cases hL:isL c
  ·cases hD:wA c
   ·refine sT ?_;cases h3:qC pS (bs ((c::r).take 2))
    ·cases h4:qC tN (bs [c])
     ·simp only[qD,hL,hD,h3,h4] at h;cases h
     ·simp only[qD,hL,hD,h3,h4] at h;cases h;omega
    ·simp only[qD,hL,hD,h3] at h;cases h;omega
   ·simp only[qD,hL,hD] at h;split at h
    ·cases h
    ·rename_i hv;cases h
     have hc:c≠118:=fun e=>by subst e;simp[wA] at hD; 
     have hlist:(bs ((c::r).take (jF wA r+1))).data.toList=c::r.take (jF wA r):=by rw[yM,xtw79]
     rw[jjD hlist hc,hlist];intro j hj hd
     have h0:jcs (c::r.take (jF wA r))=true:=by
      simp only[jcs,xtw113,hD,Bool.true_and];exact jcQ r
     have:=jdz (c::r.take (jF wA r)) 0 j (by simpa using hv) h0 (by omega);omega
  ·simp only[qD,hL] at h;split at h
   ·cases h
   ·cases h;exact sT (by omega)
theorem fB:∀(f p:Nat) (l:List UInt8),∀t∈(vI f p l).toks,jbX (oZ t.text).1.data.toList
 |0,p,l=>by simp[vI]
 |f+1,p,[]=>by simp[vI]
 |f+1,p,c::r=>by
  rw[vI];split
  ·exact fB f _ _
  ·split
   ·exact fB f _ _
   ·cases ht:qD (c::r) with
    |bad e=>simp
    |tok k len n =>
     intro t hm;simp only[Lx.cons,xtw13] at hm;rcases hm with rfl|hm
     ·exact jlB ht
     ·exact fB f _ _ t hm
theorem jol{e:Tk}(he:tZ e/\e.kind=0/\e.text.data.toList=[]):∀l:List Tk,(∀t∈l,tZ t/\t.kind≠0)->TkW (l++[e])
 |[],_=>⟨he.1,.inl ⟨rfl,he.2⟩⟩
 |t::l,h=>⟨(h t (by simp)).1,.inr ⟨(h t (by simp)).2,jol he l fun x hx=>h x (by simp[hx])⟩⟩
theorem jpM{s:ByteArray}(hs:s.size<=3000)(he:(qM s).err=none):TkB (lH s):=by
 rw[gO he];have hl:=zQ s;have hlen:=(vS (s.data.toList.length+1) 0 s.data.toList).1;refine⟨jol ⟨⟨?_,?_,?_,?_⟩,rfl,rfl⟩ _ fun t ht=>?_,?_⟩
 ·show(⟨#[]⟩:ByteArray).size<=_;decide
 ·exact sT (by show(⟨#[]⟩:ByteArray).size<=_;decide)
 ·exact xtw58 (jaM _) (by show(⟨#[]⟩:ByteArray).size<=_;decide)
 ·exact⟨by show(0:Int)<=0;decide,by show(0:Int)<=_;decide,by show s.size<=_;omega⟩
 ·have h1:=mF (s.data.toList.length+1) 0 s.data.toList (by omega) t ht;exact⟨⟨h1.2.2.1,fB _ _ _ t ht,xtw58 (jaM _) h1.2.2.1,h1.2.2.2.1,h1.2.2.2.2,h1.2.1⟩,by have:=h1.1.1;omega⟩
 ·have:(qM s).toks.length<=s.data.toList.length:=hlen;simp only[xtw4,xtw6,xtw8];omega
def K6(t:Tk):Prop:=(t.kind=1/\∃c r,t.text.data.toList=c::r/\isL c=true/\∀x∈c::r,kG x=true)∨(t.kind=3/\∃c r,t.text.data.toList=c::r/\kG c=false)∨(t.kind=0/\t.text.data.toList=[])∨(t.kind=2/\∃c r,t.text.data.toList=c::r/\wA c=true)
theorem jsN{l:List UInt8}{k:Int}{len:Nat}{n:Int}{p:Nat}(h:qD l=.tok k len n):K6 ⟨k,p,bs (l.take len),n⟩:=by
 unfold K6;simp only[yM]
 cases l with
 |nil=>simp[qD] at h
 |cons c r =>
  cases hL:isL c
  ·cases hD:wA c
   ·have h3:k=3/\(len=1∨len=2):=by
     cases h3:qC pS (bs ((c::r).take 2))
     ·cases h4:qC tN (bs [c])
      ·simp only[qD,hL,hD,h3,h4] at h;cases h
      ·simp only[qD,hL,hD,h3,h4] at h;cases h;exact⟨rfl,.inl rfl⟩
     ·simp only[qD,hL,hD,h3] at h;cases h;exact⟨rfl,.inr rfl⟩
    right;left
    refine⟨h3.1,c,r.take (len-1),?_,by unfold kG;rw[hL,hD];rfl⟩
    rcases h3.2 with e|e <;> rw[e] <;> rfl
   ·simp only[qD,hL,hD] at h;split at h
    ·cases h
    ·cases h;exact .inr (.inr (.inr ⟨rfl,c,r.take (jF wA r),xtw79,hD⟩))
  ·simp only[qD,hL] at h;split at h
   ·cases h
   ·cases h;left;refine⟨rfl,c,r.take (jF kG r),xtw79,hL,fun x hx=>?_⟩;rcases xtw13.1 hx with rfl|hx
    ·unfold kG;rw[hL];rfl
    ·exact mR kG r x hx
theorem jaa:∀(f p:Nat) (l:List UInt8),∀t∈(vI f p l).toks,K6 t
 |0,p,l=>by simp[vI]
 |f+1,p,[]=>by simp[vI]
 |f+1,p,c::r=>by
  rw[vI];split
  ·exact jaa f _ _
  ·split
   ·exact jaa f _ _
   ·cases ht:qD (c::r) with
    |bad e=>simp
    |tok k len n =>
     intro t hm;simp only[Lx.cons,xtw13] at hm;rcases hm with rfl|hm
     ·exact jsN ht
     ·exact jaa f _ _ t hm
theorem jnE{s:ByteArray}(he:(qM s).err=none):∀t∈lH s,K6 t:=fun t ht=>by
 rw[gO he,xtw30] at ht;rcases ht with ht|ht
 ·exact jaa _ _ _ t ht
 ·rw[xtw16.1 ht];exact .inr (.inr (.inl ⟨rfl,rfl⟩))
theorem jij{c:UInt8}(h:kG c=true):c≠32:=fun e=>by subst e;revert h;decide
theorem jmS{t:Tk}(h:K6 t):wOk t:=fun hk=>by
 rcases h with ⟨_,c,r,h1,_,h3⟩|⟨h1,_⟩|⟨h1,_⟩|⟨h1,_⟩
 ·rw[h1];exact⟨by simp,fun x hx=>jij (h3 x hx)⟩
 ·omega
 ·omega
 ·omega
theorem jfa{s:ByteArray}(hs:s.size<=3000)(he:(qM s).err=none):TkP (lH s):=⟨jpM hs he,fun t ht=>jmS (jnE he t ht)⟩
def okE(x e:Int):Prop:=(0<=x/\x<=1000000000)/\0<e/\e<=100
def mX(p:Pn):Prop:=match p with
 |.bad x e=>okE x e
 |_=>True
def bT(op:List Tk->Pn):Prop:=∀ts,TkP ts->mX (op ts)
theorem TkP.hp{ts:List Tk}(h:TkP ts):(Vm.hd ts).pos<=1000000000:=h.good.2.2.2.2.2
theorem cC{ts:List Tk}(h:TkP ts){e:Int}(he:0<e/\e<=100):mX (.bad (hd ts).pos e):=⟨⟨by omega,by have:=h.hp;omega⟩,he⟩
theorem qW{p:Pn}{k:Nt->List Tk->Pn}(h:mX p)(hk:∀f r,p=.ok f r->mX (k f r)):mX (p.andThen k):=by
 cases p with
 |ok f r=>exact hk f r rfl
 |bad x e=>exact h
theorem wW{s:ByteArray}{ts:List Tk}{k:List Tk->Pn}(h:TkP ts)(hk:TkP ts.tail->mX (k ts.tail)):mX (xpt s ts k):=by
 unfold xpt;by_cases hs:zO s ts=true
 ·rw[xtw3 hs];exact hk (h.is hs).1
 ·rw[xtw2 hs];exact cC h (by decide)
theorem jfc{lim:Int}{ts:List Tk}{k:Int->List Tk->Pn}(h:TkP ts)(hk:TkP ts.tail->mX (k (hd ts).n ts.tail)):mX (bE lim ts k):=by
 unfold bE;by_cases h1:(hd ts).kind≠2
 ·rw[xtw3 h1];exact cC h (by decide)
 ·rw[xtw2 h1];by_cases h2:lim<=(hd ts).n
  ·rw[xtw3 h2];exact cC h (by decide)
  ·rw[xtw2 h2];exact hk (h.tail (by rw[xtw107.1 h1];decide)).1
theorem mN{ts:List Tk}(h:TkP ts):mX (synE ts):=cC h (by decide)
def jcq(low:Option Pa):Prop:=∀p,low=some p->bT p.no/\bT p.un/\bT p.ex/\bT p.bl
theorem jh5{low:Option Pa}(hg:cV low)(hl:jcq low):bT (dN low):=fun ts h=>by
 unfold dN;by_cases hs:zO pLp ts=true
 ·rw[xtw3 hs]
  cases low with
  |none=>exact cC h (by decide)
  |some p =>
   have q:=(h.is hs).1
   exact qW ((hl p rfl).2.2.1 _ q) fun f r e=>wW ((hg p rfl).2.2.1 _ _ _ q e).1 fun _=>trivial
 ·rw[xtw2 hs];exact mN h
theorem qS{c:Prop}[Decidable c]{a b:Pn}(h1:c->mX a)(h2:¬c->mX b):mX (if c then a else b):=by
 by_cases h:c
 ·rw[xtw3 h];exact h1 h
 ·rw[xtw2 h];exact h2 h
theorem jnO{low:Option Pa}(hg:cV low)(hl:jcq low):bT (f0 low):=fun ts h=>by
 unfold f0
 refine qS (fun hs=>jh5 hg hl ts h) fun _=>?_
 refine qS (fun hs=>qW (jh5 hg hl _ (h.is hs).1) fun _ _ _=>trivial) fun _=>?_
 refine qS (fun hs=>trivial) fun _=>?_
 refine qS (fun hs=>trivial) fun _=>?_
 refine qS (fun hs=>trivial) fun _=>?_
 refine qS (fun hs=>trivial) fun _=>?_
 exact qS (fun hs=>trivial) fun _=>mN h
theorem jkl{s:ByteArray}{op:Option (List Tk->Pn)}(hl:∀f,op=some f->bT f){ts:List Tk}(h:TkP ts)(hs:zO s ts=true):mX (u6 s op ts):=by
 cases op with
 |none=>exact cC h (by decide)
 |some f=>exact qW (hl f rfl _ (h.is hs).1) fun _ _ _=>trivial
theorem jkn{low:Option Pa}(hg:cV low)(hl:jcq low):bT (aG low):=fun ts h=>by
 unfold aG
 refine qS (fun hs=>jkl (fun f hf=>?_) h hs) fun _=>jnO hg hl ts h
 obtain⟨p,hp,rfl⟩:=xtw49.1 hf;exact(hl p hp).2.1
theorem jdS{op:List Tk->Pn}(hg:qT op)(ho:bT op)(signs:List ByteArray):∀(n:Nat) (l:Nt) (ts:List Tk),TkP ts->mX (xI op signs n l ts)
 |0,l,ts,h=>trivial
 |n+1,l,ts,h=>by
  rw[xI]
  refine qS (fun hs=>?_) fun _=>trivial
  obtain⟨s,hs⟩:=eK hs;have q:=(h.is hs).1
  exact qW (ho _ q) fun f r e=>jdS hg ho signs n _ _ (hg _ _ _ q e).1
theorem jah{op:List Tk->Pn}(hg:qT op)(ho:bT op)(signs:List ByteArray):bT (wG op signs):=fun ts h=>by
 unfold wG
 exact qW (ho _ h) fun f r e=>jdS hg ho signs _ _ _ (hg _ _ _ h e).1
theorem jkm{low:Option Pa}(hg:cV low)(hl:jcq low):bT (jcI low):=jah (xK (gZ hg) _) (jah (gZ hg) (jkn hg hl) _) _
theorem jkk{low:Option Pa}(hg:cV low)(hl:jcq low):bT (ntG low):=fun ts h=>by
 unfold ntG
 refine qS (fun hs=>jkl (fun f hf=>?_) h hs) fun _=>?_
 ·obtain⟨p,hp,rfl⟩:=xtw49.1 hf;exact(hl p hp).1
 ·refine qW (jkm hg hl _ h) fun l r e=>?_
  have q:=(iP hg _ _ _ h e).1
  refine qS (fun hs=>?_) fun _=>trivial
  obtain⟨s,hs⟩:=eK hs
  exact qW (jkm hg hl _ (q.is hs).1) fun _ _ _=>trivial
theorem jkj{low:Option Pa}(hg:cV low)(hl:jcq low):bT (ji6 low):=jah (xK (gY hg) _) (jah (gY hg) (jkk hg hl) _) _
theorem jsC{ex bl:List Tk->Pn}(gex:qT ex)(gbl:qT bl)(hex:bT ex)(hbl:bT bl):bT (stG ex bl):=fun ts h=>by
 unfold stG
 refine qS (fun hn=>?_) fun _=>?_
 ·have q:=(h.tail (by rw[y6 hn];decide)).1
  exact wW q fun q=>qW (hex _ q) fun f r e=>wW (gex _ _ _ q e).1 fun _=>trivial
 refine qS (fun _=>mN h) fun hk=>?_
 have q:=(h.tail (by rw[xtw107.1 hk];decide)).1
 refine qS (fun _=>qW (hex _ q) fun f r e=>qW (hbl _ (gex _ _ _ q e).1) fun f2 r2 e2=>qS (fun hs=>qW (hbl _ ((gbl _ _ _ (gex _ _ _ q e).1 e2).1.is hs).1) fun _ _ _=>trivial) fun _=>trivial) fun _=>?_
 refine qS (fun _=>qW (hex _ q) fun f r e=>qW (hbl _ (gex _ _ _ q e).1) fun _ _ _=>trivial) fun _=>?_
 refine qS (fun _=>qW (hex _ q) fun f r e=>wW (gex _ _ _ q e).1 fun q=>jfc q fun q=>wW q fun q=>qW (hex _ q) fun f r e=>wW (gex _ _ _ q e).1 fun q=>qW (hex _ q) fun f r e=>wW (gex _ _ _ q e).1 fun _=>trivial) fun _=>?_
 refine qS (fun _=>jfc q fun q=>wW q fun _=>trivial) fun _=>?_
 refine qS (fun _=>jfc q fun q=>wW q fun _=>trivial) fun _=>?_
 refine qS (fun _=>wW q fun _=>trivial) fun _=>?_
 refine qS (fun _=>qW (hex _ q) fun f r e=>wW (gex _ _ _ q e).1 fun q=>qW (hex _ q) fun f r e=>wW (gex _ _ _ q e).1 fun _=>trivial) fun _=>?_
 refine qS (fun _=>qW (hex _ q) fun f r e=>wW (gex _ _ _ q e).1 fun _=>trivial) fun _=>?_
 exact qS (fun _=>wW q fun _=>trivial) fun _=>mN h
theorem jh4{st:List Tk->Pn}(gst:GoesS st)(hst:bT st):∀(n:Nat) (acc:List Nt) (ts:List Tk),TkP ts->mX (mY st n acc ts)
 |0,acc,ts,h=>mN h
 |n+1,acc,ts,h=>by
  rw[mY]
  exact qS (fun _=>trivial) fun _=>qW (hst _ h) fun f r e=>jh4 gst hst n _ _ (gst _ _ _ h e).1
theorem jsA{st:List Tk->Pn}(gst:GoesS st)(hst:bT st):bT (bkF st):=fun ts h=>by
 unfold bkF
 exact wW h fun q=>jh4 gst hst _ _ _ q
theorem jnM{low:Option Pa}(hl:jcq low):bT (jmY low):=by
 cases low with
 |none=>exact fun ts h=>qS (fun _=>cC h (by decide)) fun _=>mN h
 |some p=>exact(hl p rfl).2.2.2
theorem jnN{low:Option Pa}(hg:cV low)(hl:jcq low):jcq (some (paG low)):=fun p hp=>by
 cases hp;exact⟨jkk hg hl,jkn hg hl,jkj hg hl,jsA (rQ (gX hg) (gG hg)) (jsC (gX hg) (gG hg) (jkj hg hl) (jnM hl))⟩
theorem jf0:∀d,cV (some (pa d))/\jcq (some (pa d))
 |0=>⟨jeJ (fun _ h=>by cases h),jnN (fun _ h=>by cases h) (fun _ h=>by cases h)⟩
 |d+1=>⟨jeJ (jf0 d).1,jnN (jf0 d).1 (jf0 d).2⟩
theorem jpN:bT (pa 19).bl:=((jf0 19).2 _ rfl).2.2.2
theorem xS{ts:List Tk}(h:TkP ts){e:Int}(he:0<e/\e<=100):okE (hd ts).pos e:=cC h he
theorem jh6{lim off:Int}{ts:List Tk}(h:TkP ts){x e:Int}(k:mZ lim off ts=.bad x e):okE x e:=by
 unfold mZ at k;split at k
 ·cases k;exact xS h (by decide)
 ·split at k
  ·cases k;exact xS h (by decide)
  ·cases k
theorem jsB{hs:List (Int×Nt)}{ts:List Tk}(h:TkP ts){x e:Int}(k:uI hs ts=.bad x e):okE x e:=by
 unfold uI at k
 cases hh:uK ts with
 |bad x2 e2 =>
  rw[hh] at k;cases k;unfold uK at hh;by_cases h1:zO wStart ts=true
  ·rw[xtw3 h1] at hh;cases hh
  rw[xtw2 h1] at hh;by_cases h2:zO wRequest ts=true
  ·rw[xtw3 h2] at hh;cases hh
  rw[xtw2 h2] at hh;by_cases h3:zO wTimer ts=true
  ·rw[xtw3 h3] at hh;exact jh6 (h.is h3).1 hh
  rw[xtw2 h3] at hh;by_cases h4:zO wMessage ts=true
  ·rw[xtw3 h4] at hh;exact jh6 (h.is h4).1 hh
  rw[xtw2 h4] at hh;cases hh;exact xS h (by decide)
 |ok k2 r2 =>
  rw[hh] at k
  simp only at k
  split at k
  ·cases k;exact xS h (by decide)
  ·cases k
theorem jnL(du vo:List ByteArray):∀(n:Nat) (hs:List (Int×Nt)) (ts:List Tk) (x e:Int),TkP ts->s8 du vo n hs ts=.bad x e->okE x e
 |0,hs,ts,x,e,h,k=>by cases k;exact xS h (by decide)
 |n+1,hs,ts,x,e,h,k=>by
  rw[ja7] at k;by_cases hk:(hd ts).kind=0
  ·rw[xtw3 hk] at k;cases k
  rw[xtw2 hk] at k;by_cases ho:zO wOn ts=false
  ·rw[xtw3 ho] at k;cases k;exact xS h (by decide)
  rw[xtw2 ho] at k;have q:=(h.tail hk).1
  cases hh:uI hs ts.tail with
  |bad x2 e2=>rw[hh] at k;cases k;exact jsB q hh
  |ok k2 r =>
   rw[hh] at k
   simp only at k
   obtain⟨_,q2,_⟩:=jif q hh;have hb:=jpN _ q2
   cases hbl:(pa 19).bl r with
   |bad x2 e2=>rw[hbl] at k hb;cases k;exact hb
   |ok b r2 =>
    rw[hbl] at k;exact jnL du vo n _ _ _ _ (iH _ _ _ q2 hbl).1 k
theorem jiW:∀(n:Nat) (nm out:List ByteArray) (ts:List Tk) (x e:Int),TkP ts->(hd ts).kind≠0->aU n nm out ts=.bad x e->okE x e
 |0,nm,out,ts,x,e,h,hk,k=>by cases k;exact xS h (by decide)
 |n+1,nm,out,ts,x,e,h,hk,k=>by
  rw[ja6] at k;have q:=(h.tail hk).1;by_cases hn:yB ts.tail=false
  ·rw[xtw3 hn] at k;cases k;exact xS q (by decide)
  rw[xtw2 hn] at k;by_cases hh:qC nm (hd ts.tail).text=true
  ·rw[xtw3 hh] at k;cases k;exact xS q (by decide)
  rw[xtw2 hh] at k;by_cases h6:nm.length=16
  ·rw[xtw3 h6] at k;cases k;exact xS q (by decide)
  rw[xtw2 h6] at k;have q3:=(q.tail (by rw[y6 (by simpa using hn)];decide)).1;unfold deH at k;by_cases hc:zO pComma ts.tail.tail=true
  ·rw[xtw3 hc] at k;exact jiW n _ _ _ _ _ q3 (yU hc) k
  ·rw[xtw2 hc] at k;by_cases hs:zO pSemi ts.tail.tail=true
   ·rw[xtw3 hs] at k;cases k
   ·rw[xtw2 hs] at k;cases k;exact xS q3 (by decide)
theorem jiV:∀(n:Nat) (nm du vo:List ByteArray) (ts:List Tk) (x e:Int),TkP ts->nm.length<=16->jaO n nm du vo ts=.bad x e->okE x e
 |0,nm,du,vo,ts,x,e,h,h16,k=>by cases k;exact xS h (by decide)
 |n+1,nm,du,vo,ts,x,e,h,h16,k=>by
  rw[jaO] at k;by_cases h1:zO zR ts=true
  ·rw[xtw3 h1] at k
   cases hd:aU ts.length nm [] ts with
   |bad x2 e2=>rw[hd] at k;cases k;exact jiW _ _ _ _ _ _ h (yU h1) hd
   |ok nm2 out r =>
    rw[hd] at k;obtain⟨k1,k2,k3,k4⟩:=x8 _ _ _ _ _ _ _ h (yU h1) h16 hd;exact jiV n _ _ _ _ _ _ k1 k3 k
  rw[xtw2 h1] at k;by_cases h2:zO zH ts=true
  ·rw[xtw3 h2] at k
   cases hd:aU ts.length nm [] ts with
   |bad x2 e2=>rw[hd] at k;cases k;exact jiW _ _ _ _ _ _ h (yU h2) hd
   |ok nm2 out r =>
    rw[hd] at k;obtain⟨k1,k2,k3,k4⟩:=x8 _ _ _ _ _ _ _ h (yU h2) h16 hd;exact jiV n _ _ _ _ _ _ k1 k3 k
  rw[xtw2 h2] at k;exact jnL _ _ _ _ _ _ _ h k
theorem jgP{ts:List Tk}(h:TkP ts){x e:Int}(k:jnr ts=.bad x e):okE x e:=jiV _ _ _ _ _ _ _ h (xtw19 _) k
end Go.Proofs.YtfbifdccmabdbaaGreatDoor.Vm
