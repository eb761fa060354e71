/- Part 7 of the proof. -/
import Derived.Test.YtfbifdccmabdbaaGreatDoorW6
set_option maxRecDepth 100000
set_option linter.unusedSimpArgs false
set_option linter.unusedVariables false
set_option maxHeartbeats 4000000
namespace Go.Proofs.YtfbifdccmabdbaaGreatDoor.Vm
open Go.RowKit Go.Shelf
mutual
theorem jjd(ix:ByteArray->Int):∀f:Nt,t6 ix (toD f)=true↔∃x,ocN x f/\ix x<0
 |.mk k n s kids=>by
  unfold toD t6 ocN;rw[xtw72,jkw ix kids,xtw14,xtw72,xtw17,beq_iff_eq,beq_iff_eq];constructor
  ·rintro (⟨h1,h2⟩|⟨x,h1,h2⟩)
   ·exact⟨s,.inl ⟨h1,rfl⟩,h2⟩
   ·exact⟨x,.inr h1,h2⟩
  ·rintro⟨x,⟨h1,rfl⟩|h1,h2⟩
   ·exact .inl ⟨h1,h2⟩
   ·exact .inr ⟨x,h1,h2⟩
theorem jkw(ix:ByteArray->Int):∀l:List Nt,lT ix (eC l)=true↔∃x,i6 x l/\ix x<0
 |[]=>by
  unfold eC lT i6;simp
 |f::l=>by
  unfold eC lT i6;rw[xtw72,jjd ix f,jkw ix l];constructor
  ·rintro (⟨x,h1,h2⟩|⟨x,h1,h2⟩)
   ·exact⟨x,.inl h1,h2⟩
   ·exact⟨x,.inr h1,h2⟩
  ·rintro⟨x,h1|h1,h2⟩
   ·exact .inl ⟨x,h1,h2⟩
   ·exact .inr ⟨x,h1,h2⟩
end
def bdN(u:Ut)(f:Nt):Bool := !weN f||t6 (jZ u) (toD f)
theorem jjz(u:Ut):yH (toU u)=if u.on.any (fun h=>bdN u h.2) then 11 else 0:=by
 unfold yH toU;rw[List.any_map];rfl
theorem joT{u:Ut}{k:Nat}(hk:k<u.on.length)(h:bdN u u.on[k].2=true):yH (toU u)=11:=by
 rw[jjz,xtw3];exact xtw34.2 ⟨_,xtw10 hk,h⟩
theorem jma{u:Ut}(h:∀j (hj:j<u.on.length),bdN u u.on[j].2=false):yH (toU u)=0:=by
 rw[jjz,xtw2];rw[xtw34];rintro⟨x,hx,hq⟩;obtain⟨j,hj,rfl⟩:=xtw67.1 hx;rw[h j hj] at hq;cases hq
theorem jpX{l:List (Int×Nt)}{x:Int×Nt}(h:x∈l):zN x.2<=pP l:=by
 induction l with
 |nil=>cases h
 |cons y l ih =>
  show _<=zN y.2+1+pP l;rcases xtw13.1 h with rfl|h
  ·omega
  ·have:=ih h;omega
theorem jgT(u:Ut)(hu:WfU u)(hz:pP u.on<=900000):Spec Tryz.prog 29 [] [.agg (cO u)] fun _ r=>r=intA (yH (toU u)):=by
 have hix:=fK u hu;have hol:=hu.ol;refine eN jtP jT 0 Tryz.func29 rfl ?_;intro _;conv=>whnf
 refine jA [1] ?_;conv=>whnf
 refine jE (fun j:Nat=>[(3,.v (.int .i64 j))]) (fun _=>[cO u]) (fun _=>[]) (fun j=>j<=u.on.length/\∀i (h:i<u.on.length),i<j->bdN u u.on[i].2=false) (fun j=>u.on.length-j) 0 ?_ ⟨xtw19 _,fun i h h2=>by omega⟩ ?_
 ·repeat' constructor
 rintro j ⟨hj,hn⟩;conv=>whnf
 rcases xtw36 j u.on.length with hlt|hge
 ·have hrow:jC 5 j (zV u.on)=tC u.on[j]:=y9 u.on j hlt;have hon:=hu.on _ (xtw10 hlt);have hst:=hu.st _ (xtw10 hlt);have hsz:=jpX (xtw10 hlt)
  have hbd:∀b,bdN u u.on[j].2=b->bdN u u.on[j].2=b:=fun _ h=>h
  have hhit:bdN u u.on[j].2=true->yH (toU u)=11:=joT hlt
  have hnew:bdN u u.on[j].2=false->∀i (h:i<u.on.length),i<j+1->bdN u u.on[i].2=false:=fun hb i h h2=>by
   by_cases q:i=j
   ·subst q;exact hb
   ·exact hn i h (by omega)
  generalize u.on[j]=hb at hrow hon hst hsz hhit hnew;clear hbd hn;obtain⟨h,b⟩:=hb;obtain⟨-,-,o3⟩:=hon;unfold tC at hrow
  simp only at hrow o3 hst hsz hhit hnew
  have hwe:=joz b o3 hst;have hnm:=js5 b o3 (by omega);unfold WeC at hwe;rw[xtw1 (show(j:Int)<(u.on.length:Int) by omega)];conv=>whnf
  refine⟨show(0:Int)<=(j:Int)/\(j:Int)<(u.on.length:Nat) from ⟨by omega,by omega⟩,?_⟩;conv=>whnf
  (generalize hrq:jC _ _ (zV u.on)=rq;obtain rfl:rq=intA h::ntA b:=hrq.symm.trans (hrow);clear hrq;conv=>whnf)
  refine jY [] hwe ?_;rintro r rfl;cases hw:weN b
  ·have hc:=hhit (by unfold bdN;rw[hw];rfl);rw[hc];conv=>whnf
   rfl
  conv=>whnf
  refine⟨show(0:Int)<=(j:Int)/\(j:Int)<(u.on.length:Nat) from ⟨by omega,by omega⟩,?_⟩;conv=>whnf
  (generalize hrq:jC _ _ (zV u.on)=rq;obtain rfl:rq=intA h::ntA b:=hrq.symm.trans (hrow);clear hrq;conv=>whnf)
  refine jY [] hnm ?_;rintro r ⟨out,rfl,ho⟩
  have hol2:out.length<=1000000:=by have:=ho.2;rw[xtw8] at this;omega
  conv=>whnf
  refine jA [1,3,5] ?_;conv=>whnf
  refine jE (fun i:Nat=>[(6,.v (.int .i64 i))]) (fun _=>[cO u]) (fun _=>[]) (fun i=>i<=out.length/\∀m (h:m<out.length),m<i->0<=jZ u out[m]) (fun i=>out.length-i) 0 ?_ ⟨xtw19 _,fun i h h2=>by omega⟩ ?_
  ·repeat' constructor
  rintro i ⟨hi9,hni⟩;conv=>whnf
  rcases xtw36 i out.length with hilt|hige
  ·have hrow2:=bJ out i hilt;have hixi:=hix out[i]
   obtain⟨X,hX⟩:∃X,jZ u out[i]=X:=⟨_,rfl⟩
   rw[hX] at hixi;rw[xtw1 (show(i:Int)<(out.length:Int) by omega)];conv=>whnf
   refine⟨show(0:Int)<=(i:Int)/\(i:Int)<(out.length:Nat) from ⟨by omega,by omega⟩,?_⟩;conv=>whnf
   (generalize hrq:jC _ _ (xA out)=rq;obtain rfl:rq=[jJ out[i]]:=hrq.symm.trans (hrow2);clear hrq;conv=>whnf)
   refine jY [] hixi ?_;rintro r rfl;conv=>whnf
   by_cases hneg:X<0
   ·rw[xtw1 hneg]
    have hc:=hhit (by
     unfold bdN;rw[xtw72];refine .inr ((jjd _ _).2 ⟨out[i],?_,by rw[hX];exact hneg⟩)
     exact((ho.1 _).1 (xtw10 hilt)).resolve_left (by simp))
    rw[hc];conv=>whnf
    rfl
   rw[xtw0 hneg];conv=>whnf
   refine jN i (by omega) ?_;conv=>whnf
   refine⟨i+1,jD [] ?_,⟨show i+1<=out.length by omega,fun m h h2=>?_⟩,show out.length-(i+1)<out.length-i by omega⟩
   ·conv=>whnf
    repeat' constructor
   ·by_cases q:m=i
    ·subst q;omega
    ·exact hni m h (by omega)
  rw[xtw0 (show ¬(i:Int)<(out.length:Int) by omega)];conv=>whnf
  refine jN j (by omega) ?_;conv=>whnf
  refine⟨j+1,jD [] ?_,⟨show j+1<=u.on.length by omega,hnew ?_⟩,show u.on.length-(j+1)<u.on.length-j by omega⟩
  ·conv=>whnf
   repeat' constructor
  ·unfold bdN;rw[hw,Bool.or_eq_false_iff];refine⟨rfl,?_⟩;rw[Bool.eq_false_iff];intro hun;obtain⟨x,h1,h2⟩:=(jjd _ _).1 hun;obtain⟨m,hm,rfl⟩:=xtw67.1 ((ho.1 x).2 (.inr h1));have:=hni m hm (by omega);omega
 have hc:=jma (u:=u) fun i h=>hn i h (by omega)
 rw[hc];rw[xtw0 (show ¬(j:Int)<(u.on.length:Int) by omega)];conv=>whnf
 rfl
theorem joy{s:ByteArray}{x e:Int}(h:eE s=.bad x e):¬e=0:=by
 unfold eE at h;split at h
 ·cases h;decide
 ·rename_i hsz
  cases herr:(qM s).err with
  |some pe =>
   obtain⟨p,e'⟩:=pe;rw[herr] at h;cases h;exact((vS (s.data.toList.length+1) 0 s.data.toList).2 p e herr).2.1
  |none =>
   rw[herr] at h;have:=(jgP (jfa (by omega) herr) h).2.1;omega
def jui(s:ByteArray)(c:List Ic)(e:Nat->Int)(du vo E:Int):Prop:=c.length<=400/\Spec Tryz.prog 21 [] [jJ s] (fun _ r=>r=.tup [sE c e du vo,intA E])/\Spec Tryz.prog 22 [] [jJ s] (fun _ r=>r=.tup [sE c e du vo,intA E])
theorem mS{f:Nat}{s:ByteArray}{E:Int}(h:Spec Tryz.prog f [] [jJ s] fun _ r=>r=.tup [.agg eG,intA E]):Spec Tryz.prog f [] [jJ s] fun _ r=>r=.tup [sE [] zE 0 0,intA E] :=
 h.weaken fun o r hr=>⟨o,_,rfl,WkB.refl o,by rw[hr];exact .tup (.cons jhJ (WkL.refl _))⟩
theorem jhY(s:ByteArray)(hs:s.size<=1000000000):∃(c:List Ic) (e:Nat->Int) (du vo E:Int),jui s c e du vo E:=by
 have hp:=jbD s hs;have hq:=jiR s hs
 cases hup:eE s with
 |bad x e =>
  have he:=joy hup;rw[hup,show jdE (.bad x e)=.tup [.agg eF,intA x,intA e] from rfl] at hp hq;refine⟨[],zE,0,0,e,by decide,mS ?_,mS ?_⟩
  ·refine eN jK jT 0 Tryz.func21 rfl ?_;intro _;conv=>whnf
   (refine jY [] hp ?_;rintro r rfl;conv=>whnf)
   rw[xtw0 he];conv=>whnf
   rw[xtw0 he];conv=>whnf
   rfl
  ·refine eN jK jT 0 Tryz.func22 rfl ?_;intro _;conv=>whnf
   (refine jY [] hq ?_;rintro r rfl;conv=>whnf)
   rw[xtw0 he];conv=>whnf
   rfl
 |ok u =>
  obtain⟨hu,hz⟩:=jkx hup;have hc:=joj u hu;have hd:=jgT u hu (by omega);rw[hup,show jdE (.ok u)=.tup [.agg (cO u),intA 0,intA 0] from rfl] at hp hq;by_cases hk:yH (toU u)=0
  ·rw[hk] at hc hd;obtain⟨c,e,du,vo,E,hw⟩:=jmj u;have hx:=hw.prog hu (by omega);have hy:=hw.ref hu (by omega);refine⟨c,e,du,vo,E,hw.1,?_,?_⟩
   ·refine eN jK jT 0 Tryz.func21 rfl ?_;intro _;conv=>whnf
    (refine jY [] hp ?_;rintro r rfl;conv=>whnf)
    (refine jY [] hc ?_;rintro r rfl;conv=>whnf)
    (refine jY [] hx ?_;rintro r rfl;conv=>whnf)
    rfl
   ·refine eN jK jT 0 Tryz.func22 rfl ?_;intro _;conv=>whnf
    (refine jY [] hq ?_;rintro r rfl;conv=>whnf)
    (refine jY [] hd ?_;rintro r rfl;conv=>whnf)
    (refine jY [] hy ?_;rintro r rfl;conv=>whnf)
    rfl
  ·have hk:yH (toU u)=11:=by
    unfold yH at hk ⊢;split at hk
    ·rename_i h;rw[xtw3 h]
    ·exact absurd rfl hk
   rw[hk] at hc hd;refine⟨[],zE,0,0,11,by decide,mS ?_,mS ?_⟩
   ·refine eN jK jT 0 Tryz.func21 rfl ?_;intro _;conv=>whnf
    (refine jY [] hp ?_;rintro r rfl;conv=>whnf)
    (refine jY [] hc ?_;rintro r rfl;conv=>whnf)
    rfl
   ·refine eN jK jT 0 Tryz.func22 rfl ?_;intro _;conv=>whnf
    (refine jY [] hq ?_;rintro r rfl;conv=>whnf)
    (refine jY [] hd ?_;rintro r rfl;conv=>whnf)
    rfl
section
end
section
end
theorem jj0(b:ByteArray)(m:Nat)(hm:m<=1000000000):Spec Tryz.prog 19 [] [.v (.string b),.v (.int .i64 m)] fun _ r=>∃x:ByteArray,x.size<=m/\r=jJ x:=by
 refine eN jK jT 0 Tryz.func19 rfl ?_;intro hok;conv=>whnf
 by_cases h:m<b.size
 ·refine j7 (b:=decide ((m:Int)<(b.size:Int))) (xtw1 (by omega)) ?_;conv=>whnf
  refine⟨by omega,?_⟩;conv=>whnf
  exact⟨_,by rw[ByteArray.size_extract];simp;omega,rfl⟩
 ·refine jW (b:=decide ((m:Int)<(b.size:Int))) (xtw0 (by omega)) ?_;conv=>whnf
  exact⟨b,by omega,rfl⟩
section
end
def pkF(l:List Int)(i:Nat):Int:=if i<l.length then xR (l.getD i 0) 1000000 else 0
theorem ju6(l:List Int)(i:Nat):Spec Tryz.prog 56 [] [.sl 1 l.length (jX l),intA i,intA 1000000] fun _ r=>(0<=pkF l i/\pkF l i<1000000)/\r=intA (pkF l i):=by
 unfold pkF;refine eN jK jT 0 Tryz.func56 rfl ?_;intro hok;conv=>whnf
 rw[xtw0 (show ¬(i:Int)<0 by omega)];conv=>whnf
 by_cases hi:i<l.length
 ·have hr:=bH l i hi
  have e:l.getD i 0=l[i]:=by rw[xtw9,xtw21 hi];rfl
  rw[<- e] at hr;rw[xtw3 hi,xtw0 (show ¬(l.length:Int)<=i by omega)];generalize l.getD i 0=x at *;have ha:=xZ x 1000000 (by omega);conv=>whnf
  (refine cR ?_;try with_reducible exact trivial)
  (generalize hrq:jC _ _ (jX l)=rq;obtain rfl:rq=[intA x]:=hrq.symm.trans (hr);clear hrq;conv=>whnf)
  refine jY [] ha ?_;rintro r ⟨hx,rfl⟩;conv=>whnf
  exact⟨iF hx (by omega),rfl⟩
 ·rw[xtw2 hi,xtw1 (show(l.length:Int)<=i by omega)];conv=>whnf
  exact⟨by omega,rfl⟩
def bxG(l:List Int)(i:Nat):List A:=[.sl 1 l.length (jX l),.v (.int .i64 i)]
def pk(l:List Int)(i m:Nat):Nat:=(pkF l i).toNat % m
theorem vU(l:List Int)(i:Nat){m:Nat}(h:0<m):pk l i m<m:=Nat.mod_lt _ h
theorem vO(l:List Int)(i m:Nat)(hi:i<=1000000000)(hm:1<=m/\m<=1000):Spec Tryz.prog 37 [bxG l i] [.box 0 0,.v (.int .i64 m)] fun o r=>o=[bxG l (i+1)]/\r=.v (.int .i64 (pk l i m)):=by
 unfold pk;refine eN jtQ jT 1 Tryz.func37 rfl ?_;intro hok;conv=>whnf
 refine jY [] (ju6 l i) ?_;rintro r ⟨hr,rfl⟩
 obtain⟨k,hk⟩:∃k:Nat,pkF l i=(k:Int):=⟨(pkF l i).toNat,by omega⟩
 rw[hk] at hr ⊢;conv=>whnf
 (refine cR ?_;try with_reducible exact trivial)
 have e:((k:Int)).tmod (m:Int)=((k % m:Nat):Int):=by rw[xtw12 (by omega)];omega
 exact⟨rfl,by rw[e];rfl⟩
theorem dG{α:Type}(f:α->A)(l:List α)(i:Nat)(h:i<l.length):(l.map f).drop (i*1)=f l[i]::(l.map f).drop (i+1):=by
 rw[xtw84,xtw63 (by simpa using h),xtw120]
def jjf:List ByteArray:=[⟨#[100]⟩,⟨#[100,100,49]⟩,⟨#[118]⟩,⟨#[119,50]⟩]
theorem jrP(l:List Int)(i:Nat)(hi:i<=1000000000):∃s∈jjf,Spec Tryz.prog 112 [bxG l i] [.box 0 0] fun o r=>o=[bxG l (i+1)]/\r=jJ s:=by
 have hp:=vO l i 4 hi (by decide);have hlt:=vU l i (m:=4) (by decide);generalize pk l i 4=k at *;refine⟨jjf[k]'hlt,xtw10 _,?_⟩;have hr:=dG jJ jjf k hlt;generalize jjf[k]'hlt=s at *;refine eN jK jT 1 Tryz.func112 rfl ?_;intro hok;conv=>whnf
 refine jL 0 [] hp ?_;rintro o r ⟨ho,rfl⟩;cases ho;conv=>whnf
 refine⟨⟨by omega,by omega⟩,?_⟩;conv=>whnf
 generalize hrq:List.drop (Int.toNat (k:Int)*_) _=rq;obtain rfl:rq=_::_:=hrq.symm.trans hr;clear hrq;conv=>whnf
 exact⟨rfl,rfl⟩
def jmX:List Int:=[0,1,2,3,7,100,2147483647,30]
def opL:List ByteArray:=[bF,qB,vC,wK]
inductive EI:Nat->Nt->Prop
 |lit (d:Nat) (n:Int) (h:n∈jmX):EI d (.mk 12 n eB [])
 |var (d:Nat) (s:ByteArray) (h:s∈jjf):EI d (.mk 14 0 s [])
 |nam (d:Nat) (s:ByteArray) (h:s∈builtL):EI d (.mk 15 0 s [])
 |drw (d:Nat) (f:Nt) (h:EI d f):EI (d+1) (.mk 16 0 eB [f])
 |neg (d:Nat) (f:Nt) (h:EI d f):EI (d+1) (.mk 17 0 qB [f])
 |bin (d:Nat) (s:ByteArray) (f g:Nt) (hs:s∈opL) (h1:EI d f) (h2:EI d g):EI (d+1) (.mk 18 0 s [f,g])
def bI:Nat->Nat
 |0=>2
 |d+1=>2+2*bI d
theorem jqr:∀d,2<=bI d
 |0=>xtw11 _
 |d+1=>by unfold bI;omega
def jqS(l:List Int)(d:Nat):Prop:=∀(i:Nat) (z:Int),z.toNat=d -> -5<=z->z<=10->i+bI d<=1000000000->∃f i',EI d f/\i<=i'/\i'<=i+bI d/\Spec Tryz.prog 113 [bxG l i] [.box 0 0,.v (.int .i64 z)] fun o r=>o=[bxG l i']/\r=.agg (ntA f)
theorem gw{P:Program}{f:Nat}{cs args:List A}{X:List (List A)}{t:Nt}(h:Spec P f [cs] args fun o r=>o=X/\∃l,r=.agg l/\WkL l (ntA t)):Spec P f [cs] args fun o r=>o=X/\r=.agg (ntA t) :=
 Spec.weaken h fun o r ⟨h1,l,h2,h3⟩=>⟨o,.agg (ntA t),⟨h1,rfl⟩,.refl _,by rw[h2];exact .agg h3⟩
theorem jtm(l:List Int)(d:Nat)(ih:∀e,d=e+1->jqS l e):jqS l d:=fun i z hz h1 h2 hi=>by
 have hge:=jqr d;have hp:=vO l i 12 (by omega) (by decide);have hlt:=vU l i (m:=12) (by decide);generalize pk l i 12=n0 at *
 obtain⟨n,hn⟩:∃n,(if z<=0 then n0 % 6 else n0)=n:=⟨_,rfl⟩
 have hn12:n<12:=by split at hn <;> omega
 have hn6:z<=0->n<6:=fun h=>by rw[xtw3 h] at hn;omega
 by_cases hA:n<=1
 ·have hp2:=vO l (i+1) 8 (by omega) (by decide);have hlt2:=vU l (i+1) (m:=8) (by decide);generalize pk l (i+1) 8=k8 at *;refine⟨.mk 12 (jmX[k8]'hlt2) eB [],i+2,.lit _ _ (xtw10 _),by omega,by omega,?_⟩;have hr:=dG intA jmX k8 hlt2;generalize jmX[k8]'hlt2=x at *;rcases(by omega:n=0∨n=1) with rfl|rfl
  ·refine gw ?_;refine eN nN (fun _=>[0]) 1 Tryz.func113 rfl ?_;intro hok;conv=>whnf
   refine jL 0 [] hp ?_;rintro o r ⟨ho,rfl⟩;cases ho;conv=>whnf
   by_cases hz0:z<=0
   all_goals
    first
    |(rw[xtw3 hz0] at hn;rw[xtw1 hz0];(conv=>whnf);refine⟨by decide,?_⟩;rw[show((n0:Int)).tmod 6=0 by rw[xtw12 (by omega)];omega])
    |(rw[xtw2 hz0] at hn;rw[xtw0 hz0];(conv=>whnf);rw[show(n0:Int)=0 by omega])
    conv=>whnf
   all_goals
    refine jL 0 [] hp2 ?_;rintro o r ⟨ho,rfl⟩;cases ho;conv=>whnf
    refine⟨⟨by omega,by omega⟩,?_⟩;conv=>whnf
    generalize hrq:List.drop (Int.toNat (k8:Int)*_) _=rq;obtain rfl:rq=_::_:=hrq.symm.trans hr;clear hrq;conv=>whnf
    exact⟨rfl,_,rfl,j4 (f:=.mk 12 x eB []) rfl⟩
  ·refine gw ?_;refine eN nN (fun _=>[0]) 1 Tryz.func113 rfl ?_;intro hok;conv=>whnf
   refine jL 0 [] hp ?_;rintro o r ⟨ho,rfl⟩;cases ho;conv=>whnf
   by_cases hz0:z<=0
   all_goals
    first
    |(rw[xtw3 hz0] at hn;rw[xtw1 hz0];(conv=>whnf);refine⟨by decide,?_⟩;rw[show((n0:Int)).tmod 6=1 by rw[xtw12 (by omega)];omega])
    |(rw[xtw2 hz0] at hn;rw[xtw0 hz0];(conv=>whnf);rw[show(n0:Int)=1 by omega])
    conv=>whnf
   all_goals
    refine jL 0 [] hp2 ?_;rintro o r ⟨ho,rfl⟩;cases ho;conv=>whnf
    refine⟨⟨by omega,by omega⟩,?_⟩;conv=>whnf
    generalize hrq:List.drop (Int.toNat (k8:Int)*_) _=rq;obtain rfl:rq=_::_:=hrq.symm.trans hr;clear hrq;conv=>whnf
    exact⟨rfl,_,rfl,j4 (f:=.mk 12 x eB []) rfl⟩
 by_cases hB:n<=3
 ·obtain⟨s,hs1,hp2⟩:=jrP l (i+1) (by omega);refine⟨.mk 14 0 s [],i+2,.var _ _ hs1,by omega,by omega,?_⟩;rcases(by omega:n=2∨n=3) with rfl|rfl
  ·refine gw ?_;refine eN nN (fun _=>[0]) 1 Tryz.func113 rfl ?_;intro hok;conv=>whnf
   refine jL 0 [] hp ?_;rintro o r ⟨ho,rfl⟩;cases ho;conv=>whnf
   by_cases hz0:z<=0
   all_goals
    first
    |(rw[xtw3 hz0] at hn;rw[xtw1 hz0];(conv=>whnf);refine⟨by decide,?_⟩;rw[show((n0:Int)).tmod 6=2 by rw[xtw12 (by omega)];omega])
    |(rw[xtw2 hz0] at hn;rw[xtw0 hz0];(conv=>whnf);rw[show(n0:Int)=2 by omega])
    conv=>whnf
   all_goals
    refine jL 0 [] hp2 ?_;rintro o r ⟨ho,rfl⟩;cases ho;conv=>whnf
    exact⟨rfl,_,rfl,j4 (f:=.mk 14 0 s []) rfl⟩
  ·refine gw ?_;refine eN nN (fun _=>[0]) 1 Tryz.func113 rfl ?_;intro hok;conv=>whnf
   refine jL 0 [] hp ?_;rintro o r ⟨ho,rfl⟩;cases ho;conv=>whnf
   by_cases hz0:z<=0
   all_goals
    first
    |(rw[xtw3 hz0] at hn;rw[xtw1 hz0];(conv=>whnf);refine⟨by decide,?_⟩;rw[show((n0:Int)).tmod 6=3 by rw[xtw12 (by omega)];omega])
    |(rw[xtw2 hz0] at hn;rw[xtw0 hz0];(conv=>whnf);rw[show(n0:Int)=3 by omega])
    conv=>whnf
   all_goals
    refine jL 0 [] hp2 ?_;rintro o r ⟨ho,rfl⟩;cases ho;conv=>whnf
    exact⟨rfl,_,rfl,j4 (f:=.mk 14 0 s []) rfl⟩
 by_cases hC:n<=5
 ·have hp2:=vO l (i+1) 9 (by omega) (by decide);have hlt2:=vU l (i+1) (m:=9) (by decide);generalize pk l (i+1) 9=k8 at *;refine⟨.mk 15 0 (builtL[k8]'hlt2) [],i+2,.nam _ _ (xtw10 _),by omega,by omega,?_⟩;have hr:jC 1 k8 (wO builtL)=[jJ (builtL[k8]'hlt2)]:=wN jJ builtL k8 hlt2;have hbu:=cJ;generalize builtL[k8]'hlt2=s at *;rcases(by omega:n=4∨n=5) with rfl|rfl
  ·refine gw ?_;refine eN nN (fun _=>[0]) 1 Tryz.func113 rfl ?_;intro hok;conv=>whnf
   refine jL 0 [] hp ?_;rintro o r ⟨ho,rfl⟩;cases ho;conv=>whnf
   by_cases hz0:z<=0
   all_goals
    first
    |(rw[xtw3 hz0] at hn;rw[xtw1 hz0];(conv=>whnf);refine⟨by decide,?_⟩;rw[show((n0:Int)).tmod 6=4 by rw[xtw12 (by omega)];omega])
    |(rw[xtw2 hz0] at hn;rw[xtw0 hz0];(conv=>whnf);rw[show(n0:Int)=4 by omega])
    conv=>whnf
   all_goals
    (refine jY [] hbu ?_;rintro r rfl;conv=>whnf)
    refine jL 0 [] hp2 ?_;rintro o r ⟨ho,rfl⟩;cases ho;conv=>whnf
    refine⟨⟨by omega,by show(k8:Int)<9;omega⟩,?_⟩;conv=>whnf
    (generalize hrq:jC _ _ (wO builtL)=rq;obtain rfl:rq=[jJ s]:=hrq.symm.trans (hr);clear hrq;conv=>whnf)
    exact⟨rfl,_,rfl,j4 (f:=.mk 15 0 s []) rfl⟩
  ·refine gw ?_;refine eN nN (fun _=>[0]) 1 Tryz.func113 rfl ?_;intro hok;conv=>whnf
   refine jL 0 [] hp ?_;rintro o r ⟨ho,rfl⟩;cases ho;conv=>whnf
   by_cases hz0:z<=0
   all_goals
    first
    |(rw[xtw3 hz0] at hn;rw[xtw1 hz0];(conv=>whnf);refine⟨by decide,?_⟩;rw[show((n0:Int)).tmod 6=5 by rw[xtw12 (by omega)];omega])
    |(rw[xtw2 hz0] at hn;rw[xtw0 hz0];(conv=>whnf);rw[show(n0:Int)=5 by omega])
    conv=>whnf
   all_goals
    (refine jY [] hbu ?_;rintro r rfl;conv=>whnf)
    refine jL 0 [] hp2 ?_;rintro o r ⟨ho,rfl⟩;cases ho;conv=>whnf
    refine⟨⟨by omega,by show(k8:Int)<9;omega⟩,?_⟩;conv=>whnf
    (generalize hrq:jC _ _ (wO builtL)=rq;obtain rfl:rq=[jJ s]:=hrq.symm.trans (hr);clear hrq;conv=>whnf)
    exact⟨rfl,_,rfl,j4 (f:=.mk 15 0 s []) rfl⟩
 have hzp:0<z:=by
  by_cases h:0<z
  ·exact h
  ·have:=hn6 (by omega);omega
 obtain⟨e,rfl⟩:∃e,d=e+1:=⟨d-1,by omega⟩
 have ihe:=ih e rfl;unfold bI at hi;by_cases hD:n<=7
 ·obtain⟨f,i2,hf,g1,g2,hs⟩:=ihe (i+1) (z-1) (by omega) (by omega) (by omega) (by omega);rcases(by omega:n=6∨n=7) with rfl|rfl
  ·refine⟨.mk 16 0 eB [f],i2,.drw _ _ hf,by omega,by unfold bI;omega,?_⟩;refine gw ?_;refine eN nN (fun _=>[0]) 1 Tryz.func113 rfl ?_;intro hok;conv=>whnf
   refine jL 0 [] hp ?_;rintro o r ⟨ho,rfl⟩;cases ho;conv=>whnf
   by_cases hz0:z<=0
   all_goals
    first
    |(rw[xtw3 hz0] at hn;rw[xtw1 hz0];(conv=>whnf);refine⟨by decide,?_⟩;rw[show((n0:Int)).tmod 6=6 by rw[xtw12 (by omega)];omega])
    |(rw[xtw2 hz0] at hn;rw[xtw0 hz0];(conv=>whnf);rw[show(n0:Int)=6 by omega])
    conv=>whnf
   ·exact absurd hz0 (by omega)
   refine⟨jG (by omega),?_⟩;conv=>whnf
   refine jL 0 [] hs ?_;rintro o r ⟨ho,rfl⟩;cases ho;conv=>whnf
   exact⟨rfl,_,rfl,by rw[kO];exact jU _⟩
  ·refine⟨.mk 17 0 qB [f],i2,.neg _ _ hf,by omega,by unfold bI;omega,?_⟩;refine gw ?_;refine eN nN (fun _=>[0]) 1 Tryz.func113 rfl ?_;intro hok;conv=>whnf
   refine jL 0 [] hp ?_;rintro o r ⟨ho,rfl⟩;cases ho;conv=>whnf
   by_cases hz0:z<=0
   all_goals
    first
    |(rw[xtw3 hz0] at hn;rw[xtw1 hz0];(conv=>whnf);refine⟨by decide,?_⟩;rw[show((n0:Int)).tmod 6=7 by rw[xtw12 (by omega)];omega])
    |(rw[xtw2 hz0] at hn;rw[xtw0 hz0];(conv=>whnf);rw[show(n0:Int)=7 by omega])
    conv=>whnf
   ·exact absurd hz0 (by omega)
   refine⟨jG (by omega),?_⟩;conv=>whnf
   refine jL 0 [] hs ?_;rintro o r ⟨ho,rfl⟩;cases ho;conv=>whnf
   exact⟨rfl,_,rfl,by rw[kO];exact jU _⟩
 have hp2:=vO l (i+1) 4 (by omega) (by decide);have hlt2:=vU l (i+1) (m:=4) (by decide);generalize pk l (i+1) 4=k8 at *;obtain⟨f,i2,hf,g1,g2,hs⟩:=ihe (i+1+1) (z-1) (by omega) (by omega) (by omega) (by omega);obtain⟨g,i3,hg,g3,g4,hs2⟩:=ihe i2 (z-1) (by omega) (by omega) (by omega) (by omega);refine⟨.mk 18 0 (opL[k8]'hlt2) [f,g],i3,.bin _ _ _ _ (xtw10 _) hf hg,by omega,by unfold bI;omega,?_⟩;have hr:=dG jJ opL k8 hlt2;generalize opL[k8]'hlt2=s at *;rcases(by omega:n=8∨n=9∨n=10∨n=11) with rfl|rfl|rfl|rfl
 ·refine gw ?_;refine eN nN (fun _=>[0]) 1 Tryz.func113 rfl ?_;intro hok;conv=>whnf
  refine jL 0 [] hp ?_;rintro o r ⟨ho,rfl⟩;cases ho;conv=>whnf
  by_cases hz0:z<=0
  all_goals
   first
   |(rw[xtw3 hz0] at hn;rw[xtw1 hz0];(conv=>whnf);refine⟨by decide,?_⟩;rw[show((n0:Int)).tmod 6=8 by rw[xtw12 (by omega)];omega])
   |(rw[xtw2 hz0] at hn;rw[xtw0 hz0];(conv=>whnf);rw[show(n0:Int)=8 by omega])
   conv=>whnf
  ·exact absurd hz0 (by omega)
  refine jL 0 [] hp2 ?_;rintro o r ⟨ho,rfl⟩;cases ho;conv=>whnf
  refine⟨⟨by omega,by omega⟩,?_⟩;conv=>whnf
  generalize hrq:List.drop (Int.toNat (k8:Int)*_) _=rq;obtain rfl:rq=_::_:=hrq.symm.trans hr;clear hrq;conv=>whnf
  refine⟨jG (by omega),?_⟩;conv=>whnf
  refine jL 0 [] hs ?_;rintro o r ⟨ho,rfl⟩;cases ho;conv=>whnf
  refine⟨jG (by omega),?_⟩;conv=>whnf
  refine jL 0 [] hs2 ?_;rintro o r ⟨ho,rfl⟩;cases ho;conv=>whnf
  exact⟨rfl,_,rfl,by rw[z6];exact jU _⟩
 ·refine gw ?_;refine eN nN (fun _=>[0]) 1 Tryz.func113 rfl ?_;intro hok;conv=>whnf
  refine jL 0 [] hp ?_;rintro o r ⟨ho,rfl⟩;cases ho;conv=>whnf
  by_cases hz0:z<=0
  all_goals
   first
   |(rw[xtw3 hz0] at hn;rw[xtw1 hz0];(conv=>whnf);refine⟨by decide,?_⟩;rw[show((n0:Int)).tmod 6=9 by rw[xtw12 (by omega)];omega])
   |(rw[xtw2 hz0] at hn;rw[xtw0 hz0];(conv=>whnf);rw[show(n0:Int)=9 by omega])
   conv=>whnf
  ·exact absurd hz0 (by omega)
  refine jL 0 [] hp2 ?_;rintro o r ⟨ho,rfl⟩;cases ho;conv=>whnf
  refine⟨⟨by omega,by omega⟩,?_⟩;conv=>whnf
  generalize hrq:List.drop (Int.toNat (k8:Int)*_) _=rq;obtain rfl:rq=_::_:=hrq.symm.trans hr;clear hrq;conv=>whnf
  refine⟨jG (by omega),?_⟩;conv=>whnf
  refine jL 0 [] hs ?_;rintro o r ⟨ho,rfl⟩;cases ho;conv=>whnf
  refine⟨jG (by omega),?_⟩;conv=>whnf
  refine jL 0 [] hs2 ?_;rintro o r ⟨ho,rfl⟩;cases ho;conv=>whnf
  exact⟨rfl,_,rfl,by rw[z6];exact jU _⟩
 ·refine gw ?_;refine eN nN (fun _=>[0]) 1 Tryz.func113 rfl ?_;intro hok;conv=>whnf
  refine jL 0 [] hp ?_;rintro o r ⟨ho,rfl⟩;cases ho;conv=>whnf
  by_cases hz0:z<=0
  all_goals
   first
   |(rw[xtw3 hz0] at hn;rw[xtw1 hz0];(conv=>whnf);refine⟨by decide,?_⟩;rw[show((n0:Int)).tmod 6=10 by rw[xtw12 (by omega)];omega])
   |(rw[xtw2 hz0] at hn;rw[xtw0 hz0];(conv=>whnf);rw[show(n0:Int)=10 by omega])
   conv=>whnf
  ·exact absurd hz0 (by omega)
  refine jL 0 [] hp2 ?_;rintro o r ⟨ho,rfl⟩;cases ho;conv=>whnf
  refine⟨⟨by omega,by omega⟩,?_⟩;conv=>whnf
  generalize hrq:List.drop (Int.toNat (k8:Int)*_) _=rq;obtain rfl:rq=_::_:=hrq.symm.trans hr;clear hrq;conv=>whnf
  refine⟨jG (by omega),?_⟩;conv=>whnf
  refine jL 0 [] hs ?_;rintro o r ⟨ho,rfl⟩;cases ho;conv=>whnf
  refine⟨jG (by omega),?_⟩;conv=>whnf
  refine jL 0 [] hs2 ?_;rintro o r ⟨ho,rfl⟩;cases ho;conv=>whnf
  exact⟨rfl,_,rfl,by rw[z6];exact jU _⟩
 ·refine gw ?_;refine eN nN (fun _=>[0]) 1 Tryz.func113 rfl ?_;intro hok;conv=>whnf
  refine jL 0 [] hp ?_;rintro o r ⟨ho,rfl⟩;cases ho;conv=>whnf
  by_cases hz0:z<=0
  all_goals
   first
   |(rw[xtw3 hz0] at hn;rw[xtw1 hz0];(conv=>whnf);refine⟨by decide,?_⟩;rw[show((n0:Int)).tmod 6=11 by rw[xtw12 (by omega)];omega])
   |(rw[xtw2 hz0] at hn;rw[xtw0 hz0];(conv=>whnf);rw[show(n0:Int)=11 by omega])
   conv=>whnf
  ·exact absurd hz0 (by omega)
  refine jL 0 [] hp2 ?_;rintro o r ⟨ho,rfl⟩;cases ho;conv=>whnf
  refine⟨⟨by omega,by omega⟩,?_⟩;conv=>whnf
  generalize hrq:List.drop (Int.toNat (k8:Int)*_) _=rq;obtain rfl:rq=_::_:=hrq.symm.trans hr;clear hrq;conv=>whnf
  refine⟨jG (by omega),?_⟩;conv=>whnf
  refine jL 0 [] hs ?_;rintro o r ⟨ho,rfl⟩;cases ho;conv=>whnf
  refine⟨jG (by omega),?_⟩;conv=>whnf
  refine jL 0 [] hs2 ?_;rintro o r ⟨ho,rfl⟩;cases ho;conv=>whnf
  exact⟨rfl,_,rfl,by rw[z6];exact jU _⟩
theorem iO(l:List Int):∀d,jqS l d
 |0=>jtm l 0 fun e h=>by omega
 |d+1=>jtm l (d+1) fun e h=>by
  obtain rfl:d=e:=by omega
  exact iO l d
def jm6:List ByteArray:=[yW,sD]
inductive EB:Nat->Nt->Prop
 |lit (d n:Nat) (h:n<2):EB d (.mk 13 n eB [])
 |nt (d:Nat) (f:Nt) (h:EB d f):EB (d+1) (.mk 17 0 bU [f])
 |bin (d:Nat) (s:ByteArray) (f g:Nt) (hs:s∈jm6) (h1:EB d f) (h2:EB d g):EB (d+1) (.mk 18 0 s [f,g])
 |cmp (d:Nat) (s:ByteArray) (f g:Nt) (hs:s∈dD) (h1:EI (d-1) f) (h2:EI (d-1) g):EB d (.mk 18 0 s [f,g])
def bB:Nat->Nat
 |0=>6
 |d+1=>2+2*bB d+2*bI d
theorem jt6:∀d,2+2*bI (d-1)<=bB d
 |0=>by decide
 |d+1=>by unfold bB;rw[Nat.add_sub_cancel];omega
def jqR(l:List Int)(d:Nat):Prop:=∀(i:Nat) (z:Int),z.toNat=d -> -3<=z->z<=10->i+bB d<=1000000000->∃f i',EB d f/\i<=i'/\i'<=i+bB d/\Spec Tryz.prog 114 [bxG l i] [.box 0 0,.v (.int .i64 z)] fun o r=>o=[bxG l i']/\r=.agg (ntA f)
theorem jqw(l:List Int)(d:Nat)(ih:∀e,d=e+1->jqR l e):jqR l d:=fun i z hz h1 h2 hi=>by
 have hge:=jt6 d;have hge2:=jqr (d-1);have hp:=vO l i 8 (by omega) (by decide);have hlt:=vU l i (m:=8) (by decide);generalize pk l i 8=n0 at *
 obtain⟨n,hn⟩:∃n,(if z<=0 then n0 % 4 else n0)=n:=⟨_,rfl⟩
 have hn12:n<8:=by split at hn <;> omega
 have hn6:z<=0->n<4:=fun h=>by rw[xtw3 h] at hn;omega
 by_cases hA:n=0
 ·have hp2:=vO l (i+1) 2 (by omega) (by decide);have hlt2:=vU l (i+1) (m:=2) (by decide);generalize pk l (i+1) 2=k8 at *;refine⟨.mk 13 k8 eB [],i+2,.lit _ _ hlt2,by omega,by omega,?_⟩;subst hA;refine gw ?_;refine eN i7 (fun _=>[0]) 1 Tryz.func114 rfl ?_;intro hok;conv=>whnf
  refine jL 0 [] hp ?_;rintro o r ⟨ho,rfl⟩;cases ho;conv=>whnf
  by_cases hz0:z<=0
  all_goals
   first
   |(rw[xtw3 hz0] at hn;rw[xtw1 hz0];(conv=>whnf);refine⟨by decide,?_⟩;rw[show((n0:Int)).tmod 4=0 by rw[xtw12 (by omega)];omega])
   |(rw[xtw2 hz0] at hn;rw[xtw0 hz0];(conv=>whnf);rw[show(n0:Int)=0 by omega])
   conv=>whnf
  all_goals
   refine jL 0 [] hp2 ?_;rintro o r ⟨ho,rfl⟩;cases ho;conv=>whnf
   exact⟨rfl,_,rfl,j4 (f:=.mk 13 k8 eB []) rfl⟩
 by_cases hB:n<=4
 ·have hp2:=vO l (i+1) 6 (by omega) (by decide);have hlt2:=vU l (i+1) (m:=6) (by decide);generalize pk l (i+1) 6=k8 at *;obtain⟨f,i2,hf,g1,g2,hs⟩:=iO l (d-1) (i+1+1) (z-1) (by omega) (by omega) (by omega) (by omega);obtain⟨g,i3,hg,g3,g4,hs2⟩:=iO l (d-1) i2 (z-1) (by omega) (by omega) (by omega) (by omega);refine⟨.mk 18 0 (dD[k8]'hlt2) [f,g],i3,.cmp _ _ _ _ (xtw10 _) hf hg,by omega,by omega,?_⟩;have hr:=dG jJ dD k8 hlt2;generalize dD[k8]'hlt2=s at *;rcases(by omega:n=1∨n=2∨n=3∨n=4) with rfl|rfl|rfl|rfl
  ·refine gw ?_;refine eN i7 (fun _=>[0]) 1 Tryz.func114 rfl ?_;intro hok;conv=>whnf
   refine jL 0 [] hp ?_;rintro o r ⟨ho,rfl⟩;cases ho;conv=>whnf
   by_cases hz0:z<=0
   all_goals
    first
    |(rw[xtw3 hz0] at hn;rw[xtw1 hz0];(conv=>whnf);refine⟨by decide,?_⟩;rw[show((n0:Int)).tmod 4=1 by rw[xtw12 (by omega)];omega])
    |(rw[xtw2 hz0] at hn;rw[xtw0 hz0];(conv=>whnf);rw[show(n0:Int)=1 by omega])
    conv=>whnf
   all_goals
    refine jL 0 [] hp2 ?_;rintro o r ⟨ho,rfl⟩;cases ho;conv=>whnf
    refine⟨⟨by omega,by omega⟩,?_⟩;conv=>whnf
    generalize hrq:List.drop (Int.toNat (k8:Int)*_) _=rq;obtain rfl:rq=_::_:=hrq.symm.trans hr;clear hrq;conv=>whnf
    refine⟨jG (by omega),?_⟩;conv=>whnf
    refine jL 0 [] hs ?_;rintro o r ⟨ho,rfl⟩;cases ho;conv=>whnf
    refine⟨jG (by omega),?_⟩;conv=>whnf
    refine jL 0 [] hs2 ?_;rintro o r ⟨ho,rfl⟩;cases ho;conv=>whnf
    exact⟨rfl,_,rfl,by rw[z6];exact jU _⟩
  ·refine gw ?_;refine eN i7 (fun _=>[0]) 1 Tryz.func114 rfl ?_;intro hok;conv=>whnf
   refine jL 0 [] hp ?_;rintro o r ⟨ho,rfl⟩;cases ho;conv=>whnf
   by_cases hz0:z<=0
   all_goals
    first
    |(rw[xtw3 hz0] at hn;rw[xtw1 hz0];(conv=>whnf);refine⟨by decide,?_⟩;rw[show((n0:Int)).tmod 4=2 by rw[xtw12 (by omega)];omega])
    |(rw[xtw2 hz0] at hn;rw[xtw0 hz0];(conv=>whnf);rw[show(n0:Int)=2 by omega])
    conv=>whnf
   all_goals
    refine jL 0 [] hp2 ?_;rintro o r ⟨ho,rfl⟩;cases ho;conv=>whnf
    refine⟨⟨by omega,by omega⟩,?_⟩;conv=>whnf
    generalize hrq:List.drop (Int.toNat (k8:Int)*_) _=rq;obtain rfl:rq=_::_:=hrq.symm.trans hr;clear hrq;conv=>whnf
    refine⟨jG (by omega),?_⟩;conv=>whnf
    refine jL 0 [] hs ?_;rintro o r ⟨ho,rfl⟩;cases ho;conv=>whnf
    refine⟨jG (by omega),?_⟩;conv=>whnf
    refine jL 0 [] hs2 ?_;rintro o r ⟨ho,rfl⟩;cases ho;conv=>whnf
    exact⟨rfl,_,rfl,by rw[z6];exact jU _⟩
  ·refine gw ?_;refine eN i7 (fun _=>[0]) 1 Tryz.func114 rfl ?_;intro hok;conv=>whnf
   refine jL 0 [] hp ?_;rintro o r ⟨ho,rfl⟩;cases ho;conv=>whnf
   by_cases hz0:z<=0
   all_goals
    first
    |(rw[xtw3 hz0] at hn;rw[xtw1 hz0];(conv=>whnf);refine⟨by decide,?_⟩;rw[show((n0:Int)).tmod 4=3 by rw[xtw12 (by omega)];omega])
    |(rw[xtw2 hz0] at hn;rw[xtw0 hz0];(conv=>whnf);rw[show(n0:Int)=3 by omega])
    conv=>whnf
   all_goals
    refine jL 0 [] hp2 ?_;rintro o r ⟨ho,rfl⟩;cases ho;conv=>whnf
    refine⟨⟨by omega,by omega⟩,?_⟩;conv=>whnf
    generalize hrq:List.drop (Int.toNat (k8:Int)*_) _=rq;obtain rfl:rq=_::_:=hrq.symm.trans hr;clear hrq;conv=>whnf
    refine⟨jG (by omega),?_⟩;conv=>whnf
    refine jL 0 [] hs ?_;rintro o r ⟨ho,rfl⟩;cases ho;conv=>whnf
    refine⟨jG (by omega),?_⟩;conv=>whnf
    refine jL 0 [] hs2 ?_;rintro o r ⟨ho,rfl⟩;cases ho;conv=>whnf
    exact⟨rfl,_,rfl,by rw[z6];exact jU _⟩
  ·refine gw ?_;refine eN i7 (fun _=>[0]) 1 Tryz.func114 rfl ?_;intro hok;conv=>whnf
   refine jL 0 [] hp ?_;rintro o r ⟨ho,rfl⟩;cases ho;conv=>whnf
   by_cases hz0:z<=0
   all_goals
    first
    |(rw[xtw3 hz0] at hn;rw[xtw1 hz0];(conv=>whnf);refine⟨by decide,?_⟩;rw[show((n0:Int)).tmod 4=4 by rw[xtw12 (by omega)];omega])
    |(rw[xtw2 hz0] at hn;rw[xtw0 hz0];(conv=>whnf);rw[show(n0:Int)=4 by omega])
    conv=>whnf
   ·exact absurd hz0 (by omega)
   refine jL 0 [] hp2 ?_;rintro o r ⟨ho,rfl⟩;cases ho;conv=>whnf
   refine⟨⟨by omega,by omega⟩,?_⟩;conv=>whnf
   generalize hrq:List.drop (Int.toNat (k8:Int)*_) _=rq;obtain rfl:rq=_::_:=hrq.symm.trans hr;clear hrq;conv=>whnf
   refine⟨jG (by omega),?_⟩;conv=>whnf
   refine jL 0 [] hs ?_;rintro o r ⟨ho,rfl⟩;cases ho;conv=>whnf
   refine⟨jG (by omega),?_⟩;conv=>whnf
   refine jL 0 [] hs2 ?_;rintro o r ⟨ho,rfl⟩;cases ho;conv=>whnf
   exact⟨rfl,_,rfl,by rw[z6];exact jU _⟩
 have hzp:0<z:=by
  by_cases h:0<z
  ·exact h
  ·have:=hn6 (by omega);omega
 obtain⟨e,rfl⟩:∃e,d=e+1:=⟨d-1,by omega⟩
 have ihe:=ih e rfl;unfold bB at hi;by_cases hD:n=5
 ·obtain⟨f,i2,hf,g1,g2,hs⟩:=ihe (i+1) (z-1) (by omega) (by omega) (by omega) (by omega);subst hD;refine⟨.mk 17 0 bU [f],i2,.nt _ _ hf,by omega,by unfold bB;omega,?_⟩;refine gw ?_;refine eN i7 (fun _=>[0]) 1 Tryz.func114 rfl ?_;intro hok;conv=>whnf
  refine jL 0 [] hp ?_;rintro o r ⟨ho,rfl⟩;cases ho;conv=>whnf
  by_cases hz0:z<=0
  all_goals
   first
   |(rw[xtw3 hz0] at hn;rw[xtw1 hz0];(conv=>whnf);refine⟨by decide,?_⟩;rw[show((n0:Int)).tmod 4=5 by rw[xtw12 (by omega)];omega])
   |(rw[xtw2 hz0] at hn;rw[xtw0 hz0];(conv=>whnf);rw[show(n0:Int)=5 by omega])
   conv=>whnf
  ·exact absurd hz0 (by omega)
  refine⟨jG (by omega),?_⟩;conv=>whnf
  refine jL 0 [] hs ?_;rintro o r ⟨ho,rfl⟩;cases ho;conv=>whnf
  exact⟨rfl,_,rfl,by rw[kO];exact jU _⟩
 have hp2:=vO l (i+1) 2 (by omega) (by decide);have hlt2:=vU l (i+1) (m:=2) (by decide);generalize pk l (i+1) 2=k8 at *;obtain⟨f,i2,hf,g1,g2,hs⟩:=ihe (i+1+1) (z-1) (by omega) (by omega) (by omega) (by omega);obtain⟨g,i3,hg,g3,g4,hs2⟩:=ihe i2 (z-1) (by omega) (by omega) (by omega) (by omega);refine⟨.mk 18 0 (jm6[k8]'hlt2) [f,g],i3,.bin _ _ _ _ (xtw10 _) hf hg,by omega,by unfold bB;omega,?_⟩;have hr:=dG jJ jm6 k8 hlt2;generalize jm6[k8]'hlt2=s at *;rcases(by omega:n=6∨n=7) with rfl|rfl
 ·refine gw ?_;refine eN i7 (fun _=>[0]) 1 Tryz.func114 rfl ?_;intro hok;conv=>whnf
  refine jL 0 [] hp ?_;rintro o r ⟨ho,rfl⟩;cases ho;conv=>whnf
  by_cases hz0:z<=0
  all_goals
   first
   |(rw[xtw3 hz0] at hn;rw[xtw1 hz0];(conv=>whnf);refine⟨by decide,?_⟩;rw[show((n0:Int)).tmod 4=6 by rw[xtw12 (by omega)];omega])
   |(rw[xtw2 hz0] at hn;rw[xtw0 hz0];(conv=>whnf);rw[show(n0:Int)=6 by omega])
   conv=>whnf
  ·exact absurd hz0 (by omega)
  refine jL 0 [] hp2 ?_;rintro o r ⟨ho,rfl⟩;cases ho;conv=>whnf
  refine⟨⟨by omega,by omega⟩,?_⟩;conv=>whnf
  generalize hrq:List.drop (Int.toNat (k8:Int)*_) _=rq;obtain rfl:rq=_::_:=hrq.symm.trans hr;clear hrq;conv=>whnf
  refine⟨jG (by omega),?_⟩;conv=>whnf
  refine jL 0 [] hs ?_;rintro o r ⟨ho,rfl⟩;cases ho;conv=>whnf
  refine⟨jG (by omega),?_⟩;conv=>whnf
  refine jL 0 [] hs2 ?_;rintro o r ⟨ho,rfl⟩;cases ho;conv=>whnf
  exact⟨rfl,_,rfl,by rw[z6];exact jU _⟩
 ·refine gw ?_;refine eN i7 (fun _=>[0]) 1 Tryz.func114 rfl ?_;intro hok;conv=>whnf
  refine jL 0 [] hp ?_;rintro o r ⟨ho,rfl⟩;cases ho;conv=>whnf
  by_cases hz0:z<=0
  all_goals
   first
   |(rw[xtw3 hz0] at hn;rw[xtw1 hz0];(conv=>whnf);refine⟨by decide,?_⟩;rw[show((n0:Int)).tmod 4=7 by rw[xtw12 (by omega)];omega])
   |(rw[xtw2 hz0] at hn;rw[xtw0 hz0];(conv=>whnf);rw[show(n0:Int)=7 by omega])
   conv=>whnf
  ·exact absurd hz0 (by omega)
  refine jL 0 [] hp2 ?_;rintro o r ⟨ho,rfl⟩;cases ho;conv=>whnf
  refine⟨⟨by omega,by omega⟩,?_⟩;conv=>whnf
  generalize hrq:List.drop (Int.toNat (k8:Int)*_) _=rq;obtain rfl:rq=_::_:=hrq.symm.trans hr;clear hrq;conv=>whnf
  refine⟨jG (by omega),?_⟩;conv=>whnf
  refine jL 0 [] hs ?_;rintro o r ⟨ho,rfl⟩;cases ho;conv=>whnf
  refine⟨jG (by omega),?_⟩;conv=>whnf
  refine jL 0 [] hs2 ?_;rintro o r ⟨ho,rfl⟩;cases ho;conv=>whnf
  exact⟨rfl,_,rfl,by rw[z6];exact jU _⟩
theorem jid(l:List Int):∀d,jqR l d
 |0=>jqw l 0 fun e h=>by omega
 |d+1=>jqw l (d+1) fun e h=>by
  obtain rfl:d=e:=by omega
  exact jid l d
inductive ES:Nat->Nt->Prop
 |asg (d e:Nat) (s:ByteArray) (f:Nt) (hs:s∈jjf) (h:EI e f) (he:e<=2):ES d (.mk 1 0 s [f])
 |snd (d n:Nat) (f g h:Nt) (hn:n<4) (h1:EI 0 f) (h2:EI 1 g) (h3:EI 1 h):ES d (.mk 4 n eB [f,g,h])
 |tim (d n:Nat) (hn:n<3):ES d (.mk 5 n eB [])
 |can (d n:Nat) (hn:n<3):ES d (.mk 6 n eB [])
 |syn (d:Nat):ES d (.mk 7 0 eB [])
 |rep (d:Nat) (f g:Nt) (h1:EI 0 f) (h2:EI 1 g):ES d (.mk 8 0 eB [f,g])
 |fai (d:Nat) (f:Nt) (h1:EI 1 f):ES d (.mk 9 0 eB [f])
 |stp (d:Nat):ES d (.mk 10 0 eB [])
 |whi (d:Nat) (c:Nt) (l:List Nt) (h1:EB 1 c) (h2:l.length<=2) (h3:∀s∈l,ES d s):ES (d+1) (.mk 3 0 eB [c,yG l])
 |iff (d:Nat) (c:Nt) (l m:List Nt) (h1:EB 2 c) (h2:l.length<=2) (h3:∀s∈l,ES d s) (h4:m.length<=2) (h5:∀s∈m,ES d s):ES (d+1) (.mk 2 0 eB [c,yG l,yG m])
def bS:Nat->Nat
 |0=>60
 |d+1=>62+4*bS d
theorem jt7:∀d,60<=bS d
 |0=>xtw11 _
 |d+1=>by unfold bS;omega
def jlI(l:List Int)(d:Nat):Prop:=∀(i:Nat) (z:Int),z.toNat=d->0<=z->z<=5->i+bS d<=1000000000->∃f i',ES d f/\i<=i'/\i'<=i+bS d/\Spec Tryz.prog 75 [bxG l i] [.box 0 0,.v (.int .i64 z)] fun o r=>o=[bxG l i']/\r=.agg (ntA f)
def jqT(l:List Int)(d:Nat):Prop:=∀(i m:Nat) (z:Int),z.toNat=d->0<=z->z<=5->m<=3->i+(1+m*bS d)<=1000000000->∃k i',k.length<=m/\(∀s∈k,ES d s)/\i<=i'/\i'<=i+(1+m*bS d)/\Spec Tryz.prog 38 [bxG l i] [.box 0 0,.v (.int .i64 z),.v (.int .i64 m)] fun o r=>o=[bxG l i']/\r=.agg (ntA (yG k))
theorem jrO(l:List Int)(d:Nat)(ih:∀e,d=e+1->jqT l e):jlI l d:=fun i z hz h1 h2 hi=>by
 have hge:=jt7 d;have b0:bI 0=2:=rfl;have b1:bI 1=6:=rfl;have b2:bI 2=14:=rfl;have c1:bB 1=18:=rfl;have c2:bB 2=50:=rfl;have hp:=vO l i 14 (by omega) (by decide);have hlt:=vU l i (m:=14) (by decide);generalize pk l i 14=n0 at *
 obtain⟨n,hn⟩:∃n,(if z<=0 then n0 % 11 else n0)=n:=⟨_,rfl⟩
 have hn12:n<14:=by split at hn <;> omega
 have hn6:z<=0->n<11:=fun h=>by rw[xtw3 h] at hn;omega
 by_cases hA:n<=2
 ·obtain⟨s,hs1,hp2⟩:=jrP l (i+1) (by omega);obtain⟨f,i2,hf,g1,g2,hs⟩:=iO l 2 (i+1+1) 2 (by omega) (by omega) (by omega) (by omega);refine⟨.mk 1 0 s [f],i2,.asg _ _ _ _ hs1 hf (xtw11 _),by omega,by omega,?_⟩;rcases(by omega:n=0∨n=1∨n=2) with rfl|rfl|rfl
  ·refine gw ?_;refine eN nD (fun _=>[0]) 1 Tryz.func75 rfl ?_;intro hok;conv=>whnf
   refine jL 0 [] hp ?_;rintro o r ⟨ho,rfl⟩;cases ho;conv=>whnf
   by_cases hz0:z<=0
   all_goals
    first
    |(rw[xtw3 hz0] at hn;rw[xtw1 hz0];(conv=>whnf);refine⟨by decide,?_⟩;rw[show((n0:Int)).tmod 11=0 by rw[xtw12 (by omega)];omega])
    |(rw[xtw2 hz0] at hn;rw[xtw0 hz0];(conv=>whnf);rw[show(n0:Int)=0 by omega])
    conv=>whnf
   all_goals
    refine jL 0 [] hp2 ?_;rintro o r ⟨ho,rfl⟩;cases ho;conv=>whnf
    refine jL 0 [] hs ?_;rintro o r ⟨ho,rfl⟩;cases ho;conv=>whnf
    exact⟨rfl,_,rfl,by rw[kO];exact jU _⟩
  ·refine gw ?_;refine eN nD (fun _=>[0]) 1 Tryz.func75 rfl ?_;intro hok;conv=>whnf
   refine jL 0 [] hp ?_;rintro o r ⟨ho,rfl⟩;cases ho;conv=>whnf
   by_cases hz0:z<=0
   all_goals
    first
    |(rw[xtw3 hz0] at hn;rw[xtw1 hz0];(conv=>whnf);refine⟨by decide,?_⟩;rw[show((n0:Int)).tmod 11=1 by rw[xtw12 (by omega)];omega])
    |(rw[xtw2 hz0] at hn;rw[xtw0 hz0];(conv=>whnf);rw[show(n0:Int)=1 by omega])
    conv=>whnf
   all_goals
    refine jL 0 [] hp2 ?_;rintro o r ⟨ho,rfl⟩;cases ho;conv=>whnf
    refine jL 0 [] hs ?_;rintro o r ⟨ho,rfl⟩;cases ho;conv=>whnf
    exact⟨rfl,_,rfl,by rw[kO];exact jU _⟩
  ·refine gw ?_;refine eN nD (fun _=>[0]) 1 Tryz.func75 rfl ?_;intro hok;conv=>whnf
   refine jL 0 [] hp ?_;rintro o r ⟨ho,rfl⟩;cases ho;conv=>whnf
   by_cases hz0:z<=0
   all_goals
    first
    |(rw[xtw3 hz0] at hn;rw[xtw1 hz0];(conv=>whnf);refine⟨by decide,?_⟩;rw[show((n0:Int)).tmod 11=2 by rw[xtw12 (by omega)];omega])
    |(rw[xtw2 hz0] at hn;rw[xtw0 hz0];(conv=>whnf);rw[show(n0:Int)=2 by omega])
    conv=>whnf
   all_goals
    refine jL 0 [] hp2 ?_;rintro o r ⟨ho,rfl⟩;cases ho;conv=>whnf
    refine jL 0 [] hs ?_;rintro o r ⟨ho,rfl⟩;cases ho;conv=>whnf
    exact⟨rfl,_,rfl,by rw[kO];exact jU _⟩
 by_cases hB:n<=4
 ·obtain⟨f,i2,hf,g1,g2,hs1⟩:=iO l 0 (i+1) 0 (by omega) (by omega) (by omega) (by omega);have hp2:=vO l i2 4 (by omega) (by decide);have hlt2:=vU l i2 (m:=4) (by decide);generalize pk l i2 4=k8 at *;obtain⟨g,i3,hg,g3,g4,hs2⟩:=iO l 1 (i2+1) 1 (by omega) (by omega) (by omega) (by omega);obtain⟨h,i4,hh,g5,g6,hs3⟩:=iO l 1 i3 1 (by omega) (by omega) (by omega) (by omega);refine⟨.mk 4 k8 eB [f,g,h],i4,.snd _ _ _ _ _ hlt2 hf hg hh,by omega,by omega,?_⟩;rcases(by omega:n=3∨n=4) with rfl|rfl
  ·refine gw ?_;refine eN nD (fun _=>[0]) 1 Tryz.func75 rfl ?_;intro hok;conv=>whnf
   refine jL 0 [] hp ?_;rintro o r ⟨ho,rfl⟩;cases ho;conv=>whnf
   by_cases hz0:z<=0
   all_goals
    first
    |(rw[xtw3 hz0] at hn;rw[xtw1 hz0];(conv=>whnf);refine⟨by decide,?_⟩;rw[show((n0:Int)).tmod 11=3 by rw[xtw12 (by omega)];omega])
    |(rw[xtw2 hz0] at hn;rw[xtw0 hz0];(conv=>whnf);rw[show(n0:Int)=3 by omega])
    conv=>whnf
   all_goals
    refine jL 0 [] hs1 ?_;rintro o r ⟨ho,rfl⟩;cases ho;conv=>whnf
    refine jL 0 [] hp2 ?_;rintro o r ⟨ho,rfl⟩;cases ho;conv=>whnf
    refine jL 0 [] hs2 ?_;rintro o r ⟨ho,rfl⟩;cases ho;conv=>whnf
    refine jL 0 [] hs3 ?_;rintro o r ⟨ho,rfl⟩;cases ho;conv=>whnf
    exact⟨rfl,_,rfl,by rw[kT];exact jU _⟩
  ·refine gw ?_;refine eN nD (fun _=>[0]) 1 Tryz.func75 rfl ?_;intro hok;conv=>whnf
   refine jL 0 [] hp ?_;rintro o r ⟨ho,rfl⟩;cases ho;conv=>whnf
   by_cases hz0:z<=0
   all_goals
    first
    |(rw[xtw3 hz0] at hn;rw[xtw1 hz0];(conv=>whnf);refine⟨by decide,?_⟩;rw[show((n0:Int)).tmod 11=4 by rw[xtw12 (by omega)];omega])
    |(rw[xtw2 hz0] at hn;rw[xtw0 hz0];(conv=>whnf);rw[show(n0:Int)=4 by omega])
    conv=>whnf
   all_goals
    refine jL 0 [] hs1 ?_;rintro o r ⟨ho,rfl⟩;cases ho;conv=>whnf
    refine jL 0 [] hp2 ?_;rintro o r ⟨ho,rfl⟩;cases ho;conv=>whnf
    refine jL 0 [] hs2 ?_;rintro o r ⟨ho,rfl⟩;cases ho;conv=>whnf
    refine jL 0 [] hs3 ?_;rintro o r ⟨ho,rfl⟩;cases ho;conv=>whnf
    exact⟨rfl,_,rfl,by rw[kT];exact jU _⟩
 by_cases hC:n<=6
 ·have hp2:=vO l (i+1) 3 (by omega) (by decide);have hlt2:=vU l (i+1) (m:=3) (by decide);generalize pk l (i+1) 3=k8 at *;rcases(by omega:n=5∨n=6) with rfl|rfl
  ·refine⟨.mk 5 k8 eB [],i+2,.tim _ _ hlt2,by omega,by omega,?_⟩;refine gw ?_;refine eN nD (fun _=>[0]) 1 Tryz.func75 rfl ?_;intro hok;conv=>whnf
   refine jL 0 [] hp ?_;rintro o r ⟨ho,rfl⟩;cases ho;conv=>whnf
   by_cases hz0:z<=0
   all_goals
    first
    |(rw[xtw3 hz0] at hn;rw[xtw1 hz0];(conv=>whnf);refine⟨by decide,?_⟩;rw[show((n0:Int)).tmod 11=5 by rw[xtw12 (by omega)];omega])
    |(rw[xtw2 hz0] at hn;rw[xtw0 hz0];(conv=>whnf);rw[show(n0:Int)=5 by omega])
    conv=>whnf
   all_goals
    refine jL 0 [] hp2 ?_;rintro o r ⟨ho,rfl⟩;cases ho;conv=>whnf
    exact⟨rfl,_,rfl,j4 (f:=.mk 5 k8 eB []) rfl⟩
  ·refine⟨.mk 6 k8 eB [],i+2,.can _ _ hlt2,by omega,by omega,?_⟩;refine gw ?_;refine eN nD (fun _=>[0]) 1 Tryz.func75 rfl ?_;intro hok;conv=>whnf
   refine jL 0 [] hp ?_;rintro o r ⟨ho,rfl⟩;cases ho;conv=>whnf
   by_cases hz0:z<=0
   all_goals
    first
    |(rw[xtw3 hz0] at hn;rw[xtw1 hz0];(conv=>whnf);refine⟨by decide,?_⟩;rw[show((n0:Int)).tmod 11=6 by rw[xtw12 (by omega)];omega])
    |(rw[xtw2 hz0] at hn;rw[xtw0 hz0];(conv=>whnf);rw[show(n0:Int)=6 by omega])
    conv=>whnf
   all_goals
    refine jL 0 [] hp2 ?_;rintro o r ⟨ho,rfl⟩;cases ho;conv=>whnf
    exact⟨rfl,_,rfl,j4 (f:=.mk 6 k8 eB []) rfl⟩
 by_cases hD:n=7
 ·subst hD;refine⟨.mk 7 0 eB [],i+1,.syn _,by omega,by omega,?_⟩;refine gw ?_;refine eN nD (fun _=>[0]) 1 Tryz.func75 rfl ?_;intro hok;conv=>whnf
  refine jL 0 [] hp ?_;rintro o r ⟨ho,rfl⟩;cases ho;conv=>whnf
  by_cases hz0:z<=0
  all_goals
   first
   |(rw[xtw3 hz0] at hn;rw[xtw1 hz0];(conv=>whnf);refine⟨by decide,?_⟩;rw[show((n0:Int)).tmod 11=7 by rw[xtw12 (by omega)];omega])
   |(rw[xtw2 hz0] at hn;rw[xtw0 hz0];(conv=>whnf);rw[show(n0:Int)=7 by omega])
   conv=>whnf
  all_goals
   exact⟨rfl,_,rfl,j4 (f:=.mk 7 0 eB []) rfl⟩
 by_cases hE:n=8
 ·subst hE;obtain⟨f,i2,hf,g1,g2,hs1⟩:=iO l 0 (i+1) 0 (by omega) (by omega) (by omega) (by omega);obtain⟨g,i3,hg,g3,g4,hs2⟩:=iO l 1 i2 1 (by omega) (by omega) (by omega) (by omega);refine⟨.mk 8 0 eB [f,g],i3,.rep _ _ _ hf hg,by omega,by omega,?_⟩;refine gw ?_;refine eN nD (fun _=>[0]) 1 Tryz.func75 rfl ?_;intro hok;conv=>whnf
  refine jL 0 [] hp ?_;rintro o r ⟨ho,rfl⟩;cases ho;conv=>whnf
  by_cases hz0:z<=0
  all_goals
   first
   |(rw[xtw3 hz0] at hn;rw[xtw1 hz0];(conv=>whnf);refine⟨by decide,?_⟩;rw[show((n0:Int)).tmod 11=8 by rw[xtw12 (by omega)];omega])
   |(rw[xtw2 hz0] at hn;rw[xtw0 hz0];(conv=>whnf);rw[show(n0:Int)=8 by omega])
   conv=>whnf
  all_goals
   refine jL 0 [] hs1 ?_;rintro o r ⟨ho,rfl⟩;cases ho;conv=>whnf
   refine jL 0 [] hs2 ?_;rintro o r ⟨ho,rfl⟩;cases ho;conv=>whnf
   exact⟨rfl,_,rfl,by rw[z6];exact jU _⟩
 by_cases hF:n=9
 ·subst hF;obtain⟨f,i2,hf,g1,g2,hs1⟩:=iO l 1 (i+1) 1 (by omega) (by omega) (by omega) (by omega);refine⟨.mk 9 0 eB [f],i2,.fai _ _ hf,by omega,by omega,?_⟩;refine gw ?_;refine eN nD (fun _=>[0]) 1 Tryz.func75 rfl ?_;intro hok;conv=>whnf
  refine jL 0 [] hp ?_;rintro o r ⟨ho,rfl⟩;cases ho;conv=>whnf
  by_cases hz0:z<=0
  all_goals
   first
   |(rw[xtw3 hz0] at hn;rw[xtw1 hz0];(conv=>whnf);refine⟨by decide,?_⟩;rw[show((n0:Int)).tmod 11=9 by rw[xtw12 (by omega)];omega])
   |(rw[xtw2 hz0] at hn;rw[xtw0 hz0];(conv=>whnf);rw[show(n0:Int)=9 by omega])
   conv=>whnf
  all_goals
   refine jL 0 [] hs1 ?_;rintro o r ⟨ho,rfl⟩;cases ho;conv=>whnf
   exact⟨rfl,_,rfl,by rw[kO];exact jU _⟩
 by_cases hG:n=10
 ·subst hG;have hp2:=vO l (i+1) 3 (by omega) (by decide);have hlt2:=vU l (i+1) (m:=3) (by decide);generalize pk l (i+1) 3=k8 at *;by_cases hk:0<k8
  ·obtain⟨s,hs1,hp3⟩:=jrP l (i+1+1) (by omega);obtain⟨f,i2,hf,g1,g2,hs⟩:=iO l 1 (i+1+1+1) 1 (by omega) (by omega) (by omega) (by omega);refine⟨.mk 1 0 s [f],i2,.asg _ _ _ _ hs1 hf (by decide),by omega,by omega,?_⟩;refine gw ?_;refine eN nD (fun _=>[0]) 1 Tryz.func75 rfl ?_;intro hok;conv=>whnf
   refine jL 0 [] hp ?_;rintro o r ⟨ho,rfl⟩;cases ho;conv=>whnf
   by_cases hz0:z<=0
   all_goals
    first
    |(rw[xtw3 hz0] at hn;rw[xtw1 hz0];(conv=>whnf);refine⟨by decide,?_⟩;rw[show((n0:Int)).tmod 11=10 by rw[xtw12 (by omega)];omega])
    |(rw[xtw2 hz0] at hn;rw[xtw0 hz0];(conv=>whnf);rw[show(n0:Int)=10 by omega])
    conv=>whnf
   all_goals
    refine jL 0 [] hp2 ?_;rintro o r ⟨ho,rfl⟩;cases ho;conv=>whnf
    rw[xtw1 (show 0<(k8:Int) by omega)];conv=>whnf
    refine jL 0 [] hp3 ?_;rintro o r ⟨ho,rfl⟩;cases ho;conv=>whnf
    refine jL 0 [] hs ?_;rintro o r ⟨ho,rfl⟩;cases ho;conv=>whnf
    exact⟨rfl,_,rfl,by rw[kO];exact jU _⟩
  ·refine⟨.mk 10 0 eB [],i+2,.stp _,by omega,by omega,?_⟩;refine gw ?_;refine eN nD (fun _=>[0]) 1 Tryz.func75 rfl ?_;intro hok;conv=>whnf
   refine jL 0 [] hp ?_;rintro o r ⟨ho,rfl⟩;cases ho;conv=>whnf
   by_cases hz0:z<=0
   all_goals
    first
    |(rw[xtw3 hz0] at hn;rw[xtw1 hz0];(conv=>whnf);refine⟨by decide,?_⟩;rw[show((n0:Int)).tmod 11=10 by rw[xtw12 (by omega)];omega])
    |(rw[xtw2 hz0] at hn;rw[xtw0 hz0];(conv=>whnf);rw[show(n0:Int)=10 by omega])
    conv=>whnf
   all_goals
    refine jL 0 [] hp2 ?_;rintro o r ⟨ho,rfl⟩;cases ho;conv=>whnf
    rw[xtw0 (show ¬0<(k8:Int) by omega)];conv=>whnf
    exact⟨rfl,_,rfl,j4 (f:=.mk 10 0 eB []) rfl⟩
 have hzp:0<z:=by
  by_cases h:0<z
  ·exact h
  ·have:=hn6 (by omega);omega
 obtain⟨e,rfl⟩:∃e,d=e+1:=⟨d-1,by omega⟩
 have ihe:=ih e rfl;unfold bS at hi;by_cases hH:n=11
 ·subst hH;obtain⟨f,i2,hf,g1,g2,hs1⟩:=jid l 1 (i+1) 1 (by omega) (by omega) (by omega) (by omega);obtain⟨k,i3,q1,q2,g3,g4,hs2⟩:=ihe i2 2 (z-1) (by omega) (by omega) (by omega) (by omega) (by omega);refine⟨.mk 3 0 eB [f,yG k],i3,.whi _ _ _ hf q1 q2,by omega,by unfold bS;omega,?_⟩;refine gw ?_;refine eN nD (fun _=>[0]) 1 Tryz.func75 rfl ?_;intro hok;conv=>whnf
  refine jL 0 [] hp ?_;rintro o r ⟨ho,rfl⟩;cases ho;conv=>whnf
  by_cases hz0:z<=0
  all_goals
   first
   |(rw[xtw3 hz0] at hn;rw[xtw1 hz0];(conv=>whnf);refine⟨by decide,?_⟩;rw[show((n0:Int)).tmod 11=11 by rw[xtw12 (by omega)];omega])
   |(rw[xtw2 hz0] at hn;rw[xtw0 hz0];(conv=>whnf);rw[show(n0:Int)=11 by omega])
   conv=>whnf
  ·exact absurd hz0 (by omega)
  refine jL 0 [] hs1 ?_;rintro o r ⟨ho,rfl⟩;cases ho;conv=>whnf
  refine⟨jG (by omega),?_⟩;conv=>whnf
  refine jL 0 [] hs2 ?_;rintro o r ⟨ho,rfl⟩;cases ho;conv=>whnf
  exact⟨rfl,_,rfl,by rw[z6];exact jU _⟩
 obtain⟨f,i2,hf,g1,g2,hs1⟩:=jid l 2 (i+1) 2 (by omega) (by omega) (by omega) (by omega);obtain⟨k,i3,q1,q2,g3,g4,hs2⟩:=ihe i2 2 (z-1) (by omega) (by omega) (by omega) (by omega) (by omega);have hp2:=vO l i3 2 (by omega) (by decide);have hlt2:=vU l i3 (m:=2) (by decide);generalize pk l i3 2=k8 at *;by_cases hk:k8=1
 ·obtain⟨m,i4,q3,q4,g5,g6,hs3⟩:=ihe (i3+1) 2 (z-1) (by omega) (by omega) (by omega) (by omega) (by omega);refine⟨.mk 2 0 eB [f,yG k,yG m],i4,.iff _ _ _ _ hf q1 q2 q3 q4,by omega,by unfold bS;omega,?_⟩;rcases(by omega:n=12∨n=13) with rfl|rfl
  ·refine gw ?_;refine eN nD (fun _=>[0]) 1 Tryz.func75 rfl ?_;intro hok;conv=>whnf
   refine jL 0 [] hp ?_;rintro o r ⟨ho,rfl⟩;cases ho;conv=>whnf
   by_cases hz0:z<=0
   all_goals
    first
    |(rw[xtw3 hz0] at hn;rw[xtw1 hz0];(conv=>whnf);refine⟨by decide,?_⟩;rw[show((n0:Int)).tmod 11=12 by rw[xtw12 (by omega)];omega])
    |(rw[xtw2 hz0] at hn;rw[xtw0 hz0];(conv=>whnf);rw[show(n0:Int)=12 by omega])
    conv=>whnf
   ·exact absurd hz0 (by omega)
   refine jL 0 [] hs1 ?_;rintro o r ⟨ho,rfl⟩;cases ho;conv=>whnf
   refine⟨jG (by omega),?_⟩;conv=>whnf
   refine jL 0 [] hs2 ?_;rintro o r ⟨ho,rfl⟩;cases ho;conv=>whnf
   refine jL 0 [] hp2 ?_;rintro o r ⟨ho,rfl⟩;cases ho;conv=>whnf
   rw[xtw1 (show(k8:Int)=1 by omega)];conv=>whnf
   refine⟨jG (by omega),?_⟩;conv=>whnf
   refine jL 0 [] hs3 ?_;rintro o r ⟨ho,rfl⟩;cases ho;conv=>whnf
   exact⟨rfl,_,rfl,by rw[kT];exact jU _⟩
  ·refine gw ?_;refine eN nD (fun _=>[0]) 1 Tryz.func75 rfl ?_;intro hok;conv=>whnf
   refine jL 0 [] hp ?_;rintro o r ⟨ho,rfl⟩;cases ho;conv=>whnf
   by_cases hz0:z<=0
   all_goals
    first
    |(rw[xtw3 hz0] at hn;rw[xtw1 hz0];(conv=>whnf);refine⟨by decide,?_⟩;rw[show((n0:Int)).tmod 11=13 by rw[xtw12 (by omega)];omega])
    |(rw[xtw2 hz0] at hn;rw[xtw0 hz0];(conv=>whnf);rw[show(n0:Int)=13 by omega])
    conv=>whnf
   ·exact absurd hz0 (by omega)
   refine jL 0 [] hs1 ?_;rintro o r ⟨ho,rfl⟩;cases ho;conv=>whnf
   refine⟨jG (by omega),?_⟩;conv=>whnf
   refine jL 0 [] hs2 ?_;rintro o r ⟨ho,rfl⟩;cases ho;conv=>whnf
   refine jL 0 [] hp2 ?_;rintro o r ⟨ho,rfl⟩;cases ho;conv=>whnf
   rw[xtw1 (show(k8:Int)=1 by omega)];conv=>whnf
   refine⟨jG (by omega),?_⟩;conv=>whnf
   refine jL 0 [] hs3 ?_;rintro o r ⟨ho,rfl⟩;cases ho;conv=>whnf
   exact⟨rfl,_,rfl,by rw[kT];exact jU _⟩
 ·refine⟨.mk 2 0 eB [f,yG k,yG []],i3+1,.iff _ _ _ _ hf q1 q2 (by decide) (by simp),by omega,by unfold bS;omega,?_⟩;rcases(by omega:n=12∨n=13) with rfl|rfl
  ·refine gw ?_;refine eN nD (fun _=>[0]) 1 Tryz.func75 rfl ?_;intro hok;conv=>whnf
   refine jL 0 [] hp ?_;rintro o r ⟨ho,rfl⟩;cases ho;conv=>whnf
   by_cases hz0:z<=0
   all_goals
    first
    |(rw[xtw3 hz0] at hn;rw[xtw1 hz0];(conv=>whnf);refine⟨by decide,?_⟩;rw[show((n0:Int)).tmod 11=12 by rw[xtw12 (by omega)];omega])
    |(rw[xtw2 hz0] at hn;rw[xtw0 hz0];(conv=>whnf);rw[show(n0:Int)=12 by omega])
    conv=>whnf
   ·exact absurd hz0 (by omega)
   refine jL 0 [] hs1 ?_;rintro o r ⟨ho,rfl⟩;cases ho;conv=>whnf
   refine⟨jG (by omega),?_⟩;conv=>whnf
   refine jL 0 [] hs2 ?_;rintro o r ⟨ho,rfl⟩;cases ho;conv=>whnf
   refine jL 0 [] hp2 ?_;rintro o r ⟨ho,rfl⟩;cases ho;conv=>whnf
   rw[xtw0 (show ¬(k8:Int)=1 by omega)];conv=>whnf
   exact⟨rfl,_,rfl,by rw[kT];exact jkC f (yG k)⟩
  ·refine gw ?_;refine eN nD (fun _=>[0]) 1 Tryz.func75 rfl ?_;intro hok;conv=>whnf
   refine jL 0 [] hp ?_;rintro o r ⟨ho,rfl⟩;cases ho;conv=>whnf
   by_cases hz0:z<=0
   all_goals
    first
    |(rw[xtw3 hz0] at hn;rw[xtw1 hz0];(conv=>whnf);refine⟨by decide,?_⟩;rw[show((n0:Int)).tmod 11=13 by rw[xtw12 (by omega)];omega])
    |(rw[xtw2 hz0] at hn;rw[xtw0 hz0];(conv=>whnf);rw[show(n0:Int)=13 by omega])
    conv=>whnf
   ·exact absurd hz0 (by omega)
   refine jL 0 [] hs1 ?_;rintro o r ⟨ho,rfl⟩;cases ho;conv=>whnf
   refine⟨jG (by omega),?_⟩;conv=>whnf
   refine jL 0 [] hs2 ?_;rintro o r ⟨ho,rfl⟩;cases ho;conv=>whnf
   refine jL 0 [] hp2 ?_;rintro o r ⟨ho,rfl⟩;cases ho;conv=>whnf
   rw[xtw0 (show ¬(k8:Int)=1 by omega)];conv=>whnf
   exact⟨rfl,_,rfl,by rw[kT];exact jkC f (yG k)⟩
inductive Chn(l:List Int)(z:Int):Nat->List Nt->Nat->Prop
 |nil (i:Nat):Chn l z i [] i
 |cons (i i1 i2:Nat) (f:Nt) (ss:List Nt) (h:Spec Tryz.prog 75 [bxG l i] [.box 0 0,.v (.int .i64 z)] fun o r=>o=[bxG l i1]/\r=.agg (ntA f)) (k:Chn l z i1 ss i2):Chn l z i (f::ss) i2
theorem jmb{l:List Int}{d:Nat}(hS:jlI l d){z:Int}(hz:z.toNat=d)(h1:0<=z)(h2:z<=5):∀(k i:Nat),i+k*bS d<=1000000000->∃ss i',ss.length=k/\(∀s∈ss,ES d s)/\i<=i'/\i'<=i+k*bS d/\Chn l z i ss i'
 |0,i,_=>⟨[],i,rfl,by simp,xtw11 _,by omega,.nil i⟩
 |k+1,i,hb=>by
  rw[Nat.succ_mul] at hb;obtain⟨f,i1,hf,g1,g2,hs⟩:=hS i z hz h1 h2 (by omega);obtain⟨ss,i2,e1,e2,g3,g4,hc⟩:=jmb hS hz h1 h2 k i1 (by omega);refine⟨f::ss,i2,by rw[xtw6,e1],fun s hs=>?_,by omega,by rw[Nat.succ_mul];omega,.cons _ _ _ _ _ hs hc⟩;rcases xtw13.1 hs with rfl|hs
  ·exact hf
  ·exact e2 s hs
theorem jtl(l:List Int)(d:Nat)(hS:jlI l d):jqT l d:=fun i m z hz h1 h2 hm hi=>by
 have hp:=vO l i (m+1) (by omega) (by omega);have hlt:=vU l i (m:=m+1) (by omega);generalize pk l i (m+1)=k at *;have hkm:k*bS d<=m*bS d:=xtw70 _ (by omega);obtain⟨ss,i2,e1,e2,g3,g4,hc⟩:=jmb hS hz h1 h2 k (i+1) (by omega);refine⟨ss,i2,by omega,e2,by omega,by omega,?_⟩;refine eN jtR (fun _=>[0]) 1 Tryz.func38 rfl ?_;intro hok;conv=>whnf
 refine⟨jG (by omega),?_⟩;conv=>whnf
 refine jL 0 [] hp ?_;rintro o r ⟨ho,rfl⟩;cases ho;conv=>whnf
 refine qU 65 4 [] [(2,3)] ?_;conv=>whnf
 refine⟨trivial,?_⟩;conv=>whnf
 refine jA [0,1,6,7] ?_;conv=>whnf
 refine jE (fun x:List Nt×List Nt×Nat=>[(8,.v (.int .i64 x.2.1.length))]) (fun x=>[bxG l x.2.2,jcn,[intA 11,intA 0,jJ ⟨#[]⟩,.own 0]]) (fun x=>[.live 65 4 x.1.length (jQ x.1)]) (fun x=>x.1++x.2.1=ss/\Chn l z x.2.2 x.2.1 i2) (fun x=>x.2.1.length) ([],ss,i+1) ?_ ⟨rfl,hc⟩ ?_
 ·rw[<- e1];repeat' constructor
  show Row.live _ _ _ _=Row.live _ 4 0 (jQ []);rw[kN]
 rintro⟨acc,rem,j⟩ ⟨hacc,hch⟩
 simp only at hacc hch
 conv=>whnf
 cases hch with
 |nil =>
  rw[xtw66] at hacc;conv=>whnf
  rw[<- hacc];exact⟨rfl,rfl⟩
 |cons _ i1 _ f rem hs hch =>
  have hln:acc.length+(rem.length+1)=ss.length:=by rw[<- hacc,xtw4,xtw6]
  rw[show((f::rem).length:Int)=(rem.length:Int)+1 by simp];rw[xtw1 (show 0<(rem.length:Int)+1 by omega)];conv=>whnf
  refine jL 0 [] hs ?_;rintro o r ⟨ho,rfl⟩;cases ho;conv=>whnf
  refine⟨⟨by simp only;unfold maxLen;omega,by simp only;omega⟩,?_⟩;conv=>whnf
  refine⟨jG (by omega),?_⟩;rw[show(rem.length:Int)+1-1=rem.length by omega];conv=>whnf
  refine⟨(acc++[f],rem,i1),jD [0] ?_,⟨by simp only;rw[xtw40];exact hacc,hch⟩,by simp only[xtw6];omega⟩;conv=>whnf
  simp only[xtw4,xtw6,xtw8];rw[mG];repeat' constructor
theorem ju5(l:List Int)(most:Nat)(hm:most<=1000):Spec Tryz.prog 36 [] [.sl 1 l.length (jX l),.v (.int .i64 most)] fun _ r=>r=.sl 1 (l.take most).length (jX (l.take most)):=by
 refine eN jK jT 0 Tryz.func36 rfl ?_;intro hok
 have e1:(min (l.length:Int) (most:Int)).toNat-Int.toNat 0=(l.take most).length:=by rw[xtw38];omega
 have e2:List.take ((l.take most).length*1) (List.drop (Int.toNat 0*1) (jX l))=jX (l.take most):=by
  rw[xtw84,xtw38];simp only[jX,Int.toNat_zero,Nat.zero_mul,xtw118];rw[<- List.map_take]
  congr 1
  rcases Nat.le_total most l.length with h|h
  ·rw[xtw112 h]
  ·rw[Nat.min_eq_right h,xtw56 h,xtw56 (xtw11 _)]
 have e3:(l.take most).length<=most:=by rw[xtw38];omega
 conv=>whnf
 (refine cR ?_;try with_reducible exact trivial)
 rw[e1,e2];generalize l.take most=L at *;refine⟨⟨by unfold maxLen;omega,by omega⟩,?_⟩;conv=>whnf
 rfl
theorem jtk(l:List Int):∀d,jlI l d/\jqT l d
 |0=>⟨jrO l 0 fun e h=>by omega,jtl l 0 (jrO l 0 fun e h=>by omega)⟩
 |d+1=>by
  have h1:jlI l (d+1):=jrO l (d+1) fun e h=>by
   obtain rfl:d=e:=by omega
   exact(jtk l d).2
  exact⟨h1,jtl l (d+1) h1⟩
def hnG(l:List Int)(j i:Nat):Int:=match j with
 |0=>0
 |1=>1
 |2=>2+pk l (i+1) 8
 |_=>10+pk l (i+1+1) 30
inductive PCh(l:List Int):Nat->Nat->List (Int×Nt)->Prop
 |nil (i:Nat):PCh l 4 i []
 |skip (j i:Nat) (hs:List (Int×Nt)) (hj:j<4) (hi:i<=900000000) (hp:pk l i 5=0) (k:PCh l (j+1) (i+1) hs):PCh l j i hs
 |take (j i i2:Nat) (b:Nt) (hs:List (Int×Nt)) (hj:j<4) (hi:i<=900000000) (hp:0<pk l i 5) (h:Spec Tryz.prog 38 [bxG l (i+1+1+1)] [.box 0 0,.v (.int .i64 2),.v (.int .i64 3)] fun o r=>o=[bxG l i2]/\r=.agg (ntA b)) (k:PCh l (j+1) i2 hs):PCh l j i ((hnG l j i,b)::hs)
def EK(b:Nt):Prop:=∃k,b=yG k/\k.length<=3/\∀s∈k,ES 2 s
def loG:Nat->Int
 |0=>0
 |1=>1
 |2=>2
 |3=>10
 |_=>40
def EHs(j:Nat)(hs:List (Int×Nt)):Prop:=(∀h∈hs,loG j<=h.1/\h.1<40/\EK h.2)/\hs.Pairwise (fun a b=>a.1<b.1)/\hs.length+j<=4
theorem jiF(l:List Int):∀(k j i:Nat),j+k=4->i+k*5000<=800000000->∃hs,EHs j hs/\PCh l j i hs
 |0,j,i,hj,hb=>by
  obtain rfl:j=4:=by omega
  exact⟨[],⟨by simp,.nil,by decide⟩,.nil i⟩
 |k+1,j,i,hj,hb=>by
  rw[Nat.succ_mul] at hb
  have hjs:j=0∨j=1∨j=2∨j=3:=by omega
  have hlo:loG j<=loG (j+1):=by rcases hjs with rfl|rfl|rfl|rfl <;> decide
  by_cases hp:pk l i 5=0
  ·obtain⟨hs,⟨e1,e2,e3⟩,hc⟩:=jiF l k (j+1) (i+1) (by omega) (by omega);exact⟨hs,⟨fun h hh=>⟨by have:=(e1 h hh).1;omega,(e1 h hh).2⟩,e2,by omega⟩,.skip _ _ _ (by omega) (by omega) hp hc⟩
  ·have hS:bS 2=1270:=rfl;obtain⟨b,i2,q1,q2,g1,g2,hs⟩:=(jtk l 2).2 (i+1+1+1) 3 2 rfl (by decide) (by decide) (by decide) (by omega);obtain⟨hs2,⟨e1,e2,e3⟩,hc⟩:=jiF l k (j+1) i2 (by omega) (by omega)
   have hn:loG j<=hnG l j i/\hnG l j i<loG (j+1):=by
    have p8:=vU l (i+1) (m:=8) (by decide);have p30:=vU l (i+1+1) (m:=30) (by decide)
    rcases hjs with rfl|rfl|rfl|rfl <;> simp only[loG,hnG] <;> omega
   have hl4:loG (j+1)<=40:=by rcases hjs with rfl|rfl|rfl|rfl <;> decide
   refine⟨_,⟨fun h hh=>?_,xtw122.2 ⟨fun b hb=>?_,e2⟩,by rw[xtw6];omega⟩,.take j i i2 (yG b) hs2 (by omega) (by omega) (by omega) hs hc⟩
   ·rcases xtw13.1 hh with rfl|hh
    ·exact⟨hn.1,by simp only;omega,b,rfl,q1,q2⟩
    ·exact⟨by have:=(e1 h hh).1;omega,(e1 h hh).2⟩
   ·have:=(e1 b hb).1
    simp only;omega
def duL:List ByteArray:=[⟨#[100]⟩,⟨#[100,100,49]⟩]
def voL:List ByteArray:=[⟨#[118]⟩,⟨#[119,50]⟩]
def GU(u:Ut):Prop:=u.du=duL/\u.vo=voL/\EHs 0 u.on
theorem jtn(l:List Int):∃u,GU u/\Spec Tryz.prog 11 [] [.sl 1 l.length (jX l)] fun _ r=>r=.agg (cO u):=by
 have hin:=ju5 l 70 (by decide);obtain⟨hs,hE,hc⟩:=jiF (l.take 70) 4 0 0 rfl (by decide);refine⟨⟨duL,voL,hs⟩,⟨rfl,rfl,hE⟩,?_⟩;have hlen:=hE.2.2;generalize l.take 70=L at *;refine eN jtJ (fun _=>[1]) 0 Tryz.func11 rfl ?_;intro hok;conv=>whnf
 refine jY [] hin ?_;rintro r rfl;conv=>whnf
 refine qU 67 5 [] [(2,2)] ?_;conv=>whnf
 refine⟨trivial,?_⟩;conv=>whnf
 refine jA [2,3,4] ?_;conv=>whnf
 refine jE (fun x:Nat×Nat×List (Int×Nt)×List (Int×Nt)=>[(5,.v (.int .i64 x.1))]) (fun x=>[eF,bxG L x.2.1,[.own 0,.own 1,.own 2]]) (fun x=>[.live 9 1 2 (xA duL),.live 9 1 2 (xA voL),.live 67 5 x.2.2.1.length (zV x.2.2.1)]) (fun x=>x.2.2.1++x.2.2.2=hs/\PCh L x.1 x.2.1 x.2.2.2) (fun x=>4-x.1) (0,0,[],hs) ?_ ⟨rfl,hc⟩ ?_
 ·repeat' constructor
  show Row.live _ _ _ _=Row.live _ 5 0 (zV []);rw[aW]
 rintro⟨j,i,acc,rem⟩ ⟨hacc,hch⟩
 simp only at hacc hch
 have hal:acc.length<=4:=by
  have:=congrArg List.length hacc;rw[xtw4] at this;omega
 clear hin hc;conv=>whnf
 cases hch with
 |nil =>
  conv=>whnf
  rw[xtw66] at hacc;rw[<- hacc];rfl
 |skip _ _ _ hj hi hp hch =>
  have hpk:=vO L i 5 (by omega) (by decide);rw[hp] at hpk;rw[xtw1 (show(j:Int)<4 by omega)];conv=>whnf
  refine jL 1 [] hpk ?_;rintro o r ⟨ho,rfl⟩;cases ho;conv=>whnf
  refine⟨jG (by omega),?_⟩;conv=>whnf
  refine⟨(j+1,i+1,acc,rem),jD [0,1,2] ?_,⟨hacc,hch⟩,by simp only;omega⟩;conv=>whnf
  repeat' constructor
 |take _ _ i2 b rem hj hi hp hs hch =>
  have hpk:=vO L i 5 (by omega) (by decide);have hp8:=vO L (i+1) 8 (by omega) (by decide);have hp30:=vO L (i+1+1) 30 (by omega) (by decide);have l8:=vU L (i+1) (m:=8) (by decide);have l30:=vU L (i+1+1) (m:=30) (by decide)
  obtain⟨nn,hnn⟩:∃nn,hnG L j i=nn:=⟨_,rfl⟩
  rw[hnn] at hacc;unfold hnG at hnn;generalize pk L i 5=k5 at *;generalize pk L (i+1) 8=k8 at *;generalize pk L (i+1+1) 30=k30 at *;rw[xtw1 (show(j:Int)<4 by omega)];conv=>whnf
  refine jL 1 [] hpk ?_;rintro o r ⟨ho,rfl⟩;cases ho;conv=>whnf
  rw[xtw1 (show 0<(k5:Int) by omega)];conv=>whnf
  refine jL 1 [] hp8 ?_;rintro o r ⟨ho,rfl⟩;cases ho;conv=>whnf
  refine⟨jG (by omega),?_⟩;conv=>whnf
  refine jL 1 [] hp30 ?_;rintro o r ⟨ho,rfl⟩;cases ho;conv=>whnf
  refine⟨jG (by omega),?_⟩;conv=>whnf
  refine⟨⟨by omega,by omega⟩,?_⟩;rcases(by omega:j=0∨j=1∨j=2∨j=3) with rfl|rfl|rfl|rfl
  all_goals
   simp only at hnn
   conv=>whnf
   refine jL 1 [] hs ?_;rintro o r ⟨ho,rfl⟩;cases ho;conv=>whnf
   refine⟨⟨by simp only;unfold maxLen;omega,by simp only;omega⟩,?_⟩;conv=>whnf
   refine⟨jG (by simp only;omega),?_⟩;conv=>whnf
   subst hnn;refine⟨(_,i2,acc++[(_,b)],rem),jD [0,1,2] ?_,⟨by simp only;rw[xtw40];exact hacc,hch⟩,by simp only;omega⟩;conv=>whnf
   repeat' constructor
   rw[xtw4,dL];rfl
theorem jrN(l:List Int):∃u,(GU u/\True)/\Spec Tryz.prog 11 [] [.sl 1 l.length (jX l)] fun _ r=>r=.agg (cO u) :=
 let ⟨u,h,k⟩:=jtn l
 ⟨u,⟨h,trivial⟩,k⟩
section
end
def sU(n:Nat):List UInt8:=if h:n=0 then [] else sU (n / 10)++[UInt8.ofNat (48+n % 10)]
decreasing_by omega
theorem jd4:sU 0=[]:=by unfold sU;simp
theorem jfT{n:Nat}(h:n≠0):sU n=sU (n / 10)++[UInt8.ofNat (48+n % 10)]:=by
 rw[sU];simp[h]
def aV(n:Nat):List UInt8:=if n=0 then [48] else sU n
theorem jaQ:∀(k n:Nat),n<10 ^ k->(sU n).length<=k
 |k,0,_=>by rw[jd4];simp
 |0,n+1,h=>by simp at h
 |k+1,n+1,h=>by
  rw[jfT (by omega),xtw4];have:=jaQ k ((n+1) / 10) (by rw[Nat.pow_succ] at h;omega);simp only[xtw6,xtw8];omega
def digB:ByteArray:=⟨#[48,49,50,51,52,53,54,55,56,57]⟩
theorem joW(k:Nat)(i j:Nat)(hi:i=k % 10)(hj:j=k % 10+1):digB.extract i j=bs [UInt8.ofNat (48+k % 10)]:=by
 subst hi;subst hj
 have h:∀d,d<10->digB.extract d (d+1)=bs [UInt8.ofNat (48+d)]:=by decide +kernel
 exact h _ (Nat.mod_lt _ (by omega))
theorem jrf(a b:List UInt8):bs a++bs b=bs (a++b):=by
 apply ByteArray.ext;apply xtw80.1;simp[bs]
theorem vM(n:Nat)(hn:n<1000000000000):Spec Tryz.prog 97 [] [.v (.int .i64 n)] fun _ r=>r=jJ (bs (aV n)):=by
 have hlen:=jaQ 12 n hn;refine eN jK jT 0 Tryz.func97 rfl ?_;intro hok;conv=>whnf
 by_cases h0:n=0
 ·subst h0
  (refine cR ?_;try with_reducible exact trivial)
  rfl
 ·(refine cR ?_;try with_reducible exact trivial)
  refine jA [0,3] ?_;conv=>whnf
  refine jE (fun x:Nat×List UInt8=>[(4,.v (.string (bs x.2))),(5,.v (.int .i64 x.1))]) (fun _=>[]) (fun _=>[]) (fun x=>x.1<=n/\sU x.1++x.2=sU n/\x.2.length<=12) (fun x=>x.1) (n,[]) ?_ ⟨xtw11 _,by simp,by simp⟩ ?_
  ·repeat' constructor
  ·rintro⟨k,l⟩ ⟨hk,hd,hl⟩
   simp only at hk hd hl
   have hll:(sU k).length+l.length<=12:=by
    have:=congrArg List.length hd;rw[xtw4] at this;omega
   conv=>whnf
   by_cases hk0:k=0
   ·subst hk0;rw[jd4,xtw53] at hd
    (refine cR ?_;try with_reducible exact trivial)
    have:aV n=l:=by unfold aV;rw[xtw2 h0,hd]
    rw[this];rfl
   ·have hm:(((k,l).1:Nat):Int).tmod 10=((k % 10:Nat):Int):=by
     show((k:Int)).tmod 10=_;rw[xtw12 (by omega)];omega
    have hq:(((k,l).1:Nat):Int).tdiv 10=((k / 10:Nat):Int):=by
     show((k:Int)).tdiv 10=_;rw[Int.tdiv_eq_ediv_of_nonneg (by omega)];omega
    (refine cR ?_;try with_reducible exact trivial)
    rw[hm];conv=>whnf
    (refine cR ?_;try with_reducible exact trivial)
    refine⟨⟨by omega,by omega,by show _<=(10:Int);omega⟩,?_⟩;rw[show(⟨#[48,49,50,51,52,53,54,55,56,57]⟩:ByteArray).extract (Int.toNat ((k % 10:Nat):Int)) (Int.toNat (((k % 10:Nat):Int)+1))=bs [UInt8.ofNat (48+k % 10)] from joW k _ _ (by omega) (by omega)];conv=>whnf
    refine⟨by rw[gR,gR];show 1+l.length<=maxLen;unfold maxLen;omega,?_⟩;rw[show bs [UInt8.ofNat (48+k % 10)]++bs ((k,l).2)=bs (UInt8.ofNat (48+k % 10)::l) from jrf _ _];conv=>whnf
    (refine cR ?_;try with_reducible exact trivial)
    rw[hq]
    have hd2:sU (k / 10)++UInt8.ofNat (48+k % 10)::l=sU n:=by
     rw[<- hd,jfT hk0];simp
    repeat ((with_reducible refine And.intro ?_ ?_);(focus (first|omega|(with_reducible refine jG ?_;(first|omega|(simp only[xtw4,xtw6,xtw8,xtw44,xtw7];omega)|(dsimp only;omega)))|(with_reducible refine tL ?_;(first|omega|(simp only[xtw4,xtw6,xtw8,xtw44,xtw7];omega)|(dsimp only;omega)))|((fail_if_success (with_reducible refine tL ?_));decide)|(simp only[xtw4,xtw6,xtw8,xtw44,xtw7];omega)|(dsimp only;omega)|((with_reducible refine jG ?_);dsimp only;omega)));(conv=>whnf))
    refine⟨(k / 10,UInt8.ofNat (48+k % 10)::l),zW ?_,⟨by show k / 10<=n;omega,hd2,?_⟩,by show k / 10<k;omega⟩
    ·repeat' constructor
    ·have:=congrArg List.length hd2;rw[xtw4] at this;show(UInt8.ofNat (48+k % 10)::l).length<=12;omega
theorem gE(n:Nat)(hn:n<1000000000000):(bs (aV n)).size<=12:=by
 rw[gR];unfold aV;split
 ·decide
 ·exact jaQ 12 n hn
theorem oJ(l:Array UInt8):(⟨l⟩:ByteArray).size=l.size:=rfl
theorem rW(c:UInt8):Spec Tryz.prog 96 [] [.v (.int .u8 (c.toNat:Int))] fun _ r=>r=qA (kG c):=by
 have hm:0<=(c.toNat:Int)/\(c.toNat:Int)<=255:=by have:=c.toNat_lt;omega
 unfold kG isL wA;generalize (c.toNat:Int)=n at *;refine eN jK jT 0 Tryz.func96 rfl ?_;intro _;conv=>whnf
 by_cases h1:97<=n
 ·rw[xtw1 h1];conv=>whnf
  by_cases h2:n<=122
  ·rw[xtw1 h2];conv=>whnf
   rfl
  ·rw[xtw0 h2];conv=>whnf
   rw[xtw1 (show 48<=n by omega)];conv=>whnf
   rw[xtw0 (show ¬n<=57 by omega)];conv=>whnf
   rfl
 ·rw[xtw0 h1];conv=>whnf
  by_cases h3:48<=n
  ·rw[xtw1 h3];conv=>whnf
   rcases Decidable.em (n<=57) with h4|h4
   ·rw[xtw1 h4];conv=>whnf
    rfl
   ·rw[xtw0 h4];conv=>whnf
    rfl
  ·rw[xtw0 h3];conv=>whnf
   rfl
def jgq(a:ByteArray):UInt8:=a.data.toList.getD (a.size-1) 0
def jeH(a:ByteArray):UInt8:=a.data.toList.getD 0 0
def xD(a b:ByteArray):ByteArray:=if a=⟨#[]⟩ then a++b else if b=⟨#[]⟩ then a++b else if kG (jgq a)=false then a++b else if kG (jeH b)=false then a++b else a++⟨#[32]⟩++b
theorem jkp{a:ByteArray}(h:a≠⟨#[]⟩):0<a.size:=by
 refine Nat.pos_of_ne_zero fun h0=>h ?_
 apply ByteArray.ext;exact Array.eq_empty_of_size_eq_zero h0
theorem dK(a b:ByteArray)(ha:a.size<=500000000)(hb:b.size<=400000000):Spec Tryz.prog 53 [] [jJ a,jJ b] fun _ r=>r=jJ (xD a b):=by
 have h1:=rW (jgq a);have h2:=rW (jeH b);unfold xD;refine eN jK jT 0 Tryz.func53 rfl ?_;intro _;conv=>whnf
 by_cases ea:a=⟨#[]⟩
 ·rw[xtw1 ea,xtw3 ea];conv=>whnf
  refine⟨by show a.size+b.size<=maxLen;unfold maxLen;omega,?_⟩;conv=>whnf
  rfl
 ·rw[xtw0 ea,xtw2 ea];conv=>whnf
  by_cases eb:b=⟨#[]⟩
  ·rw[xtw1 eb,xtw3 eb];conv=>whnf
   refine⟨by show a.size+b.size<=maxLen;unfold maxLen;omega,?_⟩;conv=>whnf
   rfl
  ·rw[xtw0 eb,xtw2 eb];have sa:=jkp ea;have sb:=jkp eb;conv=>whnf
   refine⟨jG (by omega),?_⟩;conv=>whnf
   refine⟨⟨by omega,by omega⟩,?_⟩;rw[show a.data.toList.getD (Int.toNat ((a.size:Int)-1)) 0=jgq a from by unfold jgq;congr 1;omega];generalize kG (jgq a)=p at *
   (refine jY [] h1 ?_;rintro r rfl;conv=>whnf)
   cases p
   ·rw[xtw3 rfl];conv=>whnf
    refine⟨by show a.size+b.size<=maxLen;unfold maxLen;omega,?_⟩;conv=>whnf
    rfl
   ·rw[xtw2 (by decide)];conv=>whnf
    refine⟨⟨by omega,by omega⟩,?_⟩;rw[show b.data.toList.getD (Int.toNat 0) 0=jeH b from rfl];generalize kG (jeH b)=q at *
    (refine jY [] h2 ?_;rintro r rfl;conv=>whnf)
    cases q
    ·rw[xtw3 rfl];conv=>whnf
     refine⟨by show a.size+b.size<=maxLen;unfold maxLen;omega,?_⟩;conv=>whnf
     rfl
    ·rw[xtw2 (by decide)];conv=>whnf
     refine⟨by show a.size+1<=maxLen;unfold maxLen;omega,?_⟩;conv=>whnf
     refine⟨by rw[xtw7];show a.size+1+b.size<=maxLen;unfold maxLen;omega,?_⟩;conv=>whnf
     rfl
theorem dJ(a b:ByteArray):(xD a b).size<=a.size+b.size+1:=by
 have h:(⟨#[32]⟩:ByteArray).size=1:=rfl;unfold xD
 repeat' split
 all_goals(simp only[xtw7];omega)
def bW(l:List ByteArray):Nat:=(l.map fun x=>x.size+1).sum
def wC(l:List ByteArray):ByteArray:=l.foldl xD ⟨#[]⟩
theorem qQ(x:ByteArray)(l:List ByteArray):bW (x::l)=(x.size+1)+bW l:=by unfold bW;simp
theorem jce(l:List ByteArray)(x:ByteArray):bW (l++[x])=bW l+(x.size+1):=by unfold bW;simp
theorem jcR(l:List ByteArray)(x:ByteArray):wC (l++[x])=xD (wC l) x:=by unfold wC;rw[xtw126];rfl
theorem jou(l:List ByteArray)(j:Nat):bW (l.take j)<=bW l:=by
 have:bW l=bW (l.take j)+bW (l.drop j):=by
  unfold bW;rw[<- List.sum_append,<- xtw59,xtw69]
 omega
theorem jq6{l:List ByteArray}{x:ByteArray}(h:x∈l):x.size+1<=bW l:=by
 induction l with
 |nil=>cases h
 |cons y l ih =>
  rw[qQ];rcases xtw13.1 h with rfl|h
  ·omega
  ·have:=ih h;omega
theorem jq5(l:List ByteArray):l.length<=bW l:=by
 induction l with
 |nil=>exact xtw19 _
 |cons x l ih=>rw[qQ,xtw6];omega
theorem sO(l:List ByteArray):∀j,j<=l.length->(wC (l.take j)).size<=bW (l.take j)
 |0,_=>by rw[xtw99];exact xtw19 _
 |j+1,h=>by
  have ih:=sO l j (by omega);rw[xtw26 (by omega),jcR,jce];have:=dJ (wC (l.take j)) (l[j]'(by omega));omega
theorem kJ(l:List ByteArray):(wC l).size<=bW l:=by
 have:=sO l l.length (xtw11 _);rwa [xtw54] at this
theorem wE(l:List ByteArray)(h:bW l<=300000000):Spec Tryz.prog 98 [] [.sl 1 l.length (wO l)] fun _ r=>r=jJ (wC l):=by
 have hln:=jq5 l;refine eN jK jT 0 Tryz.func98 rfl ?_;intro _;conv=>whnf
 refine jA [0] ?_;conv=>whnf
 refine jE (fun j:Nat=>[(3,jJ (wC (l.take j))),(4,.v (.int .i64 j))]) (fun _=>[]) (fun _=>[]) (fun j=>j<=l.length) (fun j=>l.length-j) 0 ?_ (xtw19 _) ?_
 ·repeat' constructor
 intro j hj;conv=>whnf
 by_cases hlt:j<l.length
 ·rw[xtw1 (show(j:Int)<l.length by omega)];have hr:jC 1 j (wO l)=[jJ l[j]]:=wN jJ l j hlt;have h1:=sO l j hj;have h2:=jou l j;have h3:=jq6 (xtw10 hlt);have hg:=dK (wC (l.take j)) l[j] (by omega) (by omega)
  have e:wC (l.take (j+1))=xD (wC (l.take j)) l[j]:=by rw[xtw26 hlt,jcR]
  generalize l[j]=x at *;conv=>whnf
  refine⟨by omega,?_⟩;conv=>whnf
  (generalize hrq:jC _ _ (wO l)=rq;obtain rfl:rq=[jJ x]:=hrq.symm.trans (hr);clear hrq;conv=>whnf)
  (refine jY [] hg ?_;rintro r rfl;conv=>whnf)
  refine⟨jG (by omega),?_⟩;conv=>whnf
  refine⟨j+1,jD [] ?_,hlt,by omega⟩;conv=>whnf
  rw[e];repeat' constructor
 ·rw[xtw0 (show ¬(j:Int)<l.length by omega)];conv=>whnf
  rw[xtw56 (by omega)];rfl
def wB(k:Int)(s:ByteArray):Int:=if k=17 then(if s=bU then 3 else 7) else if k≠18 then 8 else if s=sD then 1 else if s=yW then 2 else if s=bF then 5 else if s=qB then 5 else if s=vC then 6 else if s=wK then 6 else 4
theorem jdI(k:Int)(s:ByteArray):1<=wB k s/\wB k s<=8:=by
 unfold wB
 repeat' split
 all_goals decide
theorem aM(f:Nt):Spec Tryz.prog 168 [] [.agg (ntA f)] fun _ r=>r=intA (wB f.k f.s):=by
 unfold wB;refine eN jK jT 0 Tryz.func168 rfl ?_;intro _;conv=>whnf
 by_cases h17:f.k=17
 ·rw[xtw3 h17,xtw1 h17];conv=>whnf
  by_cases hn:f.s=bU
  ·rw[xtw3 hn,xtw1 (p:=f.s=⟨_⟩) hn];conv=>whnf
   rfl
  ·rw[xtw2 hn,xtw0 (p:=f.s=⟨_⟩) hn];conv=>whnf
   rfl
 rw[xtw2 h17,xtw0 h17];conv=>whnf
 by_cases h18:f.k=18
 ·rw[xtw2 (show ¬f.k≠18 from fun h=>h h18),xtw1 h18];conv=>whnf
  by_cases g1:f.s=sD
  ·rw[xtw3 g1,xtw1 (p:=f.s=⟨_⟩) g1];conv=>whnf
   rfl
  rw[xtw2 g1,xtw0 (p:=f.s=⟨_⟩) g1];conv=>whnf
  by_cases g2:f.s=yW
  ·rw[xtw3 g2,xtw1 (p:=f.s=⟨_⟩) g2];conv=>whnf
   rfl
  rw[xtw2 g2,xtw0 (p:=f.s=⟨_⟩) g2];conv=>whnf
  by_cases g3:f.s=bF
  ·rw[xtw3 g3,xtw1 (p:=f.s=⟨_⟩) g3];conv=>whnf
   rfl
  rw[xtw2 g3,xtw0 (p:=f.s=⟨_⟩) g3];conv=>whnf
  by_cases g4:f.s=qB
  ·rw[xtw3 g4,xtw1 (p:=f.s=⟨_⟩) g4];conv=>whnf
   rfl
  rw[xtw2 g4,xtw0 (p:=f.s=⟨_⟩) g4];conv=>whnf
  by_cases g5:f.s=vC
  ·rw[xtw3 g5,xtw1 (p:=f.s=⟨_⟩) g5];conv=>whnf
   rfl
  rw[xtw2 g5,xtw0 (p:=f.s=⟨_⟩) g5];conv=>whnf
  by_cases g6:f.s=wK
  ·rw[xtw3 g6,xtw1 (p:=f.s=⟨_⟩) g6];conv=>whnf
   rfl
  rw[xtw2 g6,xtw0 (p:=f.s=⟨_⟩) g6];conv=>whnf
  rfl
 ·rw[xtw3 h18,xtw0 h18];conv=>whnf
  rfl
def pE(p req:Int)(full:Bool)(b:ByteArray):ByteArray:=if p<req then pLp++b++pRp else if full=true then(if p<8 then pLp++b++pRp else b) else b
def noG:Int->ByteArray:=fun _=>eB
def tfB(n:Int):ByteArray:=[cP,oK].getD (xR n 2).toNat eB
def jta(k n:Int)(s:ByteArray)(g:List (Int->ByteArray)):ByteArray :=
 if k=12 then bs (aV n.toNat)
 else if k=13 then tfB n
 else if k=16 then wC [wDraw,pLp,(g.getD 0 noG) 1,pRp]
 else if k=17 then wC [s,(g.getD 0 noG) (wB k s)]
 else if k=18 then wC [(g.getD 0 noG) (if wB k s=4 then 5 else wB k s),s,(g.getD 1 noG) (wB k s+1)]
 else s
mutual
def vJ(full:Bool):Nt->Int->ByteArray
 |.mk k n s kids,req=>pE (wB k s) req full (jta k n s (jub full kids))
def jub(full:Bool):List Nt->List (Int->ByteArray)
 |[]=>[]
 |f::l=>vJ full f::jub full l
end
theorem aL(p req:Int)(full:Bool)(b:ByteArray):(pE p req full b).size<=b.size+2:=by
 unfold pE;have h1:pLp.size=1:=rfl;have h2:pRp.size=1:=rfl
 repeat' split
 all_goals(try simp only[xtw7]);omega
def SH(full:Bool)(m:Nat)(f:Nt):Prop:=∀req:Int,0<=req->req<=9->(vJ full f req).size<=m/\Spec Tryz.prog 147 [] [.agg (ntA f),intA req,qA full] fun _ r=>r=jJ (vJ full f req)
theorem jqN(f:Nt):jC 4 0 (jQ [f])=ntA f:=jR [f] 0 (by simp)
theorem jnC(f g:Nt):jC 4 0 (jQ [f,g])=ntA f:=jR [f,g] 0 (by simp)
theorem jnD(f g:Nt):jC 4 1 (jQ [f,g])=ntA g:=jR [f,g] 1 (by simp)
def jbz(id:Nat):Tr:=match Nat.beq id 11 with|true=>.q 0 3 (.q 1 0 (.q 2 3 (.q 3 0 (.q 4 3 (.q 5 0 (.q 6 3 (.q 7 3 (.alt 8 1 (.alt 9 1 (.alt 10 1 (.q 11 3 (.nil)) (.nil)) (.nil)) (.nil)))))))))|false=>match Nat.beq id 16 with|true=>.q 0 3 (.q 1 0 (.q 2 3 (.q 3 0 (.q 4 3 (.q 5 3 (.q 7 3 (.q 8 0 (.q 9 3 (.q 10 0 (.q 11 3 (.q 12 0 (.q 13 3 (.q 14 3 (.q 15 3 (.alt 6 1 (.alt 16 1 (.alt 17 1 (.alt 18 1 (.q 19 3 (.nil)) (.nil)) (.nil)) (.nil)) (.nil))))))))))))))))|false=>.nil
theorem jsF(full:Bool)(n:Int)(hn:0<=n/\n<1000000000000):SH full 14 (.mk 12 n eB []):=fun req h1 h2=>by
 have hsz:(bs (aV n.toNat)).size<=12:=gE _ (by omega);have e:vJ full (.mk 12 n eB []) req=pE 8 req full (bs (aV n.toNat)):=rfl;rw[e];refine⟨by have:=aL 8 req full (bs (aV n.toNat));omega,?_⟩;have hpr:=aM (.mk 12 n eB []);have hdc:=vM n.toNat (by omega);rw[show((n.toNat:Nat):Int)=n by omega] at hdc;rw[show wB (Nt.mk 12 n eB []).k (Nt.mk 12 n eB []).s=8 from rfl] at hpr;generalize bs (aV n.toNat)=x at *
 obtain⟨p,hp⟩:∃p:Int,p=8:=⟨_,rfl⟩
 rw[<- hp] at hpr ⊢;unfold pE;refine eN jbz jT 0 Tryz.func147 rfl ?_;intro hok;conv=>whnf
 (refine jY [] hpr ?_;rintro r rfl;conv=>whnf)
 (refine jY [] hdc ?_;rintro r rfl;conv=>whnf)
 by_cases hlt:p<req
 ·rw[xtw3 hlt,xtw1 hlt];conv=>whnf
  refine⟨by(try simp only[xtw7,Nt.s,oJ,xtw32,xtw6,xtw8]);unfold maxLen;omega,?_⟩;conv=>whnf
  refine⟨by(try simp only[xtw7,Nt.s,oJ,xtw32,xtw6,xtw8]);unfold maxLen;omega,?_⟩;conv=>whnf
  rfl
 ·rw[xtw2 hlt,xtw0 hlt]
  cases full with
  |false =>
   conv=>whnf
   rfl
  |true =>
   rw[xtw3 rfl];conv=>whnf
   by_cases h8:p<8
   ·rw[xtw3 h8,xtw1 h8];conv=>whnf
    refine⟨by(try simp only[xtw7,Nt.s,oJ,xtw32,xtw6,xtw8]);unfold maxLen;omega,?_⟩;conv=>whnf
    refine⟨by(try simp only[xtw7,Nt.s,oJ,xtw32,xtw6,xtw8]);unfold maxLen;omega,?_⟩;conv=>whnf
    rfl
   ·rw[xtw2 h8,xtw0 h8];conv=>whnf
    rfl
theorem jnY(full:Bool)(k:Int)(hk:k=14∨k=15)(s:ByteArray)(hs:s.size<=12):SH full 14 (.mk k 0 s []):=fun req h1 h2=>by
 have e:vJ full (.mk k 0 s []) req=pE 8 req full s:=by rcases hk with rfl|rfl <;> rfl
 rw[e];refine⟨by have:=aL 8 req full s;omega,?_⟩;have hpr:=aM (.mk k 0 s []);rw[show wB (Nt.mk k 0 s []).k (Nt.mk k 0 s []).s=8 by rcases hk with rfl|rfl <;> rfl] at hpr
 obtain⟨p,hp⟩:∃p:Int,p=8:=⟨_,rfl⟩
 rw[<- hp] at hpr ⊢;unfold pE;rcases hk with rfl|rfl
 ·refine eN jbz jT 0 Tryz.func147 rfl ?_;intro hok;conv=>whnf
  (refine jY [] hpr ?_;rintro r rfl;conv=>whnf)
  by_cases hlt:p<req
  ·rw[xtw3 hlt,xtw1 hlt];conv=>whnf
   refine⟨by(try simp only[xtw7,Nt.s,oJ,xtw32,xtw6,xtw8]);unfold maxLen;omega,?_⟩;conv=>whnf
   refine⟨by(try simp only[xtw7,Nt.s,oJ,xtw32,xtw6,xtw8]);unfold maxLen;omega,?_⟩;conv=>whnf
   rfl
  ·rw[xtw2 hlt,xtw0 hlt]
   cases full with
   |false =>
    conv=>whnf
    rfl
   |true =>
    rw[xtw3 rfl];conv=>whnf
    by_cases h8:p<8
    ·rw[xtw3 h8,xtw1 h8];conv=>whnf
     refine⟨by(try simp only[xtw7,Nt.s,oJ,xtw32,xtw6,xtw8]);unfold maxLen;omega,?_⟩;conv=>whnf
     refine⟨by(try simp only[xtw7,Nt.s,oJ,xtw32,xtw6,xtw8]);unfold maxLen;omega,?_⟩;conv=>whnf
     rfl
    ·rw[xtw2 h8,xtw0 h8];conv=>whnf
     rfl
 ·refine eN jbz jT 0 Tryz.func147 rfl ?_;intro hok;conv=>whnf
  (refine jY [] hpr ?_;rintro r rfl;conv=>whnf)
  by_cases hlt:p<req
  ·rw[xtw3 hlt,xtw1 hlt];conv=>whnf
   refine⟨by(try simp only[xtw7,Nt.s,oJ,xtw32,xtw6,xtw8]);unfold maxLen;omega,?_⟩;conv=>whnf
   refine⟨by(try simp only[xtw7,Nt.s,oJ,xtw32,xtw6,xtw8]);unfold maxLen;omega,?_⟩;conv=>whnf
   rfl
  ·rw[xtw2 hlt,xtw0 hlt]
   cases full with
   |false =>
    conv=>whnf
    rfl
   |true =>
    rw[xtw3 rfl];conv=>whnf
    by_cases h8:p<8
    ·rw[xtw3 h8,xtw1 h8];conv=>whnf
     refine⟨by(try simp only[xtw7,Nt.s,oJ,xtw32,xtw6,xtw8]);unfold maxLen;omega,?_⟩;conv=>whnf
     refine⟨by(try simp only[xtw7,Nt.s,oJ,xtw32,xtw6,xtw8]);unfold maxLen;omega,?_⟩;conv=>whnf
     rfl
    ·rw[xtw2 h8,xtw0 h8];conv=>whnf
     rfl
theorem jpS(full:Bool)(n:Nat)(hn:n<2):SH full 14 (.mk 13 n eB []):=fun req h1 h2=>by
 have e:vJ full (.mk 13 n eB []) req=pE 8 req full (tfB n):=rfl;rw[e];have har:=xZ n 2 (by decide)
 have hz:xR n 2=n:=by rcases(by omega:n=0∨n=1) with rfl|rfl <;> rfl
 have hsz:(tfB n).size<=12:=by rcases(by omega:n=0∨n=1) with rfl|rfl <;> decide
 refine⟨by have:=aL 8 req full (tfB n);omega,?_⟩;have hpr:=aM (.mk 13 n eB []);rw[show wB (Nt.mk 13 n eB []).k (Nt.mk 13 n eB []).s=8 from rfl] at hpr
 have hr:List.drop (n*1) ([cP,oK].map jJ)=jJ (tfB n)::List.drop (n+1) ([cP,oK].map jJ):=by
  rcases(by omega:n=0∨n=1) with rfl|rfl <;> rfl
 rw[hz] at har;generalize tfB n=x at *
 obtain⟨p,hp⟩:∃p:Int,p=8:=⟨_,rfl⟩
 rw[<- hp] at hpr ⊢;unfold pE;refine eN jbz jT 0 Tryz.func147 rfl ?_;intro hok;conv=>whnf
 (refine jY [] hpr ?_;rintro r rfl;conv=>whnf)
 refine jY [] har ?_;rintro r ⟨_,rfl⟩;conv=>whnf
 refine⟨⟨by omega,by omega⟩,?_⟩;conv=>whnf
 generalize hrq:List.drop (Int.toNat (n:Int)*_) _=rq;obtain rfl:rq=_::_:=hrq.symm.trans hr;clear hrq;conv=>whnf
 by_cases hlt:p<req
 ·rw[xtw3 hlt,xtw1 hlt];conv=>whnf
  refine⟨by(try simp only[xtw7,Nt.s,oJ,xtw32,xtw6,xtw8]);unfold maxLen;omega,?_⟩;conv=>whnf
  refine⟨by(try simp only[xtw7,Nt.s,oJ,xtw32,xtw6,xtw8]);unfold maxLen;omega,?_⟩;conv=>whnf
  rfl
 ·rw[xtw2 hlt,xtw0 hlt]
  cases full with
  |false =>
   conv=>whnf
   rfl
  |true =>
   rw[xtw3 rfl];conv=>whnf
   by_cases h8:p<8
   ·rw[xtw3 h8,xtw1 h8];conv=>whnf
    refine⟨by(try simp only[xtw7,Nt.s,oJ,xtw32,xtw6,xtw8]);unfold maxLen;omega,?_⟩;conv=>whnf
    refine⟨by(try simp only[xtw7,Nt.s,oJ,xtw32,xtw6,xtw8]);unfold maxLen;omega,?_⟩;conv=>whnf
    rfl
   ·rw[xtw2 h8,xtw0 h8];conv=>whnf
    rfl
theorem jsE(full:Bool)(m:Nat)(hm:m<=1000000)(f:Nt)(hf:SH full m f):SH full (m+20) (.mk 16 0 eB [f]):=fun req h1 h2=>by
 obtain⟨hs1,hsp⟩:=hf 1 (by decide) (by decide);have e:vJ full (.mk 16 0 eB [f]) req=pE 8 req full (wC [wDraw,pLp,vJ full f 1,pRp]):=rfl;rw[e];have hpr:=aM (.mk 16 0 eB [f]);rw[show wB (Nt.mk 16 0 eB [f]).k (Nt.mk 16 0 eB [f]).s=8 from rfl] at hpr
 have ht:bW [wDraw,pLp,vJ full f 1,pRp]<=m+10:=by
  rw[qQ,qQ,qQ,qQ];have a1:wDraw.size=4:=rfl;have a2:pLp.size=1:=rfl;have a3:pRp.size=1:=rfl;have a4:bW []=0:=rfl;omega
 have hal:=wE [wDraw,pLp,vJ full f 1,pRp] (by omega);have hsz:=kJ [wDraw,pLp,vJ full f 1,pRp];generalize wC [wDraw,pLp,vJ full f 1,pRp]=x at *;refine⟨by have:=aL 8 req full x;omega,?_⟩;generalize vJ full f 1=y at *;have hr:=jqN f
 obtain⟨p,hp⟩:∃p:Int,p=8:=⟨_,rfl⟩
 rw[<- hp] at hpr ⊢;unfold pE;refine eN jbz jT 0 Tryz.func147 rfl ?_;intro hok;conv=>whnf
 (refine jY [] hpr ?_;rintro r rfl;conv=>whnf)
 refine⟨by simp[Nt.kids],?_⟩;conv=>whnf
 (generalize hrq:jC _ _ (jQ (Nt.mk 16 0 eB [f]).kids)=rq;obtain rfl:rq=ntA f:=hrq.symm.trans (hr);clear hrq;conv=>whnf)
 (refine jY [] hsp ?_;rintro r rfl;conv=>whnf)
 (refine jY [0] hal ?_;rintro r rfl;conv=>whnf)
 by_cases hlt:p<req
 ·rw[xtw3 hlt,xtw1 hlt];conv=>whnf
  refine⟨by(try simp only[xtw7,Nt.s,oJ,xtw32,xtw6,xtw8]);unfold maxLen;omega,?_⟩;conv=>whnf
  refine⟨by(try simp only[xtw7,Nt.s,oJ,xtw32,xtw6,xtw8]);unfold maxLen;omega,?_⟩;conv=>whnf
  rfl
 ·rw[xtw2 hlt,xtw0 hlt]
  cases full with
  |false =>
   conv=>whnf
   rfl
  |true =>
   rw[xtw3 rfl];conv=>whnf
   by_cases h8:p<8
   ·rw[xtw3 h8,xtw1 h8];conv=>whnf
    refine⟨by(try simp only[xtw7,Nt.s,oJ,xtw32,xtw6,xtw8]);unfold maxLen;omega,?_⟩;conv=>whnf
    refine⟨by(try simp only[xtw7,Nt.s,oJ,xtw32,xtw6,xtw8]);unfold maxLen;omega,?_⟩;conv=>whnf
    rfl
   ·rw[xtw2 h8,xtw0 h8];conv=>whnf
    rfl
theorem jnZ(full:Bool)(m:Nat)(hm:m<=1000000)(s:ByteArray)(hs:s.size<=2)(f:Nt)(hf:SH full m f):SH full (m+20) (.mk 17 0 s [f]):=fun req h1 h2=>by
 have hp9:=jdI 17 s;have e:vJ full (.mk 17 0 s [f]) req=pE (wB 17 s) req full (wC [s,vJ full f (wB 17 s)]):=rfl;rw[e];have hpr:=aM (.mk 17 0 s [f]);rw[show wB (Nt.mk 17 0 s [f]).k (Nt.mk 17 0 s [f]).s=wB 17 s from rfl] at hpr;generalize wB 17 s=p at *;obtain⟨hs1,hsp⟩:=hf p (by omega) (by omega)
 have ht:bW [s,vJ full f p]<=m+4:=by
  rw[qQ,qQ];have a4:bW []=0:=rfl;omega
 have hal:=wE [s,vJ full f p] (by omega);have hsz:=kJ [s,vJ full f p];generalize wC [s,vJ full f p]=x at *;refine⟨by have:=aL p req full x;omega,?_⟩;generalize vJ full f p=y at *;have hr:=jqN f;unfold pE;refine eN jbz jT 0 Tryz.func147 rfl ?_;intro hok;conv=>whnf
 (refine jY [] hpr ?_;rintro r rfl;conv=>whnf)
 refine⟨by simp[Nt.kids],?_⟩;conv=>whnf
 (generalize hrq:jC _ _ (jQ (Nt.mk 17 0 s [f]).kids)=rq;obtain rfl:rq=ntA f:=hrq.symm.trans (hr);clear hrq;conv=>whnf)
 (refine jY [] hsp ?_;rintro r rfl;conv=>whnf)
 (refine jY [0] hal ?_;rintro r rfl;conv=>whnf)
 by_cases hlt:p<req
 ·rw[xtw3 hlt,xtw1 hlt];conv=>whnf
  refine⟨by(try simp only[xtw7,Nt.s,oJ,xtw32,xtw6,xtw8]);unfold maxLen;omega,?_⟩;conv=>whnf
  refine⟨by(try simp only[xtw7,Nt.s,oJ,xtw32,xtw6,xtw8]);unfold maxLen;omega,?_⟩;conv=>whnf
  rfl
 ·rw[xtw2 hlt,xtw0 hlt]
  cases full with
  |false =>
   conv=>whnf
   rfl
  |true =>
   rw[xtw3 rfl];conv=>whnf
   by_cases h8:p<8
   ·rw[xtw3 h8,xtw1 h8];conv=>whnf
    refine⟨by(try simp only[xtw7,Nt.s,oJ,xtw32,xtw6,xtw8]);unfold maxLen;omega,?_⟩;conv=>whnf
    refine⟨by(try simp only[xtw7,Nt.s,oJ,xtw32,xtw6,xtw8]);unfold maxLen;omega,?_⟩;conv=>whnf
    rfl
   ·rw[xtw2 h8,xtw0 h8];conv=>whnf
    rfl
theorem jiZ(full:Bool)(m:Nat)(hm:m<=1000000)(s:ByteArray)(hs:s.size<=2)(f g:Nt)(hf:SH full m f)(hg:SH full m g):SH full (2*m+20) (.mk 18 0 s [f,g]):=fun req h1 h2=>by
 have hp9:=jdI 18 s
 have hp8:wB 18 s<=7:=by
  unfold wB
  repeat' split
  all_goals first|decide|(rename_i h1 h2;exact absurd h2 (by decide))|contradiction
 have e:vJ full (.mk 18 0 s [f,g]) req=pE (wB 18 s) req full (wC [vJ full f (if wB 18 s=4 then 5 else wB 18 s),s,vJ full g (wB 18 s+1)]):=rfl;rw[e];have hpr:=aM (.mk 18 0 s [f,g]);rw[show wB (Nt.mk 18 0 s [f,g]).k (Nt.mk 18 0 s [f,g]).s=wB 18 s from rfl] at hpr;generalize wB 18 s=p at *
 obtain⟨q,hq⟩:∃q:Int,(if p=4 then 5 else p)=q:=⟨_,rfl⟩
 rw[hq]
 have hqr:0<=q/\q<=9:=by split at hq <;> omega
 obtain⟨hs1,hsp⟩:=hf q (by omega) (by omega);obtain⟨hs2,hsp2⟩:=hg (p+1) (by omega) (by omega)
 have ht:bW [vJ full f q,s,vJ full g (p+1)]<=2*m+5:=by
  rw[qQ,qQ,qQ];have a4:bW []=0:=rfl;omega
 have hal:=wE [vJ full f q,s,vJ full g (p+1)] (by omega);have hsz:=kJ [vJ full f q,s,vJ full g (p+1)];generalize wC [vJ full f q,s,vJ full g (p+1)]=x at *;refine⟨by have:=aL p req full x;omega,?_⟩;generalize vJ full f q=y at *;generalize vJ full g (p+1)=y2 at *;have hr:=jnC f g;have hr2:=jnD f g;unfold pE;refine eN jbz jT 0 Tryz.func147 rfl ?_;intro hok;conv=>whnf
 (refine jY [] hpr ?_;rintro r rfl;conv=>whnf)
 by_cases h4:p=4
 ·rw[xtw3 h4] at hq;subst hq;rw[xtw1 h4];conv=>whnf
  refine⟨by simp[Nt.kids],?_⟩;conv=>whnf
  (generalize hrq:jC _ _ (jQ (Nt.mk 18 0 s [f,g]).kids)=rq;obtain rfl:rq=ntA f:=hrq.symm.trans (hr);clear hrq;conv=>whnf)
  refine⟨by simp[Nt.kids],?_⟩;conv=>whnf
  (generalize hrq:jC _ _ (jQ (Nt.mk 18 0 s [f,g]).kids)=rq;obtain rfl:rq=ntA g:=hrq.symm.trans (hr2);clear hrq;conv=>whnf)
  refine⟨jG (by omega),?_⟩;conv=>whnf
  (refine jY [] hsp ?_;rintro r rfl;conv=>whnf)
  (refine jY [] hsp2 ?_;rintro r rfl;conv=>whnf)
  (refine jY [0] hal ?_;rintro r rfl;conv=>whnf)
  by_cases hlt:p<req
  ·rw[xtw3 hlt,xtw1 hlt];conv=>whnf
   refine⟨by(try simp only[xtw7,Nt.s,oJ,xtw32,xtw6,xtw8]);unfold maxLen;omega,?_⟩;conv=>whnf
   refine⟨by(try simp only[xtw7,Nt.s,oJ,xtw32,xtw6,xtw8]);unfold maxLen;omega,?_⟩;conv=>whnf
   rfl
  ·rw[xtw2 hlt,xtw0 hlt]
   cases full with
   |false =>
    conv=>whnf
    rfl
   |true =>
    rw[xtw3 rfl];conv=>whnf
    by_cases h8:p<8
    ·rw[xtw3 h8,xtw1 h8];conv=>whnf
     refine⟨by(try simp only[xtw7,Nt.s,oJ,xtw32,xtw6,xtw8]);unfold maxLen;omega,?_⟩;conv=>whnf
     refine⟨by(try simp only[xtw7,Nt.s,oJ,xtw32,xtw6,xtw8]);unfold maxLen;omega,?_⟩;conv=>whnf
     rfl
    ·rw[xtw2 h8,xtw0 h8];conv=>whnf
     rfl
 ·rw[xtw2 h4] at hq;subst hq;rw[xtw0 h4];conv=>whnf
  refine⟨by simp[Nt.kids],?_⟩;conv=>whnf
  (generalize hrq:jC _ _ (jQ (Nt.mk 18 0 s [f,g]).kids)=rq;obtain rfl:rq=ntA f:=hrq.symm.trans (hr);clear hrq;conv=>whnf)
  refine⟨by simp[Nt.kids],?_⟩;conv=>whnf
  (generalize hrq:jC _ _ (jQ (Nt.mk 18 0 s [f,g]).kids)=rq;obtain rfl:rq=ntA g:=hrq.symm.trans (hr2);clear hrq;conv=>whnf)
  refine⟨jG (by omega),?_⟩;conv=>whnf
  (refine jY [] hsp ?_;rintro r rfl;conv=>whnf)
  (refine jY [] hsp2 ?_;rintro r rfl;conv=>whnf)
  (refine jY [0] hal ?_;rintro r rfl;conv=>whnf)
  by_cases hlt:p<req
  ·rw[xtw3 hlt,xtw1 hlt];conv=>whnf
   refine⟨by(try simp only[xtw7,Nt.s,oJ,xtw32,xtw6,xtw8]);unfold maxLen;omega,?_⟩;conv=>whnf
   refine⟨by(try simp only[xtw7,Nt.s,oJ,xtw32,xtw6,xtw8]);unfold maxLen;omega,?_⟩;conv=>whnf
   rfl
  ·rw[xtw2 hlt,xtw0 hlt]
   cases full with
   |false =>
    conv=>whnf
    rfl
   |true =>
    rw[xtw3 rfl];conv=>whnf
    by_cases h8:p<8
    ·rw[xtw3 h8,xtw1 h8];conv=>whnf
     refine⟨by(try simp only[xtw7,Nt.s,oJ,xtw32,xtw6,xtw8]);unfold maxLen;omega,?_⟩;conv=>whnf
     refine⟨by(try simp only[xtw7,Nt.s,oJ,xtw32,xtw6,xtw8]);unfold maxLen;omega,?_⟩;conv=>whnf
     rfl
    ·rw[xtw2 h8,xtw0 h8];conv=>whnf
     rfl
def cI:Nat->Nat
 |0=>14
 |d+1=>2*cI d+20
theorem SH.mono{full:Bool}{m m':Nat}{f:Nt}(h:SH full m f)(hm:m<=m'):SH full m' f:=fun req h1 h2=>⟨xtw58 (h req h1 h2).1 hm,(h req h1 h2).2⟩
theorem jjw:∀d,14<=cI d
 |0=>xtw11 _
 |d+1=>by unfold cI;omega
theorem jky:∀s∈jjf,s.size<=12:=by decide
theorem jkH:∀s∈builtL,s.size<=12:=by decide
theorem jpj:∀n∈jmX,0<=n/\n<1000000000000:=by decide
theorem jsb:∀s∈opL,s.size<=2:=by decide
theorem joP:∀s∈jm6,s.size<=2:=by decide
theorem joU:∀s∈dD,s.size<=2:=by decide
theorem jhe(full:Bool){d:Nat}{f:Nt}(h:EI d f):cI d<=1000000->SH full (cI d) f:=by
 induction h with
 |lit d n h=>exact fun _=>(jsF full n (jpj n h)).mono (jjw d)
 |var d s h=>exact fun _=>(jnY full 14 (.inl rfl) s (jky s h)).mono (jjw d)
 |nam d s h=>exact fun _=>(jnY full 15 (.inr rfl) s (jkH s h)).mono (jjw d)
 |drw d f h ih=>intro hc;unfold cI at hc ⊢;exact(jsE full (cI d) (by omega) f (ih (by omega))).mono (by omega)
 |neg d f h ih=>intro hc;unfold cI at hc ⊢;exact(jnZ full (cI d) (by omega) qB (by decide) f (ih (by omega))).mono (by omega)
 |bin d s f g hs h1 h2 i1 i2=>intro hc;unfold cI at hc ⊢;exact jiZ full (cI d) (by omega) s (jsb s hs) f g (i1 (by omega)) (i2 (by omega))
theorem jqQ(full:Bool){d:Nat}{f:Nt}(h:EB d f):cI (d+1)<=1000000->SH full (cI (d+1)) f:=by
 induction h with
 |lit d n h=>exact fun _=>(jpS full n h).mono (jjw (d+1))
 |nt d f h ih=>intro hc;have e:cI (d+1+1)=2*cI (d+1)+20:=rfl;rw[e] at hc ⊢;exact(jnZ full (cI (d+1)) (by omega) bU (by decide) f (ih (by omega))).mono (by omega)
 |bin d s f g hs h1 h2 i1 i2=>intro hc;have e:cI (d+1+1)=2*cI (d+1)+20:=rfl;rw[e] at hc ⊢;exact jiZ full (cI (d+1)) (by omega) s (joP s hs) f g (i1 (by omega)) (i2 (by omega))
 |cmp d s f g hs h1 h2 =>
  intro hc
  have hm:cI (d-1)<=cI d:=by
   cases d with
   |zero=>exact xtw11 _
   |succ d=>rw[Nat.add_sub_cancel];have e:cI (d+1)=2*cI d+20:=rfl;omega
  have e:cI (d+1)=2*cI d+20:=rfl;rw[e] at hc ⊢;exact jiZ full (cI d) (by omega) s (joU s hs) f g ((jhe full h1 (by omega)).mono hm) ((jhe full h2 (by omega)).mono hm)
def cmF(l:List ByteArray):ByteArray:=match l with
 |[]=>eB
 |x::l=>l.foldl (fun a y=>xD (a++pComma) y) (xD eB x)
theorem jfP(x:ByteArray)(l:List ByteArray)(y:ByteArray):cmF (x::l++[y])=xD (cmF (x::l)++pComma) y:=by
 unfold cmF;show(l++[y]).foldl _ _=_;rw[xtw126];rfl
theorem jmi:∀(l:List ByteArray),(cmF l).size<=bW l+l.length:=fun l=>by
 induction h:l.length generalizing l with
 |zero=>rw[xtw15 h];exact xtw19 _
 |succ n ih =>
  obtain⟨m,y,rfl⟩:∃m y,l=m++[y]:=by
   have hne:l≠[]:=fun e=>by rw[e] at h;cases h
   exact⟨l.dropLast,l.getLast hne,(List.dropLast_concat_getLast hne).symm⟩
  have hm:m.length=n:=by simpa using h
  have:=ih m hm;rw[jce]
  cases m with
  |nil =>
   show(xD eB y).size<=_;have:=dJ eB y;have e0:eB.size=0:=rfl;omega
  |cons x m =>
   rw[jfP];have g:=dJ (cmF (x::m)++pComma) y;have e1:pComma.size=1:=rfl;rw[xtw7] at g;omega
def nU(full:Bool)(l:List Nt):ByteArray:=cmF (l.map fun f=>vJ full f 1)++pSemi
theorem jdr(full:Bool)(m:Nat)(hm:m<=1000000)(l:List Nt)(hl:l.length<=100)(hf:∀f∈l,SH full m f):(nU full l).size<=l.length*(m+2)+1/\Spec Tryz.prog 146 [] [.sl 4 l.length (jQ l),qA full] fun _ r=>r=jJ (nU full l):=by
 have hts:∀j,j<=l.length->(cmF ((l.take j).map fun f=>vJ full f 1)).size<=j*(m+2):=fun j hj=>by
  have h1:=jmi ((l.take j).map fun f=>vJ full f 1)
  have h2:bW ((l.take j).map fun f=>vJ full f 1)<=j*(m+1):=by
   clear h1
   induction j with
   |zero=>rw[xtw99];exact xtw19 _
   |succ j ih =>
    have:=ih (by omega);rw[xtw26 (by omega),xtw59,xtw22,xtw104,jce,Nat.succ_mul];have:=(hf (l[j]'(by omega)) (xtw10 _) 1 (by decide) (by decide)).1;omega
  rw[xtw44,xtw38,xtw112 hj] at h1
  have e:j*(m+2)=j*(m+1)+j:=by rw[show m+2=(m+1)+1 by omega,Nat.mul_add,xtw84]
  omega
 have hbig:l.length*(m+2)<=100*1000002:=Nat.mul_le_mul hl (by omega);have e1:pSemi.size=1:=rfl;have e2:pComma.size=1:=rfl;refine⟨?_,?_⟩
 ·unfold nU;rw[xtw7];have:=hts l.length (xtw11 _);rw[xtw54] at this;omega
 unfold nU;refine eN jK jT 0 Tryz.func146 rfl ?_;intro _;conv=>whnf
 refine jA [0,1] ?_;conv=>whnf
 refine jE (fun j:Nat=>[(5,jJ (cmF ((l.take j).map fun f=>vJ full f 1))),(6,.v (.int .i64 j))]) (fun _=>[]) (fun _=>[]) (fun j=>j<=l.length) (fun j=>l.length-j) 0 ?_ (xtw19 _) ?_
 ·repeat' constructor
 intro j hj;have hsz:=hts j hj;have hjm:j*(m+2)<=l.length*(m+2):=xtw70 _ hj;conv=>whnf
 by_cases hlt:j<l.length
 ·rw[xtw1 (show(j:Int)<l.length by omega)];have hr:=jR l j hlt;obtain⟨hs1,hsp⟩:=hf l[j] (xtw10 hlt) 1 (by decide) (by decide);have htk:l.take (j+1)=l.take j++[l[j]]:=xtw26 hlt;generalize l[j]=f at *;conv=>whnf
  by_cases h0:0<j
  ·rw[xtw1 (show 0<(j:Int) by omega)]
   have e:cmF ((l.take (j+1)).map fun f=>vJ full f 1)=xD (cmF ((l.take j).map fun f=>vJ full f 1)++pComma) (vJ full f 1):=by
    rw[htk,xtw59]
    cases hq:l.take j with
    |nil =>
     have:=congrArg List.length hq;rw[xtw38,xtw8] at this;omega
    |cons a b=>exact jfP _ _ _
   generalize cmF ((l.take j).map fun f=>vJ full f 1)=a at *;generalize vJ full f 1=b at *;have hg:=dK (a++pComma) b (by rw[xtw7];omega) (by omega);conv=>whnf
   refine⟨by show a.size+pComma.size<=maxLen;unfold maxLen;omega,?_⟩;conv=>whnf
   refine⟨by omega,?_⟩;conv=>whnf
   (generalize hrq:jC _ _ (jQ l)=rq;obtain rfl:rq=ntA f:=hrq.symm.trans (hr);clear hrq;conv=>whnf)
   (refine jY [] hsp ?_;rintro r rfl;conv=>whnf)
   (refine jY [] hg ?_;rintro r rfl;conv=>whnf)
   refine⟨jG (by omega),?_⟩;conv=>whnf
   refine⟨j+1,jD [] ?_,hlt,by omega⟩;conv=>whnf
   rw[e];repeat' constructor
  ·rw[xtw0 (show ¬0<(j:Int) by omega)]
   obtain rfl:j=0:=by omega
   have e:cmF ((l.take (0+1)).map fun f=>vJ full f 1)=xD (cmF ((l.take 0).map fun f=>vJ full f 1)) (vJ full f 1):=by
    rw[htk];rfl
   have hg:=dK (cmF ((l.take 0).map fun f=>vJ full f 1)) (vJ full f 1) (by omega) (by omega);generalize cmF ((l.take 0).map fun f=>vJ full f 1)=a at *;generalize vJ full f 1=b at *;conv=>whnf
   refine⟨by omega,?_⟩;conv=>whnf
   (generalize hrq:jC _ _ (jQ l)=rq;obtain rfl:rq=ntA f:=hrq.symm.trans (hr);clear hrq;conv=>whnf)
   (refine jY [] hsp ?_;rintro r rfl;conv=>whnf)
   (refine jY [] hg ?_;rintro r rfl;conv=>whnf)
   refine⟨jG (by omega),?_⟩;conv=>whnf
   refine⟨0+1,jD [] ?_,hlt,by omega⟩;conv=>whnf
   rw[e];repeat' constructor
 ·rw[xtw0 (show ¬(j:Int)<l.length by omega)];rw[show j=l.length by omega,xtw54] at hsz ⊢;conv=>whnf
  refine⟨by show(cmF _).size+pSemi.size<=maxLen;unfold maxLen;omega,?_⟩;conv=>whnf
  rfl
def lA(id:Nat):Tr:=match Nat.beq id 3 with|true=>.q 0 3 (.q 1 0 (.q 2 3 (.q 3 0 (.q 4 3 (.alt 5 1 (.alt 6 1 (.alt 7 1 (.q 8 3 (.nil)) (.nil)) (.nil)) (.nil))))))|false=>match Nat.beq id 5 with|true=>.q 0 3 (.q 1 0 (.q 2 3 (.q 3 0 (.q 4 3 (.q 6 3 (.q 7 0 (.q 8 3 (.q 9 0 (.q 10 3 (.alt 5 1 (.alt 11 1 (.alt 12 1 (.alt 13 1 (.q 14 3 (.nil)) (.nil)) (.nil)) (.nil)) (.nil)))))))))))|false=>match Nat.beq id 7 with|true=>.q 0 3 (.q 1 0 (.q 2 3 (.q 3 0 (.q 4 3 (.q 6 3 (.q 7 0 (.q 9 3 (.q 10 0 (.q 11 3 (.q 12 3 (.alt 5 1 (.alt 8 1 (.alt 13 1 (.alt 14 1 (.alt 15 1 (.q 16 3 (.nil)) (.nil)) (.nil)) (.nil)) (.nil)) (.nil))))))))))))|false=>match Nat.beq id 20 with|true=>.q 0 3 (.q 1 0 (.q 2 3 (.q 3 0 (.q 4 3 (.q 6 3 (.q 7 0 (.q 8 3 (.q 9 0 (.q 10 3 (.alt 5 1 (.alt 11 1 (.alt 12 1 (.alt 13 1 (.q 14 3 (.nil)) (.nil)) (.nil)) (.nil)) (.nil)))))))))))|false=>.nil
def syncB:ByteArray:=⟨#[115,121,110,99,59]⟩
def stopB:ByteArray:=⟨#[115,116,111,112,59]⟩
def kid(l:List Nt)(i:Nat):Nt:=l.getD i (.mk 0 0 eB [])
def stB(full:Bool)(k n:Int)(s:ByteArray)(kids:List Nt)(bks:List ByteArray):ByteArray :=
 if k=1 then wC [s,pEq,nU full kids]
 else if k=3 then wC [wWhile,vJ full (kid kids 0) 1,bks.getD 1 eB]
 else if k=4 then wC [wSend,vJ full (kid kids 0) 1,pComma,bs (aV n.toNat),pComma,nU full (kids.drop 1)]
 else if k=5 then wC [wTimer,bs (aV n.toNat),pSemi]
 else if k=6 then wC [wCancel,bs (aV n.toNat),pSemi]
 else if k=7 then syncB
 else if k=10 then stopB
 else if k=8 then wC [wReply,nU full kids]
 else if k=9 then wC [wFail,nU full kids]
 else if 0<(kid kids 2).kids.length then wC [wC [wIf,vJ full (kid kids 0) 1,bks.getD 1 eB],wElse,bks.getD 2 eB] else wC [wIf,vJ full (kid kids 0) 1,bks.getD 1 eB]
mutual
def stP(full:Bool):Nt->ByteArray
 |.mk k n s kids=>stB full k n s kids (jt9 full kids)
def bkP(full:Bool):Nt->ByteArray
 |.mk _ _ _ kids=>(jpW full kids).foldl xD pLb++pRb
def jpW(full:Bool):List Nt->List ByteArray
 |[]=>[]
 |f::l=>stP full f::jpW full l
def jt9(full:Bool):List Nt->List ByteArray
 |[]=>[]
 |f::l=>bkP full f::jt9 full l
end
def ST(full:Bool)(m:Nat)(f:Nt):Prop:=(stP full f).size<=m/\Spec Tryz.prog 130 [] [.agg (ntA f),qA full] fun _ r=>r=jJ (stP full f)
def BK(full:Bool)(m:Nat)(f:Nt):Prop:=(bkP full f).size<=m/\Spec Tryz.prog 99 [] [.agg (ntA f),qA full] fun _ r=>r=jJ (bkP full f)
theorem jqO(f g h:Nt):jC 4 0 (jQ [f,g,h])=ntA f/\jC 4 1 (jQ [f,g,h])=ntA g/\jC 4 2 (jQ [f,g,h])=ntA h:=⟨jR [f,g,h] 0 (by simp),jR [f,g,h] 1 (by simp),jR [f,g,h] 2 (by simp)⟩
theorem jj6(full:Bool)(k:Int)(hk:k=1∨k=8∨k=9)(s:ByteArray)(hs:s.size<=12)(m:Nat)(hm:m<=1000000)(l:List Nt)(hl:l.length<=2)(hf:∀f∈l,SH full m f):ST full (2*m+40) (.mk k 0 s l):=by
 obtain⟨hz,hsp⟩:=jdr full m hm l (by omega) hf;have hlm:l.length*(m+2)<=2*(m+2):=xtw70 _ hl;have c1:pEq.size=1:=rfl;have c2:wReply.size=5:=rfl;have c3:wFail.size=4:=rfl;rcases hk with rfl|rfl|rfl
 ·have e:stP full (.mk 1 0 s l)=wC [s,pEq,nU full l]:=rfl;unfold ST;rw[e];generalize nU full l=x at *
  have ht:bW [s,pEq,x]<=2*m+40:=by
   simp only[qQ];have a0:bW []=0:=rfl;omega
  have hal:=wE [s,pEq,x] (by omega);have hsz:=kJ [s,pEq,x];refine⟨by omega,?_⟩;refine eN lA jT 0 Tryz.func130 rfl ?_;intro hok;conv=>whnf
  (refine jY [] hsp ?_;rintro r rfl;conv=>whnf)
  (refine jY [0] hal ?_;rintro r rfl;conv=>whnf)
  rfl
 ·have e:stP full (.mk 8 0 s l)=wC [wReply,nU full l]:=rfl;unfold ST;rw[e];generalize nU full l=x at *
  have ht:bW [wReply,x]<=2*m+40:=by
   simp only[qQ];have a0:bW []=0:=rfl;omega
  have hal:=wE [wReply,x] (by omega);have hsz:=kJ [wReply,x];refine⟨by omega,?_⟩;refine eN lA jT 0 Tryz.func130 rfl ?_;intro hok;conv=>whnf
  (refine jY [] hsp ?_;rintro r rfl;conv=>whnf)
  (refine jY [0] hal ?_;rintro r rfl;conv=>whnf)
  rfl
 ·have e:stP full (.mk 9 0 s l)=wC [wFail,nU full l]:=rfl;unfold ST;rw[e];generalize nU full l=x at *
  have ht:bW [wFail,x]<=2*m+40:=by
   simp only[qQ];have a0:bW []=0:=rfl;omega
  have hal:=wE [wFail,x] (by omega);have hsz:=kJ [wFail,x];refine⟨by omega,?_⟩;refine eN lA jT 0 Tryz.func130 rfl ?_;intro hok;conv=>whnf
  (refine jY [] hsp ?_;rintro r rfl;conv=>whnf)
  (refine jY [0] hal ?_;rintro r rfl;conv=>whnf)
  rfl
theorem jo6(full:Bool)(k:Int)(hk:k=5∨k=6)(n:Nat)(hn:n<1000):ST full 40 (.mk k n eB []):=by
 have hdc:=vM n (by omega);have hds:=gE n (by omega);have c1:pSemi.size=1:=rfl;have c2:wTimer.size=5:=rfl;have c3:wCancel.size=6:=rfl;rcases hk with rfl|rfl
 ·have e:stP full (.mk 5 n eB [])=wC [wTimer,bs (aV n),pSemi]:=rfl;unfold ST;rw[e];generalize bs (aV n)=x at *
  have ht:bW [wTimer,x,pSemi]<=40:=by
   simp only[qQ];have a0:bW []=0:=rfl;omega
  have hal:=wE [wTimer,x,pSemi] (by omega);have hsz:=kJ [wTimer,x,pSemi];refine⟨by omega,?_⟩;refine eN lA jT 0 Tryz.func130 rfl ?_;intro hok;conv=>whnf
  (refine jY [] hdc ?_;rintro r rfl;conv=>whnf)
  (refine jY [0] hal ?_;rintro r rfl;conv=>whnf)
  rfl
 ·have e:stP full (.mk 6 n eB [])=wC [wCancel,bs (aV n),pSemi]:=rfl;unfold ST;rw[e];generalize bs (aV n)=x at *
  have ht:bW [wCancel,x,pSemi]<=40:=by
   simp only[qQ];have a0:bW []=0:=rfl;omega
  have hal:=wE [wCancel,x,pSemi] (by omega);have hsz:=kJ [wCancel,x,pSemi];refine⟨by omega,?_⟩;refine eN lA jT 0 Tryz.func130 rfl ?_;intro hok;conv=>whnf
  (refine jY [] hdc ?_;rintro r rfl;conv=>whnf)
  (refine jY [0] hal ?_;rintro r rfl;conv=>whnf)
  rfl
theorem jo7(full:Bool)(k:Int)(hk:k=7∨k=10):ST full 40 (.mk k 0 eB []):=by
 rcases hk with rfl|rfl
 ·refine⟨show syncB.size<=40 by decide,?_⟩;refine eN lA jT 0 Tryz.func130 rfl ?_;intro hok;conv=>whnf
  rfl
 ·refine⟨show stopB.size<=40 by decide,?_⟩;refine eN lA jT 0 Tryz.func130 rfl ?_;intro hok;conv=>whnf
  rfl
theorem jsJ(full:Bool)(n:Nat)(hn:n<1000)(m:Nat)(hm:m<=1000000)(f g h:Nt)(hf:SH full m f)(hg:SH full m g)(hh:SH full m h):ST full (3*m+80) (.mk 4 n eB [f,g,h]):=by
 obtain⟨hz,hsp2⟩:=jdr full m hm [g,h] (by simp) (fun x hx=>by
  simp only[xtw13,xtw42,xtw81] at hx;rcases hx with rfl|rfl
  ·exact hg
  ·exact hh)
 obtain⟨hs1,hsp⟩:=hf 1 (by decide) (by decide);have hdc:=vM n (by omega);have hds:=gE n (by omega);have c1:pComma.size=1:=rfl;have c2:wSend.size=4:=rfl;have c3:[g,h].length=2:=rfl;have e:stP full (.mk 4 n eB [f,g,h])=wC [wSend,vJ full f 1,pComma,bs (aV n),pComma,nU full [g,h]]:=rfl;unfold ST;rw[e];generalize nU full [g,h]=x at *;generalize bs (aV n)=d at *;generalize vJ full f 1=y at *;rw[c3] at hz
 have ht:bW [wSend,y,pComma,d,pComma,x]<=3*m+80:=by
  simp only[qQ];have a0:bW []=0:=rfl;omega
 have hal:=wE [wSend,y,pComma,d,pComma,x] (by omega);have hsz:=kJ [wSend,y,pComma,d,pComma,x];refine⟨by omega,?_⟩;have hr:=(jqO f g h).1
 have hdr:((jQ [f,g,h]).drop 4).take 8=jQ [g,h]:=by
  rw[qV f [g,h],List.drop_left' (by rfl),xtw56 (by rw[jn9];simp)]
 refine eN lA jT 0 Tryz.func130 rfl ?_;intro hok;conv=>whnf
 refine⟨by simp[Nt.kids],?_⟩;conv=>whnf
 (generalize hrq:jC _ _ (jQ (Nt.mk 4 n eB [f,g,h]).kids)=rq;obtain rfl:rq=ntA f:=hrq.symm.trans (hr);clear hrq;conv=>whnf)
 refine⟨by simp[Nt.kids],?_⟩;conv=>whnf
 (refine jY [] hsp ?_;rintro r rfl;conv=>whnf)
 (refine jY [] hdc ?_;rintro r rfl;conv=>whnf)
 rw[<- hdr] at hsp2
 (refine jY [] hsp2 ?_;rintro r rfl;conv=>whnf)
 (refine jY [0] hal ?_;rintro r rfl;conv=>whnf)
 rfl
theorem jsK(full:Bool)(m:Nat)(hm:m<=100000000)(c b:Nt)(hc:SH full m c)(hb:BK full m b):ST full (2*m+40) (.mk 3 0 eB [c,b]):=by
 obtain⟨hs1,hsp⟩:=hc 1 (by decide) (by decide);obtain⟨hs2,hsp2⟩:=hb;have c2:wWhile.size=5:=rfl;have e:stP full (.mk 3 0 eB [c,b])=wC [wWhile,vJ full c 1,bkP full b]:=rfl;unfold ST;rw[e];generalize vJ full c 1=y at *;generalize bkP full b=x at *
 have ht:bW [wWhile,y,x]<=2*m+40:=by
  simp only[qQ];have a0:bW []=0:=rfl;omega
 have hal:=wE [wWhile,y,x] (by omega);have hsz:=kJ [wWhile,y,x];refine⟨by omega,?_⟩;have hr:=jnC c b;have hr2:=jnD c b;refine eN lA jT 0 Tryz.func130 rfl ?_;intro hok;conv=>whnf
 refine⟨by simp[Nt.kids],?_⟩;conv=>whnf
 (generalize hrq:jC _ _ (jQ (Nt.mk 3 0 eB [c,b]).kids)=rq;obtain rfl:rq=ntA c:=hrq.symm.trans (hr);clear hrq;conv=>whnf)
 refine⟨by simp[Nt.kids],?_⟩;conv=>whnf
 (generalize hrq:jC _ _ (jQ (Nt.mk 3 0 eB [c,b]).kids)=rq;obtain rfl:rq=ntA b:=hrq.symm.trans (hr2);clear hrq;conv=>whnf)
 (refine jY [] hsp ?_;rintro r rfl;conv=>whnf)
 (refine jY [] hsp2 ?_;rintro r rfl;conv=>whnf)
 (refine jY [0] hal ?_;rintro r rfl;conv=>whnf)
 rfl
theorem jsI(full:Bool)(m:Nat)(hm:m<=50000000)(c b d:Nt)(hc:SH full m c)(hb:BK full m b)(hd:BK full m d):ST full (3*m+60) (.mk 2 0 eB [c,b,d]):=by
 obtain⟨hs1,hsp⟩:=hc 1 (by decide) (by decide);obtain⟨hs2,hsp2⟩:=hb;obtain⟨hs3,hsp3⟩:=hd;have c2:wIf.size=2:=rfl;have c3:wElse.size=4:=rfl;have e:stP full (.mk 2 0 eB [c,b,d])=if 0<d.kids.length then wC [wC [wIf,vJ full c 1,bkP full b],wElse,bkP full d] else wC [wIf,vJ full c 1,bkP full b]:=rfl;unfold ST;rw[e];generalize vJ full c 1=y at *;generalize bkP full b=x at *;generalize bkP full d=z at *
 have ht:bW [wIf,y,x]<=2*m+10:=by
  simp only[qQ];have a0:bW []=0:=rfl;omega
 have hal:=wE [wIf,y,x] (by omega);have hsz:=kJ [wIf,y,x];generalize wC [wIf,y,x]=v at *
 have ht2:bW [v,wElse,z]<=3*m+30:=by
  simp only[qQ];have a0:bW []=0:=rfl;omega
 have hal2:=wE [v,wElse,z] (by omega);have hsz2:=kJ [v,wElse,z];refine⟨by split <;> omega,?_⟩;obtain⟨hr,hr2,hr3⟩:=jqO c b d;by_cases hl:0<d.kids.length
 ·rw[xtw3 hl];refine eN lA jT 0 Tryz.func130 rfl ?_;intro hok;conv=>whnf
  refine⟨by simp[Nt.kids],?_⟩;conv=>whnf
  (generalize hrq:jC _ _ (jQ (Nt.mk 2 0 eB [c,b,d]).kids)=rq;obtain rfl:rq=ntA c:=hrq.symm.trans (hr);clear hrq;conv=>whnf)
  refine⟨by simp[Nt.kids],?_⟩;conv=>whnf
  (generalize hrq:jC _ _ (jQ (Nt.mk 2 0 eB [c,b,d]).kids)=rq;obtain rfl:rq=ntA b:=hrq.symm.trans (hr2);clear hrq;conv=>whnf)
  (refine jY [] hsp ?_;rintro r rfl;conv=>whnf)
  (refine jY [] hsp2 ?_;rintro r rfl;conv=>whnf)
  (refine jY [0] hal ?_;rintro r rfl;conv=>whnf)
  refine⟨by simp[Nt.kids],?_⟩;conv=>whnf
  (generalize hrq:jC _ _ (jQ (Nt.mk 2 0 eB [c,b,d]).kids)=rq;obtain rfl:rq=ntA d:=hrq.symm.trans (hr3);clear hrq;conv=>whnf)
  rw[xtw1 (show 0<(d.kids.length:Int) by omega)];conv=>whnf
  refine⟨by simp[Nt.kids],?_⟩;conv=>whnf
  (generalize hrq:jC _ _ (jQ (Nt.mk 2 0 eB [c,b,d]).kids)=rq;obtain rfl:rq=ntA d:=hrq.symm.trans (hr3);clear hrq;conv=>whnf)
  (refine jY [] hsp3 ?_;rintro r rfl;conv=>whnf)
  (refine jY [1] hal2 ?_;rintro r rfl;conv=>whnf)
  rfl
 ·rw[xtw2 hl];refine eN lA jT 0 Tryz.func130 rfl ?_;intro hok;conv=>whnf
  refine⟨by simp[Nt.kids],?_⟩;conv=>whnf
  (generalize hrq:jC _ _ (jQ (Nt.mk 2 0 eB [c,b,d]).kids)=rq;obtain rfl:rq=ntA c:=hrq.symm.trans (hr);clear hrq;conv=>whnf)
  refine⟨by simp[Nt.kids],?_⟩;conv=>whnf
  (generalize hrq:jC _ _ (jQ (Nt.mk 2 0 eB [c,b,d]).kids)=rq;obtain rfl:rq=ntA b:=hrq.symm.trans (hr2);clear hrq;conv=>whnf)
  (refine jY [] hsp ?_;rintro r rfl;conv=>whnf)
  (refine jY [] hsp2 ?_;rintro r rfl;conv=>whnf)
  (refine jY [0] hal ?_;rintro r rfl;conv=>whnf)
  refine⟨by simp[Nt.kids],?_⟩;conv=>whnf
  (generalize hrq:jC _ _ (jQ (Nt.mk 2 0 eB [c,b,d]).kids)=rq;obtain rfl:rq=ntA d:=hrq.symm.trans (hr3);clear hrq;conv=>whnf)
  rw[xtw0 (show ¬0<(d.kids.length:Int) by omega)];conv=>whnf
  rfl
theorem jhr(full:Bool):∀l:List Nt,jpW full l=l.map (stP full)
 |[]=>rfl
 |f::l=>by rw[jpW,jhr full l];rfl
def bkL(full:Bool)(l:List Nt):ByteArray:=(l.map (stP full)).foldl xD pLb
theorem jfA(full:Bool)(l:List Nt)(f:Nt):bkL full (l++[f])=xD (bkL full l) (stP full f):=by
 unfold bkL;rw[xtw59,xtw126];rfl
theorem jrc(full:Bool)(k n:Int)(s:ByteArray)(l:List Nt):bkP full (.mk k n s l)=bkL full l++pRb:=by
 rw[bkP,jhr];rfl
theorem ja3(full:Bool)(m:Nat)(hm:m<=1000000)(l:List Nt)(hl:l.length<=3)(hf:∀f∈l,ST full m f):BK full (3*m+10) (yG l):=by
 have hsz:∀j,j<=l.length->(bkL full (l.take j)).size<=j*(m+1)+1:=fun j hj=>by
  induction j with
  |zero =>
   have:pLb.size=1:=rfl;rw[xtw99];show pLb.size<=_;omega
  |succ j ih =>
   have:=ih (by omega);rw[xtw26 (by omega),jfA,Nat.succ_mul];have h1:=(hf (l[j]'(by omega)) (xtw10 _)).1;have h2:=dJ (bkL full (l.take j)) (stP full (l[j]'(by omega)));omega
 have e1:pRb.size=1:=rfl;have hlm:l.length*(m+1)<=3*(m+1):=xtw70 _ hl;unfold BK yG;rw[jrc];refine⟨?_,?_⟩
 ·rw[xtw7];have:=hsz l.length (xtw11 _);rw[xtw54] at this;omega
 refine eN jK jT 0 Tryz.func99 rfl ?_;intro _;conv=>whnf
 refine jA [1,2] ?_;conv=>whnf
 refine jE (fun j:Nat=>[(5,jJ (bkL full (l.take j))),(6,.v (.int .i64 j))]) (fun _=>[[intA 11,intA 0,jJ eB,.sl 4 l.length (jQ l)]]) (fun _=>[]) (fun j=>j<=l.length) (fun j=>l.length-j) 0 ?_ (xtw19 _) ?_
 ·repeat' constructor
 intro j hj;have hs:=hsz j hj;have hjm:j*(m+1)<=l.length*(m+1):=xtw70 _ hj;conv=>whnf
 by_cases hlt:j<l.length
 ·rw[xtw1 (show(j:Int)<l.length by omega)];have hr:=jR l j hlt;obtain⟨hs1,hsp⟩:=hf l[j] (xtw10 hlt)
  have e:bkL full (l.take (j+1))=xD (bkL full (l.take j)) (stP full l[j]):=by rw[xtw26 hlt,jfA]
  generalize l[j]=f at *;have hg:=dK (bkL full (l.take j)) (stP full f) (by omega) (by omega);conv=>whnf
  refine⟨by omega,?_⟩;conv=>whnf
  (generalize hrq:jC _ _ (jQ l)=rq;obtain rfl:rq=ntA f:=hrq.symm.trans (hr);clear hrq;conv=>whnf)
  (refine jY [] hsp ?_;rintro r rfl;conv=>whnf)
  (refine jY [] hg ?_;rintro r rfl;conv=>whnf)
  refine⟨jG (by omega),?_⟩;conv=>whnf
  refine⟨j+1,jD [] ?_,hlt,by omega⟩;conv=>whnf
  rw[e];repeat' constructor
 ·rw[xtw0 (show ¬(j:Int)<l.length by omega)];rw[show j=l.length by omega,xtw54] at hs ⊢;conv=>whnf
  refine⟨by show(bkL full l).size+pRb.size<=maxLen;unfold maxLen;omega,?_⟩;conv=>whnf
  rfl
def cS:Nat->Nat
 |0=>900
 |d+1=>700+3*(3*cS d+10)
theorem ST.mono{full:Bool}{m m':Nat}{f:Nt}(h:ST full m f)(hm:m<=m'):ST full m' f:=⟨xtw58 h.1 hm,h.2⟩
theorem BK.mono{full:Bool}{m m':Nat}{f:Nt}(h:BK full m f)(hm:m<=m'):BK full m' f:=⟨xtw58 h.1 hm,h.2⟩
theorem iI:∀d,900<=cS d
 |0=>xtw11 _
 |d+1=>by have:=iI d;unfold cS;omega
theorem jud(full:Bool){d:Nat}{f:Nt}(h:ES d f):cS d<=1000000->ST full (cS d) f:=by
 have i0:cI 0=14:=rfl;have i1:cI 1=48:=rfl;have i2:cI 2=116:=rfl;have i3:cI 3=252:=rfl
 have hI:∀{e:Nat} {f:Nt},EI e f->e<=2->SH full 252 f:=fun {e f} h he=>by
  rcases(by omega:e=0∨e=1∨e=2) with rfl|rfl|rfl
  ·exact(jhe full h (by decide)).mono (by decide)
  ·exact(jhe full h (by decide)).mono (by decide)
  ·exact(jhe full h (by decide)).mono (by decide)
 have hB:∀{e:Nat} {f:Nt},EB e f->e=1∨e=2->SH full 252 f:=fun {e f} h he=>by
  rcases he with rfl|rfl
  ·exact(jqQ full h (by decide)).mono (by decide)
  ·exact(jqQ full h (by decide)).mono (by decide)
 have one:∀{f:Nt},SH full 252 f->∀x∈[f],SH full 252 x:=fun {f} h x hx=>by rw[xtw16.1 hx];exact h
 have two:∀{f g:Nt},SH full 252 f->SH full 252 g->∀x∈[f,g],SH full 252 x:=fun {f g} h k x hx=>by
  rcases xtw13.1 hx with rfl|hx
  ·exact h
  ·rw[xtw16.1 hx];exact k
 induction h with
 |asg d e s f hs h he=>exact fun _=>(jj6 full 1 (.inl rfl) s (jky s hs) 252 (by decide) [f] (by simp) (one (hI h he))).mono (xtw58 (by decide) (iI d))
 |snd d n f g h hn h1 h2 h3=>exact fun _=>(jsJ full n (by omega) 252 (by decide) f g h (hI h1 (by decide)) (hI h2 (by decide)) (hI h3 (by decide))).mono (xtw58 (by decide) (iI d))
 |tim d n hn=>exact fun _=>(jo6 full 5 (.inl rfl) n (by omega)).mono (xtw58 (by decide) (iI d))
 |can d n hn=>exact fun _=>(jo6 full 6 (.inr rfl) n (by omega)).mono (xtw58 (by decide) (iI d))
 |syn d=>exact fun _=>(jo7 full 7 (.inl rfl)).mono (xtw58 (by decide) (iI d))
 |rep d f g h1 h2=>exact fun _=>(jj6 full 8 (.inr (.inl rfl)) eB (by decide) 252 (by decide) [f,g] (by simp) (two (hI h1 (by decide)) (hI h2 (by decide)))).mono (xtw58 (by decide) (iI d))
 |fai d f h1=>exact fun _=>(jj6 full 9 (.inr (.inr rfl)) eB (by decide) 252 (by decide) [f] (by simp) (one (hI h1 (by decide)))).mono (xtw58 (by decide) (iI d))
 |stp d=>exact fun _=>(jo7 full 10 (.inr rfl)).mono (xtw58 (by decide) (iI d))
 |whi d c l h1 h2 h3 ih =>
  intro hc;have e:cS (d+1)=700+3*(3*cS d+10):=rfl;rw[e] at hc ⊢;have hge:=iI d;have hb:=ja3 full (cS d) (by omega) l (by omega) (fun s hs=>ih s hs (by omega));exact(jsK full (3*cS d+10) (by omega) c (yG l) ((hB h1 (.inl rfl)).mono (by omega)) hb).mono (by omega)
 |iff d c l m h1 h2 h3 h4 h5 ih1 ih2 =>
  intro hc;have e:cS (d+1)=700+3*(3*cS d+10):=rfl;rw[e] at hc ⊢;have hge:=iI d;have hb:=ja3 full (cS d) (by omega) l (by omega) (fun s hs=>ih1 s hs (by omega));have hb2:=ja3 full (cS d) (by omega) m (by omega) (fun s hs=>ih2 s hs (by omega));exact(jsI full (3*cS d+10) (by omega) c (yG l) (yG m) ((hB h1 (.inr rfl)).mono (by omega)) hb hb2).mono (by omega)
theorem jt8(full:Bool){b:Nt}(h:EK b):BK full 300000 b:=by
 obtain⟨k,rfl,h1,h2⟩:=h;have e2:cS 2=80200:=rfl;exact(ja3 full (cS 2) (by omega) k h1 (fun s hs=>jud full (h2 s hs) (by omega))).mono (by omega)
def wMsgS:ByteArray:=⟨#[109,101,115,115,97,103,101,32]⟩
def wTimS:ByteArray:=⟨#[116,105,109,101,114,32]⟩
def hdW(n:Int):ByteArray:=if n=1 then wRequest else if 10<=n then wMsgS++bs (aV (n-10).toNat) else if 2<=n then wTimS++bs (aV (n-2).toNat) else wStart
def hdN(full:Bool)(h:Int×Nt):ByteArray:=wC [wOn,hdW h.1,bkP full h.2]
def HN(full:Bool)(h:Int×Nt):Prop:=(hdN full h).size<=400000/\Spec Tryz.prog 54 [] [.agg (tC h),qA full] fun _ r=>r=jJ (hdN full h)
theorem jp9(full:Bool)(h:Int×Nt)(hn:0<=h.1/\h.1<40)(hb:BK full 300000 h.2):HN full h:=by
 obtain⟨hs1,hsp⟩:=hb
 have hw:(hdW h.1).size<=20:=by
  unfold hdW;have a1:wRequest.size=7:=rfl;have a2:wMsgS.size=8:=rfl;have a3:wTimS.size=6:=rfl;have a4:wStart.size=5:=rfl;have d1:=gE (h.1-10).toNat (by omega);have d2:=gE (h.1-2).toNat (by omega)
  repeat' split
  all_goals(try simp only[xtw7]);omega
 have ht:bW [wOn,hdW h.1,bkP full h.2]<=350000:=by
  simp only[qQ];have a0:bW []=0:=rfl;have a1:wOn.size=2:=rfl;omega
 have hal:=wE [wOn,hdW h.1,bkP full h.2] (by omega);have hsz:=kJ [wOn,hdW h.1,bkP full h.2];unfold HN hdN;refine⟨by omega,?_⟩;generalize bkP full h.2=x at *
 obtain⟨R,hR⟩:∃R,hdW h.1=R:=⟨_,rfl⟩
 rw[hR] at hal hsz ht hw ⊢;unfold hdW at hR;have b2:wMsgS.size=8:=rfl;have b3:wTimS.size=6:=rfl;refine eN jK jT 0 Tryz.func54 rfl ?_;intro _;conv=>whnf
 by_cases h1:h.1=1
 ·rw[xtw3 h1] at hR;subst hR;rw[xtw1 h1];conv=>whnf
  (refine jY [] hsp ?_;rintro r rfl;conv=>whnf)
  (refine jY [0] hal ?_;rintro r rfl;conv=>whnf)
  rfl
 rw[xtw2 h1] at hR;rw[xtw0 h1];conv=>whnf
 by_cases h10:10<=h.1
 ·rw[xtw3 h10] at hR;have hdc:=vM (h.1-10).toNat (by omega);have d1:=gE (h.1-10).toNat (by omega);rw[show(((h.1-10).toNat:Nat):Int)=h.1-10 by omega] at hdc;generalize bs (aV (h.1-10).toNat)=d at *;subst hR;rw[xtw1 h10];conv=>whnf
  refine⟨jG (by omega),?_⟩;conv=>whnf
  (refine jY [] hdc ?_;rintro r rfl;conv=>whnf)
  refine⟨by show wMsgS.size+d.size<=maxLen;unfold maxLen;omega,?_⟩;conv=>whnf
  (refine jY [] hsp ?_;rintro r rfl;conv=>whnf)
  (refine jY [0] hal ?_;rintro r rfl;conv=>whnf)
  rfl
 rw[xtw2 h10] at hR;rw[xtw0 h10];conv=>whnf
 by_cases h2:2<=h.1
 ·rw[xtw3 h2] at hR;have hdc:=vM (h.1-2).toNat (by omega);have d1:=gE (h.1-2).toNat (by omega);rw[show(((h.1-2).toNat:Nat):Int)=h.1-2 by omega] at hdc;generalize bs (aV (h.1-2).toNat)=d at *;subst hR;rw[xtw1 h2];conv=>whnf
  refine⟨jG (by omega),?_⟩;conv=>whnf
  (refine jY [] hdc ?_;rintro r rfl;conv=>whnf)
  refine⟨by show wTimS.size+d.size<=maxLen;unfold maxLen;omega,?_⟩;conv=>whnf
  (refine jY [] hsp ?_;rintro r rfl;conv=>whnf)
  (refine jY [0] hal ?_;rintro r rfl;conv=>whnf)
  rfl
 rw[xtw2 h2] at hR;subst hR;rw[xtw0 h2];conv=>whnf
 (refine jY [] hsp ?_;rintro r rfl;conv=>whnf)
 (refine jY [0] hal ?_;rintro r rfl;conv=>whnf)
 rfl
def naF(l:List ByteArray):ByteArray:=match l with
 |[]=>eB
 |x::l=>l.foldl (fun a y=>a++pComma++y) (eB++x)
theorem jn2(x:ByteArray)(l:List ByteArray)(y:ByteArray):naF (x::l++[y])=naF (x::l)++pComma++y:=by
 unfold naF;show(l++[y]).foldl _ _=_;rw[xtw126];rfl
theorem jgz(l:List ByteArray)(j:Nat)(h:j<l.length):naF (l.take (j+1))=(if 0<j then naF (l.take j)++pComma else naF (l.take j))++l[j]:=by
 rw[xtw26 h];by_cases h0:0<j
 ·rw[xtw3 h0]
  cases hq:l.take j with
  |nil =>
   have:=congrArg List.length hq;rw[xtw38,xtw8] at this;omega
  |cons a b=>exact jn2 _ _ _
 ·rw[xtw2 h0]
  obtain rfl:j=0:=by omega
  rfl
theorem jbq(l:List ByteArray)(hs:∀x∈l,x.size<=100):∀j,j<=l.length->(naF (l.take j)).size<=j*101
 |0,_=>by rw[xtw99];exact xtw19 _
 |j+1,h=>by
  have ih:=jbq l hs j (by omega);have:=hs _ (xtw10 (show j<l.length by omega));have e1:pComma.size=1:=rfl;rw[jgz l j (by omega),xtw7];split
  ·rw[xtw7];omega
  ·omega
def spB:ByteArray:=⟨#[32]⟩
def nmF(w:ByteArray)(l:List ByteArray):ByteArray:=if naF l=⟨#[]⟩ then ⟨#[]⟩ else w++spB++naF l++pSemi
theorem r7(w:ByteArray)(l:List ByteArray)(hl:l.length<=20)(hs:∀x∈l,x.size<=100)(hw:w.size<=20):(nmF w l).size<=2100:=by
 have h:=jbq l hs l.length (xtw11 _);rw[xtw54] at h;have a1:spB.size=1:=rfl;have a2:pSemi.size=1:=rfl;unfold nmF;split
 ·exact(by decide:(⟨#[]⟩:ByteArray).size<=2100)
 ·simp only[xtw7];omega
theorem jbr(w:ByteArray)(l:List ByteArray)(hl:l.length<=20)(hs:∀x∈l,x.size<=100)(hw:w.size<=20):Spec Tryz.prog 52 [] [jJ w,.sl 1 l.length (xA l)] fun _ r=>r=jJ (nmF w l):=by
 unfold nmF;have a1:spB.size=1:=rfl;have a2:pSemi.size=1:=rfl;have a3:pComma.size=1:=rfl;refine eN jK jT 0 Tryz.func52 rfl ?_;intro _;conv=>whnf
 refine jA [0,1] ?_;conv=>whnf
 refine jE (fun j:Nat=>[(5,jJ (naF (l.take j))),(6,.v (.int .i64 j))]) (fun _=>[]) (fun _=>[]) (fun j=>j<=l.length) (fun j=>l.length-j) 0 ?_ (xtw19 _) ?_
 ·repeat' constructor
 intro j hj;have hsz:=jbq l hs j hj;conv=>whnf
 by_cases hlt:j<l.length
 ·rw[xtw1 (show(j:Int)<l.length by omega)];have hr:jC 1 j (xA l)=[jJ l[j]]:=wN jJ l j hlt;have hx:=hs _ (xtw10 hlt);have e:=jgz l j hlt;generalize l[j]=x at *;conv=>whnf
  by_cases h0:0<j
  ·rw[xtw1 (show 0<(j:Int) by omega)];rw[xtw3 h0] at e;generalize naF (l.take j)=a at *;conv=>whnf
   refine⟨by show a.size+pComma.size<=maxLen;unfold maxLen;omega,?_⟩;conv=>whnf
   refine⟨by omega,?_⟩;conv=>whnf
   (generalize hrq:jC _ _ (xA l)=rq;obtain rfl:rq=[jJ x]:=hrq.symm.trans (hr);clear hrq;conv=>whnf)
   refine⟨by show(a++pComma).size+x.size<=maxLen;rw[xtw7];unfold maxLen;omega,?_⟩;conv=>whnf
   refine⟨jG (by omega),?_⟩;conv=>whnf
   refine⟨j+1,jD [] ?_,hlt,by omega⟩;conv=>whnf
   rw[e];repeat' constructor
  ·rw[xtw0 (show ¬0<(j:Int) by omega)];rw[xtw2 h0] at e;generalize naF (l.take j)=a at *;conv=>whnf
   refine⟨by omega,?_⟩;conv=>whnf
   (generalize hrq:jC _ _ (xA l)=rq;obtain rfl:rq=[jJ x]:=hrq.symm.trans (hr);clear hrq;conv=>whnf)
   refine⟨by show a.size+x.size<=maxLen;unfold maxLen;omega,?_⟩;conv=>whnf
   refine⟨jG (by omega),?_⟩;conv=>whnf
   refine⟨j+1,jD [] ?_,hlt,by omega⟩;conv=>whnf
   rw[e];repeat' constructor
 ·rw[xtw0 (show ¬(j:Int)<l.length by omega)];rw[show j=l.length by omega,xtw54] at hsz ⊢;generalize naF l=a at *;conv=>whnf
  by_cases he:a=⟨#[]⟩
  ·rw[xtw3 he,xtw1 he];conv=>whnf
   rfl
  ·rw[xtw2 he,xtw0 he];conv=>whnf
   refine⟨by show w.size+spB.size<=maxLen;unfold maxLen;omega,?_⟩;conv=>whnf
   refine⟨by show(w++spB).size+a.size<=maxLen;rw[xtw7];unfold maxLen;omega,?_⟩;conv=>whnf
   refine⟨by show(w++spB++a).size+pSemi.size<=maxLen;rw[xtw7,xtw7];unfold maxLen;omega,?_⟩;conv=>whnf
   rfl
def tA(full:Bool)(a:ByteArray)(l:List (Int×Nt)):ByteArray:=l.foldl (fun a h=>xD a (hdN full h)) a
theorem jkU(full:Bool)(a:ByteArray)(l:List (Int×Nt))(h:Int×Nt):tA full a (l++[h])=xD (tA full a l) (hdN full h):=by
 unfold tA;rw[xtw126];rfl
theorem tB(full:Bool)(a:ByteArray)(l:List (Int×Nt))(hl:∀h∈l,(hdN full h).size<=400000):(tA full a l).size<=a.size+l.length*400001:=by
 induction l generalizing a with
 |nil=>exact Nat.le_add_right _ _
 |cons h l ih =>
  have h1:=ih (xD a (hdN full h)) (fun x hx=>hl x (xtw25 _ hx));have h2:=dJ a (hdN full h);have h3:=hl h xtw29;have e:tA full a (h::l)=tA full (xD a (hdN full h)) l:=rfl;rw[e,xtw6,Nat.succ_mul];omega
def prF(u:Ut):ByteArray:=tA false (nmF zR u.du++nmF zH u.vo) u.on
def loF(u:Ut):ByteArray:=tA true (nmF zH u.vo++nmF zR u.du) u.on.reverse
structure PU6(u:Ut):Prop where
 du:u.du.length<=20/\∀x∈u.du,x.size<=100
 vo:u.vo.length<=20/\∀x∈u.vo,x.size<=100
 on:u.on.length<=4
 hd:∀full,∀h∈u.on,HN full h
theorem GU.pu{u:Ut}(h:GU u):PU6 u:=by
 obtain⟨h1,h2,h3,h4,h5⟩:=h;refine⟨by rw[h1];decide,by rw[h2];decide,by omega,fun full x hx=>?_⟩;obtain⟨g1,g2,g3⟩:=h3 x hx;exact jp9 full x ⟨g1,g2⟩ (jt8 full g3)
theorem jnq{u:Ut}(h:PU6 u):(prF u).size<=2000000/\(loF u).size<=2000000:=by
 have n1:=r7 zR u.du h.du.1 h.du.2 (by decide);have n2:=r7 zH u.vo h.vo.1 h.vo.2 (by decide);have ho:=h.on;have hm:u.on.length*400001<=4*400001:=xtw70 _ ho;have s1:=tB false (nmF zR u.du++nmF zH u.vo) u.on (fun x hx=>(h.hd false x hx).1);have s2:=tB true (nmF zH u.vo++nmF zR u.du) u.on.reverse (fun x hx=>(h.hd true x (List.mem_reverse.1 hx)).1);rw[xtw7] at s1 s2;rw[List.length_reverse] at s2;unfold prF loF;omega
def ju3(id:Nat):Tr:=match Nat.beq id 1 with|true=>.q 0 3 (.q 1 0 (.q 3 3 (.q 4 0 (.alt 2 1 (.alt 5 1 (.q 6 3 (.q 7 3 (.nil))) (.nil)) (.nil)))))|false=>.nil
theorem jsz{u:Ut}(h:PU6 u):Spec Tryz.prog 18 [] [.agg (cO u)] fun _ r=>r=jJ (prF u):=by
 have t1:=jbr zR u.du h.du.1 h.du.2 (by decide);have t2:=jbr zH u.vo h.vo.1 h.vo.2 (by decide);have n1:=r7 zR u.du h.du.1 h.du.2 (by decide);have n2:=r7 zH u.vo h.vo.1 h.vo.2 (by decide);have hh:=h.hd false;have ho:=h.on;unfold prF;generalize nmF zR u.du=x at *;generalize nmF zH u.vo=y at *
 have hsz:∀j,(tA false (x++y) (u.on.take j)).size<=2000000:=fun j=>by
  have s1:=tB false (x++y) (u.on.take j) (fun z hz=>(hh z (xtw90 hz)).1);rw[xtw7] at s1;have hm:(u.on.take j).length*400001<=4*400001:=xtw70 _ (by rw[xtw38];omega);omega
 refine eN ju3 jT 0 Tryz.func18 rfl ?_;intro _;conv=>whnf
 (refine jY [] t1 ?_;rintro r rfl;conv=>whnf)
 (refine jY [] t2 ?_;rintro r rfl;conv=>whnf)
 refine⟨by show x.size+y.size<=maxLen;unfold maxLen;omega,?_⟩;conv=>whnf
 refine jA [1] ?_;conv=>whnf
 refine jE (fun j:Nat=>[(3,jJ (tA false (x++y) (u.on.take j))),(4,.v (.int .i64 j))]) (fun _=>[cO u]) (fun _=>[]) (fun j=>j<=u.on.length) (fun j=>u.on.length-j) 0 ?_ (xtw19 _) ?_
 ·repeat' constructor
 intro j hj;have hs:=hsz j;conv=>whnf
 by_cases hlt:j<u.on.length
 ·rw[xtw1 (show(j:Int)<u.on.length by omega)];have hr:=y9 u.on j hlt;obtain⟨hs1,hsp⟩:=hh u.on[j] (xtw10 hlt)
  have e:tA false (x++y) (u.on.take (j+1))=xD (tA false (x++y) (u.on.take j)) (hdN false u.on[j]):=by rw[xtw26 hlt,jkU]
  generalize u.on[j]=f at *;have hg:=dK (tA false (x++y) (u.on.take j)) (hdN false f) (by omega) (by omega);conv=>whnf
  refine⟨by omega,?_⟩;conv=>whnf
  (generalize hrq:jC _ _ (zV u.on)=rq;obtain rfl:rq=tC f:=hrq.symm.trans (hr);clear hrq;conv=>whnf)
  (refine jY [] hsp ?_;rintro r rfl;conv=>whnf)
  (refine jY [] hg ?_;rintro r rfl;conv=>whnf)
  refine⟨jG (by omega),?_⟩;conv=>whnf
  refine⟨j+1,jD [] ?_,hlt,by omega⟩;conv=>whnf
  rw[e];repeat' constructor
 ·rw[xtw0 (show ¬(j:Int)<u.on.length by omega)];conv=>whnf
  rw[show j=u.on.length by omega,xtw54];rfl
theorem jmy(s:ByteArray)(i j:Nat):(s.extract i j).size<=s.size:=by rw[ByteArray.size_extract];omega
theorem jfD(s:ByteArray)(hs:s.size<=5000000)(at' how:Int)(c:UInt8):Spec Tryz.prog 20 [] [jJ s,intA at',intA how,jaC c] fun _ r=>∃x:ByteArray,x.size<=2*s.size+1/\r=jJ x:=by
 have ec:(bs [c]).size=1:=rfl;refine eN jtO jT 0 Tryz.func20 rfl ?_;intro hok;conv=>whnf
 refine⟨jG (by omega),?_⟩;conv=>whnf
 refine jY [] (xZ at' ((s.size:Int)+1) (by omega)) ?_;rintro r ⟨hn,rfl⟩;have hkr:=iF (m:=(s.size:Int)+1) hn (by omega);generalize xR at' ((s.size:Int)+1)=k at *;conv=>whnf
 repeat ((with_reducible refine And.intro ?_ ?_);(focus (first|omega|(with_reducible refine jG ?_;(first|omega|(simp only[xtw4,xtw6,xtw8,xtw44,xtw7];omega)|(dsimp only;omega)))|(with_reducible refine tL ?_;(first|omega|(simp only[xtw4,xtw6,xtw8,xtw44,xtw7];omega)|(dsimp only;omega)))|((fail_if_success (with_reducible refine tL ?_));decide)|(simp only[xtw4,xtw6,xtw8,xtw44,xtw7];omega)|(dsimp only;omega)|((with_reducible refine jG ?_);dsimp only;omega)));(conv=>whnf))
 refine⟨bs [c],rfl,?_⟩;conv=>whnf
 by_cases h0:k=s.size
 ·rw[xtw1 h0];conv=>whnf
  refine⟨by unfold maxLen;omega,?_⟩;conv=>whnf
  exact⟨_,by rw[xtw7];omega,rfl⟩
 ·rw[xtw0 h0];conv=>whnf
  refine jY [] (xZ how 4 (by omega)) ?_;rintro r ⟨_,rfl⟩;generalize xR how 4=j at *;have e1:=jmy s (Int.toNat 0) k.toNat;have e2:=jmy s (k+1).toNat (Int.toNat (s.size:Int));have e3:=jmy s k.toNat (Int.toNat (s.size:Int));conv=>whnf
  by_cases j0:j=0
  ·rw[xtw1 j0];conv=>whnf
   refine⟨by omega,?_⟩;conv=>whnf
   refine⟨by(try simp only[xtw7]);unfold maxLen;omega,?_⟩;conv=>whnf
   refine⟨jG (by omega),?_⟩;conv=>whnf
   refine⟨by omega,?_⟩;conv=>whnf
   refine⟨by(try simp only[xtw7]);unfold maxLen;omega,?_⟩;conv=>whnf
   exact⟨_,by(try simp only[xtw7]);omega,rfl⟩
  ·rw[xtw0 j0];conv=>whnf
   by_cases j1:j=1
   ·rw[xtw1 j1];conv=>whnf
    refine⟨by omega,?_⟩;conv=>whnf
    refine⟨jG (by omega),?_⟩;conv=>whnf
    refine⟨by omega,?_⟩;conv=>whnf
    refine⟨by(try simp only[xtw7]);unfold maxLen;omega,?_⟩;conv=>whnf
    exact⟨_,by(try simp only[xtw7]);omega,rfl⟩
   ·rw[xtw0 j1];conv=>whnf
    by_cases j2:j=2
    ·rw[xtw1 j2];conv=>whnf
     refine⟨by omega,?_⟩;conv=>whnf
     exact⟨_,by(try simp only[xtw7]);omega,rfl⟩
    ·rw[xtw0 j2];conv=>whnf
     refine⟨by omega,?_⟩;conv=>whnf
     refine⟨by(try simp only[xtw7]);unfold maxLen;omega,?_⟩;conv=>whnf
     refine⟨by omega,?_⟩;conv=>whnf
     refine⟨by(try simp only[xtw7]);unfold maxLen;omega,?_⟩;conv=>whnf
     exact⟨_,by(try simp only[xtw7]);omega,rfl⟩
theorem builds_spec(raw:ByteArray)(l:List Int)(n at' how:Int)(b:UInt8):Spec Tryz.prog 4 [] [jJ raw,.sl 1 l.length (jX l),intA n,intA at',intA how,jaC b] fun _ r=>r=qA true:=by
 obtain⟨u,⟨hgu,-⟩,hprog⟩:=jrN l;have hpr:=jsz hgu.pu;have hz:=(jnq hgu.pu).1;have hso:=jhh n;have hsh:=jj0 raw 200 (by decide)
 have hbr:=fun(s:ByteArray) (h:s.size<=5000000)=>jfD s h at' how b
 have hlv:=jiq
 have hbo:=fun(s:ByteArray) (h:s.size<=1000000000)=>jhY s h
 generalize prF u=s at *;refine eN jK jT 0 Tryz.func4 rfl ?_;intro hok;conv=>whnf
 refine jY [] hprog ?_;rintro r rfl;conv=>whnf
 refine jY [] hpr ?_;rintro r rfl;conv=>whnf
 refine jY [] hso ?_;rintro r ⟨t,ht,rfl⟩;conv=>whnf
 refine jY [] hsh ?_;rintro r ⟨x1,hx1,rfl⟩;conv=>whnf
 refine jY [] (hbr s (by omega)) ?_;rintro r ⟨x2,hx2,rfl⟩;conv=>whnf
 refine jY [] (hbr t (by omega)) ?_;rintro r ⟨x3,hx3,rfl⟩;conv=>whnf
 have hal:∀y∈[x1,s,x2,t,x3],y.size<=1000000000:=fun y hy=>by
  simp only[xtw13,xtw42,xtw81] at hy;rcases hy with rfl|rfl|rfl|rfl|rfl
  all_goals omega
 have hro:=fun i (h:i<5)=>bJ [x1,s,x2,t,x3] i h
 obtain⟨L,hL⟩:∃L,[x1,s,x2,t,x3]=L:=⟨_,rfl⟩
 have hln:L.length=5:=by rw[<- hL];rfl
 refine xM [0] ?_;conv=>whnf
 refine jA [15] ?_;conv=>whnf
 refine jE (fun i:Nat=>[(16,.v (.int .i64 i))]) (fun _=>[]) (fun _=>[]) (fun i=>i<=5) (fun i=>5-i) 0 ?_ (xtw19 _) ?_
 ·repeat' constructor
 intro i hi5;conv=>whnf
 rcases xtw36 i 5 with hlt|hge
 ·have hrow:=hro i hlt
  obtain⟨y,hy⟩:∃y,[x1,s,x2,t,x3][i]=y:=⟨_,rfl⟩
  have hym:=hal y (hy ▸ xtw10 _);rw[hy] at hrow;obtain⟨c,e,du,vo,E,hc4,w1,w2⟩:=hbo y hym;have hsm:=jdR c e du vo (by omega);clear hbo hbr hal hro hy;rw[xtw1 (show(i:Int)<((5:Nat):Int) by omega)];conv=>whnf
  refine⟨show(0:Int)<=(i:Int)/\(i:Int)<((5:Nat):Int) from ⟨by omega,by omega⟩,?_⟩;conv=>whnf
  generalize hrq:jC _ _ _=rq;obtain rfl:rq=[jJ y]:=hrq.symm.trans hrow;clear hrq;conv=>whnf
  refine jY [] w1 ?_;rintro r rfl;conv=>whnf
  refine⟨show(0:Int)<=(i:Int)/\(i:Int)<((5:Nat):Int) from ⟨by omega,by omega⟩,?_⟩;conv=>whnf
  generalize hrq:jC _ _ _=rq;obtain rfl:rq=[jJ y]:=hrq.symm.trans hrow;clear hrq;conv=>whnf
  refine jY [] w2 ?_;rintro r rfl;conv=>whnf
  rw[xtw1 (rfl:E=E)];conv=>whnf
  (refine jY [] hsm ?_;rintro r rfl;conv=>whnf)
  refine jN i (by omega) ?_;conv=>whnf
  refine⟨i+1,jD [] ?_,show i+1<=5 by omega,show 5-(i+1)<5-i by omega⟩;conv=>whnf
  repeat' constructor
 rw[xtw0 (show ¬(i:Int)<((5:Nat):Int) by omega)];conv=>whnf
 (refine jY [] hlv ?_;rintro r rfl;conv=>whnf)
 rfl
end Go.Proofs.YtfbifdccmabdbaaGreatDoor.Vm
