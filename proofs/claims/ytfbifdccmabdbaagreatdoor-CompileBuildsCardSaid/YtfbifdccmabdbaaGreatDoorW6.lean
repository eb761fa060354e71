/- Part 6 of the proof. -/
import Derived.Test.YtfbifdccmabdbaaGreatDoorW5
set_option maxRecDepth 100000
set_option linter.unusedSimpArgs false
set_option linter.unusedVariables false
set_option maxHeartbeats 4000000
namespace Go.Proofs.YtfbifdccmabdbaaGreatDoor.Vm
open Go.RowKit Go.Shelf
theorem jrk(u:Ut)(n:Int)(c y:Nt)(h1:zY u c/\yQ u c)(h2:zY u y/\yQ u y)(at':Int)(h0:0<=at')(hz:at'+(zN c+zN y+1+2:Nat)<=1000000):q9 u 18 n yW [c,y] (rG (jI (jZ u) c) (jI (jZ u) y) (fun _=>[(1,0)]) at') at':=by
 have hb:=fH u c h1.1 h1.2 _ _ 0 _ _ _ _ (p7 u y h2.1 h2.2 0) (jfv u 0) (.inl ⟨_,rfl⟩) (.inr rfl) at' h0 hz;generalize rG (jI (jZ u) c) (jI (jZ u) y) (fun _=>[(1,0)]) at'=l at hb;have hr0:jC 4 0 (jQ [c,y])=ntA c:=jR [c,y] 0 (by simp);unfold q9;refine eNF vT jT Tryz.func42 rfl ?_;intro _;conv=>whnf
 refine⟨⟨by decide,show(0:Int)<((2:Nat):Int) by decide⟩,?_⟩;conv=>whnf
 (generalize hrq:jC _ _ (jQ [c,y])=rq;obtain rfl:rq=ntA c:=hrq.symm.trans (hr0);clear hrq;conv=>whnf)
 refine⟨⟨by decide,by decide,show(2:Int)<=((2:Nat):Int) by decide⟩,?_⟩;have e1:Int.toNat 2-Int.toNat 1=1:=rfl;have e2:List.take (1*4) (List.drop (Int.toNat 1*4) (jQ [c,y]))=ntA y:=jeT [c,y] 1 (by simp);rw[e1,e2];conv=>whnf
 refine xH 0 [] rfl rfl (fun _=>hb) ?_;rintro e k n cs r ⟨rfl,rfl,rfl,rfl,rfl⟩;conv=>whnf
 refine⟨0,?_⟩;conv=>whnf
 exact⟨rfl,rfl,rfl,rfl,rfl⟩
theorem jte(u:Ut)(n:Int)(c y:Nt)(h1:zY u c/\yQ u c)(h2:zY u y/\yQ u y)(at':Int)(h0:0<=at')(hz:at'+(zN c+1+zN y+2:Nat)<=1000000):q9 u 18 n sD [c,y] (rG (jI (jZ u) c) (fun _=>[(1,1)]) (jI (jZ u) y) at') at':=by
 have hb:=fH u c h1.1 h1.2 _ _ 1 _ _ _ _ (jfv u 1) (p7 u y h2.1 h2.2 1) (.inr rfl) (.inl ⟨_,rfl⟩) at' h0 hz;generalize rG (jI (jZ u) c) (fun _=>[(1,1)]) (jI (jZ u) y) at'=l at hb;have hr0:jC 4 0 (jQ [c,y])=ntA c:=jR [c,y] 0 (by simp);unfold q9;refine eNF vT jT Tryz.func42 rfl ?_;intro _;conv=>whnf
 refine⟨⟨by decide,show(0:Int)<((2:Nat):Int) by decide⟩,?_⟩;conv=>whnf
 (generalize hrq:jC _ _ (jQ [c,y])=rq;obtain rfl:rq=ntA c:=hrq.symm.trans (hr0);clear hrq;conv=>whnf)
 refine⟨⟨by decide,by decide,show(2:Int)<=((2:Nat):Int) by decide⟩,?_⟩;have e1:Int.toNat 2-Int.toNat 1=1:=rfl;have e2:List.take (1*4) (List.drop (Int.toNat 1*4) (jQ [c,y]))=ntA y:=jeT [c,y] 1 (by simp);rw[e1,e2];conv=>whnf
 refine xH 0 [] rfl rfl (fun _=>hb) ?_;rintro e k n cs r ⟨rfl,rfl,rfl,rfl,rfl⟩;conv=>whnf
 refine⟨0,?_⟩;conv=>whnf
 exact⟨rfl,rfl,rfl,rfl,rfl⟩
theorem jrz(u:Ut)(n:Int)(s:ByteArray)(c b:Nt)(h1:zY u c/\yQ u c)(h2:zY u b/\yQ u b)(at':Int)(h0:0<=at')(hz:at'+(zN c+zN b+2:Nat)<=1000000):q9 u 3 n s [c,b] (jI (jZ u) c at'++(16,at'+(jI (jZ u) c at').length+(jI (jZ u) b (at'+(jI (jZ u) c at').length+1)).length+2)::(jI (jZ u) b (at'+(jI (jZ u) c at').length+1)++[(15,at')])) at':=by
 have hcc:=h1.2 at' h0 (by omega);have hcl:=h1.1.1 at';generalize jI (jZ u) c at'=l at hcc hcl;have hbc:=h2.2 (at'+l.length+1) (by omega) (by omega);have hbl:=h2.1.1 (at'+l.length+1);generalize jI (jZ u) b (at'+l.length+1)=m at hbc hbl;have hr0:jC 4 0 (jQ [c,b])=ntA c:=jR [c,b] 0 (by simp);have hr1:jC 4 1 (jQ [c,b])=ntA b:=jR [c,b] 1 (by simp);unfold q9;refine eNF vT jT Tryz.func42 rfl ?_;intro _;conv=>whnf
 refine⟨⟨by decide,show(0:Int)<((2:Nat):Int) by decide⟩,?_⟩;conv=>whnf
 (generalize hrq:jC _ _ (jQ [c,b])=rq;obtain rfl:rq=ntA c:=hrq.symm.trans (hr0);clear hrq;conv=>whnf)
 refine xH 0 [] rfl rfl (fun _=>hcc) ?_;rintro e k n cs r ⟨rfl,rfl,rfl,rfl,rfl⟩;conv=>whnf
 refine⟨⟨by decide,show(1:Int)<((2:Nat):Int) by decide⟩,?_⟩;conv=>whnf
 (generalize hrq:jC _ _ (jQ [c,b])=rq;obtain rfl:rq=ntA b:=hrq.symm.trans (hr1);clear hrq;conv=>whnf)
 refine⟨jG (by omega),?_⟩;conv=>whnf
 refine⟨jG (by omega),?_⟩;conv=>whnf
 refine xH 1 [] rfl rfl (fun _=>hbc) ?_;rintro e k n cs r ⟨rfl,rfl,rfl,rfl,rfl⟩;conv=>whnf
 refine⟨jG (by omega),?_⟩;conv=>whnf
 refine⟨jG (by omega),?_⟩;conv=>whnf
 refine⟨jG (by omega),?_⟩;conv=>whnf
 refine⟨⟨by unfold maxLen;omega,by omega⟩,?_⟩;conv=>whnf
 refine⟨⟨by unfold maxLen;omega,by omega⟩,?_⟩;conv=>whnf
 refine⟨⟨by unfold maxLen;omega,by omega⟩,?_⟩;conv=>whnf
 refine⟨0,?_⟩;conv=>whnf
 refine⟨rfl,rfl,?_,?_,rfl⟩
 ·simp only[xtw4,xtw6,xtw8];omega
 ·rw[kM,gH,kM,vQ];simp only[icA,xtw40,xtw61,xtw53];rfl
theorem jro(u:Ut)(n:Int)(s:ByteArray)(kids:List Nt)(hm:kids.length<=3002)(hf:∀f∈kids,zY u f)(hc:∀f∈kids,yQ u f)(at':Int)(h0:0<=at')(hz:at'+(qX kids+3:Nat)<=1000000):q9 u 16 n s kids (zX (jH (jZ u) kids) at'++[(5,0)]) at':=by
 have hsq:=vE u kids hm hf hc at' h0 (by omega);have hsl:=kX (u:=u) kids at' hf;generalize zX (jH (jZ u) kids) at'=l at hsq hsl;unfold q9;refine eNF vT jT Tryz.func42 rfl ?_;intro _;conv=>whnf
 refine xH 0 [] rfl rfl (fun _=>hsq) ?_;rintro e k n cs r ⟨rfl,rfl,rfl,rfl,rfl⟩;conv=>whnf
 refine⟨⟨by unfold maxLen;omega,by omega⟩,?_⟩;conv=>whnf
 refine⟨0,?_⟩;conv=>whnf
 refine⟨rfl,rfl,by rw[xtw4];rfl,by rw[kM,vQ];rfl,rfl⟩
theorem jru(u:Ut)(n:Int)(s:ByteArray)(kids:List Nt)(hm:kids.length<=3002)(hf:∀f∈kids,zY u f)(hc:∀f∈kids,yQ u f)(at':Int)(h0:0<=at')(hz:at'+(qX kids+3:Nat)<=1000000):q9 u 4 n s kids (zX (jH (jZ u) kids) at'++[(17,n)]) at':=by
 have hsq:=vE u kids hm hf hc at' h0 (by omega);have hsl:=kX (u:=u) kids at' hf;generalize zX (jH (jZ u) kids) at'=l at hsq hsl;unfold q9;refine eNF vT jT Tryz.func42 rfl ?_;intro _;conv=>whnf
 refine xH 0 [] rfl rfl (fun _=>hsq) ?_;rintro e k n cs r ⟨rfl,rfl,rfl,rfl,rfl⟩;conv=>whnf
 refine⟨⟨by unfold maxLen;omega,by omega⟩,?_⟩;conv=>whnf
 refine⟨0,?_⟩;conv=>whnf
 refine⟨rfl,rfl,by rw[xtw4];rfl,by rw[kM,vQ];rfl,rfl⟩
theorem jrt(u:Ut)(n:Int)(s:ByteArray)(kids:List Nt)(hm:kids.length<=3002)(hf:∀f∈kids,zY u f)(hc:∀f∈kids,yQ u f)(at':Int)(h0:0<=at')(hz:at'+(qX kids+3:Nat)<=1000000):q9 u 8 n s kids (zX (jH (jZ u) kids) at'++[(21,0)]) at':=by
 have hsq:=vE u kids hm hf hc at' h0 (by omega);have hsl:=kX (u:=u) kids at' hf;generalize zX (jH (jZ u) kids) at'=l at hsq hsl;unfold q9;refine eNF vT jT Tryz.func42 rfl ?_;intro _;conv=>whnf
 refine xH 0 [] rfl rfl (fun _=>hsq) ?_;rintro e k n cs r ⟨rfl,rfl,rfl,rfl,rfl⟩;conv=>whnf
 refine⟨⟨by unfold maxLen;omega,by omega⟩,?_⟩;conv=>whnf
 refine⟨0,?_⟩;conv=>whnf
 refine⟨rfl,rfl,by rw[xtw4];rfl,by rw[kM,vQ];rfl,rfl⟩
theorem jrp(u:Ut)(n:Int)(s:ByteArray)(kids:List Nt)(hm:kids.length<=3002)(hf:∀f∈kids,zY u f)(hc:∀f∈kids,yQ u f)(at':Int)(h0:0<=at')(hz:at'+(qX kids+3:Nat)<=1000000):q9 u 9 n s kids (zX (jH (jZ u) kids) at'++[(22,0)]) at':=by
 have hsq:=vE u kids hm hf hc at' h0 (by omega);have hsl:=kX (u:=u) kids at' hf;generalize zX (jH (jZ u) kids) at'=l at hsq hsl;unfold q9;refine eNF vT jT Tryz.func42 rfl ?_;intro _;conv=>whnf
 refine xH 0 [] rfl rfl (fun _=>hsq) ?_;rintro e k n cs r ⟨rfl,rfl,rfl,rfl,rfl⟩;conv=>whnf
 refine⟨⟨by unfold maxLen;omega,by omega⟩,?_⟩;conv=>whnf
 refine⟨0,?_⟩;conv=>whnf
 refine⟨rfl,rfl,by rw[xtw4];rfl,by rw[kM,vQ];rfl,rfl⟩
theorem jrl(u:Ut)(n:Int)(s:ByteArray)(kids:List Nt)(hm:kids.length<=3002)(hf:∀f∈kids,zY u f)(hc:∀f∈kids,yQ u f)(at':Int)(h0:0<=at')(hz:at'+(qX kids+3:Nat)<=1000000)(hu:WfU u):q9 u 1 n s kids (zX (jH (jZ u) kids) at'++[(3,jZ u s)]) at':=by
 have hix:=fK u hu s;have hsq:=vE u kids hm hf hc at' h0 (by omega);have hsl:=kX (u:=u) kids at' hf;generalize zX (jH (jZ u) kids) at'=l at hsq hsl;unfold q9;refine eNF vT jT Tryz.func42 rfl ?_;intro _;conv=>whnf
 refine xH 0 [] rfl rfl (fun _=>hsq) ?_;rintro e k n cs r ⟨rfl,rfl,rfl,rfl,rfl⟩;conv=>whnf
 refine jY [] hix ?_;rintro r rfl;conv=>whnf
 refine⟨⟨by unfold maxLen;omega,by omega⟩,?_⟩;conv=>whnf
 refine⟨0,?_⟩;conv=>whnf
 refine⟨rfl,rfl,by rw[xtw4];rfl,by rw[kM,vQ];rfl,rfl⟩
theorem jrs(u:Ut)(n:Int)(s:ByteArray)(kids:List Nt)(hm:kids.length<=3002)(hf:∀f∈kids,zY u f)(hc:∀f∈kids,yQ u f)(at':Int)(h0:0<=at')(hz:at'+(qX kids+3:Nat)<=1000000):q9 u 17 n s kids (zX (jH (jZ u) kids) at'++(if s=qB then [(10,0)] else [(14,0)])) at':=by
 have hsq:=vE u kids hm hf hc at' h0 (by omega);have hsl:=kX (u:=u) kids at' hf;generalize zX (jH (jZ u) kids) at'=l at hsq hsl;unfold q9;refine eNF vT jT Tryz.func42 rfl ?_;intro _;conv=>whnf
 refine xH 0 [] rfl rfl (fun _=>hsq) ?_;rintro e k n cs r ⟨rfl,rfl,rfl,rfl,rfl⟩;conv=>whnf
 by_cases hs:s=qB
 ·rw[xtw3 hs];rw[xtw1 (p:=s=⟨_⟩) hs];conv=>whnf
  refine⟨⟨by unfold maxLen;omega,by omega⟩,?_⟩;conv=>whnf
  refine⟨0,?_⟩;conv=>whnf
  refine⟨rfl,rfl,by rw[xtw4];rfl,by rw[kM,vQ];rfl,rfl⟩
 ·rw[xtw2 hs];rw[xtw0 (p:=s=⟨_⟩) hs];conv=>whnf
  refine⟨⟨by unfold maxLen;omega,by omega⟩,?_⟩;conv=>whnf
  refine⟨0,?_⟩;conv=>whnf
  refine⟨rfl,rfl,by rw[xtw4];rfl,by rw[kM,vQ];rfl,rfl⟩
theorem jtd(u:Ut)(n:Int)(s:ByteArray)(kids:List Nt)(hm:kids.length<=3002)(hf:∀f∈kids,zY u f)(hc:∀f∈kids,yQ u f)(at':Int)(h0:0<=at')(hz:at'+(qX kids+3:Nat)<=1000000)(ho:(opBin.any fun x=>decide (s=x))=true)(hA:s≠yW)(hO:s≠sD):q9 u 18 n s kids (zX (jH (jZ u) kids) at'++opC s) at':=by
 have hop:=u7 s ho;have hol:=jgI s;generalize opC s=m at hop hol;have hsq:=vE u kids hm hf hc at' h0 (by omega);have hsl:=kX (u:=u) kids at' hf;generalize zX (jH (jZ u) kids) at'=l at hsq hsl;unfold q9;refine eNF vT jT Tryz.func42 rfl ?_;intro _;conv=>whnf
 rw[xtw0 (p:=s=⟨_⟩) hA];conv=>whnf
 rw[xtw0 (p:=s=⟨_⟩) hO];conv=>whnf
 refine xH 0 [] rfl rfl (fun _=>hsq) ?_;rintro e k n cs r ⟨rfl,rfl,rfl,rfl,rfl⟩;conv=>whnf
 refine xH 1 [] rfl rfl (fun _=>hop) ?_;rintro e k n cs r ⟨rfl,rfl,rfl,rfl,rfl⟩;conv=>whnf
 refine⟨⟨by unfold maxLen;omega,by omega⟩,?_⟩;conv=>whnf
 refine⟨0,?_⟩;conv=>whnf
 exact⟨rfl,rfl,by rw[xtw4],by rw[kM],rfl⟩
theorem jfQ(u:Ut)(hu:WfU u):∀f:Nt,eJ f->yQ u f
 |.mk k n s kids,hw=>by
  unfold eJ at hw;obtain⟨ha,hwk,-⟩:=hw;have hm:=sP ha
  have hk:∀f∈kids,zY u f:=fun f hf=>r9 u hu f (xQ hwk hf)
  have hc:∀f∈kids,yQ u f:=fun f hf=>jfQ u hu f (xQ hwk hf)
  have hss:=jc4 kids;intro at' h0 hz;have hz:at'+(3+qX kids:Nat)<=1000000:=hz;show q9 u k n s kids (kV (jZ u) k n s (jH (jZ u) kids) at') at'
  have hz3:at'+(qX kids+3:Nat)<=1000000:=by omega
  unfold arN at ha;by_cases h11:k=11
  ·subst h11;have he:kV (jZ u) 11 n s (jH (jZ u) kids) at'=zX (jH (jZ u) kids) at':=xtw66 _;rw[he];exact jrm u n s kids hm hk hc at' h0 (by omega)
  rw[xtw2 h11] at ha;by_cases hl:k=12∨k=13∨k=14∨k=5∨k=6∨k=7∨k=10
  ·rcases hl with rfl|rfl|rfl|rfl|rfl|rfl|rfl
   ·exact jmd u 12 n s kids at' (.inl rfl)
   ·exact jmd u 13 n s kids at' (.inr rfl)
   ·exact jry u hu n s kids at'
   ·exact jrx u n s kids at'
   ·exact jrn u n s kids at'
   ·exact jrw u n s kids at'
   ·exact jrv u n s kids at'
  rw[xtw2 hl] at ha;by_cases h15:k=15
  ·subst h15;exact jrr u n s kids at'
  rw[xtw2 h15] at ha;by_cases h1:k=16∨k=1∨k=9
  ·rcases h1 with rfl|rfl|rfl
   ·exact jro u n s kids hm hk hc at' h0 hz3
   ·exact jrl u n s kids hm hk hc at' h0 hz3 hu
   ·exact jrp u n s kids hm hk hc at' h0 hz3
  rw[xtw2 h1] at ha;by_cases h17:k=17
  ·subst h17;exact jrs u n s kids hm hk hc at' h0 hz3
  rw[xtw2 h17] at ha;by_cases h18:k=18
  ·rw[xtw3 h18,xtw14,xtw17] at ha;subst h18;obtain⟨ha,hb⟩:=ha;by_cases hA:s=yW
   ·subst hA
    match kids,ha,hk,hc,hz with
    |[c,y],_,hk,hc,hz =>
     have q:qX [c,y]=zN c+(zN y+0):=rfl;exact jrk u n c y ⟨hk c (by simp),hc c (by simp)⟩ ⟨hk y (by simp),hc y (by simp)⟩ at' h0 (by omega)
   by_cases hO:s=sD
   ·subst hO
    match kids,ha,hk,hc,hz with
    |[c,y],_,hk,hc,hz =>
     have q:qX [c,y]=zN c+(zN y+0):=rfl;exact jte u n c y ⟨hk c (by simp),hc c (by simp)⟩ ⟨hk y (by simp),hc y (by simp)⟩ at' h0 (by omega)
   have he:kV (jZ u) 18 n s (jH (jZ u) kids) at'=zX (jH (jZ u) kids) at'++opC s:=by
    unfold kV;rw[xtw2 (by decide),xtw2 (by decide),xtw2 (by decide),xtw2 (by decide),xtw2 (by decide),xtw2 (by decide),xtw2 (by decide),xtw2 (by decide),xtw2 (by decide),xtw2 (fun h=>hA h.2),xtw2 (fun h=>hO h.2),xtw3 rfl]
   rw[he];exact jtd u n s kids hm hk hc at' h0 hz3 (jdA hb hA hO) hA hO
  rw[xtw2 h18] at ha;by_cases h8:k=8∨k=3
  ·rw[xtw3 h8,xtw17] at ha;rcases h8 with rfl|rfl
   ·exact jrt u n s kids hm hk hc at' h0 hz3
   ·match kids,ha,hk,hc,hz with
    |[c,b],_,hk,hc,hz =>
     have q:qX [c,b]=zN c+(zN b+0):=rfl;exact jrz u n s c b ⟨hk c (by simp),hc c (by simp)⟩ ⟨hk b (by simp),hc b (by simp)⟩ at' h0 (by omega)
  rw[xtw2 h8] at ha;by_cases h2:k=2∨k=4
  ·rw[xtw3 h2,xtw17] at ha;rcases h2 with rfl|rfl
   ·match kids,ha,hk,hc,hz with
    |[c,y,m],_,hk,hc,hz =>
     have q:qX [c,y,m]=zN c+(zN y+(zN m+0)):=rfl;exact jrq u n s c y m ⟨hk c (by simp),hc c (by simp)⟩ ⟨hk y (by simp),hc y (by simp)⟩ ⟨hk m (by simp),hc m (by simp)⟩ at' h0 (by omega)
   ·exact jru u n s kids hm hk hc at' h0 hz3
  rw[xtw2 h2] at ha;cases ha
theorem jgJ(k:Int):(k=1∨k=2∨k=3∨k=4∨k=5∨k=6∨k=7∨k=8∨k=9∨k=10∨k=11∨k=12∨k=13∨k=14∨k=15∨k=16∨k=17∨k=18∨k=19∨k=20∨k=21∨k=22∨k=23)∨(k<1∨23<k):=by omega
def jpB(k:Int):Int:=if 1<=k/\k<=23 then qJ k else -1
theorem jdH(k:Int):Spec Tryz.prog 68 [] [intA k] fun _ r=>r=intA (jpB k):=by
 rcases jgJ k with h|h
 ·rcases h with rfl|rfl|rfl|rfl|rfl|rfl|rfl|rfl|rfl|rfl|rfl|rfl|rfl|rfl|rfl|rfl|rfl|rfl|rfl|rfl|rfl|rfl|rfl
  all_goals
   refine eN jK jT 0 Tryz.func68 rfl ?_;intro _;conv=>whnf
   rfl
 unfold jpB;rw[xtw2 (by omega)];refine eN jK jT 0 Tryz.func68 rfl ?_;intro _;conv=>whnf
 rw[xtw0 (show ¬k=1 by omega)];conv=>whnf
 rw[xtw0 (show ¬k=2 by omega)];conv=>whnf
 rw[xtw0 (show ¬k=4 by omega)];conv=>whnf
 rw[xtw0 (show ¬k=15 by omega)];conv=>whnf
 rw[xtw0 (show ¬k=18 by omega)];conv=>whnf
 rw[xtw0 (show ¬k=19 by omega)];conv=>whnf
 rw[xtw0 (show ¬k=20 by omega)];conv=>whnf
 rw[xtw0 (show ¬k=23 by omega)];conv=>whnf
 rw[xtw0 (show ¬k=5 by omega)];conv=>whnf
 rw[xtw0 (show ¬k=10 by omega)];conv=>whnf
 rw[xtw0 (show ¬k=14 by omega)];conv=>whnf
 rw[xtw0 (show ¬k=3 by omega)];conv=>whnf
 rw[xtw0 (show ¬k=16 by omega)];conv=>whnf
 rw[xtw0 (show ¬k=22 by omega)];conv=>whnf
 rw[xtw0 (show ¬k=6 by omega)];conv=>whnf
 rw[xtw0 (show ¬k=7 by omega)];conv=>whnf
 rw[xtw0 (show ¬k=8 by omega)];conv=>whnf
 rw[xtw0 (show ¬k=9 by omega)];conv=>whnf
 rw[xtw0 (show ¬k=11 by omega)];conv=>whnf
 rw[xtw0 (show ¬k=12 by omega)];conv=>whnf
 rw[xtw0 (show ¬k=13 by omega)];conv=>whnf
 rw[xtw0 (show ¬k=21 by omega)];conv=>whnf
 rw[xtw0 (show ¬k=17 by omega)];conv=>whnf
 rfl
theorem uR(k:Int):Spec Tryz.prog 69 [] [intA k] fun _ r=>r=intA (qG k):=by
 rcases jgJ k with h|h
 ·rcases h with rfl|rfl|rfl|rfl|rfl|rfl|rfl|rfl|rfl|rfl|rfl|rfl|rfl|rfl|rfl|rfl|rfl|rfl|rfl|rfl|rfl|rfl|rfl
  all_goals
   refine eN jK jT 0 Tryz.func69 rfl ?_;intro _;conv=>whnf
   rfl
 have hp:qG k=0:=by unfold qG;rw[xtw2 (by omega)]
 rw[hp];refine eN jK jT 0 Tryz.func69 rfl ?_;intro _;conv=>whnf
 rw[xtw0 (show ¬k=1 by omega)];conv=>whnf
 rw[xtw0 (show ¬k=2 by omega)];conv=>whnf
 rw[xtw0 (show ¬k=4 by omega)];conv=>whnf
 rw[xtw0 (show ¬k=5 by omega)];conv=>whnf
 rw[xtw0 (show ¬k=10 by omega)];conv=>whnf
 rw[xtw0 (show ¬k=14 by omega)];conv=>whnf
 rw[xtw0 (show ¬k=6 by omega)];conv=>whnf
 rw[xtw0 (show ¬k=7 by omega)];conv=>whnf
 rw[xtw0 (show ¬k=8 by omega)];conv=>whnf
 rw[xtw0 (show ¬k=9 by omega)];conv=>whnf
 rw[xtw0 (show ¬k=11 by omega)];conv=>whnf
 rw[xtw0 (show ¬k=12 by omega)];conv=>whnf
 rw[xtw0 (show ¬k=13 by omega)];conv=>whnf
 rfl
theorem jl8(code:List Ic)(e:Nat->Int)(du vo:Int)(hl:code.length<=1000000)(i:Nat)(hi:i<code.length):Spec Tryz.prog 60 [] [sE code e du vo,.v (.int .i64 i)] fun _ r=>r=.sl 1 (sc code i).length (jX (sc code i)):=by
 have hrow:jC 2 i (qF code)=icA code[i]:=aN code i hi
 have hsc:sc code i=nxI i code[i]:=by
  unfold sc;rw[xtw116,xtw9,xtw21 hi];rfl
 rw[hsc];generalize code[i]=p at hrow;obtain⟨op,n⟩:=p;unfold icA at hrow
 simp only at hrow
 unfold nxI
 simp only
 by_cases h1:op=23
 ·rw[xtw3 h1];subst h1
  suffices h:Spec Tryz.prog 60 [] [sE code e du vo,.v (.int .i64 i)] fun _ r=>r=.v (.slice none 0 0) by
   refine h.weaken fun o r hr=>⟨o,.sl 1 0 [],rfl,WkB.refl o,?_⟩
   rw[hr];exact .nil 1
  refine eN jK jT 0 Tryz.func60 rfl ?_;intro _;conv=>whnf
  refine⟨show(0:Int)<=(i:Int)/\(i:Int)<(code.length:Nat) from ⟨by omega,by omega⟩,?_⟩;conv=>whnf
  (generalize hrq:jC _ _ (qF code)=rq;obtain rfl:rq=[intA 23,intA n]:=hrq.symm.trans (hrow);clear hrq;conv=>whnf)
  try rfl
 rw[xtw2 h1];by_cases h2:op=15
 ·rw[xtw3 h2];subst h2;refine eN jK jT 0 Tryz.func60 rfl ?_;intro _;conv=>whnf
  refine⟨show(0:Int)<=(i:Int)/\(i:Int)<(code.length:Nat) from ⟨by omega,by omega⟩,?_⟩;conv=>whnf
  (generalize hrq:jC _ _ (qF code)=rq;obtain rfl:rq=[intA 15,intA n]:=hrq.symm.trans (hrow);clear hrq;conv=>whnf)
  refine⟨show(0:Int)<=(i:Int)/\(i:Int)<(code.length:Nat) from ⟨by omega,by omega⟩,?_⟩;conv=>whnf
  (generalize hrq:jC _ _ (qF code)=rq;obtain rfl:rq=[intA 15,intA n]:=hrq.symm.trans (hrow);clear hrq;conv=>whnf)
  try rfl
 rw[xtw2 h2];by_cases h3:op=16
 ·rw[xtw3 h3];subst h3;refine eN jK jT 0 Tryz.func60 rfl ?_;intro _;conv=>whnf
  refine⟨show(0:Int)<=(i:Int)/\(i:Int)<(code.length:Nat) from ⟨by omega,by omega⟩,?_⟩;conv=>whnf
  (generalize hrq:jC _ _ (qF code)=rq;obtain rfl:rq=[intA 16,intA n]:=hrq.symm.trans (hrow);clear hrq;conv=>whnf)
  refine⟨jG (by omega),?_⟩;conv=>whnf
  refine⟨show(0:Int)<=(i:Int)/\(i:Int)<(code.length:Nat) from ⟨by omega,by omega⟩,?_⟩;conv=>whnf
  (generalize hrq:jC _ _ (qF code)=rq;obtain rfl:rq=[intA 16,intA n]:=hrq.symm.trans (hrow);clear hrq;conv=>whnf)
  try rfl
 rw[xtw2 h3];refine eN jK jT 0 Tryz.func60 rfl ?_;intro _;conv=>whnf
 refine⟨show(0:Int)<=(i:Int)/\(i:Int)<(code.length:Nat) from ⟨by omega,by omega⟩,?_⟩;conv=>whnf
 (generalize hrq:jC _ _ (qF code)=rq;obtain rfl:rq=[intA op,intA n]:=hrq.symm.trans (hrow);clear hrq;conv=>whnf)
 rw[xtw0 h1];conv=>whnf
 rw[xtw0 h2];conv=>whnf
 rw[xtw0 h3];conv=>whnf
 refine⟨jG (by omega),?_⟩;conv=>whnf
 rfl
section
end
structure DqC(code:List Ic)(x:Int)(c0:Nat)(i:Int)(out:List Int)(ok ch:Bool):Prop where
 di:Di code x out ok
 ct:c0+(if ch=true then 1 else 0)<=cN out
 pd:ch=false->∀j,0<=j->j<i->0<=og out j->Pds code out ok j (sc code j)
structure Dr(code:List Ic)(x:Int)(c0:Nat)(i:Int)(v d:Int)(t:Nat)(out:List Int)(ok ch:Bool):Prop where
 dq:DqC code x c0 i out ok ch
 iv:og out i=v
 dd:0<=d/\d<=cN out
 dl:ok=true->qJ (opI code i)<=v/\d=lv code i v
 dc:∀D,jal code x D->d=lv code i v
 pr:ch=false->Pds code out ok i ((sc code i).take t)
theorem jnc{out:List Int}{i:Nat}(hi:i<out.length):jC 1 i (jX out)=[intA (og out i)]:=by
 rw[bH out i hi];unfold og;rw[xtw116,xtw9,xtw21 hi]
 try rfl
theorem jkX(l:List Int)(k:Nat)(v:Int):(jX l).set k (intA v)=jX (l.set k v):=by
 unfold jX;rw[List.map_set]
 try rfl
theorem Dr.skip{code:List Ic}{x:Int}{c0:Nat}{i v d:Int}{t:Nat}{out:List Int}{ok ch:Bool}(h:Dr code x c0 i v d t out ok ch)(ht:t<(sc code i).length)(hk:¬(0<=(sc code i)[t]/\(sc code i)[t]<code.length)):Dr code x c0 i v d (t+1) out ok ch:=by
 refine⟨h.dq,h.iv,h.dd,h.dl,h.dc,fun hc=>⟨(h.pr hc).1,fun k hk' h1 h2=>?_⟩⟩;rw[xtw26 ht,xtw30,xtw16] at hk';rcases hk' with hk'|rfl
 ·exact(h.pr hc).2 k hk' h1 h2
 ·exact absurd ⟨h1,h2⟩ hk
theorem Dr.put{code:List Ic}{x:Int}{c0:Nat}{i v d:Int}{t:Nat}{out:List Int}{ok ch:Bool}(h:Dr code x c0 i v d t out ok ch)(hi:0<=i/\i<code.length)(hv:0<=v)(ht:t<(sc code i).length)(hk:0<=(sc code i)[t]/\(sc code i)[t]<code.length)(hlt:og out (sc code i)[t]<0):Dr code x c0 i v d (t+1) (out.set ((sc code i)[t]).toNat d) ok true:=by
 have hm:=xtw10 ht
 have hin:=fun D (hD:jal code x D)=>(h.dq.di.uq D hD).2 i hi.1 hi.2 (by rw[h.iv];exact hv)
 have hr:Rch code x i:=h.dq.di.re i hi.1 hi.2 (by rw[h.iv];exact hv)
 obtain⟨q1,q2⟩:=h.dq.di.put hi (by rw[h.iv];exact hv) hm hk hlt h.dd fun D hD=>by
  rw[h.dc D hD,<- h.iv,hin D hD];exact(hD.nx i hr _ hm hk.2).symm
 have hct:=h.dq.ct
 have hcc:(if ch=true then 1 else 0)<=1:=by split <;> omega
 refine⟨⟨q1,by rw[q2,xtw3 rfl];omega,fun hc=>by cases hc⟩,?_,⟨h.dd.1,by rw[q2];have:=h.dd.2;omega⟩,h.dl,h.dc,fun hc=>by cases hc⟩;rw[jby (by rw[h.dq.di.ln];exact hk) hi.1,xtw2 ?_]
 ·exact h.iv
 ·intro e;rw[<- e,h.iv] at hlt;omega
theorem Dr.same{code:List Ic}{x:Int}{c0:Nat}{i v d:Int}{t:Nat}{out:List Int}{ok ch:Bool}(h:Dr code x c0 i v d t out ok ch)(hi:0<=i/\i<code.length)(ht:t<(sc code i).length)(hlt:¬og out (sc code i)[t]<0)(he:og out (sc code i)[t]=d):Dr code x c0 i v d (t+1) out ok ch:=by
 refine⟨h.dq,h.iv,h.dd,h.dl,h.dc,fun hc=>⟨(h.pr hc).1,fun k hk' h1 h2=>?_⟩⟩;rw[xtw26 ht,xtw30,xtw16] at hk';rcases hk' with hk'|rfl
 ·exact(h.pr hc).2 k hk' h1 h2
 ·refine⟨by omega,fun hok=>?_⟩;rw[he,h.iv];exact(h.dl hok).2
theorem Di.bad{code:List Ic}{x:Int}{c0:Nat}{i v d:Int}{t:Nat}{out:List Int}{ok ch:Bool}(h:Dr code x c0 i v d t out ok ch)(hD:∀D,¬jal code x D):Dr code x c0 i v d t out false ch :=
 ⟨⟨h.dq.di.no hD,h.dq.ct,fun hc j h1 h2 h3=>⟨(fun e=>by cases e),fun k hk q1 q2=>⟨((h.dq.pd hc j h1 h2 h3).2 k hk q1 q2).1,fun e=>by cases e⟩⟩⟩,h.iv,h.dd,(fun e=>by cases e),h.dc,fun hc=>⟨(fun e=>by cases e),fun k hk q1 q2=>⟨((h.pr hc).2 k hk q1 q2).1,fun e=>by cases e⟩⟩⟩
theorem Dr.conf{code:List Ic}{x:Int}{c0:Nat}{i v d:Int}{t:Nat}{out:List Int}{ok ch:Bool}(h:Dr code x c0 i v d t out ok ch)(hi:0<=i/\i<code.length)(hv:0<=v)(ht:t<(sc code i).length)(hk:0<=(sc code i)[t]/\(sc code i)[t]<code.length)(hlt:¬og out (sc code i)[t]<0)(he:og out (sc code i)[t]≠d):Dr code x c0 i v d (t+1) out false ch:=by
 have hm:=xtw10 ht;have hr:Rch code x i:=h.dq.di.re i hi.1 hi.2 (by rw[h.iv];exact hv)
 have h':Dr code x c0 i v d t out false ch:=Di.bad h fun D hD=>by
  have e1:=(h.dq.di.uq D hD).2 i hi.1 hi.2 (by rw[h.iv];exact hv);have e2:=(h.dq.di.uq D hD).2 _ hk.1 hk.2 (by omega);apply he;rw[e2,hD.nx i hr _ hm hk.2,<- e1,h.iv,h.dc D hD]
 refine⟨h'.dq,h'.iv,h'.dd,h'.dl,h'.dc,fun hc=>⟨(fun e=>by cases e),fun k hk' h1 h2=>?_⟩⟩;rw[xtw26 ht,xtw30,xtw16] at hk';rcases hk' with hk'|rfl
 ·exact(h'.pr hc).2 k hk' h1 h2
 ·exact⟨by omega,fun e=>by cases e⟩
theorem Dr.done{code:List Ic}{x:Int}{c0:Nat}{i v d:Int}{out:List Int}{ok ch:Bool}(h:Dr code x c0 i v d (sc code i).length out ok ch)(hi:0<=i):DqC code x c0 (i+1) out ok ch:=by
 refine⟨h.dq.di,h.dq.ct,fun hc j h1 h2 h3=>?_⟩;by_cases e:j=i
 ·subst e;have:=h.pr hc;rw[xtw54] at this;exact this
 ·exact h.dq.pd hc j h1 (by omega) h3
theorem DqC.jump{code:List Ic}{x:Int}{c0:Nat}{i:Int}{out:List Int}{ok ch:Bool}(h:DqC code x c0 i out ok ch)(hv:og out i<0):DqC code x c0 (i+1) out ok ch:=by
 refine⟨h.di,h.ct,fun hc j h1 h2 h3=>?_⟩;by_cases e:j=i
 ·subst e;omega
 ·exact h.pd hc j h1 (by omega) h3
theorem DqC.take{code:List Ic}{x:Int}{c0:Nat}{i:Int}{out:List Int}{ok ch:Bool}(h:DqC code x c0 i out ok ch)(hi:0<=i/\i<code.length)(hv:0<=og out i)(hl:qJ (opI code i)<=og out i):Dr code x c0 i (og out i) (og out i-qJ (opI code i)+qG (opI code i)) 0 out ok ch:=by
 have hb:=h.di.bnd hi;have p1:=sF (opI code i);have p2:=dV (opI code i);exact⟨h,rfl,⟨by omega,by omega⟩,fun _=>⟨hl,rfl⟩,fun D hD=>rfl,fun hc=>⟨fun _=>hl,fun k hk=>by rw[xtw99] at hk;cases hk⟩⟩
theorem DqC.under{code:List Ic}{x:Int}{c0:Nat}{i:Int}{out:List Int}{ok ch:Bool}(h:DqC code x c0 i out ok ch)(hi:0<=i/\i<code.length)(hv:0<=og out i)(hl:og out i<qJ (opI code i)):Dr code x c0 i (og out i) (qG (opI code i)) 0 out false ch:=by
 have hr:Rch code x i:=h.di.re i hi.1 hi.2 hv;have hb:=h.di.bnd hi;have p2:=dV (opI code i)
 have hno:∀D,¬jal code x D:=fun D hD=>by
  have e1:=(h.di.uq D hD).2 i hi.1 hi.2 hv;have e2:=hD.po i hr;omega
 exact⟨⟨h.di.no hno,h.ct,fun hc j h1 h2 h3=>⟨(fun e=>by cases e),fun k hk q1 q2=>⟨((h.pd hc j h1 h2 h3).2 k hk q1 q2).1,fun e=>by cases e⟩⟩⟩,rfl,⟨by omega,by omega⟩,(fun e=>by cases e),fun D hD=>absurd hD (hno D),fun hc=>⟨(fun e=>by cases e),fun k hk=>by rw[xtw99] at hk;cases hk⟩⟩
theorem jgW(n:Nat):jln n [Value.int .i64 0]=jX (List.replicate n 0):=by
 rw[jkd,List.map_singleton,List.flatten_replicate_singleton];unfold jX;rw[List.map_replicate];rfl
theorem jnP(code:List Ic)(a:Int):(sc code a).length<=2:=by
 unfold sc nxI
 repeat' split
 all_goals simp
theorem jbc(l:List Int):(jX l).length=l.length:=by unfold jX;rw[xtw44]
theorem dZ{l:List Int}{k:Nat}{v:Int}{K:List A->Prop}(hk:k<l.length)(h:K (jX (l.set k v))):cM (jX l) (k*1) (intA v) K:=by
 rw[xtw84];refine fP (by rw[jbc];exact hk) ?_;rw[jkX];exact h
theorem eV{out:List Int}{i:Int}(h:0<=i/\i<out.length):(jX out).drop (i.toNat*1)=intA (og out i)::(jX out).drop (i.toNat+1):=by
 obtain⟨h2,e⟩:=jiA h.1 h.2;rw[xtw84,xtw63 (by rw[jbc];exact h2),e]
 congr 1
 unfold jX;rw[xtw120]
 try rfl
def ini(n j:Nat):List Int:=List.replicate j (-1)++List.replicate (n-j) 0
theorem jjU(n j:Nat)(h:j<=n):(ini n j).length=n:=by unfold ini;rw[xtw4,xtw96,xtw96];omega
theorem jjV(n j:Nat)(h:j<n):(ini n j).set j (-1)=ini n (j+1):=by
 unfold ini;rw[List.set_append_right _ _ (by rw[xtw96];exact xtw11 _),xtw96,Nat.sub_self,show n-j=(n-(j+1))+1 by omega,xtw73,xtw45,List.replicate_succ',xtw40];rfl
theorem jjT(n:Nat):ini n n=List.replicate n (-1):=by unfold ini;rw[Nat.sub_self];exact xtw66 _
def jqK(id:Nat):Tr:=match Nat.beq id 17 with
 |true=>.q 0 3 (.q 1 3 (.q 2 3 (.q 4 3 (.q 5 0 (.q 6 3 (.q 7 3 (.q 8 3 (.q 9 0 (.alt 3 1 (.alt 10 1 (.q 11 3 (.q 12 3 .nil)) .nil) (.alt 10 1 (.alt 3 1 (.q 11 3 (.q 12 3 .nil)) .nil) .nil))))))))))
 |false=>.nil
theorem jfV(code:List Ic)(e:Nat->Int)(du vo x:Int)(hl:code.length<=1000000)(hj:cU code)(ho:∀i∈code,1<=i.1/\i.1<=23)(hx:0<=x/\x<code.length):Spec Tryz.prog 30 [] [sE code e du vo,intA x] fun _ r=>∃out ok,r=.tup [.sl 1 out.length (jX out),qA ok]/\Dp code x out ok:=by
 refine eN jqK jT 0 Tryz.func30 rfl ?_;intro _;conv=>whnf
 refine⟨⟨by omega,rfl,by omega,by omega⟩,?_⟩;conv=>whnf
 refine jA [1,2,6] ?_;conv=>whnf
 refine jE (fun j:Nat=>[(7,.v (.int .i64 j))]) (fun _=>[pgL code e du vo]) (fun j=>[.live 3 1 code.length (jX (ini code.length j))]) (fun j=>j<=code.length) (fun j=>code.length-j) 0 ?_ (xtw19 _) ?_
 ·repeat' constructor
  show Row.live _ 1 code.length (jln code.length [Value.int .i64 0])=_;rw[jgW];rfl
 intro j hjn;conv=>whnf
 rcases xtw36 j code.length with hlt|hge
 ·rw[xtw1 (show(j:Int)<(code.length:Int) by omega)];conv=>whnf
  refine⟨show(0:Int)<=(j:Int)/\(j:Int)<(code.length:Nat) from ⟨by omega,by omega⟩,?_⟩;conv=>whnf
  refine dZ (l:=ini code.length j) (k:=j) (v := -1) (by rw[jjU _ _ hjn];exact hlt) ?_;rw[jjV _ _ hlt];conv=>whnf
  refine jN j (by omega) ?_;conv=>whnf
  refine⟨j+1,jD [0] ?_,show j+1<=code.length by omega,show code.length-(j+1)<code.length-j by omega⟩;conv=>whnf
  repeat' constructor
 obtain rfl:j=code.length:=by omega
 rw[xtw0 (show ¬(code.length:Int)<(code.length:Int) by omega)];rw[jjT];conv=>whnf
 rw[xtw0 (show ¬x<0 by omega)];conv=>whnf
 rw[xtw0 (show ¬(code.length:Int)<=x by omega)];conv=>whnf
 refine⟨show(0:Int)<=x/\x<(code.length:Nat) from hx,?_⟩;conv=>whnf
 refine dZ (l:=List.replicate code.length (-1)) (k:=x.toNat) (v:=0) (by rw[xtw96];omega) ?_;have hini:=Di.init hx;generalize (List.replicate code.length (-1:Int)).set x.toNat 0=outI at hini;conv=>whnf
 refine jA [2,6] ?_;conv=>whnf
 refine jE (fun y:List Int×Bool×Bool=>[(8,qA y.2.1),(9,qA y.2.2)]) (fun _=>[pgL code e du vo]) (fun y=>[.live 3 1 code.length (jX y.1)]) (fun y=>Di code x y.1 y.2.1/\(y.2.2=false->∀j:Int,0<=j->j<code.length->0<=og y.1 j->Pds code y.1 y.2.1 j (sc code j))) (fun y=>code.length-cN y.1+(if y.2.2=true then 1 else 0)) (outI,true,true) ?_ ⟨hini,fun h=>by cases h⟩ ?_
 ·repeat' constructor
 rintro⟨out0,ok0,ch0⟩ ⟨g1,g2⟩
 simp only at g1 g2
 cases ch0 with
 |false =>
  conv=>whnf
  refine⟨out0,ok0,?_,Dp.of hj hx g1 (g2 rfl)⟩;rw[g1.ln]
  try rfl
 |true =>
  conv=>whnf
  refine jA [2,6] ?_;conv=>whnf
  refine jE (fun y:Nat×List Int×Bool×Bool=>[(8,qA y.2.2.1),(9,qA y.2.2.2),(10,.v (.int .i64 y.1))]) (fun _=>[pgL code e du vo]) (fun y=>[.live 3 1 code.length (jX y.2.1)]) (fun y=>y.1<=code.length/\DqC code x (cN out0) y.1 y.2.1 y.2.2.1 y.2.2.2) (fun y=>code.length-y.1) (0,out0,ok0,false) ?_ ⟨xtw19 _,g1,xtw11 _,fun _ j h1 h2=>by omega⟩ ?_
  ·repeat' constructor
  rintro⟨i,out,ok,ch⟩ ⟨q1,q2⟩
  simp only at q1 q2
  have hln:=q2.di.ln;conv=>whnf
  rcases xtw36 i code.length with hil|hig
  ·have hir:(0:Int)<=(i:Int)/\(i:Int)<code.length:=⟨by omega,by omega⟩
   have hbd:=q2.di.bnd hir;rw[xtw1 (show(i:Int)<(code.length:Int) by omega)];conv=>whnf
   refine⟨show(0:Int)<=(i:Int)/\(i:Int)<(code.length:Nat) from hir,?_⟩;conv=>whnf
   rw[eV (by rw[hln];exact hir)];conv=>whnf
   by_cases hv:og out i<0
   ·rw[xtw1 hv];conv=>whnf
    refine jN i (by omega) ?_;conv=>whnf
    refine⟨(i+1,out,ok,ch),jD [0] ?_,⟨show i+1<=code.length by omega,q2.jump hv⟩,show code.length-(i+1)<code.length-i by omega⟩;conv=>whnf
    repeat' constructor
   rw[xtw0 hv]
   have hv:0<=og out i:=by omega
   have hrow:jC 2 i (qF code)=icA code[i]:=aN code i hil
   have hopi:opI code i=(code[i]).1:=by unfold opI;rw[xtw116,xtw9,xtw21 hil];rfl
   have hoi:=ho _ (xtw10 hil);have hnx:=jl8 code e du vo hl i hil;have htake:=q2.take hir hv;have hund:=q2.under hir hv;rw[hopi] at htake hund;generalize code[i]=ci at hrow htake hund hoi;obtain⟨op,n⟩:=ci;unfold icA at hrow
   simp only at hrow htake hund hoi
   have hps:=jdH op;have hpu:=uR op;unfold jpB at hps;rw[xtw3 hoi] at hps;have p1:=sF op;have p2:=dV op;have hcn:=jcX out;rw[hln] at hcn;conv=>whnf
   apply mA
   ·conv=>whnf
    refine⟨hir,?_⟩;conv=>whnf
    refine⟨hir,?_⟩;conv=>whnf
    (generalize hrq:jC _ _ (qF code)=rq;obtain rfl:rq=[intA op,intA n]:=hrq.symm.trans (hrow);clear hrq;conv=>whnf)
    refine⟨?_,?_⟩
    ·conv=>whnf
     rw[eV (by rw[hln];exact hir)];conv=>whnf
     refine jY [] hps ?_;rintro r rfl;conv=>whnf
     refine⟨show lo .i64<=og out i-qJ op/\og out i-qJ op<=hi .i64 from jG (by omega),?_⟩;conv=>whnf
    ·conv=>whnf
     refine jY [] hps ?_;rintro r rfl;conv=>whnf
     rw[eV (by rw[hln];exact hir)];conv=>whnf
     refine⟨show lo .i64<=og out i-qJ op/\og out i-qJ op<=hi .i64 from jG (by omega),?_⟩;conv=>whnf
   conv=>whnf
   by_cases hu:og out i-qJ op<0
   ·rw[xtw1 hu];conv=>whnf
    refine⟨show(0:Int)<=(i:Int)/\(i:Int)<(code.length:Nat) from hir,?_⟩;conv=>whnf
    (generalize hrq:jC _ _ (qF code)=rq;obtain rfl:rq=[intA op,intA n]:=hrq.symm.trans (hrow);clear hrq;conv=>whnf)
    refine jY [] hpu ?_;rintro r rfl;conv=>whnf
    refine⟨jG (by omega),?_⟩;conv=>whnf
    refine jY [] hnx ?_;rintro r rfl;rw[Int.zero_add]
    have hdr0:=(hund (by omega))
    have hscl:=jnP code i;have hdb:=hdr0.dd;have hcn:=jcX out;rw[hln] at hcn
    obtain⟨d,hd⟩:∃d,qG op=d:=⟨_,rfl⟩
    rw[hd] at hdr0 hdb ⊢;conv=>whnf
    refine jA [2,6,10,11,12] ?_;conv=>whnf
    refine jE (fun y:Nat×List Int×Bool×Bool=>[(8,qA y.2.2.1),(9,qA y.2.2.2),(13,.v (.int .i64 y.1))]) (fun _=>[pgL code e du vo]) (fun y=>[.live 3 1 code.length (jX y.2.1)]) (fun y=>y.1<=(sc code i).length/\Dr code x (cN out0) i (og out i) d y.1 y.2.1 y.2.2.1 y.2.2.2) (fun y=>(sc code i).length-y.1) (0,out,false,ch) ?_ ⟨xtw19 _,hdr0⟩ ?_
    ·repeat' constructor
    clear hdr0 hdb;rintro⟨t,out1,ok1,ch1⟩ ⟨f1,f2⟩
    simp only at f1 f2
    have hln1:=f2.dq.di.ln;conv=>whnf
    rcases xtw36 t (sc code i).length with htl|htg
    ·have hrw:=bH (sc code i) t htl
     obtain⟨k,hk⟩:∃k,(sc code i)[t]=k:=⟨_,rfl⟩
     have hskip:=f2.skip htl;have hput:=f2.put hir hv htl;have hsame:=f2.same hir htl;have hconf:=f2.conf hir hv htl;rw[hk] at hrw hskip hput hsame hconf;rw[xtw1 (show(t:Int)<((sc code i).length:Int) by omega)];conv=>whnf
     refine⟨show(0:Int)<=(t:Int)/\(t:Int)<((sc code i).length:Nat) from ⟨by omega,by omega⟩,?_⟩;conv=>whnf
     (generalize hrq:jC _ _ (jX (sc code i))=rq;obtain rfl:rq=[intA k]:=hrq.symm.trans (hrw);clear hrq;conv=>whnf)
     by_cases hk1:k<0
     ·rw[xtw1 hk1];conv=>whnf
      refine jN t (by omega) ?_;conv=>whnf
      refine⟨(t+1,out1,ok1,ch1),jD [0] ?_,⟨show t+1<=(sc code i).length by omega,hskip (by omega)⟩,show(sc code i).length-(t+1)<(sc code i).length-t by omega⟩;conv=>whnf
      repeat' constructor
     rw[xtw0 hk1];conv=>whnf
     refine⟨show(0:Int)<=(t:Int)/\(t:Int)<((sc code i).length:Nat) from ⟨by omega,by omega⟩,?_⟩;conv=>whnf
     (generalize hrq:jC _ _ (jX (sc code i))=rq;obtain rfl:rq=[intA k]:=hrq.symm.trans (hrw);clear hrq;conv=>whnf)
     by_cases hk2:(code.length:Int)<=k
     ·rw[xtw1 hk2];conv=>whnf
      refine jN t (by omega) ?_;conv=>whnf
      refine⟨(t+1,out1,ok1,ch1),jD [0] ?_,⟨show t+1<=(sc code i).length by omega,hskip (by omega)⟩,show(sc code i).length-(t+1)<(sc code i).length-t by omega⟩;conv=>whnf
      repeat' constructor
     rw[xtw0 hk2]
     have hkr:0<=k/\k<code.length:=⟨by omega,by omega⟩
     conv=>whnf
     refine⟨show(0:Int)<=(t:Int)/\(t:Int)<((sc code i).length:Nat) from ⟨by omega,by omega⟩,?_⟩;conv=>whnf
     (generalize hrq:jC _ _ (jX (sc code i))=rq;obtain rfl:rq=[intA k]:=hrq.symm.trans (hrw);clear hrq;conv=>whnf)
     refine⟨show(0:Int)<=k/\k<(code.length:Nat) from hkr,?_⟩;conv=>whnf
     rw[eV (by rw[hln1];exact hkr)];conv=>whnf
     by_cases hneg:og out1 k<0
     ·rw[xtw1 hneg];conv=>whnf
      refine⟨show(0:Int)<=(t:Int)/\(t:Int)<((sc code i).length:Nat) from ⟨by omega,by omega⟩,?_⟩;conv=>whnf
      (generalize hrq:jC _ _ (jX (sc code i))=rq;obtain rfl:rq=[intA k]:=hrq.symm.trans (hrw);clear hrq;conv=>whnf)
      refine⟨show(0:Int)<=k/\k<(code.length:Nat) from hkr,?_⟩;conv=>whnf
      refine dZ (l:=out1) (k:=k.toNat) (v:=d) (by rw[hln1];omega) ?_;conv=>whnf
      refine jN t (by omega) ?_;conv=>whnf
      refine⟨(t+1,out1.set k.toNat d,ok1,true),jD [0] ?_,⟨show t+1<=(sc code i).length by omega,hput hkr hneg⟩,show(sc code i).length-(t+1)<(sc code i).length-t by omega⟩;conv=>whnf
      repeat' constructor
     rw[xtw0 hneg];conv=>whnf
     refine⟨show(0:Int)<=(t:Int)/\(t:Int)<((sc code i).length:Nat) from ⟨by omega,by omega⟩,?_⟩;conv=>whnf
     (generalize hrq:jC _ _ (jX (sc code i))=rq;obtain rfl:rq=[intA k]:=hrq.symm.trans (hrw);clear hrq;conv=>whnf)
     refine⟨show(0:Int)<=k/\k<(code.length:Nat) from hkr,?_⟩;conv=>whnf
     rw[eV (by rw[hln1];exact hkr)];conv=>whnf
     by_cases heq:og out1 k=d
     ·rw[xtw1 heq];conv=>whnf
      refine jN t (by omega) ?_;conv=>whnf
      refine⟨(t+1,out1,ok1,ch1),jD [0] ?_,⟨show t+1<=(sc code i).length by omega,hsame hneg heq⟩,show(sc code i).length-(t+1)<(sc code i).length-t by omega⟩;conv=>whnf
      repeat' constructor
     ·rw[xtw0 heq];conv=>whnf
      refine jN t (by omega) ?_;conv=>whnf
      refine⟨(t+1,out1,false,ch1),jD [0] ?_,⟨show t+1<=(sc code i).length by omega,hconf hkr hneg heq⟩,show(sc code i).length-(t+1)<(sc code i).length-t by omega⟩;conv=>whnf
      repeat' constructor
    rw[xtw0 (show ¬(t:Int)<((sc code i).length:Int) by omega)]
    have htt:t=(sc code i).length:=by omega
    conv=>whnf
    refine jN i (by omega) ?_;conv=>whnf
    refine⟨(i+1,out1,ok1,ch1),jD [0] ?_,⟨show i+1<=code.length by omega,?_⟩,show code.length-(i+1)<code.length-i by omega⟩
    ·conv=>whnf
     repeat' constructor
    ·have f3:=f2;rw[htt] at f3;exact f3.done (by omega)
   ·rw[xtw0 hu];conv=>whnf
    refine⟨show(0:Int)<=(i:Int)/\(i:Int)<(code.length:Nat) from hir,?_⟩;conv=>whnf
    (generalize hrq:jC _ _ (qF code)=rq;obtain rfl:rq=[intA op,intA n]:=hrq.symm.trans (hrow);clear hrq;conv=>whnf)
    refine jY [] hpu ?_;rintro r rfl;conv=>whnf
    refine⟨show lo .i64<=og out i-qJ op+qG op/\og out i-qJ op+qG op<=hi .i64 from jG (by omega),?_⟩;conv=>whnf
    refine jY [] hnx ?_;rintro r rfl
    have hdr0:=(htake (by omega))
    have hscl:=jnP code i;have hdb:=hdr0.dd;have hcn:=jcX out;rw[hln] at hcn
    obtain⟨d,hd⟩:∃d,og out i-qJ op+qG op=d:=⟨_,rfl⟩
    rw[hd] at hdr0 hdb ⊢;conv=>whnf
    refine jA [2,6,10,11,12] ?_;conv=>whnf
    refine jE (fun y:Nat×List Int×Bool×Bool=>[(8,qA y.2.2.1),(9,qA y.2.2.2),(13,.v (.int .i64 y.1))]) (fun _=>[pgL code e du vo]) (fun y=>[.live 3 1 code.length (jX y.2.1)]) (fun y=>y.1<=(sc code i).length/\Dr code x (cN out0) i (og out i) d y.1 y.2.1 y.2.2.1 y.2.2.2) (fun y=>(sc code i).length-y.1) (0,out,ok,ch) ?_ ⟨xtw19 _,hdr0⟩ ?_
    ·repeat' constructor
    clear hdr0 hdb;rintro⟨t,out1,ok1,ch1⟩ ⟨f1,f2⟩
    simp only at f1 f2
    have hln1:=f2.dq.di.ln;conv=>whnf
    rcases xtw36 t (sc code i).length with htl|htg
    ·have hrw:=bH (sc code i) t htl
     obtain⟨k,hk⟩:∃k,(sc code i)[t]=k:=⟨_,rfl⟩
     have hskip:=f2.skip htl;have hput:=f2.put hir hv htl;have hsame:=f2.same hir htl;have hconf:=f2.conf hir hv htl;rw[hk] at hrw hskip hput hsame hconf;rw[xtw1 (show(t:Int)<((sc code i).length:Int) by omega)];conv=>whnf
     refine⟨show(0:Int)<=(t:Int)/\(t:Int)<((sc code i).length:Nat) from ⟨by omega,by omega⟩,?_⟩;conv=>whnf
     (generalize hrq:jC _ _ (jX (sc code i))=rq;obtain rfl:rq=[intA k]:=hrq.symm.trans (hrw);clear hrq;conv=>whnf)
     by_cases hk1:k<0
     ·rw[xtw1 hk1];conv=>whnf
      refine jN t (by omega) ?_;conv=>whnf
      refine⟨(t+1,out1,ok1,ch1),jD [0] ?_,⟨show t+1<=(sc code i).length by omega,hskip (by omega)⟩,show(sc code i).length-(t+1)<(sc code i).length-t by omega⟩;conv=>whnf
      repeat' constructor
     rw[xtw0 hk1];conv=>whnf
     refine⟨show(0:Int)<=(t:Int)/\(t:Int)<((sc code i).length:Nat) from ⟨by omega,by omega⟩,?_⟩;conv=>whnf
     (generalize hrq:jC _ _ (jX (sc code i))=rq;obtain rfl:rq=[intA k]:=hrq.symm.trans (hrw);clear hrq;conv=>whnf)
     by_cases hk2:(code.length:Int)<=k
     ·rw[xtw1 hk2];conv=>whnf
      refine jN t (by omega) ?_;conv=>whnf
      refine⟨(t+1,out1,ok1,ch1),jD [0] ?_,⟨show t+1<=(sc code i).length by omega,hskip (by omega)⟩,show(sc code i).length-(t+1)<(sc code i).length-t by omega⟩;conv=>whnf
      repeat' constructor
     rw[xtw0 hk2]
     have hkr:0<=k/\k<code.length:=⟨by omega,by omega⟩
     conv=>whnf
     refine⟨show(0:Int)<=(t:Int)/\(t:Int)<((sc code i).length:Nat) from ⟨by omega,by omega⟩,?_⟩;conv=>whnf
     (generalize hrq:jC _ _ (jX (sc code i))=rq;obtain rfl:rq=[intA k]:=hrq.symm.trans (hrw);clear hrq;conv=>whnf)
     refine⟨show(0:Int)<=k/\k<(code.length:Nat) from hkr,?_⟩;conv=>whnf
     rw[eV (by rw[hln1];exact hkr)];conv=>whnf
     by_cases hneg:og out1 k<0
     ·rw[xtw1 hneg];conv=>whnf
      refine⟨show(0:Int)<=(t:Int)/\(t:Int)<((sc code i).length:Nat) from ⟨by omega,by omega⟩,?_⟩;conv=>whnf
      (generalize hrq:jC _ _ (jX (sc code i))=rq;obtain rfl:rq=[intA k]:=hrq.symm.trans (hrw);clear hrq;conv=>whnf)
      refine⟨show(0:Int)<=k/\k<(code.length:Nat) from hkr,?_⟩;conv=>whnf
      refine dZ (l:=out1) (k:=k.toNat) (v:=d) (by rw[hln1];omega) ?_;conv=>whnf
      refine jN t (by omega) ?_;conv=>whnf
      refine⟨(t+1,out1.set k.toNat d,ok1,true),jD [0] ?_,⟨show t+1<=(sc code i).length by omega,hput hkr hneg⟩,show(sc code i).length-(t+1)<(sc code i).length-t by omega⟩;conv=>whnf
      repeat' constructor
     rw[xtw0 hneg];conv=>whnf
     refine⟨show(0:Int)<=(t:Int)/\(t:Int)<((sc code i).length:Nat) from ⟨by omega,by omega⟩,?_⟩;conv=>whnf
     (generalize hrq:jC _ _ (jX (sc code i))=rq;obtain rfl:rq=[intA k]:=hrq.symm.trans (hrw);clear hrq;conv=>whnf)
     refine⟨show(0:Int)<=k/\k<(code.length:Nat) from hkr,?_⟩;conv=>whnf
     rw[eV (by rw[hln1];exact hkr)];conv=>whnf
     by_cases heq:og out1 k=d
     ·rw[xtw1 heq];conv=>whnf
      refine jN t (by omega) ?_;conv=>whnf
      refine⟨(t+1,out1,ok1,ch1),jD [0] ?_,⟨show t+1<=(sc code i).length by omega,hsame hneg heq⟩,show(sc code i).length-(t+1)<(sc code i).length-t by omega⟩;conv=>whnf
      repeat' constructor
     ·rw[xtw0 heq];conv=>whnf
      refine jN t (by omega) ?_;conv=>whnf
      refine⟨(t+1,out1,false,ch1),jD [0] ?_,⟨show t+1<=(sc code i).length by omega,hconf hkr hneg heq⟩,show(sc code i).length-(t+1)<(sc code i).length-t by omega⟩;conv=>whnf
      repeat' constructor
    rw[xtw0 (show ¬(t:Int)<((sc code i).length:Int) by omega)]
    have htt:t=(sc code i).length:=by omega
    conv=>whnf
    refine jN i (by omega) ?_;conv=>whnf
    refine⟨(i+1,out1,ok1,ch1),jD [0] ?_,⟨show i+1<=code.length by omega,?_⟩,show code.length-(i+1)<code.length-i by omega⟩
    ·conv=>whnf
     repeat' constructor
    ·have f3:=f2;rw[htt] at f3;exact f3.done (by omega)
  rw[xtw0 (show ¬(i:Int)<(code.length:Int) by omega)]
  obtain rfl:i=code.length:=by omega
  conv=>whnf
  refine⟨(out,ok,ch),jD [0] ?_,⟨q2.di,fun hc j h1 h2 h3=>q2.pd hc j h1 h2 h3⟩,?_⟩
  ·conv=>whnf
   repeat' constructor
  ·have h1:=q2.ct;have h2:=jcX out;have h3:=g1.ln;have h4:=jcX out0;show code.length-cN out+(if ch=true then 1 else 0)<code.length-cN out0+1;rw[hln] at h2
   split at h1 <;> simp_all <;> omega
theorem jjG(c0:A)(e:Nat->Int)(du vo:Int)(j:Nat)(hj:j<40):(c0::pgE e du vo).drop (1+j*1)=intA (e j)::(c0::pgE e du vo).drop (j+2):=by
 have hlen:(enL e).length=40:=by unfold enL;rw[xtw44,List.length_range]
 have hl:j<(enL e).length:=by rw[hlen];exact hj
 rw[show 1+j*1=j+1 by omega,xtw71,show j+2=(j+1)+1 by omega,xtw71,pG];rw[xtw63 (by rw[xtw4];omega),List.getElem_append_left hl];have h0:=jeD e j hj;rw[xtw116,xtw84,xtw21 hl] at h0;rw[xtw43 h0]
theorem ji1(code:List Ic)(e:Nat->Int)(du vo:Int)(h:Nat)(hh:h<40)(hl:code.length<=1000000)(hj:cU code)(ho:∀i∈code,1<=i.1/\i.1<=23)(hx:0<=e h/\e h<code.length):Spec Tryz.prog 43 [] [sE code e du vo,.v (.int .i64 h)] fun _ r=>∃out ok m,Dp code (e h) out ok/\r=intA m/\(m<=16↔∀i,Rch code (e h) i->og out i<=16/\lv code i (og out i)<=16):=by
 have hds:=jfV code e du vo (e h) hl hj ho hx;refine eN jqI jT 0 Tryz.func43 rfl ?_;intro _;conv=>whnf
 refine⟨show(0:Int)<=(h:Int)/\(h:Int)<((40:Nat):Int) from ⟨by omega,by omega⟩,?_⟩;conv=>whnf
 generalize hrq:List.drop _ _=rq;obtain rfl:rq=intA (e h)::(A.sl 2 code.length (qF code)::pgE e du vo).drop (h+2):=hrq.symm.trans (jjG _ e du vo h hh);clear hrq;conv=>whnf
 refine jY [] hds ?_;rintro r ⟨out,ok,rfl,hdp⟩;have hln:=hdp.ln;conv=>whnf
 refine jA [2,5] ?_;conv=>whnf
 refine jE (fun y:Nat×Int=>[(7,intA y.2),(8,.v (.int .i64 y.1))]) (fun _=>[pgL code e du vo]) (fun _=>[]) (fun y=>y.1<=code.length/\0<=y.2/\y.2<=code.length+1/\(y.2<=16↔∀j:Int,0<=j->j<(y.1:Int)->0<=og out j->og out j<=16/\lv code j (og out j)<=16)) (fun y=>code.length-y.1) (0,0) ?_ ⟨xtw19 _,Int.le_refl _,by simp only;omega,⟨fun _ j h1 h2=>by simp only at h2;omega,fun _=>by decide⟩⟩ ?_
 ·repeat' constructor
 rintro⟨i,m⟩ ⟨q1,q2,q3,q4⟩
 simp only at q1 q2 q3 q4
 conv=>whnf
 rcases xtw36 i code.length with hil|hig
 ·have hir:(0:Int)<=(i:Int)/\(i:Int)<code.length:=⟨by omega,by omega⟩
  have hbd:=hdp.bd i hir.1 hir.2;have hro:=jnc (out:=out) (i:=i) (by rw[hln];exact hil)
  have hnew:∀m':Int,(m'<=16↔m<=16/\(0<=og out i->og out i<=16/\lv code i (og out i)<=16))->(m'<=16↔∀j:Int,0<=j->j<((i+1:Nat):Int)->0<=og out j->og out j<=16/\lv code j (og out j)<=16):=fun m' hm=>by
   rw[hm,q4];constructor
   ·rintro⟨h1,h2⟩ j h3 h4;by_cases hji:j=i
    ·rw[hji];exact h2
    ·exact h1 j h3 (by omega)
   ·intro h1;exact⟨fun j h3 h4=>h1 j h3 (by omega),h1 i (by omega) (by omega)⟩
  have hrow:jC 2 i (qF code)=icA code[i]:=aN code i hil
  have hopi:opI code i=(code[i]).1:=by unfold opI;rw[xtw116,xtw9,xtw21 hil];rfl
  have hoi:=ho _ (xtw10 hil);unfold lv at hnew;rw[hopi] at hnew;generalize code[i]=ci at hrow hnew hoi;obtain⟨op,n⟩:=ci;unfold icA at hrow
  simp only at hrow hnew hoi
  have hps:=jdH op;have hpu:=uR op;unfold jpB at hps;rw[xtw3 hoi] at hps;have p1:=sF op;have p2:=dV op;rw[xtw1 (show(i:Int)<(out.length:Int) by rw[hln];omega)];conv=>whnf
  refine⟨show(0:Int)<=(i:Int)/\(i:Int)<(out.length:Nat) from ⟨by omega,by rw[hln];omega⟩,?_⟩;conv=>whnf
  (generalize hrq:jC _ _ (jX out)=rq;obtain rfl:rq=[intA (og out i)]:=hrq.symm.trans (hro);clear hrq;conv=>whnf)
  by_cases hv:0<=og out i
  ·rw[xtw1 hv];conv=>whnf
   refine⟨show(0:Int)<=(i:Int)/\(i:Int)<(code.length:Nat) from hir,?_⟩;conv=>whnf
   (generalize hrq:jC _ _ (qF code)=rq;obtain rfl:rq=[intA op,intA n]:=hrq.symm.trans (hrow);clear hrq;conv=>whnf)
   have hio:(0:Int)<=(i:Int)/\(i:Int)<(out.length:Nat):=⟨by omega,by rw[hln];omega⟩
   refine⟨hio,?_⟩;conv=>whnf
   (generalize hrq:jC _ _ (jX out)=rq;obtain rfl:rq=[intA (og out i)]:=hrq.symm.trans (hro);clear hrq;conv=>whnf)
   refine⟨hio,?_⟩;conv=>whnf
   (generalize hrq:jC _ _ (jX out)=rq;obtain rfl:rq=[intA (og out i)]:=hrq.symm.trans (hro);clear hrq;conv=>whnf)
   refine jY [] hps ?_;rintro r rfl;conv=>whnf
   refine⟨show lo .i64<=og out i-qJ op/\og out i-qJ op<=hi .i64 from jG (by omega),?_⟩;conv=>whnf
   refine jY [] hpu ?_;rintro r rfl;conv=>whnf
   refine⟨show lo .i64<=og out i-qJ op+qG op/\og out i-qJ op+qG op<=hi .i64 from jG (by omega),?_⟩;conv=>whnf
   refine jN i (by omega) ?_;conv=>whnf
   refine⟨(i+1,max (max m (og out i)) (og out i-qJ op+qG op)),jD [] ?_,⟨show i+1<=code.length by omega,show(0:Int)<=max (max m (og out i)) (og out i-qJ op+qG op) by omega,show max (max m (og out i)) (og out i-qJ op+qG op)<=(code.length:Int)+1 by omega,hnew _ ⟨fun h=>⟨by omega,fun _=>⟨by omega,by omega⟩⟩,fun h=>by have:=h.2 hv;omega⟩⟩,show code.length-(i+1)<code.length-i by omega⟩;conv=>whnf
   repeat' constructor
  rw[xtw0 hv];conv=>whnf
  refine jN i (by omega) ?_;conv=>whnf
  refine⟨(i+1,m),jD [] ?_,⟨show i+1<=code.length by omega,q2,q3,hnew m ⟨fun h=>⟨h,fun h2=>absurd h2 hv⟩,fun h=>h.1⟩⟩,show code.length-(i+1)<code.length-i by omega⟩;conv=>whnf
  repeat' constructor
 rw[xtw0 (show ¬(i:Int)<(out.length:Int) by rw[hln];omega)];conv=>whnf
 refine⟨out,ok,m,hdp,rfl,?_⟩;rw[q4];constructor
 ·intro h1 a ha;have hr:=ha.rng hj hx;exact h1 a hr.1 (by omega) ((hdp.re a hr.1 hr.2).2 ha)
 ·intro h1 j h2 h3 h4;exact h1 j ((hdp.re j h2 (by omega)).1 h4)
theorem ji2(code:List Ic)(e:Nat->Int)(du vo x:Int)(hl:code.length<=1000000)(hx:x<0):Spec Tryz.prog 30 [] [sE code e du vo,intA x] fun _ r=>r=.tup [.sl 1 code.length (jX (List.replicate code.length (-1))),qA true]:=by
 refine eN jqK jT 0 Tryz.func30 rfl ?_;intro _;conv=>whnf
 refine⟨⟨by omega,rfl,by omega,by omega⟩,?_⟩;conv=>whnf
 refine jA [1,2,6] ?_;conv=>whnf
 refine jE (fun j:Nat=>[(7,.v (.int .i64 j))]) (fun _=>[pgL code e du vo]) (fun j=>[.live 3 1 code.length (jX (ini code.length j))]) (fun j=>j<=code.length) (fun j=>code.length-j) 0 ?_ (xtw19 _) ?_
 ·repeat' constructor
  show Row.live _ 1 code.length (jln code.length [Value.int .i64 0])=_;rw[jgW];rfl
 intro j hjn;conv=>whnf
 rcases xtw36 j code.length with hlt|hge
 ·rw[xtw1 (show(j:Int)<(code.length:Int) by omega)];conv=>whnf
  refine⟨show(0:Int)<=(j:Int)/\(j:Int)<(code.length:Nat) from ⟨by omega,by omega⟩,?_⟩;conv=>whnf
  refine dZ (l:=ini code.length j) (k:=j) (v := -1) (by rw[jjU _ _ hjn];exact hlt) ?_;rw[jjV _ _ hlt];conv=>whnf
  refine jN j (by omega) ?_;conv=>whnf
  refine⟨j+1,jD [0] ?_,show j+1<=code.length by omega,show code.length-(j+1)<code.length-j by omega⟩;conv=>whnf
  repeat' constructor
 obtain rfl:j=code.length:=by omega
 rw[xtw0 (show ¬(code.length:Int)<(code.length:Int) by omega)];rw[jjT];conv=>whnf
 rw[xtw1 hx];conv=>whnf
 rfl
theorem js6(n i:Nat)(hi:i<n):jC 1 i (jX (List.replicate n (-1)))=[intA (-1)]:=by
 rw[bH _ i (by rw[xtw96];exact hi),List.getElem_replicate];rfl
theorem jkQ(code:List Ic)(e:Nat->Int)(du vo:Int)(h:Nat)(hh:h<40)(hl:code.length<=1000000)(hx:e h<0):Spec Tryz.prog 43 [] [sE code e du vo,.v (.int .i64 h)] fun _ r=>r=intA 0:=by
 have hds:=ji2 code e du vo (e h) hl hx;refine eN jqI jT 0 Tryz.func43 rfl ?_;intro _;conv=>whnf
 refine⟨show(0:Int)<=(h:Int)/\(h:Int)<((40:Nat):Int) from ⟨by omega,by omega⟩,?_⟩;conv=>whnf
 generalize hrq:List.drop _ _=rq;obtain rfl:rq=intA (e h)::(A.sl 2 code.length (qF code)::pgE e du vo).drop (h+2):=hrq.symm.trans (jjG _ e du vo h hh);clear hrq;conv=>whnf
 refine jY [] hds ?_;rintro r rfl;conv=>whnf
 refine jA [2,5,7] ?_;conv=>whnf
 refine jE (fun i:Nat=>[(8,.v (.int .i64 i))]) (fun _=>[pgL code e du vo]) (fun _=>[]) (fun i=>i<=code.length) (fun i=>code.length-i) 0 ?_ (xtw19 _) ?_
 ·repeat' constructor
 intro i hin;conv=>whnf
 rcases xtw36 i code.length with hil|hig
 ·have hro:=js6 code.length i hil;rw[xtw1 (show(i:Int)<(code.length:Int) by omega)];conv=>whnf
  refine⟨show(0:Int)<=(i:Int)/\(i:Int)<(code.length:Nat) from ⟨by omega,by omega⟩,?_⟩;conv=>whnf
  (generalize hrq:jC _ _ (jX (List.replicate code.length (-1)))=rq;obtain rfl:rq=[intA (-1)]:=hrq.symm.trans (hro);clear hrq;conv=>whnf)
  refine jN i (by omega) ?_;conv=>whnf
  refine⟨i+1,jD [] ?_,show i+1<=code.length by omega,show code.length-(i+1)<code.length-i by omega⟩;conv=>whnf
  repeat' constructor
 rw[xtw0 (show ¬(i:Int)<(code.length:Int) by omega)];conv=>whnf
 rfl
end Go.Proofs.YtfbifdccmabdbaaGreatDoor.Vm
namespace Go.Proofs.YtfbifdccmabdbaaGreatDoor.Vm
open Go.RowKit
def jcr(n:Int):Int:=if n<0 then -(n+1) else n
def xR(n m:Int):Int:=(jcr n).tmod m
theorem jft{n:Int}(hn : -9223372036854775808<=n/\n<=9223372036854775807):0<=jcr n/\jcr n<=9223372036854775807:=by unfold jcr;split <;> omega
theorem iF{n m:Int}(hn : -9223372036854775808<=n/\n<=9223372036854775807)(hm:1<=m):0<=xR n m/\xR n m<m:=by
 have h:=jft hn;unfold xR;rw[xtw12 h.1];exact⟨Int.emod_nonneg _ (by omega),Int.emod_lt_of_pos _ (by omega)⟩
theorem xZ(n m:Int)(hm:1<=m/\m<=9223372036854775807):Spec Tryz.prog 27 [] [intA n,intA m] fun _ r=>(-9223372036854775808<=n/\n<=9223372036854775807)/\r=intA (xR n m):=by
 refine eN jK jT 0 Tryz.func27 rfl ?_;intro hok;have hn : -9223372036854775808<=n/\n<=9223372036854775807:=okA_int.1 hok.1;have hab:=jft hn;conv=>whnf
 by_cases h:n<0
 ·refine j7 (b:=decide (n<0)) (xtw1 h) ?_;conv=>whnf
  refine⟨jG (by omega),?_⟩;conv=>whnf
  refine⟨jG (by omega),?_⟩;conv=>whnf
  refine⟨by omega,?_⟩;conv=>whnf
  refine⟨hn,?_⟩
  have:0-(n+1)=jcr n:=by unfold jcr;rw[xtw3 h];omega
  rw[this];rfl
 ·refine jW (b:=decide (n<0)) (xtw0 h) ?_;conv=>whnf
  refine⟨by omega,?_⟩;conv=>whnf
  refine⟨hn,?_⟩
  have:n=jcr n:=by unfold jcr;rw[xtw2 h]
  show A.v (.int .i64 (n.tmod m))=intA ((jcr n).tmod m);rw[<- this];rfl
end Go.Proofs.YtfbifdccmabdbaaGreatDoor.Vm
namespace Go.Proofs.YtfbifdccmabdbaaGreatDoor.Vm
open Go.RowKit Go.Shelf
def juh(code:List Ic)(e:Nat->Int)(j:Nat):Prop:=0<=e j/\∃out ok,Dp code (e j) out ok/\¬ ∀i,Rch code (e j) i->og out i<=16/\lv code i (og out i)<=16
def OkE(code:List Ic)(e:Nat->Int)(j:Nat):Prop:=e j<0∨0<=e j/\∃out ok,Dp code (e j) out ok/\∀i,Rch code (e j) i->og out i<=16/\lv code i (og out i)<=16
def RcP(u:Ut)(r:A):Prop :=
 (400<(yZ u).1.length/\r=.tup [.agg eG,intA 2])∨(¬400<(yZ u).1.length/\(((∃j,j<40/\juh (yZ u).1 (yZ u).2 j)/\r=.tup [.agg eG,intA 13])∨((∀j,j<40->OkE (yZ u).1 (yZ u).2 j)/\r=.tup [sE (yZ u).1 (yZ u).2 u.du.length u.vo.length,intA 0])))
theorem jlW{h:Int}(h1:0<=h/\h<40):xR h 40=h:=by
 unfold xR jcr;rw[xtw2 (by omega),xtw12 h1.1];omega
theorem dO(g:Nat):∀l:List A,jan g l l
 |[]=>trivial
 |a::l=>⟨.inl rfl,dO g l⟩
theorem jl3{np:Nat}{f:S->(Exit->S->Prop)->Prop}{t:List A}{bx:List (List A)}{rw:List Row}{Q:Exit->S->Prop}(e k:Nat)(bx':List (List A))(h2:jkD rw.length bx bx')(h:xY np f ⟨t,bx',rw++[.live e k 0 []]⟩ Q):xY np f ⟨t,bx,rw⟩ Q:=by
 have hle:Le np ⟨t,bx,rw⟩ ⟨t,bx',rw++[.live e k 0 []]⟩:=jmV (s:=⟨t,bx,rw⟩) e k (dO _ t) h2;unfold xY at h ⊢;obtain⟨X,F,φ,μ,⟨x,h3,h4⟩,h5⟩:=h;exact⟨X,F,φ,μ,⟨x,hle.trans h3,h4⟩,h5⟩
theorem jcD(u:Ut)(hu:WfU u)(hz:pP u.on<=900000):Spec Tryz.prog 13 [] [.agg (cO u)] fun _ r=>RcP u r:=by
 have hnode:=r9 u hu;have hcode:=jfQ u hu;have hdv:=hu.du;have hol:=hu.ol;refine eN jtL jT 0 Tryz.func13 rfl ?_;intro _;conv=>whnf
 refine jA [1,2,4] ?_;conv=>whnf
 refine jE (fun j:Nat=>[(5,.v (.int .i64 j))]) (fun j=>[cO u,eG,.v (.slice none 0 0)::pgE (e1 j) u.du.length u.vo.length]) (fun _=>[]) (fun j=>j<=40) (fun j=>40-j) 0 ?_ (by omega) ?_
 ·repeat' constructor
 intro j hj;conv=>whnf
 rcases xtw36 j 40 with hlt|hge
 ·rw[xtw1 (show(j:Int)<40 by omega)];conv=>whnf
  refine⟨show(0:Int)<=(j:Int)/\(j:Int)<((40:Nat):Int) from ⟨by omega,by omega⟩,?_⟩;conv=>whnf
  refine lM (.v (.slice none 0 0)) (e1 j) (e1 (j+1)) u.du.length u.vo.length (-1) j hlt (fun i hi=>?_) ?_
  ·unfold e1;by_cases h:i=j
   ·rw[xtw3 h,xtw3 (by omega)]
   ·rw[xtw2 h];by_cases h2:i<j
    ·rw[xtw3 h2,xtw3 (by omega)]
    ·rw[xtw2 h2,xtw2 (by omega)]
  conv=>whnf
  refine jN j (by omega) ?_;conv=>whnf
  refine⟨j+1,jD [] ?_,show j+1<=40 by omega,show 40-(j+1)<40-j by omega⟩;conv=>whnf
  repeat' constructor
 rw[xtw0 (show ¬(j:Int)<40 by omega)]
 obtain rfl:j=40:=by omega
 conv=>whnf
 refine jl3 52 2 [cO u,eG,.own 0::pgE (e1 40) u.du.length u.vo.length] ⟨dO _ _,dO _ _,⟨.inr ⟨rfl,rfl⟩,dO _ _⟩,trivial⟩ ?_;conv=>whnf
 refine jA [1,2,4] ?_;conv=>whnf
 refine jE (fun x:Nat×List Ic×(Nat->Int)=>[(6,.v (.int .i64 x.1))]) (fun x=>[cO u,eG,.own 0::pgE x.2.2 u.du.length u.vo.length]) (fun x=>[.live 52 2 x.2.1.length (qF x.2.1)])
  (fun x=>x.1<=u.on.length/\o6 (jZ u) (u.on.drop x.1) x.2.1 x.2.2=yZ u/\x.2.1.length+pP (u.on.drop x.1)<=900000/\(∀i∈x.2.1,jfq i)/\∀i,x.2.2 i<x.2.1.length) (fun x=>u.on.length-x.1) (0,[],noE) ?_ ⟨xtw19 _,rfl,by simpa using hz,(fun i hi=>by cases hi),fun i=>show(-1:Int)<0 by decide⟩ ?_
 ·repeat' constructor
  show Row.live _ 2 0 []=Row.live _ 2 0 (qF []);rw[rS]
 rintro⟨j,l,e⟩ ⟨g1,g2,g3,g4,g5⟩
 simp only at g1 g2 g3 g4 g5
 conv=>whnf
 rcases xtw36 j u.on.length with hlt|hge
 ·have hrow:jC 5 j (zV u.on)=tC u.on[j]:=y9 u.on j hlt;have hon:=hu.on _ (xtw10 hlt);rw[xtw63 hlt] at g2 g3;generalize u.on[j]=hb at hrow hon g2 g3;obtain⟨h,b⟩:=hb;obtain⟨o1,o2,o3⟩:=hon;unfold o6 at g2;unfold pP at g3
  simp only at o1 o2 g2 g3
  have hcd:=hcode b o3 l.length (by omega) (by omega);have hsz:=(hnode b o3).1 l.length
  obtain⟨m,hmm⟩:∃m,jI (jZ u) b l.length=m:=⟨_,rfl⟩
  have hcok:=rJ (jZ u) b l.length (by omega);rw[hmm] at hcd hsz g2 hcok;have a2:=xZ h 40 (by decide);rw[jlW ⟨o1,o2⟩] at a2;unfold tC at hrow
  simp only at hrow
  rw[xtw1 (show(j:Int)<(u.on.length:Int) by omega)];conv=>whnf
  refine⟨show(0:Int)<=(j:Int)/\(j:Int)<(u.on.length:Nat) from ⟨by omega,by omega⟩,?_⟩;conv=>whnf
  (generalize hrq:jC _ _ (zV u.on)=rq;obtain rfl:rq=intA h::ntA b:=hrq.symm.trans (hrow);clear hrq;conv=>whnf)
  refine jY [] a2 ?_;rintro r ⟨_,rfl⟩;conv=>whnf
  refine⟨⟨o1,show h<((40:Nat):Int) by omega⟩,?_⟩;conv=>whnf
  refine lM (.own 0) e (fun i=>if i=h.toNat then(l.length:Int) else e i) u.du.length u.vo.length l.length h.toNat (by omega) (fun i hi=>rfl) ?_;conv=>whnf
  refine⟨show(0:Int)<=(j:Int)/\(j:Int)<(u.on.length:Nat) from ⟨by omega,by omega⟩,?_⟩;conv=>whnf
  (generalize hrq:jC _ _ (zV u.on)=rq;obtain rfl:rq=intA h::ntA b:=hrq.symm.trans (hrow);clear hrq;conv=>whnf)
  refine xH 1 [] rfl rfl (fun _=>hcd) ?_;rintro e9 k9 n9 cs9 r ⟨rfl,rfl,rfl,rfl,rfl⟩;conv=>whnf
  refine⟨⟨show l.length+m.length<=maxLen by unfold maxLen;omega,show(l.length+m.length)*16<=140737488355328 by omega⟩,?_⟩;conv=>whnf
  refine⟨⟨show l.length+m.length+1<=maxLen by unfold maxLen;omega,show(l.length+m.length+1)*16<=140737488355328 by omega⟩,?_⟩;conv=>whnf
  refine jN j (by omega) ?_;conv=>whnf
  refine⟨(j+1,l++m++[(23,0)],fun i=>if i=h.toNat then(l.length:Int) else e i),jD [0] ?_,⟨show j+1<=u.on.length by omega,g2,?_,?_,?_⟩,show u.on.length-(j+1)<u.on.length-j by omega⟩
  ·conv=>whnf
   repeat' constructor
   show Row.live _ 2 (l.length+m.length+1) (qF l++qF m++[intA 23,intA 0])=Row.live _ 2 (l++m++[((23:Int),(0:Int))]).length (qF (l++m++[(23,0)]));rw[xtw4,xtw4,tD,kM];rfl
  ·show(l++m++[((23:Int),(0:Int))]).length+pP (u.on.drop (j+1))<=900000;rw[xtw4,xtw4,xtw31];omega
  ·intro i hi
   simp only at hi
   rcases xtw30.1 hi with hi|hi
   ·rcases xtw30.1 hi with hi|hi
    ·exact g4 i hi
    ·exact hcok i hi
   ·rw[xtw16.1 hi];exact⟨by simp,fun h=>by simp at h⟩
  ·intro i;show(if i=h.toNat then(l.length:Int) else e i)<((l++m++[((23:Int),(0:Int))]).length:Int);have g5i:=g5 i;rw[xtw4,xtw4,xtw31]
   split <;> omega
 rw[xtw0 (show ¬(j:Int)<(u.on.length:Int) by omega)]
 have hcm:o6 (jZ u) [] l e=yZ u:=by rw[<- g2,xtw51 hge]
 have hcl:l.length<=900000:=by omega
 unfold o6 at hcm
 have hjm:cU l:=fun i hi=>(g4 i hi).2
 have hoo:∀i∈l,1<=i.1/\i.1<=23:=fun i hi=>(g4 i hi).1
 conv=>whnf
 unfold RcP;rw[<- hcm]
 simp only
 by_cases hbig:400<l.length
 ·rw[xtw1 (show(400:Int)<(l.length:Int) by omega)];conv=>whnf
  exact .inl ⟨hbig,rfl⟩
 rw[xtw0 (show ¬(400:Int)<(l.length:Int) by omega)];conv=>whnf
 refine xM [0] ?_;conv=>whnf
 refine jA [2,4] ?_;conv=>whnf
 refine jE (fun j:Nat=>[(8,.v (.int .i64 j))]) (fun _=>[cO u,eG,pgL l e u.du.length u.vo.length]) (fun _=>[]) (fun j=>j<=40/\∀i,i<j->OkE l e i) (fun j=>40-j) 0 ?_ ⟨xtw19 _,fun i hi=>by omega⟩ ?_
 ·repeat' constructor
 rintro j ⟨hj,hall⟩;conv=>whnf
 rcases xtw36 j 40 with hlt|hge
 ·rw[xtw1 (show(j:Int)<40 by omega)];by_cases hneg:e j<0
  ·have hdn:=jkQ l e u.du.length u.vo.length j hlt (by omega) hneg;conv=>whnf
   refine jY [] hdn ?_;rintro r rfl;conv=>whnf
   refine jN j (by omega) ?_;conv=>whnf
   refine⟨j+1,jD [] ?_,⟨show j+1<=40 by omega,fun i hi=>?_⟩,show 40-(j+1)<40-j by omega⟩
   ·conv=>whnf
    repeat' constructor
   ·by_cases q:i=j
    ·rw[q];exact .inl hneg
    ·exact hall i (by have:i<j+1:=hi;omega)
  have hdp:=ji1 l e u.du.length u.vo.length j hlt (by omega) hjm hoo ⟨by omega,g5 j⟩;conv=>whnf
  refine jY [] hdp ?_;rintro r ⟨out,ok,m,hd,rfl,hm⟩;conv=>whnf
  by_cases h16:(16:Int)<m
  ·rw[xtw1 h16];conv=>whnf
   exact .inr ⟨hbig,.inl ⟨⟨j,hlt,by omega,out,ok,hd,fun h=>by have:=hm.2 h;omega⟩,rfl⟩⟩
  rw[xtw0 h16];conv=>whnf
  refine jN j (by omega) ?_;conv=>whnf
  refine⟨j+1,jD [] ?_,⟨show j+1<=40 by omega,fun i hi=>?_⟩,show 40-(j+1)<40-j by omega⟩
  ·conv=>whnf
   repeat' constructor
  ·by_cases q:i=j
   ·rw[q];exact .inr ⟨by omega,out,ok,hd,hm.1 (by omega)⟩
   ·exact hall i (by have:i<j+1:=hi;omega)
 obtain rfl:j=40:=by omega
 rw[xtw0 (show ¬((40:Nat):Int)<40 by omega)];conv=>whnf
 exact .inr ⟨hbig,.inr ⟨hall,rfl⟩⟩
theorem jg3(code:List Ic)(e:Nat->Int):∀(m j:Nat),(∀i,kF code (e i)=0∨kF code (e i)=13)->(m8 code e j m=0/\∀i,j<=i->i<j+m->kF code (e i)=0)∨(m8 code e j m=13/\∃i,i<j+m/\kF code (e i)=13)
 |0,j,h=>.inl ⟨rfl,fun i h1 h2=>by omega⟩
 |m+1,j,h=>by
  unfold m8;rcases h j with h0|h0
  ·rw[xtw2 (by simp[h0])];rcases jg3 code e m (j+1) h with ⟨h1,h2⟩|⟨h1,i,h2,h3⟩
   ·refine .inl ⟨h1,fun i h3 h4=>?_⟩;by_cases q:i=j
    ·rw[q];exact h0
    ·exact h2 i (by omega) (by omega)
   ·exact .inr ⟨h1,i,by omega,h3⟩
  ·rw[xtw3 (by rw[h0];decide)];exact .inr ⟨h0,j,by omega,h0⟩
theorem EntO.dp{code:List Ic}{x:Int}(h:EntO code x){out:List Int}{ok:Bool}(hd:Dp code x out ok):(∀i,Rch code x i->og out i<=16/\lv code i (og out i)<=16)↔∃D,Good code x D:=by
 obtain⟨h1,h2,D,hD,-⟩:=h;have hok:=(hd.uq D hD).1;have:=joX hd hd;rw[<- this];exact⟨fun h=>⟨hok,h⟩,fun h=>h.2⟩
theorem jrF{u:Ut}(hu:WfU u)(j:Nat):kF (yZ u).1 ((yZ u).2 j)=0∨kF (yZ u).1 ((yZ u).2 j)=13:=by
 rcases jeE hu j with ⟨h,-⟩|⟨h,-⟩
 ·rw[h];exact .inl rfl
 ·rcases h.fol (jjC u) with ⟨h,-⟩|⟨h,-⟩
  ·exact .inl h
  ·exact .inr h
theorem jsq{u:Ut}(hu:WfU u){r:A}(h:RcP u r):r=jcu u:=by
 have hj:=jjC u;unfold jcu;rcases h with ⟨hb,rfl⟩|⟨hb,h⟩
 ·have:u5 u=2:=by unfold u5;rw[xtw3 hb]
  rw[this,xtw2 (by decide)]
 have hE:u5 u=m8 (yZ u).1 (yZ u).2 0 40:=by unfold u5;rw[xtw2 hb]
 rw[hE];rcases jg3 (yZ u).1 (yZ u).2 40 0 (jrF hu) with ⟨h0,hall⟩|⟨h13,i,hi,hf⟩
 ·rw[h0,xtw3 rfl];rcases h with ⟨⟨j,hj40,h0j,out,ok,hd,hn⟩,rfl⟩|⟨-,rfl⟩
  ·exfalso
   rcases jeE hu j with ⟨h,-⟩|⟨h,-⟩
   ·omega
   ·rw[h.dp hd] at hn;rcases h.fol hj with ⟨-,h⟩|⟨h,-⟩
    ·exact hn h
    ·rw[hall j (xtw19 _) (by omega)] at h;cases h
  ·rfl
 ·rw[h13,xtw2 (by decide)];rcases h with ⟨-,rfl⟩|⟨h,-⟩
  ·rfl
  ·exfalso
   rcases jeE hu i with ⟨h',-⟩|⟨h',-⟩
   ·rw[h'] at hf;cases hf
   ·have h0:=h'.1;rcases h i (by omega) with h|⟨-,out,ok,hd,hb⟩
    ·omega
    ·rw[h'.dp hd] at hb;rcases h'.fol hj with ⟨h,-⟩|⟨-,h⟩
     ·rw[hf] at h;cases h
     ·exact h hb
theorem jnw(u:Ut)(hu:WfU u)(hz:pP u.on<=900000):Spec Tryz.prog 13 [] [.agg (cO u)] fun _ r=>r=jcu u :=
 (jcD u hu hz).weaken fun o r hr=>⟨o,_,rfl,WkB.refl o,by rw[jsq hu hr];exact .refl _⟩
end Go.Proofs.YtfbifdccmabdbaaGreatDoor.Vm
namespace Go.Proofs.YtfbifdccmabdbaaGreatDoor.Vm
open Go.RowKit
theorem uO(c:UInt8):Spec Tryz.prog 124 [] [.v (.int .u8 (c.toNat:Int))] fun _ r=>r=qA (isL c):=by
 refine eN jK jT 0 Tryz.func124 rfl ?_;intro _;conv=>whnf
 cases h:decide (97<=(c.toNat:Int))
 ·conv=>whnf
  simp[qA,isL,h]
 ·conv=>whnf
  simp[qA,isL,h]
theorem o5(c:UInt8):Spec Tryz.prog 125 [] [.v (.int .u8 (c.toNat:Int))] fun _ r=>r=qA (wA c):=by
 refine eN jK jT 0 Tryz.func125 rfl ?_;intro _;conv=>whnf
 cases h:decide (48<=(c.toNat:Int))
 ·conv=>whnf
  simp[qA,wA,h]
 ·conv=>whnf
  simp[qA,wA,h]
theorem jg8(l:List ByteArray)(s:ByteArray)(hl:l.length<=1000000):Spec Tryz.prog 127 [] [.sl 1 l.length (wO l),.v (.string s)] fun _ r=>r=qA (qC l s):=by
 refine eN jK jT 0 Tryz.func127 rfl ?_;intro _;conv=>whnf
 refine jA [0,1,4] ?_;conv=>whnf
 refine jE (fun k:Nat=>[(5,.v (.int .i64 k))]) (fun _=>[]) (fun _=>[]) (fun k=>k<=l.length/\qC (l.take k) s=false) (fun k=>l.length-k) 0 ?_ ⟨xtw19 _,by simp[qC]⟩ ?_
 ·repeat' constructor
 ·rintro k ⟨hk,hn⟩;conv=>whnf
  by_cases hlt:k<l.length
  ·refine j7 (by simp;omega) ?_;conv=>whnf
   refine⟨⟨by omega,by omega⟩,?_⟩;conv=>whnf
   rw[show jC 1 (Int.toNat (k:Int)) (wO l)=[.v (.string l[k])] from fL l k hlt];conv=>whnf
   cases hq:decide (l[k]=s)
   ·conv=>whnf
    refine⟨jG (by omega),?_⟩;conv=>whnf
    refine⟨k+1,zW ?_,⟨hlt,by rw[s9 l s k hlt,hn,hq];rfl⟩,by omega⟩;repeat' constructor
   ·conv=>whnf
    have:qC l s=true:=xtw34.2 ⟨l[k],xtw10 hlt,hq⟩;rw[this];rfl
  ·refine jW (by simp;omega) ?_
   obtain rfl:k=l.length:=by omega
   rw[xtw54] at hn;conv=>whnf
   rw[hn];rfl
theorem jdZ(s:ByteArray)(k:Nat)(hs:s.size<=1000000000)(hk:k<=s.size):Spec Tryz.prog 87 [] [.v (.string s),.v (.int .i64 k)] fun _ r=>r=intA ((k+jO false (s.data.toList.drop k):Nat):Int):=by
 have hsl:=zQ s
 obtain⟨l,hl⟩:∃l,l=s.data.toList:=⟨_,rfl⟩
 refine eN jK jT 0 Tryz.func87 rfl ?_;intro _;conv=>whnf
 refine jA [0,4] ?_;conv=>whnf
 refine jE (fun j:Nat=>[(1,.v (.int .i64 j))]) (fun _=>[]) (fun _=>[]) (fun j=>k<=j/\j<=s.size/\j+jO false (s.data.toList.drop j)=k+jO false (s.data.toList.drop k)) (fun j=>s.size-j) k ?_ ⟨xtw11 _,hk,rfl⟩ ?_
 ·repeat' constructor
 ·rintro j ⟨hkj,hj,hinv⟩;conv=>whnf
  by_cases hlt:j<s.size
  ·refine j7 (by simp;omega) ?_;conv=>whnf
   refine⟨⟨by omega,by omega⟩,?_⟩;rw[show s.data.toList.getD (Int.toNat (j:Int)) 0=s.data.toList[j] from dI s j (by omega)];have hd:=yD s.data.toList j (by omega);generalize hc:s.data.toList[j]'(by omega)=c at *;conv=>whnf
   cases hq:decide ((c.toNat:Int)=35)
   ·have hq':kY c=false:=hq;conv=>whnf
    cases h1:decide ((c.toNat:Int)=32)
    ·conv=>whnf
     cases h2:decide ((c.toNat:Int)=9)
     ·conv=>whnf
      cases h3:decide ((c.toNat:Int)=10)
      ·conv=>whnf
       have h4:nZ c=false:=by simp[nZ,h1,h2,h3]
       have:jO false (s.data.toList.drop j)=0:=by rw[hd];simp[jO,hq',h4]
       rw[this] at hinv;rw[<- hinv];rfl
      ·conv=>whnf
       have h4:nZ c=true:=by simp[nZ,h3]
       have:jO false (s.data.toList.drop j)=jO false (s.data.toList.drop (j+1))+1:=by rw[hd];simp[jO,hq',h4]
       refine⟨jG (by omega),?_⟩;conv=>whnf
       refine⟨j+1,zW ?_,⟨by omega,by omega,by omega⟩,by omega⟩;repeat' constructor
     ·conv=>whnf
      have h4:nZ c=true:=by simp[nZ,h2]
      have:jO false (s.data.toList.drop j)=jO false (s.data.toList.drop (j+1))+1:=by rw[hd];simp[jO,hq',h4]
      refine⟨jG (by omega),?_⟩;conv=>whnf
      refine⟨j+1,zW ?_,⟨by omega,by omega,by omega⟩,by omega⟩;repeat' constructor
    ·conv=>whnf
     have h4:nZ c=true:=by simp[nZ,h1]
     have:jO false (s.data.toList.drop j)=jO false (s.data.toList.drop (j+1))+1:=by rw[hd];simp[jO,hq',h4]
     refine⟨jG (by omega),?_⟩;conv=>whnf
     refine⟨j+1,zW ?_,⟨by omega,by omega,by omega⟩,by omega⟩;repeat' constructor
   ·have hq':kY c=true:=hq
    have h0:jO false (s.data.toList.drop j)=jO true (s.data.toList.drop (j+1))+1:=by rw[hd];simp[jO,hq']
    have h0':jO true (s.data.toList.drop j)=jO true (s.data.toList.drop (j+1))+1:=by
     have:kP c=true:=by
      have:=xtw23 hq;simp[kP,this]
     rw[hd];simp[jO,this]
    conv=>whnf
    refine jA [0,4] ?_;conv=>whnf
    refine jE (fun i:Nat=>[(1,.v (.int .i64 i))]) (fun _=>[]) (fun _=>[]) (fun i=>j<=i/\i<=s.size/\i+jO true (s.data.toList.drop i)=k+jO false (s.data.toList.drop k)/\(i=j->kP c=true)) (fun i=>s.size-i) j ?_ ⟨xtw11 _,hj,by omega,fun _=>by
     have:=xtw23 hq
     simp[kP,this]⟩ ?_
    ·repeat' constructor
    ·rintro i ⟨hji,hi,hinv2,hne⟩;conv=>whnf
     cases hlt2:decide ((i:Int)<(s.size:Int))
     ·have hge:=of_decide_eq_false hlt2;conv=>whnf
      refine⟨i,zW ?_,⟨by omega,hi,?_⟩,?_⟩
      ·repeat' constructor
      ·rw[<- hinv2];rw[xtw51 (by omega)];simp[jO]
      ·omega
     ·have hlt3:=xtw23 hlt2;conv=>whnf
      refine⟨⟨by omega,by omega⟩,?_⟩;rw[show s.data.toList.getD (Int.toNat (i:Int)) 0=s.data.toList[i]'(by omega) from dI s i (by omega)];have hd2:=yD s.data.toList i (by omega);by_cases hij:i=j
      ·subst hij;rw[hc];conv=>whnf
       have hn:=hne rfl;refine j7 hn ?_;conv=>whnf
       refine⟨jG (by omega),?_⟩;conv=>whnf
       refine⟨i+1,zW ?_,⟨by omega,by omega,by omega,fun e=>by omega⟩,by omega⟩;repeat' constructor
      ·generalize hc2:s.data.toList[i]'(by omega)=c2 at *;conv=>whnf
       cases hn:kP c2
       ·refine jW hn ?_
        have:jO true (s.data.toList.drop i)=jO false (s.data.toList.drop (i+1))+1:=by rw[hd2];simp[jO,hn]
        have h10:kY c2=false/\nZ c2=true:=by
         have:(c2.toNat:Int)=10:=by simpa [kP] using hn
         simp[kY,nZ,this]
        have h5:jO false (s.data.toList.drop i)=jO false (s.data.toList.drop (i+1))+1:=by rw[hd2];simp[jO,h10.1,h10.2]
        conv=>whnf
        refine⟨i,zW ?_,⟨by omega,hi,by omega⟩,by omega⟩;repeat' constructor
       ·refine j7 hn ?_
        have:jO true (s.data.toList.drop i)=jO true (s.data.toList.drop (i+1))+1:=by rw[hd2];simp[jO,hn]
        conv=>whnf
        refine⟨jG (by omega),?_⟩;conv=>whnf
        refine⟨i+1,zW ?_,⟨by omega,by omega,by omega,fun e=>by omega⟩,by omega⟩;repeat' constructor
  ·refine jW (by simp;omega) ?_
   obtain rfl:j=s.size:=by omega
   have:jO false (s.data.toList.drop s.size)=0:=by rw[xtw51 (by omega)];simp[jO]
   rw[this] at hinv;conv=>whnf
   rw[<- hinv];rfl
theorem jje(s:ByteArray)(hs:s.size<=1000000000)(hd:∀c∈s.data.toList,wA c=true):Spec Tryz.prog 126 [] [.v (.string s)] fun _ r=>r=intA (xP 0 s.data.toList):=by
 have hsl:=zQ s;refine eN jK jT 0 Tryz.func126 rfl ?_;intro _;conv=>whnf
 refine jA [0,2] ?_;conv=>whnf
 refine jE (fun x:Nat×Int=>[(3,.v (.int .i64 x.2)),(4,.v (.int .i64 x.1))]) (fun _=>[]) (fun _=>[]) (fun x=>x.1<=s.size/\0<=x.2/\x.2<=2147483647/\xP x.2 (s.data.toList.drop x.1)=xP 0 s.data.toList) (fun x=>s.size-x.1) (0,0) ?_ ⟨xtw19 _,by simp,by simp,by simp⟩ ?_
 ·repeat' constructor
 ·rintro⟨j,v⟩ ⟨hj,hv0,hv1,hinv⟩
  simp only at hj hv0 hv1 hinv
  conv=>whnf
  by_cases hlt:j<s.size
  ·refine j7 (by simp;omega) ?_;have hdj:=hd _ (xtw10 (l:=s.data.toList) (n:=j) (by omega));have hdr:=yD s.data.toList j (by omega);have hgb:=dI s j (by omega);generalize hc:s.data.toList[j]'(by omega)=c at *;have hr:=jjW hdj;conv=>whnf
   refine⟨jG (by omega),?_⟩;conv=>whnf
   refine⟨⟨by omega,by omega⟩,?_⟩;rw[show s.data.toList.getD (Int.toNat (j:Int)) 0=c from hgb];conv=>whnf
   refine⟨jG (by omega),?_⟩;conv=>whnf
   refine⟨jG (by omega),?_⟩;conv=>whnf
   refine⟨jG (by omega),?_⟩;conv=>whnf
   have hst:xP v (s.data.toList.drop j)=if 2147483647<10*v+(c.toNat:Int)-48 then -1 else xP (10*v+(c.toNat:Int)-48) (s.data.toList.drop (j+1)):=by rw[hdr];rfl
   by_cases hbig:2147483647<10*v+(c.toNat:Int)-48
   ·refine j7 (by simpa using hbig) ?_;conv=>whnf
    rw[xtw3 hbig] at hst;rw[<- hinv,hst];rfl
   ·refine jW (by simpa using hbig) ?_;conv=>whnf
    rw[xtw2 hbig] at hst;refine⟨jG (by omega),?_⟩;conv=>whnf
    refine⟨(j+1,10*v+(c.toNat:Int)-48),zW ?_,⟨by simp only;omega,by simp only;omega,by simp only;omega,by simp only;rw[<- hst,hinv]⟩,by simp only;omega⟩;repeat' constructor
  ·refine jW (by simp;omega) ?_;conv=>whnf
   rw[xtw51 (by omega)] at hinv;rw[<- hinv];rfl
theorem jj8(s:ByteArray)(k:Nat)(hs:s.size<=1000000000)(hk:k<s.size):Spec Tryz.prog 88 [] [.v (.string s),.v (.int .i64 k)] fun _ r=>r=jop s k:=by
 have hsl:=zQ s;have hd0:=yD s.data.toList k (by omega);have hg0:=dI s k (by omega)
 obtain⟨r,hr⟩:∃r,r=s.data.toList.drop (k+1):=⟨_,rfl⟩
 have hrl:r.length=s.size-(k+1):=by rw[hr,xtw28,hsl]
 rw[<- hr] at hd0;generalize hc:s.data.toList[k]'(by omega)=c at *;refine eN jK jT 0 Tryz.func88 rfl ?_;intro _;conv=>whnf
 refine⟨jG (by omega),?_⟩;conv=>whnf
 refine⟨⟨by omega,by omega⟩,?_⟩;rw[show s.data.toList.getD (Int.toNat (k:Int)) 0=c from hg0];conv=>whnf
 refine jY [] (uO c) ?_;rintro x rfl;conv=>whnf
 have span:∀(p:UInt8->Bool) (j:Nat),k+1<=j->j<s.size->jF p (s.data.toList.drop j)=match p (s.data.toList.getD j 0) with|true=>jF p (s.data.toList.drop (j+1))+1|false=>0:=fun p j h1 h2=>by
  rw[dI s j (by omega),yD s.data.toList j (by omega)];rfl
 cases hL:isL c
 ·conv=>whnf
  refine⟨⟨by omega,by omega⟩,?_⟩;rw[show s.data.toList.getD (Int.toNat (k:Int)) 0=c from hg0];conv=>whnf
  refine jY [] (o5 c) ?_;rintro x rfl;conv=>whnf
  cases hD:wA c
  ·conv=>whnf
   refine⟨jG (by omega),?_⟩;conv=>whnf
   refine⟨⟨by omega,by omega,by omega⟩,?_⟩;rw[show s.extract (Int.toNat (k:Int)) (Int.toNat (min ((k:Int)+2) (s.size:Int)))=bs ((c::r).take 2) from by rw[<- hd0];exact yA s k _ 2 (by omega) (by omega)];conv=>whnf
   refine jY [0] (jg8 pS (bs ((c::r).take 2)) (by decide)) ?_;rintro x rfl;cases hb:qC pS (bs ((c::r).take 2))
   ·conv=>whnf
    refine⟨⟨by omega,by omega,by omega⟩,?_⟩
    rw[show s.extract (Int.toNat (k:Int)) (Int.toNat ((k:Int)+1))=bs [c] from by
     have:=yA s k (k+1) 1 (by omega) (by omega);rw[hd0] at this
     exact this]
    conv=>whnf
    refine jY [1] (jg8 tN (bs [c]) (by decide)) ?_;rintro x rfl;cases hb2:qC tN (bs [c])
    ·conv=>whnf
     rw[eD (e:=10) (by rw[hd0];simp only[qD,hL,hD,hb,hb2])];rfl
    ·conv=>whnf
     rw[bO (kd:=3) (len:=1) (n:=0) (by rw[hd0];simp only[qD,hL,hD,hb,hb2]),hd0];rfl
   ·conv=>whnf
    rw[bO (kd:=3) (len:=2) (n:=0) (by rw[hd0];simp only[qD,hL,hD,hb]),hd0];rfl
  ·have htok:qD (s.data.toList.drop k)=if xP 0 (c::r.take (jF wA r))<0 then .bad 6 else .tok 2 (jF wA r+1) (xP 0 (c::r.take (jF wA r))):=by rw[hd0];simp only[qD,hL,hD]
   have hvd:∀x∈(bs (c::r.take (jF wA r))).data.toList,wA x=true:=fun x hx=>by
    rw[yM] at hx;rcases xtw13.1 hx with rfl|hx
    ·exact hD
    ·exact mR wA r x hx
   have hsn:=xN wA r;have hval:=jje (bs (c::r.take (jF wA r))) (by rw[gR];simp;omega) hvd;rw[yM] at hval;conv=>whnf
   refine jA [0,1,4,5] ?_;conv=>whnf
   refine jE (fun j:Nat=>[(6,.v (.int .i64 j))]) (fun _=>[jpr]) (fun _=>[]) (fun j=>k+1<=j/\j<=s.size/\(j-(k+1))+jF wA (s.data.toList.drop j)=jF wA r) (fun j=>s.size-j) (k+1) ?_ ⟨xtw11 _,by omega,by rw[hr];omega⟩ ?_
   ·repeat' constructor
   ·rintro j ⟨hkj,hj,hinv⟩;conv=>whnf
    cases hlt:decide ((j:Int)<(s.size:Int))
    ·have hge:=of_decide_eq_false hlt
     have h0:jF wA (s.data.toList.drop j)=0:=by rw[xtw51 (by omega)];simp[jF]
     conv=>whnf
     refine⟨⟨by omega,by omega,by omega⟩,?_⟩
     rw[show s.extract (Int.toNat (k:Int)) (Int.toNat (j:Int))=bs (c::r.take (jF wA r)) from by
      have:=yA s k j (jF wA r+1) (by omega) (by omega);rw[hd0] at this
      exact this]
     conv=>whnf
     refine jY [] hval ?_;rintro x rfl;generalize xP 0 (c::r.take (jF wA r))=v at *;conv=>whnf
     by_cases hneg:v<0
     ·refine j7 (by simpa using hneg) ?_;conv=>whnf
      rw[xtw3 hneg] at htok;rw[eD htok];rfl
     ·refine jW (by simpa using hneg) ?_;conv=>whnf
      refine⟨⟨by omega,by omega,by omega⟩,?_⟩
      rw[show s.extract (Int.toNat (k:Int)) (Int.toNat (j:Int))=bs (c::r.take (jF wA r)) from by
       have:=yA s k j (jF wA r+1) (by omega) (by omega);rw[hd0] at this
       exact this]
      conv=>whnf
      rw[xtw2 hneg] at htok;rw[bO htok,hd0];rfl
    ·have hlt2:=xtw23 hlt;have hsp:=span wA j hkj (by omega);conv=>whnf
     refine⟨⟨by omega,by omega⟩,?_⟩;rw[show s.data.toList.getD (Int.toNat (j:Int)) 0=s.data.toList.getD j 0 from rfl];generalize s.data.toList.getD j 0=q at *;conv=>whnf
     refine jY [] (o5 q) ?_;rintro x rfl;conv=>whnf
     cases hq:wA q
     ·have h0:jF wA (s.data.toList.drop j)=0:=by rw[hsp,hq]
      conv=>whnf
      refine⟨⟨by omega,by omega,by omega⟩,?_⟩
      rw[show s.extract (Int.toNat (k:Int)) (Int.toNat (j:Int))=bs (c::r.take (jF wA r)) from by
       have:=yA s k j (jF wA r+1) (by omega) (by omega);rw[hd0] at this
       exact this]
      conv=>whnf
      refine jY [] hval ?_;rintro x rfl;generalize xP 0 (c::r.take (jF wA r))=v at *;conv=>whnf
      by_cases hneg:v<0
      ·refine j7 (by simpa using hneg) ?_;conv=>whnf
       rw[xtw3 hneg] at htok;rw[eD htok];rfl
      ·refine jW (by simpa using hneg) ?_;conv=>whnf
       refine⟨⟨by omega,by omega,by omega⟩,?_⟩
       rw[show s.extract (Int.toNat (k:Int)) (Int.toNat (j:Int))=bs (c::r.take (jF wA r)) from by
        have:=yA s k j (jF wA r+1) (by omega) (by omega);rw[hd0] at this
        exact this]
       conv=>whnf
       rw[xtw2 hneg] at htok;rw[bO htok,hd0];rfl
     ·rw[hq] at hsp;conv=>whnf
      refine⟨jG (by omega),?_⟩;conv=>whnf
      refine⟨j+1,zW ?_,⟨by omega,by omega,by simp only at hsp;omega⟩,by omega⟩;repeat' constructor
 ·have htok:qD (s.data.toList.drop k)=if 10<jF kG r+1 then .bad 2 else .tok 1 (jF kG r+1) 0:=by rw[hd0];simp only[qD,hL]
  conv=>whnf
  refine jA [0,1,4,5] ?_;conv=>whnf
  refine jE (fun j:Nat=>[(6,.v (.int .i64 j))]) (fun _=>[jpr]) (fun _=>[]) (fun j=>k+1<=j/\j<=s.size/\(j-(k+1))+jF kG (s.data.toList.drop j)=jF kG r) (fun j=>s.size-j) (k+1) ?_ ⟨xtw11 _,by omega,by rw[hr];omega⟩ ?_
  ·repeat' constructor
  ·rintro j ⟨hkj,hj,hinv⟩;conv=>whnf
   cases hlt:decide ((j:Int)<(s.size:Int))
   ·have hge:=of_decide_eq_false hlt
    have h0:jF kG (s.data.toList.drop j)=0:=by rw[xtw51 (by omega)];simp[jF]
    conv=>whnf
    refine⟨jG (by omega),?_⟩;conv=>whnf
    by_cases hbig:10<jF kG r+1
    ·refine j7 (by simp;omega) ?_;conv=>whnf
     rw[xtw3 hbig] at htok;rw[eD htok];rfl
    ·refine jW (by simp;omega) ?_;conv=>whnf
     refine⟨⟨by omega,by omega,by omega⟩,?_⟩;rw[show s.extract (Int.toNat (k:Int)) (Int.toNat (j:Int))=bs ((s.data.toList.drop k).take (jF kG r+1)) from yA s k j _ (by omega) (by omega)];conv=>whnf
     rw[xtw2 hbig] at htok;rw[bO htok];rfl
   ·have hlt2:=xtw23 hlt;have hsp:=span kG j hkj (by omega);conv=>whnf
    refine⟨⟨by omega,by omega⟩,?_⟩;rw[show s.data.toList.getD (Int.toNat (j:Int)) 0=s.data.toList.getD j 0 from rfl]
    obtain⟨q,hqe⟩:∃q,q=s.data.toList.getD j 0:=⟨_,rfl⟩
    rw[<- hqe] at hsp ⊢;conv=>whnf
    refine jY [] (uO q) ?_;rintro x rfl;conv=>whnf
    cases hq:isL q
    ·conv=>whnf
     refine⟨⟨by omega,by omega⟩,?_⟩;rw[show s.data.toList.getD (Int.toNat (j:Int)) 0=q from hqe.symm];conv=>whnf
     refine jY [] (o5 q) ?_;rintro x rfl;conv=>whnf
     cases hq2:wA q
     ·have h0:jF kG (s.data.toList.drop j)=0:=by rw[hsp,show kG q=false from by simp[kG,hq,hq2]]
      conv=>whnf
      refine⟨jG (by omega),?_⟩;conv=>whnf
      by_cases hbig:10<jF kG r+1
      ·refine j7 (by simp;omega) ?_;conv=>whnf
       rw[xtw3 hbig] at htok;rw[eD htok];rfl
      ·refine jW (by simp;omega) ?_;conv=>whnf
       refine⟨⟨by omega,by omega,by omega⟩,?_⟩;rw[show s.extract (Int.toNat (k:Int)) (Int.toNat (j:Int))=bs ((s.data.toList.drop k).take (jF kG r+1)) from yA s k j _ (by omega) (by omega)];conv=>whnf
       rw[xtw2 hbig] at htok;rw[bO htok];rfl
     ·rw[show kG q=true from by simp[kG,hq2]] at hsp;conv=>whnf
      refine⟨jG (by omega),?_⟩;conv=>whnf
      refine⟨j+1,zW ?_,⟨by omega,by omega,by simp only at hsp;omega⟩,by omega⟩;repeat' constructor
    ·rw[show kG q=true from by simp[kG,hq]] at hsp;conv=>whnf
     refine⟨jG (by omega),?_⟩;conv=>whnf
     refine⟨j+1,zW ?_,⟨by omega,by omega,by simp only at hsp;omega⟩,by omega⟩;repeat' constructor
theorem jfb(s:ByteArray)(hs:s.size<=1000000000):Spec Tryz.prog 44 [] [.v (.string s)] fun _ r=>r=tI s:=by
 have hsl:=zQ s;refine eN jK jT 0 Tryz.func44 rfl ?_;intro _;conv=>whnf
 refine jcY [] rfl (fun _=>jdZ s 0 hs (xtw19 _)) ?_;rintro r rfl;have hk0:=d9 false s.data.toList;rw[xtw118,xtw41];conv=>whnf
 refine qU 97 4 [5] [] ?_;conv=>whnf
 refine⟨trivial,?_⟩;conv=>whnf
 refine jA [0,5] ?_;conv=>whnf
 refine jE (fun x:Nat×List Tk=>[(6,.v (.int .i64 x.1))]) (fun _=>[]) (fun x=>[.live 97 4 x.2.length (z8 x.2)]) (fun x=>x.1<=s.size/\x.2.length<=x.1/\jmg (s.data.toList.drop x.1)/\Lx.app x.2 (bD x.1 (s.data.toList.drop x.1))=qM s) (fun x=>s.size-x.1)
  (jO false s.data.toList,[]) ?_ ⟨by simp only;omega,by simp,by have:=gQ false s.data.toList;simpa using this,by
   have:=jdq 0 s.data.toList;rw[xtw41] at this;simp only[Lx.app,xtw53,qM]
   rw[this]⟩ ?_
 ·repeat' constructor
 ·rintro⟨p,ts⟩ ⟨hp,hts,hcl,hinv⟩
  simp only at hp hts hcl hinv
  conv=>whnf
  by_cases hlt:p<s.size
  ·refine j7 (by simp;omega) ?_;conv=>whnf
   refine jY [] (jj8 s p hs hlt) ?_;rintro r rfl;have hd:=yD s.data.toList p (by omega);generalize s.data.toList[p]'(by omega)=c at *;generalize s.data.toList.drop (p+1)=r at *;rw[hd] at hcl hinv
   cases ht:qD (c::r) with
   |bad e =>
    rw[eD (e:=e) (by rw[hd];exact ht)];rw[jbk hcl.1 hcl.2 ht] at hinv;have hne:=jhw ht;conv=>whnf
    refine j7 (by simpa using hne) ?_;conv=>whnf
    rw[jmW (ts:=ts++[]) (p:=p) (e:=e) hinv.symm];rfl
   |tok k len n =>
    have hl:=bN ht
    have hrl:(c::r).length=s.size-p:=by rw[<- hd,xtw28,hsl]
    have htx:=aQ (c::r) len hl.2;rw[bO (k:=p) (kd:=k) (len:=len) (n:=n) (by rw[hd];exact ht),hd];rw[jbn hcl.1 hcl.2 ht,jaw] at hinv;conv=>whnf
    refine⟨⟨by unfold maxLen;simp only;omega,by simp only;omega⟩,?_⟩;conv=>whnf
    rw[htx];refine⟨jG (by omega),?_⟩;conv=>whnf
    refine jY [] (jdZ s (p+len) hs (by omega)) ?_;rintro x rfl;have hk2:=d9 false (s.data.toList.drop (p+len));rw[xtw28,hsl] at hk2;have hcl2:=gQ false (s.data.toList.drop (p+len));have hsk:=jdq (p+len) (s.data.toList.drop (p+len));rw[xtw117] at hcl2 hsk
    have hdl:(c::r).drop len=s.data.toList.drop (p+len):=by rw[<- hd,xtw117]
    rw[hdl,hsk] at hinv;generalize jO false (s.data.toList.drop (p+len))=q at *;conv=>whnf
    refine⟨(p+len+q,ts++[⟨k,p,bs ((c::r).take len),n⟩]),zW ?_,⟨by simp only;omega,by simp;omega,hcl2,hinv⟩,by simp only;omega⟩;repeat' constructor
    ·simp only[xtw4,xtw6,xtw8,jlz];rfl
  ·refine jW (by simp;omega) ?_
   obtain rfl:p=s.size:=by omega
   rw[xtw51 (by omega),jbl] at hinv;conv=>whnf
   refine⟨⟨by unfold maxLen;simp only;omega,by simp only;omega⟩,?_⟩;conv=>whnf
   have hl:qM s=⟨ts,none⟩:=by rw[<- hinv];simp[Lx.app]
   rw[jpi hl];rfl
end Go.Proofs.YtfbifdccmabdbaaGreatDoor.Vm
namespace Go.Proofs.YtfbifdccmabdbaaGreatDoor.Vm
open Go.RowKit Go.Shelf
theorem jg9{T:List Tk}{i:Nat}(h:i<T.length):hd (T.drop i)=T[i]:=by
 rw[xtw63 h];rfl
theorem jc7(T:List Tk)(i:Nat):(T.drop i).tail=T.drop (i+1):=by rw[List.tail_drop]
theorem jea:∀{T:List Tk} {i:Nat},TkW T->i<T.length->TkW (T.drop i)
 |[],i,_,h=>by simp at h
 |t::T,0,h,_=>h
 |t::T,i+1,h,hi=>by
  rcases h.2 with ⟨rfl,_⟩|⟨_,hw⟩
  ·simp at hi
  ·exact jea (T:=T) hw (by simpa using hi)
structure Ks(T:List Tk):Prop where
 t:∀t∈T,K6 t
 n:T.length<=1000000
 w:TkW T
theorem Ks.p{T:List Tk}(h:Ks T){i:Nat}(hi:i<T.length):TkP (T.drop i) :=
 ⟨⟨jea h.w hi,by rw[xtw28];have:=h.n;omega⟩,fun t ht=>jmS (h.t t (List.mem_of_mem_drop ht))⟩
theorem Ks.hd{T:List Tk}(h:Ks T){i:Nat}(hi:i<T.length):K6 (Vm.hd (T.drop i)):=by rw[jg9 hi];exact h.t _ (xtw10 hi)
theorem Ks.next{T:List Tk}(h:Ks T){i:Nat}(hi:i<T.length)(hk:(Vm.hd (T.drop i)).kind≠0):i+1<T.length:=by
 obtain⟨q1,q2⟩:=(h.p hi).tail hk;have:=q1.pos;rw[jc7,xtw28] at this;omega
theorem xW(T:List Tk)(i:Nat)(h:i<T.length):jC 4 i (z8 T)=cT (hd (T.drop i)):=by
 rw[jg9 h];exact xV cT (fun _=>rfl) T i h
structure S6 where
 i:Nat
 a:Int
 e:Int
def wR(T:List Tk)(s:S6):List A:=[.sl 4 T.length (z8 T),.v (.int .i64 s.i),intA s.a,intA s.e]
def qH(T:List Tk)(s:S6):Tk:=hd (T.drop s.i)
def SpecU(f:Nat)(cs args:List A)(post:List A->A->Prop):Prop:=∀y:Value,fX y->Spec Tryz.prog f [cs++[.v y]] args fun o r=>∃c,o=[c++[.v y]]/\post c r
theorem SpecU.v{f:Nat}{cs args:List A}{post:List A->A->Prop}(h:SpecU f cs args post):SpecV Tryz.prog f cs args post fun _=>False:=fun y hy=>(h y hy).toP
theorem SpecU.weaken{f:Nat}{cs args:List A}{post post':List A->A->Prop}(h:SpecU f cs args post')(k:∀c r,post' c r->∃c' r',post c' r'/\c=c'/\Wk r r'):SpecU f cs args post:=fun y hy =>
 Spec.weaken (h y hy) fun o r ⟨c,h1,h2⟩=>by
  obtain⟨c',r',k1,rfl,k3⟩:=k c r h2;exact⟨o,r',⟨c,h1,k1⟩,.refl _,k3⟩
theorem vA(l:List ByteArray)(s:ByteArray)(hl:l.length<=1000000):Spec Tryz.prog 92 [] [.sl 1 l.length (wO l),.v (.string s)] fun _ r=>r=qA (qC l s):=by
 refine eN jK jT 0 Tryz.func92 rfl ?_;intro _;conv=>whnf
 refine jA [0,1,4] ?_;conv=>whnf
 refine jE (fun k:Nat=>[(5,.v (.int .i64 k))]) (fun _=>[]) (fun _=>[]) (fun k=>k<=l.length/\qC (l.take k) s=false) (fun k=>l.length-k) 0 ?_ ⟨xtw19 _,by simp[qC]⟩ ?_
 ·repeat' constructor
 ·rintro k ⟨hk,hn⟩;conv=>whnf
  by_cases hlt:k<l.length
  ·have hrow:=fL l k hlt;have htk:=s9 l s k hlt
   have hin:decide (l[k]=s)=true->qC l s=true:=fun hq=>xtw34.2 ⟨l[k],xtw10 hlt,hq⟩
   generalize l[k]=x at *
   (refine cR ?_;try with_reducible exact trivial)
   (generalize hrq:jC _ _ (wO l)=rq;obtain rfl:rq=[jJ x]:=hrq.symm.trans (hrow);clear hrq;conv=>whnf)
   cases hq:decide (x=s)
   ·conv=>whnf
    refine⟨jG (by omega),?_⟩;conv=>whnf
    refine⟨k+1,zW ?_,⟨hlt,by rw[htk,hn,hq];rfl⟩,by omega⟩;repeat' constructor
   ·conv=>whnf
    rw[hin hq];rfl
  ·obtain rfl:k=l.length:=by omega
   rw[xtw54] at hn
   (refine cR ?_;try with_reducible exact trivial)
   rw[hn];rfl
theorem cJ:Spec Tryz.prog 142 [] [] fun _ r=>r=.sl 1 builtL.length (wO builtL):=by
 refine eN jK jT 0 Tryz.func142 rfl ?_;intro _;conv=>whnf
 rfl
theorem jen(l:List ByteArray)(t:ByteArray):(l.any fun s=>decide (t=s))=qC l t:=by
 unfold qC
 congr 1
 funext s;by_cases h:t=s
 ·rw[xtw1 h,xtw1 h.symm]
 ·rw[xtw0 h,xtw0 (fun e=>h e.symm)]
theorem jcG(s:ByteArray):Spec Tryz.prog 128 [] [.v (.string s)] fun _ r=>r=qA ((keyL++builtL).any fun x=>decide (s=x)):=by
 have h1:=vA builtL s (by decide);have h2:=vA keyL s (by decide)
 have e:((keyL++builtL).any fun x=>decide (s=x))=(qC builtL s||qC keyL s):=by
  rw[jen];unfold qC;rw[List.any_append,Bool.or_comm]
 rw[e];refine eN jK jT 0 Tryz.func128 rfl ?_;intro _;conv=>whnf
 (refine jY [] cJ ?_;rintro r rfl;conv=>whnf)
 (refine jY [] h1 ?_;rintro r rfl;conv=>whnf)
 cases qC builtL s
 ·conv=>whnf
  refine jY [0] h2 ?_;rintro r rfl;conv=>whnf
  rfl
 ·conv=>whnf
  rfl
theorem xU{T:List Tk}{s:S6}(hi:s.i<T.length):SpecU 45 (wR T s) [.box 0 0] fun c r=>c=wR T s/\r=jJ (qH T s).text:=fun y hy=>by
 have hr:=xW T s.i hi;unfold qH;refine eN jtS jT 1 Tryz.func45 rfl ?_;intro _;generalize hd (T.drop s.i)=t at *;conv=>whnf
 (refine cR ?_;try with_reducible exact trivial)
 (generalize hrq:jC _ _ (z8 T)=rq;obtain rfl:rq=cT t:=hrq.symm.trans (hr);clear hrq;conv=>whnf)
 exact⟨_,rfl,rfl,rfl⟩
def ju1(id:Nat):Tr:=match Nat.beq id 1 with|true=>.q 0 3 (.q 1 3 (.q 2 3 (.q 3 0 (.q 4 3 (.q 5 3 (.q 6 3 (.q 7 0 (.q 8 3 (.q 9 3 (.q 10 0 (.q 11 3 (.q 12 3 (.q 13 3 (.q 14 3 (.q 15 3 (.q 16 0 (.q 17 3 (.q 18 3 (.q 19 3 (.q 20 0 (.q 21 3 (.q 22 3 (.q 23 0 (.alt 24 1 (.q 25 3 (.q 26 3 (.q 27 3 (.nil)))) (.nil)))))))))))))))))))))))))|false=>.nil
theorem jbO{T:List Tk}{s:S6}(hi:s.i<T.length):SpecU 90 (wR T s) [.box 0 0] fun c r=>c=wR T s/\r=qA (yB (T.drop s.i)):=fun y hy=>by
 have hr:=xW T s.i hi;unfold yB;generalize hd (T.drop s.i)=t at *;have hrs:=jcG t.text;generalize ((keyL++builtL).any fun x=>decide (t.text=x))=q at *;refine eN ju1 jT 1 Tryz.func90 rfl ?_;intro _;conv=>whnf
 (refine cR ?_;try with_reducible exact trivial)
 (generalize hrq:jC _ _ (z8 T)=rq;obtain rfl:rq=cT t:=hrq.symm.trans (hr);clear hrq;conv=>whnf)
 by_cases hk:t.kind=1
 ·rw[xtw1 hk];conv=>whnf
  (refine cR ?_;try with_reducible exact trivial)
  (generalize hrq:jC _ _ (z8 T)=rq;obtain rfl:rq=cT t:=hrq.symm.trans (hr);clear hrq;conv=>whnf)
  refine jY [] hrs ?_;rintro r rfl;conv=>whnf
  exact⟨_,rfl,rfl,rfl⟩
 ·rw[xtw0 hk];conv=>whnf
  exact⟨_,rfl,rfl,rfl⟩
def stF(T:List Tk)(s:S6)(x:Int)(k:Nat):S6:=if s.e=0 then ⟨s.i,(hd (T.drop k)).pos,x⟩ else s
theorem nO{T:List Tk}{s:S6}(k:Nat)(hk:k<T.length)(x:Int):SpecU 91 (wR T s) [.box 0 0,intA x,.v (.int .i64 k)] fun c r=>c=wR T (stF T s x k)/\r=.tup []:=fun y hy=>by
 have hr:=xW T k hk;unfold stF;generalize hd (T.drop k)=t at *;refine eN jK jT 1 Tryz.func91 rfl ?_;intro _;conv=>whnf
 by_cases h0:s.e=0
 ·rw[xtw1 h0,xtw3 h0];conv=>whnf
  (refine cR ?_;try with_reducible exact trivial)
  (generalize hrq:jC _ _ (z8 T)=rq;obtain rfl:rq=cT t:=hrq.symm.trans (hr);clear hrq;conv=>whnf)
  exact⟨_,rfl,rfl,rfl⟩
 ·rw[xtw0 h0,xtw2 h0];conv=>whnf
  exact⟨_,rfl,rfl,rfl⟩
def xF(T:List Tk)(s:S6):S6:=if s.i+1<T.length then ⟨s.i+1,s.a,s.e⟩ else s
theorem nQ{T:List Tk}(hT:Ks T){s:S6}(hi:s.i<T.length):SpecU 89 (wR T s) [.box 0 0] fun c r=>c=wR T (xF T s)/\r=.tup []:=fun y hy=>by
 have hn:=hT.n;unfold xF;refine eN jtX jT 1 Tryz.func89 rfl ?_;intro _;conv=>whnf
 by_cases h:s.i+1<T.length
 ·rw[xtw3 h]
  (refine cR ?_;try with_reducible exact trivial)
  exact⟨_,rfl,rfl,rfl⟩
 ·rw[xtw2 h]
  (refine cR ?_;try with_reducible exact trivial)
  exact⟨_,rfl,rfl,rfl⟩
def bV(T:List Tk)(s:S6)(w:ByteArray):S6:=if s.e=0 then(if (qH T s).text=w then xF T s else ⟨s.i,(qH T s).pos,10⟩) else s
theorem qO{T:List Tk}(hT:Ks T){s:S6}(hi:s.i<T.length)(w:ByteArray):SpecU 47 (wR T s) [.box 0 0,jJ w] fun c r=>c=wR T (bV T s w)/\r=.tup []:=fun y hy=>by
 have hnx:=xU hi y hy;have hfl:=nO s.i hi 10 (s:=s) y hy;have htk:=nQ hT hi y hy;unfold bV;refine eN jK jT 1 Tryz.func47 rfl ?_;intro _;conv=>whnf
 by_cases h0:s.e=0
 ·rw[xtw1 h0,xtw3 h0];conv=>whnf
  refine jL 0 [] hnx ?_;rintro o r ⟨c,ho,rfl,rfl⟩;cases ho;by_cases hw:(qH T s).text=w
  ·rw[xtw3 hw];conv=>whnf
   rw[xtw1 hw];conv=>whnf
   rw[xtw1 h0];conv=>whnf
   refine jL 0 [] htk ?_;rintro o r ⟨c,ho,rfl,rfl⟩;cases ho;conv=>whnf
   exact⟨_,rfl,rfl,rfl⟩
  ·rw[xtw2 hw];unfold stF at hfl;rw[xtw3 h0] at hfl;conv=>whnf
   rw[xtw0 hw];conv=>whnf
   refine jL 0 [] hfl ?_;rintro o r ⟨c,ho,rfl,rfl⟩;cases ho;conv=>whnf
   exact⟨_,rfl,rfl,rfl⟩
 ·rw[xtw0 h0,xtw2 h0];conv=>whnf
  rw[xtw0 h0];conv=>whnf
  exact⟨_,rfl,rfl,rfl⟩
def sL(T:List Tk)(s:S6)(w:ByteArray)(lv:Int):S6:=if s.e=0/\(qH T s).text=w/\20<lv then ⟨s.i,(qH T s).pos,2⟩ else bV T s w
theorem jf8{T:List Tk}(hT:Ks T){s:S6}(hi:s.i<T.length)(w:ByteArray)(lv:Int):SpecU 94 (wR T s) [.box 0 0,jJ w,intA lv] fun c r=>c=wR T (sL T s w lv)/\r=.tup []:=fun y hy=>by
 have hnx:=xU hi y hy;have hfl:=nO s.i hi 2 (s:=s) y hy;have hxp:=qO hT hi w y hy
 have hxq:s.e=0->Spec Tryz.prog 47 [wR T ⟨s.i,(qH T s).pos,2⟩++[.v y]] [.box 0 0,jJ w] fun o r=>∃c,o=[c++[.v y]]/\c=wR T ⟨s.i,(qH T s).pos,2⟩/\r=.tup []:=fun h0=>by
  have:=qO hT (s:=⟨s.i,(qH T s).pos,2⟩) hi w y hy;rw[show bV T ⟨s.i,(qH T s).pos,2⟩ w=⟨s.i,(qH T s).pos,2⟩ from xtw2 (show ¬(2:Int)=0 by decide)] at this;exact this
 unfold sL;refine eN jK jT 1 Tryz.func94 rfl ?_;intro _;conv=>whnf
 by_cases h0:s.e=0
 ·rw[xtw1 h0];conv=>whnf
  refine jL 0 [] hnx ?_;rintro o r ⟨c,ho,rfl,rfl⟩;cases ho;by_cases hw:(qH T s).text=w
  ·conv=>whnf
   rw[xtw1 hw];conv=>whnf
   by_cases hl:20<lv
   ·rw[xtw3 ⟨h0,hw,hl⟩];unfold stF at hfl;rw[xtw3 h0] at hfl;rw[xtw1 hl];conv=>whnf
    refine jL 0 [] hfl ?_;rintro o r ⟨c,ho,rfl,rfl⟩;cases ho;conv=>whnf
    refine jL 0 [] (hxq h0) ?_;rintro o r ⟨c,ho,rfl,rfl⟩;cases ho;conv=>whnf
    exact⟨_,rfl,rfl,rfl⟩
   ·rw[xtw2 (fun h=>hl h.2.2)];rw[xtw0 hl];conv=>whnf
    refine jL 0 [] hxp ?_;rintro o r ⟨c,ho,rfl,rfl⟩;cases ho;conv=>whnf
    exact⟨_,rfl,rfl,rfl⟩
  ·rw[xtw2 (fun h=>hw h.2.1)];conv=>whnf
   rw[xtw0 hw];conv=>whnf
   refine jL 0 [] hxp ?_;rintro o r ⟨c,ho,rfl,rfl⟩;cases ho;conv=>whnf
   exact⟨_,rfl,rfl,rfl⟩
 ·rw[xtw0 h0,xtw2 (fun h=>h0 h.1)];conv=>whnf
  refine jL 0 [] hxp ?_;rintro o r ⟨c,ho,rfl,rfl⟩;cases ho;conv=>whnf
  exact⟨_,rfl,rfl,rfl⟩
def mT(T:List Tk)(s:S6)(m:Int):S6:=if s.e=0 then(if (qH T s).kind≠2 then ⟨s.i,(qH T s).pos,10⟩ else if m<(qH T s).n then ⟨s.i,(qH T s).pos,6⟩ else xF T s) else s
def vaN(T:List Tk)(s:S6)(m:Int):Int:=if s.e=0/\(qH T s).kind=2/\(qH T s).n<=m then(qH T s).n else 0
theorem jh2{T:List Tk}(hT:Ks T){s:S6}(hi:s.i<T.length)(m:Int):SpecU 93 (wR T s) [.box 0 0,intA m] fun c r=>c=wR T (mT T s m)/\r=intA (vaN T s m):=fun y hy=>by
 have hr:=xW T s.i hi;have hf1:=nO s.i hi 10 (s:=s) y hy;have hf2:=nO s.i hi 6 (s:=s) y hy;have htk:=nQ hT hi y hy;have hgd:=(hT.p hi).good;unfold stF at hf1 hf2;unfold mT vaN
 change jC 4 s.i (z8 T)=cT (qH T s) at hr
 change tZ (qH T s) at hgd
 change Spec _ _ _ _ (fun o r=>∃c,o=[c++[.v y]]/\c=wR T (if s.e=0 then ⟨s.i,(qH T s).pos,10⟩ else s)/\r=.tup []) at hf1
 change Spec _ _ _ _ (fun o r=>∃c,o=[c++[.v y]]/\c=wR T (if s.e=0 then ⟨s.i,(qH T s).pos,6⟩ else s)/\r=.tup []) at hf2
 generalize qH T s=t at *;refine eN jtY jT 1 Tryz.func93 rfl ?_;intro _;conv=>whnf
 (refine cR ?_;try with_reducible exact trivial)
 (generalize hrq:jC _ _ (z8 T)=rq;obtain rfl:rq=cT t:=hrq.symm.trans (hr);clear hrq;conv=>whnf)
 by_cases hk:t.kind=2
 ·rw[xtw1 hk];conv=>whnf
  by_cases hm:m<t.n
  ·rw[xtw1 hm];conv=>whnf
   refine jL 0 [] hf2 ?_;rintro o r ⟨c,ho,rfl,rfl⟩;cases ho;by_cases h0:s.e=0
   ·rw[xtw3 h0,xtw3 h0,xtw2 (by rw[hk];simp),xtw3 hm,xtw2 (fun h=>by omega)];conv=>whnf
    exact⟨_,rfl,rfl,rfl⟩
   ·rw[xtw2 h0,xtw2 h0,xtw2 (fun h=>h0 h.1)];conv=>whnf
    rw[xtw0 h0];conv=>whnf
    exact⟨_,rfl,rfl,rfl⟩
  ·rw[xtw0 hm];conv=>whnf
   by_cases h0:s.e=0
   ·rw[xtw1 h0,xtw3 h0,xtw2 (by rw[hk];simp),xtw2 hm,xtw3 ⟨h0,hk,by omega⟩];conv=>whnf
    refine jL 0 [] htk ?_;rintro o r ⟨c,ho,rfl,rfl⟩;cases ho;conv=>whnf
    exact⟨_,rfl,rfl,rfl⟩
   ·rw[xtw0 h0,xtw2 h0,xtw2 (fun h=>h0 h.1)];conv=>whnf
    exact⟨_,rfl,rfl,rfl⟩
 ·rw[xtw0 hk];conv=>whnf
  refine jL 0 [] hf1 ?_;rintro o r ⟨c,ho,rfl,rfl⟩;cases ho;by_cases h0:s.e=0
  ·rw[xtw3 h0,xtw3 h0,xtw3 hk,xtw2 (fun h=>hk h.2.1)];conv=>whnf
   exact⟨_,rfl,rfl,rfl⟩
  ·rw[xtw2 h0,xtw2 h0,xtw2 (fun h=>h0 h.1)];conv=>whnf
   rw[xtw0 h0];conv=>whnf
   exact⟨_,rfl,rfl,rfl⟩
section
def Ws6(s:ByteArray):Prop:=∃c r,s.data.toList=c::r/\wA c=false
theorem xT{c:UInt8}{r:List UInt8}(h:wA c=false):Ws6 ⟨(c::r).toArray⟩:=⟨c,r,rfl,h⟩
theorem jrX{s:ByteArray}{ts:List Tk}(hs:Ws6 s)(ht:K6 (hd ts)):zO s ts=decide ((hd ts).text=s):=by
 obtain⟨c,r,hs,hc⟩:=hs;unfold zO;by_cases h:(hd ts).text=s
 ·rw[xtw1 h];rcases ht with ⟨h1,_⟩|⟨h1,_⟩|⟨_,h1⟩|⟨_,d,r',h2,h3⟩
  ·rw[xtw1 h1];rfl
  ·rw[xtw1 h1];simp
  ·rw[h,hs] at h1;exact absurd h1 (by simp)
  ·rw[h,hs] at h2;cases h2;rw[hc] at h3;cases h3
 ·rw[xtw0 h];rfl
theorem zC{T:List Tk}(hT:Ks T){s:S6}(hi:s.i<T.length){w:ByteArray}(hw:Ws6 w):zO w (T.drop s.i)=decide ((qH T s).text=w):=jrX hw (hT.hd hi)
theorem jjs{T:List Tk}(hT:Ks T){s:S6}(hi:s.i<T.length):∀{l:List ByteArray},(∀w∈l,Ws6 w)->cW l (T.drop s.i)=qC l (qH T s).text
 |[],_=>rfl
 |w::l,h=>by
  unfold cW qC;rw[xtw114,xtw114,zC hT hi (h w xtw29)]
  have ih:=jjs hT hi (l:=l) fun x hx=>h x (xtw25 _ hx)
  unfold cW qC at ih;rw[ih]
  congr 1
  by_cases e:(qH T s).text=w
  ·rw[xtw1 e,xtw1 e.symm]
  ·rw[xtw0 e,xtw0 (fun h=>e h.symm)]
def Dq(T:List Tk)(s s':S6)(P:Pn)(f:Nt):Prop:=s'.i<T.length/\(s.e≠0->s'.a=s.a/\s'.e=s.e)/\(s.e=0->match P with
 |.ok g r=>s'.e=0/\s'.a=s.a/\f=g/\T.drop s'.i=r
 |.bad x e=>e≠0/\s'.e=e/\s'.a=x)
variable{T:List Tk}
theorem zJ{s s1 s2:S6}{P1:Pn}{K:Nt->List Tk->Pn}{f1 f2:Nt}(h1:Dq T s s1 P1 f1)(h2:Dq T s1 s2 (K f1 (T.drop s1.i)) f2):Dq T s s2 (P1.andThen K) f2:=by
 obtain⟨a1,a2,a3⟩:=h1;obtain⟨b1,b2,b3⟩:=h2;refine⟨b1,fun h=>?_,fun h=>?_⟩
 ·obtain⟨q1,q2⟩:=a2 h;obtain⟨q3,q4⟩:=b2 (by rw[q2];exact h);exact⟨q3.trans q1,q4.trans q2⟩
 ·have a3:=a3 h
  cases P1 with
  |ok g r =>
   obtain⟨q1,q2,rfl,rfl⟩:=a3;have b3:=b3 q1
   show match K f1 (T.drop s1.i) with|.ok g r=>_|.bad x e=>_
   cases hK:K f1 (T.drop s1.i) with
   |ok g2 r2 =>
    rw[hK] at b3;exact⟨b3.1,b3.2.1.trans q2,b3.2.2.1,b3.2.2.2⟩
   |bad x e=>rw[hK] at b3;exact b3
  |bad x e =>
   obtain⟨q1,q2,q3⟩:=a3;obtain⟨q4,q5⟩:=b2 (by rw[q2];exact q1);exact⟨q1,q5.trans q2,q4.trans q3⟩
theorem yI{s:S6}(hi:s.i<T.length)(f:Nt):Dq T s s (.ok f (T.drop s.i)) f:=⟨hi,fun _=>⟨rfl,rfl⟩,fun h=>⟨h,rfl,rfl,rfl⟩⟩
theorem sV{s s':S6}(hi:s'.i<T.length)(h:s.e≠0)(ha:s'.a=s.a)(he:s'.e=s.e)(P:Pn)(f:Nt):Dq T s s' P f:=⟨hi,fun _=>⟨ha,he⟩,fun h0=>absurd h0 h⟩
theorem jms{s s':S6}(hi:s'.i<T.length)(h:s.e=0){x e:Int}(he:e≠0)(h1:s'.e=e)(h2:s'.a=x)(f:Nt):Dq T s s' (.bad x e) f:=⟨hi,fun h0=>absurd h h0,fun _=>⟨he,h1,h2⟩⟩
theorem jeC{s s1 s2:S6}{P P1:Pn}{f:Nt}(h2:Dq T s1 s2 P1 f)(hn:s.e≠0->s1=s)(ho:s.e=0->(s1.e=0/\s1.a=s.a/\P=P1)∨(s1.e≠0/\P=.bad s1.a s1.e)):Dq T s s2 P f:=by
 obtain⟨b1,b2,b3⟩:=h2;refine⟨b1,fun h=>?_,fun h=>?_⟩
 ·have:=hn h;subst this;exact b2 h
 ·rcases ho h with ⟨q1,q2,rfl⟩|⟨q1,rfl⟩
  ·have b3:=b3 q1
   cases P with
   |ok g r=>exact⟨b3.1,b3.2.1.trans q2,b3.2.2.1,b3.2.2.2⟩
   |bad x e=>exact b3
  ·obtain⟨q4,q5⟩:=b2 q1;exact⟨q1,q5,q4⟩
theorem bM(hT:Ks T){s:S6}(hi:s.i<T.length)(hk:(qH T s).kind≠0):xF T s=⟨s.i+1,s.a,s.e⟩:=by
 unfold xF;rw[xtw3 (hT.next hi hk)]
theorem nJ{s:S6}(hi:s.i<T.length):(xF T s).i<T.length:=by
 unfold xF;split
 ·assumption
 ·exact hi
theorem vF(s:S6):(xF T s).e=s.e/\(xF T s).a=s.a:=by
 unfold xF
 split <;> exact⟨rfl,rfl⟩
theorem vZ{s:S6}(hi:s.i<T.length)(w:ByteArray):(bV T s w).i<T.length:=by
 unfold bV;split
 ·split
  ·exact nJ hi
  ·exact hi
 ·exact hi
theorem jhp{s:S6}(hi:s.i<T.length)(w:ByteArray)(lv:Int):(sL T s w lv).i<T.length:=by
 unfold sL;split
 ·exact hi
 ·exact vZ hi w
theorem oH{s:S6}(hi:s.i<T.length)(m:Int):(mT T s m).i<T.length:=by
 unfold mT;split
 ·split
  ·exact hi
  ·split
   ·exact hi
   ·exact nJ hi
 ·exact hi
theorem vG(hT:Ks T){s:S6}(hi:s.i<T.length){w:ByteArray}(hw:Ws6 w)(h:(qH T s).text=w):(qH T s).kind≠0 :=
 yU (ts:=T.drop s.i) (s:=w) (by rw[zC hT hi hw,h];simp)
theorem zF(hT:Ks T){s:S6}(hi:s.i<T.length)(hk:(qH T s).kind≠0):T.drop (xF T s).i=(T.drop s.i).tail:=by
 rw[bM hT hi hk,jc7]
theorem yJ(hT:Ks T){s s2:S6}(hi:s.i<T.length){w:ByteArray}(hw:Ws6 w){K:List Tk->Pn}{f:Nt}(h2:Dq T (bV T s w) s2 (K (T.drop (bV T s w).i)) f):Dq T s s2 (xpt w (T.drop s.i) K) f:=by
 refine jeC h2 (fun h=>by unfold bV;rw[xtw2 h]) fun h=>?_
 unfold xpt;rw[zC hT hi hw];unfold bV;rw[xtw3 h];by_cases e:(qH T s).text=w
 ·left;rw[xtw3 e,xtw3 (xtw1 e),zF hT hi (vG hT hi hw e)];exact⟨by rw[(vF s).1];exact h,(vF s).2,rfl⟩
 ·right;rw[xtw2 e,xtw2 (by rw[xtw0 e];simp)];exact⟨show(10:Int)≠0 by decide,rfl⟩
theorem jmt(hT:Ks T){s s2:S6}(hi:s.i<T.length){m:Int}{K:Int->List Tk->Pn}{f:Nt}(h2:Dq T (mT T s m) s2 (K (vaN T s m) (T.drop (mT T s m).i)) f):Dq T s s2 (bE (m+1) (T.drop s.i) K) f:=by
 refine jeC h2 (fun h=>by unfold mT;rw[xtw2 h]) fun h=>?_
 have hX:bE (m+1) (T.drop s.i) K=(if (qH T s).kind≠2 then Pn.bad (qH T s).pos 10 else if m+1<=(qH T s).n then .bad (qH T s).pos 6 else K (qH T s).n (T.drop s.i).tail):=rfl;rw[hX];by_cases hk:(qH T s).kind=2
 ·have hk':¬(qH T s).kind≠2:=fun h=>h hk
  by_cases hm:m<(qH T s).n
  ·right
   have e1:mT T s m=⟨s.i,(qH T s).pos,6⟩:=by unfold mT;rw[xtw3 h,xtw2 hk',xtw3 hm]
   rw[e1,xtw2 hk',xtw3 (by omega)];exact⟨show(6:Int)≠0 by decide,rfl⟩
  ·left
   have e1:mT T s m=xF T s:=by unfold mT;rw[xtw3 h,xtw2 hk',xtw2 hm]
   have e2:vaN T s m=(qH T s).n:=by unfold vaN;rw[xtw3 ⟨h,hk,by omega⟩]
   rw[e1,e2,xtw2 hk',xtw2 (by omega),zF hT hi (by rw[hk];decide)];exact⟨by rw[(vF s).1];exact h,(vF s).2,rfl⟩
 ·right
  have e1:mT T s m=⟨s.i,(qH T s).pos,10⟩:=by unfold mT;rw[xtw3 h,xtw3 hk]
  rw[e1,xtw3 hk];exact⟨show(10:Int)≠0 by decide,rfl⟩
def RU(T:List Tk)(s:S6)(op:List Tk->Pn)(c:List A)(r:A):Prop:=∃s' f,Dq T s s' (op (T.drop s.i)) f/\c=wR T s'/\r=.agg (ntA f)
def RW(T:List Tk)(s:S6)(op:List Tk->Pn)(c:List A)(r:A):Prop:=∃s' f l,Dq T s s' (op (T.drop s.i)) f/\c=wR T s'/\r=.agg l/\WkL l (ntA f)
theorem jkh{g:Nat}{cs args:List A}{s:S6}{op:List Tk->Pn}(h:SpecU g cs args (RW T s op)):SpecU g cs args (RU T s op) :=
 h.weaken fun c r ⟨s',f,l,h1,h2,h3,h4⟩=>⟨c,.agg (ntA f),⟨s',f,h1,h2,rfl⟩,rfl,by rw[h3];exact .agg h4⟩
def nS(T:List Tk)(lv prec:Int)(op:List Tk->Pn):Prop:=∀s:S6,s.i<T.length->SpecU 129 (wR T s) [.box 0 0,intA lv,intA prec] (RU T s op)
def uA(T:List Tk)(g:Nat)(lv:Int)(op:List Tk->Pn):Prop:=∀s:S6,s.i<T.length->SpecU g (wR T s) [.box 0 0,intA lv] (RU T s op)
theorem jqh{lv prec:Int}{s:S6}(hi:s.i<T.length)(he:s.e≠0)(op:List Tk->Pn):SpecU 129 (wR T s) [.box 0 0,intA lv,intA prec] (RU T s op):=jkh fun y hy=>by
 refine eN jK jT 1 Tryz.func129 rfl ?_;intro _;conv=>whnf
 rw[xtw0 he];conv=>whnf
 exact⟨_,rfl,s,.mk 0 0 eB [],_,sV hi he rfl rfl _ _,rfl,rfl,j4 (f:=.mk 0 0 eB []) rfl⟩
end
section
def opx(sel:Pa->List Tk->Pn):Option Pa->List Tk->Pn
 |none=>fun _=>.bad 0 1
 |some p=>sel p
def LowR6(T:List Tk)(lv:Int)(low:Option Pa):Prop:=0<=lv/\((low=none/\lv=20)∨∃p,low=some p/\lv+1<=20 ∧
 nS T (lv+1) 3 p.no/\nS T (lv+1) 7 p.un/\nS T (lv+1) 1 p.ex/\uA T 49 (lv+1) p.bl)
theorem LowR6.le{T:List Tk}{lv:Int}{low:Option Pa}(h:LowR6 T lv low):0<=lv/\lv<=20:=by
 obtain⟨h0,⟨_,rfl⟩|⟨_,_,h,_⟩⟩:=h
 ·omega
 ·omega
variable{T:List Tk}
theorem jj5{s:S6}{w:ByteArray}{lv:Int}(h:lv<=20):sL T s w lv=bV T s w:=by
 unfold sL;rw[xtw2 (fun k=>by omega)]
theorem jbZ(s:S6)(w:ByteArray):(sL T s w 21).e≠0:=by
 unfold sL;by_cases h:s.e=0/\(qH T s).text=w/\(20:Int)<21
 ·rw[xtw3 h];exact show(2:Int)≠0 by decide
 ·rw[xtw2 h];unfold bV;by_cases h0:s.e=0
  ·rw[xtw3 h0,xtw2 (fun e=>h ⟨h0,e,by decide⟩)]
   exact show(10:Int)≠0 by decide
  ·rw[xtw2 h0];exact h0
theorem jqD{lv prec:Int}{low:Option Pa}{sel:Pa->List Tk->Pn}(hlo:LowR6 T lv low)(hsel:∀p,low=some p->nS T (lv+1) prec (sel p))(s:S6)(hi:s.i<T.length)(w:ByteArray) :
  SpecU 129 (wR T (sL T s w (lv+1))) [.box 0 0,intA (lv+1),intA prec] (RU T (sL T s w (lv+1)) (opx sel low)):=by
 obtain⟨h0,⟨rfl,rfl⟩|⟨p,rfl,hle,_⟩⟩:=hlo
 ·exact jqh (jhp hi w _) (jbZ s w) _
 ·exact hsel p rfl _ (jhp hi w _)
theorem mU{s:S6}(h:s.e≠0)(w:ByteArray):bV T s w=s:=by unfold bV;rw[xtw2 h]
theorem jeA(hT:Ks T){s s2 s3:S6}(hi:s.i<T.length){w:ByteArray}(hw:Ws6 w){P:Pn}{f:Nt}(h2:Dq T (sL T s w 21) s2 P f)(hs:s3.i<T.length/\(s2.e≠0->s3.a=s2.a/\s3.e=s2.e))(g:Nt) :
  Dq T s s3 (if zO w (T.drop s.i)=true then .bad (hd (T.drop s.i)).pos 2 else synE (T.drop s.i)) g:=by
 have hd:=jbZ (T:=T) s w;obtain⟨q1,q2⟩:=h2.2.1 hd;obtain⟨q3,q4⟩:=hs.2 (by rw[q2];exact hd);refine⟨hs.1,fun h=>?_,fun h=>?_⟩
 ·have:sL T s w 21=s:=by
   unfold sL;rw[xtw2 (fun k=>h k.1),mU h]
  rw[this] at q1 q2;exact⟨q3.trans q1,q4.trans q2⟩
 ·rw[zC hT hi hw];by_cases e:(qH T s).text=w
  ·rw[xtw3 (xtw1 e)]
   have:sL T s w 21=⟨s.i,(qH T s).pos,2⟩:=by unfold sL;rw[xtw3 ⟨h,e,by decide⟩]
   rw[this] at q1 q2;exact⟨by decide,q4.trans q2,q3.trans q1⟩
  ·rw[xtw2 (by rw[xtw0 e];simp)]
   have:sL T s w 21=⟨s.i,(qH T s).pos,10⟩:=by
    unfold sL bV;rw[xtw2 (fun k=>e k.2.1),xtw3 h,xtw2 e]
   rw[this] at q1 q2;exact⟨by decide,q4.trans q2,q3.trans q1⟩
theorem jpn(hT:Ks T){lv:Int}{low:Option Pa}(hlo:LowR6 T lv low){s s2:S6}(hi:s.i<T.length){f:Nt}(h2:Dq T (sL T s pLp (lv+1)) s2 (opx (·.ex) low (T.drop (sL T s pLp (lv+1)).i)) f) :
  Dq T s (bV T s2 pRp) (dN low (T.drop s.i)) f:=by
 have hi2:=h2.1;obtain⟨h0,⟨rfl,rfl⟩|⟨p,rfl,hle,_⟩⟩:=hlo
 ·exact jeA hT hi (xT (by decide)) h2 ⟨vZ hi2 _,fun h=>by rw[mU h];exact⟨rfl,rfl⟩⟩ f
 ·rw[jj5 (by omega)] at h2;exact yJ hT hi (xT (by decide)) (K:=fun r=>(p.ex r).andThen fun n r=>xpt pRp r fun r'=>.ok n r') (zJ h2 (yJ hT hi2 (xT (by decide)) (yI (vZ hi2 _) f)))
theorem jso(hT:Ks T){lv:Int}{low:Option Pa}(hlo:LowR6 T lv low){sel:Pa->List Tk->Pn}{s s2:S6}(hi:s.i<T.length){w:ByteArray}(hw:Ws6 w)(htx:s.e=0->(qH T s).text=w){f:Nt}(h2:Dq T (sL T s w (lv+1)) s2 (opx sel low (T.drop (sL T s w (lv+1)).i)) f) :
  Dq T s s2 (u6 w (low.map sel) (T.drop s.i)) (.mk 17 0 w [f]):=by
 by_cases he:s.e=0
 ·have hp:zO w (T.drop s.i)=true:=by rw[zC hT hi hw];exact xtw1 (htx he)
  obtain⟨h0,⟨rfl,rfl⟩|⟨p,rfl,hle,_⟩⟩:=hlo
  ·have:=jeA hT hi hw h2 ⟨h2.1,fun _=>⟨rfl,rfl⟩⟩ (.mk 17 0 w [f]);rw[xtw3 hp] at this;exact this
  ·rw[jj5 (by omega)] at h2;have:=yJ hT hi hw (K:=fun r=>(sel p r).andThen fun n r=>.ok (.mk 17 0 w [n]) r) (zJ h2 (yI h2.1 (.mk 17 0 w [f])));unfold xpt at this;rw[xtw3 hp] at this;exact this
 ·have hs:sL T s w (lv+1)=s:=by
   unfold sL;rw[xtw2 (fun k=>he k.1),mU he]
  rw[hs] at h2;obtain⟨q1,q2⟩:=h2.2.1 he;exact sV h2.1 he q1 q2 _ _
theorem jpJ{lv:Int}{low:Option Pa}(hT:Ks T)(hlo:LowR6 T lv low):uA T 167 lv (dN low):=fun s hi y hy=>by
 have hle:=hlo.le;have hop:=jf8 hT hi pLp (lv+1) y hy
 have hx:=jqD hlo (sel:=(·.ex)) (prec:=1) (fun p hp=>by
  obtain⟨_,⟨h,_⟩|⟨q,hq,_,_,_,h,_⟩⟩:=hlo
  ·rw[h] at hp;cases hp
  ·rw[hq] at hp;cases hp;exact h) s hi pLp y hy
 have hdq:=fun s2 f=>jpn hT hlo (s:=s) (s2:=s2) (f:=f) hi
 have hi1:=jhp hi pLp (lv+1);generalize sL T s pLp (lv+1)=s1 at *;refine eN jK jT 1 Tryz.func167 rfl ?_;intro _;conv=>whnf
 refine⟨jG (by omega),?_⟩;conv=>whnf
 refine jL 0 [] hop ?_;rintro o r ⟨c,ho,rfl,rfl⟩;cases ho;conv=>whnf
 refine⟨jG (by omega),?_⟩;conv=>whnf
 refine jL 0 [] hx ?_;rintro o r ⟨c,ho,s2,f,hq,rfl,rfl⟩;cases ho;have hxp:=qO hT hq.1 pRp y hy;conv=>whnf
 refine jL 0 [] hxp ?_;rintro o r ⟨c,ho,rfl,rfl⟩;cases ho;conv=>whnf
 exact⟨_,rfl,_,f,hdq _ _ hq,rfl,rfl⟩
theorem jnK{lv prec:Int}{low:Option Pa}(hT:Ks T)(hlo:LowR6 T lv low){sel:Pa->List Tk->Pn}(hsel:∀p,low=some p->nS T (lv+1) prec (sel p)){w:ByteArray}(hw:Ws6 w)(s:S6)(hi:s.i<T.length)(htx:s.e=0->(qH T s).text=w) :
  SpecU 143 (wR T s) [.box 0 0,jJ w,intA lv,intA prec] (RU T s (u6 w (low.map sel))):=fun y hy=>by
 have hle:=hlo.le;have hop:=jf8 hT hi w (lv+1) y hy;have hx:=jqD hlo hsel s hi w y hy
 have hdq:=fun s2 f=>jso hT hlo (sel:=sel) (s:=s) (s2:=s2) (f:=f) hi hw htx
 have hi1:=jhp hi w (lv+1);generalize sL T s w (lv+1)=s1 at *;refine eN jK jT 1 Tryz.func143 rfl ?_;intro _;conv=>whnf
 refine⟨jG (by omega),?_⟩;conv=>whnf
 refine jL 0 [] hop ?_;rintro o r ⟨c,ho,rfl,rfl⟩;cases ho;conv=>whnf
 refine⟨jG (by omega),?_⟩;conv=>whnf
 refine jL 0 [] hx ?_;rintro o r ⟨c,ho,s2,f,hq,rfl,rfl⟩;cases ho;conv=>whnf
 exact⟨_,rfl,_,.mk 17 0 w [f],hdq _ _ hq,rfl,by rw[kO];rfl⟩
end
section
variable{T:List Tk}
theorem rM(hT:Ks T){s s2:S6}(hi:s.i<T.length)(h0:s.e=0)(hk:(qH T s).kind≠0){P:List Tk->Pn}{f:Nt}(h2:Dq T (xF T s) s2 (P (T.drop (xF T s).i)) f):Dq T s s2 (P (T.drop s.i).tail) f :=
 jeC h2 (fun h=>absurd h0 h) fun _=>.inl ⟨by rw[(vF s).1];exact h0,(vF s).2,by rw[zF hT hi hk]⟩
theorem joY(hT:Ks T){s:S6}(hi:s.i<T.length)(h0:s.e=0)(hk:(qH T s).kind≠0)(f:Nt):Dq T s (xF T s) (.ok f (T.drop s.i).tail) f :=
 rM hT hi h0 hk (P:=fun r=>.ok f r) (yI (nJ hi) f)
def jhT(k:Nat)(op:List Tk->Pn)(signs:List ByteArray)(ts:List Tk):Pn:=(op ts).andThen fun f r=>xI op signs (if k=4 then 1 else r.length) f r
def opsA:List A:=[.v (.slice none 0 0),.sl 1 1 [jJ sD],.sl 1 1 [jJ yW],.v (.slice none 0 0),.sl 1 6 [jJ pLt,jJ pLe,jJ pGt,jJ pGe,jJ jnn,jJ pNe],.sl 1 2 [jJ bF,jJ qB],.sl 1 2 [jJ vC,jJ wK]]
def jlH(T:List Tk)(lv:Int)(k:Nat)(op:List Tk->Pn):Prop:=∀s:S6,s.i<T.length->SpecU 144 (wR T s) [.box 0 0,intA lv,.v (.int .i64 k)] (RU T s op)
theorem jmc{op:List Tk->Pn}{signs:List ByteArray}{n:Nat}{l:Nt}{ts:List Tk}(h:cW signs ts=false):xI op signs n l ts=.ok l ts:=by
 cases n with
 |zero=>rfl
 |succ m=>rw[xI,xtw2 (by rw[h];simp)]
def jtZ(id:Nat):Tr:=match Nat.beq id 3 with
 |true=>.q 0 3 (.q 1 3 (.q 2 3 (.q 3 0 (.q 4 3 (.q 5 3 (.q 6 3 (.q 7 3 (.q 8 3 (.q 10 3 (.alt 9 2 (.alt 11 2 (.alt 12 2 (.q 13 3 .nil) .nil) .nil) (.alt 11 2 (.alt 9 2 (.alt 12 2 (.q 13 3 .nil) .nil) .nil) .nil)))))))))))
 |false=>.nil
theorem sH{lv:Int}(hT:Ks T)(k:Nat)(hk6:k<=6){signs:List ByteArray}{op:List Tk->Pn}(hlen:signs.length<=10)(hrow:jC 1 k opsA=[.sl 1 signs.length (wO signs)])(hsg:∀w∈signs,Ws6 w)(hx:nS T lv (k+1) op)(hgo:qT op):jlH T lv k (jhT k op signs):=fun s0 hi0 y hy=>by
 obtain⟨P,hP⟩:∃P,jhT k op signs (T.drop s0.i)=P:=⟨_,rfl⟩
 unfold RU;rw[hP];unfold jhT at hP;have hx0:=hx s0 hi0 y hy
 obtain⟨oA,hoA⟩:∃oA,opsA=oA:=⟨_,rfl⟩
 rw[hoA] at hrow;unfold opsA at hoA
 have hol:oA.length=7:=by rw[<- hoA];rfl
 refine eN jtZ jT 1 Tryz.func144 rfl ?_;intro _;conv=>whnf
 refine⟨jG (by omega),?_⟩;conv=>whnf
 refine jL 0 [] hx0 ?_;rintro o r ⟨c,ho,s1,f1,hq1,rfl,rfl⟩;cases ho;conv=>whnf
 refine xM [5] ?_;conv=>whnf
 refine jA [0,1,2,6,8] ?_;conv=>whnf
 refine jE (fun _:Nat×Nt×S6=>[(7,.sl 1 7 oA)]) (fun x=>[wR T x.2.2++[.v y],jcn,ntA x.2.1]) (fun _=>[]) (fun x=>x.2.2.i<T.length/\(k=4->x.1=1)/\(k≠4->x.2.2.e=0->(T.drop x.2.2.i).length<=x.1)/\∀s' f',Dq T x.2.2 s' (xI op signs x.1 x.2.1 (T.drop x.2.2.i)) f'->Dq T s0 s' P f') (fun x=>if x.2.2.e=0 then T.length-x.2.2.i+1 else 0) (if k=4 then 1 else(T.drop s1.i).length,f1,s1) ?_ ⟨hq1.1,fun h=>xtw3 h,fun h _=>by simp only;rw[xtw2 h];exact xtw11 _,fun s' f' h=>by rw[<- hP];exact zJ hq1 h⟩ ?_
 ·rw[<- hoA];repeat' constructor
 rintro⟨n,left,s⟩ ⟨hi,hn4,hn,hinv⟩
 simp only at hi hn4 hn hinv
 have hnx:=xU hi y hy;have htk:=nQ hT hi y hy;have hhs:=vA signs (qH T s).text (by omega);have hat:=jjs hT hi hsg;conv=>whnf
 by_cases h0:s.e=0
 ·apply mA
  ·conv=>whnf
   rw[xtw1 h0];conv=>whnf
   refine⟨by omega,?_⟩;conv=>whnf
   refine⟨?_,?_⟩
   ·conv=>whnf
    (generalize hrq:jC _ _ (oA)=rq;obtain rfl:rq=[.sl 1 signs.length (wO signs)]:=hrq.symm.trans (hrow);clear hrq;conv=>whnf)
    refine jL 0 [] hnx ?_;rintro o r ⟨c,ho,rfl,rfl⟩;cases ho;conv=>whnf
    (refine jY [] hhs ?_;rintro r rfl;conv=>whnf)
   ·conv=>whnf
    refine jL 0 [] hnx ?_;rintro o r ⟨c,ho,rfl,rfl⟩;cases ho;conv=>whnf
    (generalize hrq:jC _ _ (oA)=rq;obtain rfl:rq=[.sl 1 signs.length (wO signs)]:=hrq.symm.trans (hrow);clear hrq;conv=>whnf)
    (refine jY [] hhs ?_;rintro r rfl;conv=>whnf)
  conv=>whnf
  cases hq:qC signs (qH T s).text with
  |true =>
   rw[hq] at hat
   obtain⟨n1,rfl⟩:∃n1,n=n1+1:=by
    by_cases h4:k=4
    ·exact⟨0,hn4 h4⟩
    ·have:=hn h4 h0;rw[xtw28] at this;exact⟨n-1,by omega⟩
   have hkd:(qH T s).kind≠0:=by
    obtain⟨w,hw⟩:=eK hat;exact yU hw
   have hst:=bM hT hi hkd;have hin:=hT.next hi hkd;rw[xI,xtw3 hat] at hinv;have hx1:=hx (xF T s) (nJ hi) y hy;have hdt:T.drop (xF T s).i=(T.drop s.i).tail:=zF hT hi hkd
   have hgo1:=fun f r (e:op (T.drop (xF T s).i)=.ok f r)=>hgo _ _ _ (hT.p (nJ hi)) e
   conv=>whnf
   refine jL 0 [] hnx ?_;rintro o r ⟨c,ho,rfl,rfl⟩;cases ho;conv=>whnf
   refine jL 0 [] htk ?_;rintro o r ⟨c,ho,rfl,rfl⟩;cases ho;conv=>whnf
   refine⟨jG (by omega),?_⟩;conv=>whnf
   refine jL 0 [] hx1 ?_;rintro o r ⟨c,ho,s2,f2,hq2,rfl,rfl⟩;cases ho
   have hstep:∀s' f',Dq T s2 s' (xI op signs n1 (.mk 18 0 (qH T s).text [left,f2]) (T.drop s2.i)) f'->Dq T s0 s' P f':=fun s' f' h=>by
    refine hinv s' f' (rM hT hi h0 hkd (P:=fun r=>(op r).andThen fun f r=>xI op signs n1 (.mk 18 0 (hd (T.drop s.i)).text [left,f]) r) (zJ hq2 h))
   conv=>whnf
   by_cases h4:k=4
   ·rw[xtw1 (show(k:Int)=4 by omega)]
    have hn1:n1=0:=by have:=hn4 h4;omega
    subst hn1;conv=>whnf
    refine⟨_,rfl,s2,.mk 18 0 (qH T s).text [left,f2],hstep _ _ (yI hq2.1 _),rfl,by rw[z6];rfl⟩
   ·rw[xtw0 (show ¬(k:Int)=4 by omega)];conv=>whnf
    have hlt:s2.e=0->(T.drop s2.i).length+1<=(T.drop s.i).length:=fun e2=>by
     have h5:=hq2.2.2 (by rw[(vF s).1];exact h0)
     cases hop:op (T.drop (xF T s).i) with
     |ok g r =>
      rw[hop] at h5;have h6:=(hgo1 g r hop).2;rw[h5.2.2.2];rw[hdt,List.length_tail,xtw28] at h6;rw[xtw28];omega
     |bad x e =>
      rw[hop] at h5;exact absurd (h5.2.1.symm.trans e2) h5.1
    refine⟨(n1,.mk 18 0 (qH T s).text [left,f2],s2),jjZ [0] [] ?_,⟨hq2.1,fun h=>absurd h h4,fun _ e2=>?_,hstep⟩,?_⟩
    ·conv=>whnf
     repeat' constructor
     show A.sl 4 2 _=A.sl 4 2 (jQ [left,f2]);rw[qV,qV,kN];rfl
    ·have h5:=hn h4 h0;have h6:=hlt e2
     simp only
     omega
    ·simp only
     rw[xtw3 h0];by_cases e2:s2.e=0
     ·have h6:=hlt e2;rw[xtw28,xtw28] at h6;rw[xtw3 e2];omega
     ·rw[xtw2 e2];omega
  |false =>
   rw[hq] at hat;conv=>whnf
   exact⟨_,rfl,s,left,hinv _ _ (by rw[jmc hat];exact yI hi _),rfl,rfl⟩
 ·apply mA
  ·conv=>whnf
   rw[xtw0 h0];conv=>whnf
   refine⟨?_,?_⟩ <;> (conv=>whnf)
  conv=>whnf
  exact⟨_,rfl,s,left,hinv _ _ (sV hi h0 rfl rfl _ _),rfl,rfl⟩
end
section
variable{T:List Tk}
theorem joQ:∀w∈builtL,∃c r,w.data.toList=c::r/\isL c=true:=by
 intro w hw;simp only[builtL,xtw13,xtw42,xtw81] at hw
 rcases hw with rfl|rfl|rfl|rfl|rfl|rfl|rfl|rfl|rfl <;> exact⟨_,_,rfl,by decide⟩
theorem jdc{t:Tk}(h:K6 t)(hb:qC builtL t.text=true):t.kind=1:=by
 obtain⟨w,hw,e⟩:=xtw34.1 hb;have e:=xtw23 e;obtain⟨c,r,h1,h2⟩:=joQ w hw;rw[e] at h1;rcases h with ⟨hk,_⟩|⟨_,d,r',h3,h4⟩|⟨_,h3⟩|⟨_,d,r',h3,h4⟩
 ·exact hk
 ·rw[h1] at h3;cases h3;unfold kG at h4;rw[h2] at h4;cases h4
 ·rw[h1] at h3;cases h3
 ·rw[h1] at h3;cases h3;rw[jqz h2] at h4;cases h4
theorem jpf{ts:List Tk}(h:K6 (hd ts)):jii ts=qC builtL (hd ts).text:=by
 unfold jii;rw[jen];cases hb:qC builtL (hd ts).text
 ·rw[xtw119]
 ·rw[jdc h hb];rfl
theorem jik{ts:List Tk}(h:qC builtL (hd ts).text=true):yB ts=false:=by
 have h2:(keyL++builtL).any (fun s=>decide ((hd ts).text=s))=true:=by
  rw[List.any_append,jen builtL,h,Bool.or_true]
 have:yB ts=(decide ((hd ts).kind=1) && !(keyL++builtL).any fun s=>decide ((hd ts).text=s)):=rfl;rw[this,h2,Bool.not_true,xtw119]
theorem jnF{lv:Int}{low:Option Pa}(hT:Ks T)(hlo:LowR6 T lv low)(s:S6)(hi:s.i<T.length)(h0:s.e=0):SpecU 145 (wR T s) [.box 0 0,intA lv] (RU T s (f0 low)):=jkh fun y hy=>by
 obtain⟨P,hP⟩:∃P,f0 low (T.drop s.i)=P:=⟨_,rfl⟩
 unfold RW;rw[hP];have hr:=xW T s.i hi;have hne:=jpJ hT hlo;have hk6:=hT.hd hi;have hnm:=jbO hi y hy;have hfl:=nO s.i hi 10 (s:=s) y hy;have hbi:=jpf hk6;have hnb:=jik (ts:=T.drop s.i)
 have htk:=fun(w:ByteArray) (hw:Ws6 w) (h:(qH T s).text=w)=>vG hT hi hw h
 have hkk:=fun(f:Nt) (h:(qH T s).kind≠0)=>joY hT hi h0 h f
 have hnk:=fun h=>y6 (ts:=T.drop s.i) h
 have hhs:=vA builtL (qH T s).text (by decide);have hsy:synE (T.drop s.i)=.bad (qH T s).pos 10:=rfl;unfold stF at hfl;rw[xtw3 h0] at hfl;unfold f0 at hP;rw[zC hT hi (w:=pLp) (xT (by decide)),zC hT hi (w:=wDraw) (xT (by decide)),zC hT hi (w:=oK) (xT (by decide)),zC hT hi (w:=cP) (xT (by decide)),hbi,hsy] at hP
 change jC 4 s.i (z8 T)=cT (qH T s) at hr
 obtain⟨t,ht⟩:∃t,qH T s=t:=⟨_,rfl⟩
 have hht:hd (T.drop s.i)=t:=ht;have hta:=nQ hT hi y hy;rw[ht] at hr hP hkk hhs;simp only[ht] at htk;rw[hht] at hP hnb hnk hfl;refine eN jsg jT 1 Tryz.func145 rfl ?_;intro _;conv=>whnf
 (refine cR ?_;try with_reducible exact trivial)
 (generalize hrq:jC _ _ (z8 T)=rq;obtain rfl:rq=cT t:=hrq.symm.trans (hr);clear hrq;conv=>whnf)
 conv=>whnf
 by_cases h1:t.text=pLp
 ·rw[xtw1 (p:=t.text=⟨_⟩) h1];rw[xtw3 (xtw1 h1)] at hP;have hn:=hne s hi y hy;unfold RU at hn;rw[hP] at hn;conv=>whnf
  refine jL 0 [] hn ?_;rintro o r ⟨c,ho,s2,f,hq,rfl,rfl⟩;cases ho;conv=>whnf
  exact⟨_,rfl,s2,f,_,hq,rfl,rfl,jU _⟩
 rw[xtw0 (p:=t.text=⟨_⟩) h1];rw[xtw2 (by rw[xtw0 h1];simp)] at hP;conv=>whnf
 by_cases h2:t.text=wDraw
 ·rw[xtw1 (p:=t.text=⟨_⟩) h2];rw[xtw3 (xtw1 h2)] at hP;have hkd:=htk _ (xT (by decide)) h2;have hn:=hne (xF T s) (nJ hi) y hy;conv=>whnf
  refine jL 0 [] hta ?_;rintro o r ⟨c,ho,rfl,rfl⟩;cases ho;conv=>whnf
  refine jL 0 [] hn ?_;rintro o r ⟨c,ho,s2,f,hq,rfl,rfl⟩;cases ho;conv=>whnf
  refine⟨_,rfl,s2,.mk 16 0 eB [f],_,?_,rfl,rfl,?_⟩
  ·rw[<- hP];exact rM hT hi h0 (by rw[ht];exact hkd) (P:=fun r=>(dN low r).andThen fun n r=>.ok (.mk 16 0 eB [n]) r) (zJ hq (yI hq.1 _))
  ·rw[kO];exact jU _
 rw[xtw0 (p:=t.text=⟨_⟩) h2];rw[xtw2 (by rw[xtw0 h2];simp)] at hP;conv=>whnf
 by_cases h3:t.kind=2
 ·rw[xtw1 h3];rw[xtw3 h3] at hP;conv=>whnf
  refine jL 0 [] hta ?_;rintro o r ⟨c,ho,rfl,rfl⟩;cases ho;subst hP;conv=>whnf
  exact⟨_,rfl,_,(.mk 12 t.n eB []),_,hkk _ (by rw[h3];decide),rfl,rfl,j4 (f:=(.mk 12 t.n eB [])) rfl⟩
 rw[xtw0 h3];rw[xtw2 h3] at hP;conv=>whnf
 by_cases h4:t.text=oK
 ·rw[xtw1 (p:=t.text=⟨_⟩) h4];rw[xtw3 (xtw1 h4)] at hP;conv=>whnf
  refine jL 0 [] hta ?_;rintro o r ⟨c,ho,rfl,rfl⟩;cases ho;subst hP;conv=>whnf
  exact⟨_,rfl,_,(.mk 13 1 eB []),_,hkk _ (htk _ (xT (by decide)) h4),rfl,rfl,j4 (f:=(.mk 13 1 eB [])) rfl⟩
 rw[xtw0 (p:=t.text=⟨_⟩) h4];rw[xtw2 (by rw[xtw0 h4];simp)] at hP;conv=>whnf
 by_cases h5:t.text=cP
 ·rw[xtw1 (p:=t.text=⟨_⟩) h5];rw[xtw3 (xtw1 h5)] at hP;conv=>whnf
  refine jL 0 [] hta ?_;rintro o r ⟨c,ho,rfl,rfl⟩;cases ho;subst hP;conv=>whnf
  exact⟨_,rfl,_,(.mk 13 0 eB []),_,hkk _ (htk _ (xT (by decide)) h5),rfl,rfl,j4 (f:=(.mk 13 0 eB [])) rfl⟩
 rw[xtw0 (p:=t.text=⟨_⟩) h5];rw[xtw2 (by rw[xtw0 h5];simp)] at hP;conv=>whnf
 (refine jY [] cJ ?_;rintro r rfl;conv=>whnf)
 (refine jY [] hhs ?_;rintro r rfl;conv=>whnf)
 cases hb:qC builtL t.text with
 |true =>
  rw[hnb hb,xtw2 (by simp),xtw3 hb] at hP;conv=>whnf
  refine jL 0 [] hta ?_;rintro o r ⟨c,ho,rfl,rfl⟩;cases ho;subst hP;conv=>whnf
  exact⟨_,rfl,_,(.mk 15 0 t.text []),_,hkk _ (by rw[<- hht];rw[jdc hk6 (by rw[hht];exact hb)];decide),rfl,rfl,j4 (f:=(.mk 15 0 t.text [])) rfl⟩
 |false =>
  rw[hb] at hP;conv=>whnf
  refine jL 0 [] hnm ?_;rintro o r ⟨c,ho,rfl,rfl⟩;cases ho;conv=>whnf
  cases hn:yB (T.drop s.i) with
  |true =>
   rw[xtw3 hn] at hP;conv=>whnf
   refine jL 0 [] hta ?_;rintro o r ⟨c,ho,rfl,rfl⟩;cases ho;subst hP;conv=>whnf
   exact⟨_,rfl,_,(.mk 14 0 t.text []),_,hkk _ (by rw[hnk hn];decide),rfl,rfl,j4 (f:=(.mk 14 0 t.text [])) rfl⟩
  |false =>
   rw[xtw2 (by rw[hn];simp),xtw2 (by simp)] at hP;conv=>whnf
   refine jL 0 [] hfl ?_;rintro o r ⟨c,ho,rfl,rfl⟩;cases ho;subst hP;conv=>whnf
   exact⟨_,rfl,_,.mk 0 0 eB [],_,jms (s':=⟨s.i,t.pos,10⟩) hi h0 (show(10:Int)≠0 by decide) rfl rfl _,rfl,rfl,j4 (f:=.mk 0 0 eB []) rfl⟩
end
section
variable{T:List Tk}
theorem mM{lv:Int}{op:List Tk->Pn}(k:Nat)(h3:k≠3)(h7:k≠7)(hb:jlH T lv k op):nS T lv k op:=fun s hi y hy=>by
 by_cases h0:s.e=0
 rotate_left
 ·exact jqh hi h0 _ y hy
 have hnx:=xU hi y hy;have hbn:=hb s hi y hy;have q3:decide ((k:Int)=3)=false:=xtw0 (by omega);have q7:decide ((k:Int)=7)=false:=xtw0 (by omega);refine eN jK jT 1 Tryz.func129 rfl ?_;intro _;conv=>whnf
 rw[xtw1 h0];conv=>whnf
 refine jL 0 [] hnx ?_;rintro o r ⟨c,ho,rfl,rfl⟩;cases ho;conv=>whnf
 rw[q3];conv=>whnf
 rw[q3];conv=>whnf
 rw[q7];conv=>whnf
 rw[q7];conv=>whnf
 refine jL 0 [] hbn ?_;rintro o r ⟨c,ho,s2,f,hq,rfl,rfl⟩;cases ho;conv=>whnf
 exact⟨_,rfl,s2,f,hq,rfl,rfl⟩
theorem jst{lv:Int}{low:Option Pa}(hT:Ks T)(hlo:LowR6 T lv low)(hb:jlH T lv 4 (jhT 4 (jcI low) dD)):nS T lv 3 (ntG low):=fun s hi y hy=>by
 by_cases h0:s.e=0
 rotate_left
 ·exact jqh hi h0 _ y hy
 have hnx:=xU hi y hy;have hbn:=hb s hi y hy
 have hun:=fun h=>jnK hT hlo (sel:=(·.no)) (prec:=3) (fun p hp=>by
  obtain⟨_,⟨h,_⟩|⟨q,hq,_,h,_⟩⟩:=hlo
  ·rw[h] at hp;cases hp
  ·rw[hq] at hp;cases hp;exact h) (w:=bU) (xT (by decide)) s hi h y hy
 obtain⟨P,hP⟩:∃P,ntG low (T.drop s.i)=P:=⟨_,rfl⟩
 unfold RU;rw[hP];unfold ntG at hP;rw[zC hT hi (w:=bU) (xT (by decide))] at hP;unfold RU at hbn hun;refine eN jK jT 1 Tryz.func129 rfl ?_;intro _;conv=>whnf
 rw[xtw1 h0];conv=>whnf
 refine jL 0 [] hnx ?_;rintro o r ⟨c,ho,rfl,rfl⟩;cases ho;conv=>whnf
 by_cases h1:(qH T s).text=bU
 ·rw[xtw1 (p:=(qH T s).text=⟨_⟩) h1];rw[xtw3 (xtw1 h1)] at hP
  have hun:=hun fun _=>h1
  rw[hP] at hun;rw[h1];conv=>whnf
  refine jL 0 [] hun ?_;rintro o r ⟨c,ho,s2,f,hq,rfl,rfl⟩;cases ho;conv=>whnf
  exact⟨_,rfl,s2,f,hq,rfl,rfl⟩
 ·rw[xtw0 (p:=(qH T s).text=⟨_⟩) h1];rw[xtw2 (by rw[xtw0 h1];simp)] at hP;have hP2:jhT 4 (jcI low) dD (T.drop s.i)=P:=hP;rw[hP2] at hbn;conv=>whnf
  refine jL 0 [] hbn ?_;rintro o r ⟨c,ho,s2,f,hq,rfl,rfl⟩;cases ho;conv=>whnf
  exact⟨_,rfl,s2,f,hq,rfl,rfl⟩
theorem jsu{lv:Int}{low:Option Pa}(hT:Ks T)(hlo:LowR6 T lv low):nS T lv 7 (aG low):=fun s hi y hy=>by
 by_cases h0:s.e=0
 rotate_left
 ·exact jqh hi h0 _ y hy
 have hnx:=xU hi y hy;have hpr:=jnF hT hlo s hi h0 y hy
 have hun:=fun h=>jnK hT hlo (sel:=(·.un)) (prec:=7) (fun p hp=>by
  obtain⟨_,⟨h,_⟩|⟨q,hq,_,_,h,_⟩⟩:=hlo
  ·rw[h] at hp;cases hp
  ·rw[hq] at hp;cases hp;exact h) (w:=qB) (xT (by decide)) s hi h y hy
 obtain⟨P,hP⟩:∃P,aG low (T.drop s.i)=P:=⟨_,rfl⟩
 unfold RU;rw[hP];unfold aG at hP;rw[zC hT hi (w:=qB) (xT (by decide))] at hP;unfold RU at hpr hun;refine eN jK jT 1 Tryz.func129 rfl ?_;intro _;conv=>whnf
 rw[xtw1 h0];conv=>whnf
 refine jL 0 [] hnx ?_;rintro o r ⟨c,ho,rfl,rfl⟩;cases ho;conv=>whnf
 by_cases h1:(qH T s).text=qB
 ·rw[xtw1 (p:=(qH T s).text=⟨_⟩) h1];rw[xtw3 (xtw1 h1)] at hP
  have hun:=hun fun _=>h1
  rw[hP] at hun;rw[h1];conv=>whnf
  refine jL 0 [] hun ?_;rintro o r ⟨c,ho,s2,f,hq,rfl,rfl⟩;cases ho;conv=>whnf
  exact⟨_,rfl,s2,f,hq,rfl,rfl⟩
 ·rw[xtw0 (p:=(qH T s).text=⟨_⟩) h1];rw[xtw2 (by rw[xtw0 h1];simp)] at hP;rw[hP] at hpr;conv=>whnf
  refine jL 0 [] hpr ?_;rintro o r ⟨c,ho,s2,f,hq,rfl,rfl⟩;cases ho;conv=>whnf
  exact⟨_,rfl,s2,f,hq,rfl,rfl⟩
theorem jrB:∀w∈dD,Ws6 w:=by
 intro w hw;simp only[dD,xtw13,xtw42,xtw81] at hw
 rcases hw with rfl|rfl|rfl|rfl|rfl|rfl <;> exact xT (by decide)
theorem joE{a b:ByteArray}(ha:Ws6 a)(hb:Ws6 b):∀w∈[a,b],Ws6 w:=by
 intro w hw;simp only[xtw13,xtw42,xtw81] at hw;rcases hw with rfl|rfl
 ·exact ha
 ·exact hb
theorem joD{a:ByteArray}(ha:Ws6 a):∀w∈[a],Ws6 w:=by
 intro w hw;rw[xtw16.1 hw];exact ha
theorem rD{k:Nat}(hk:k≠4)(op:List Tk->Pn)(signs:List ByteArray):jhT k op signs=wG op signs:=by
 funext ts;unfold jhT wG
 congr 1
 funext f r;rw[xtw2 hk]
theorem jsv{lv:Int}{low:Option Pa}(hT:Ks T)(hg:cV low)(hlo:LowR6 T lv low):nS T lv 7 (aG low)/\nS T lv 3 (ntG low)/\nS T lv 1 (ji6 low):=by
 have x7:=jsu hT hlo;have b6:=sH hT 6 (by decide) (signs:=[vC,wK]) (by decide) (by simp[jC,opsA,wO]) (joE (xT (by decide)) (xT (by decide))) x7 (gZ hg);rw[rD (by decide)] at b6;have x6:=mM 6 (by decide) (by decide) b6;have b5:=sH hT 5 (by decide) (signs:=[bF,qB]) (by decide) (by simp[jC,opsA,wO]) (joE (xT (by decide)) (xT (by decide))) x6 (xK (gZ hg) _);rw[rD (by decide)] at b5;have x5:nS T lv 5 (jcI low):=mM 5 (by decide) (by decide) b5;have b4:=sH hT 4 (by decide) (signs:=dD) (by decide) (by simp[jC,opsA,wO,dD]) jrB x5 (iP hg);have x3:=jst hT hlo b4;have b2:=sH hT 2 (by decide) (signs:=[yW]) (by decide) (by simp[jC,opsA,wO]) (joD (xT (by decide))) x3 (gY hg);rw[rD (by decide)] at b2;have x2:=mM 2 (by decide) (by decide) b2;have b1:=sH hT 1 (by decide) (signs:=[sD]) (by decide) (by simp[jC,opsA,wO]) (joD (xT (by decide))) x2 (xK (gY hg) _);rw[rD (by decide)] at b1;exact⟨x7,x3,mM 1 (by decide) (by decide) b1⟩
end
section
variable{T:List Tk}
def tX:List ByteArray:=[wIf,wWhile,wSend,wTimer,wCancel,wSync,wReply,wFail,wStop]
theorem jo8:∀w∈tX,∃c r,w.data.toList=c::r/\isL c=true:=by
 intro w hw;simp only[tX,xtw13,xtw42,xtw81] at hw
 rcases hw with rfl|rfl|rfl|rfl|rfl|rfl|rfl|rfl|rfl <;> exact⟨_,_,rfl,by decide⟩
theorem jed{t:Tk}(h:K6 t){w:ByteArray}(hw:∃c r,w.data.toList=c::r/\isL c=true)(e:t.text=w):t.kind=1:=by
 obtain⟨c,r,h1,h2⟩:=hw;rw[<- e] at h1;rcases h with ⟨hk,_⟩|⟨_,d,r',h3,h4⟩|⟨_,h3⟩|⟨_,d,r',h3,h4⟩
 ·exact hk
 ·rw[h1] at h3;cases h3;unfold kG at h4;rw[h2] at h4;cases h4
 ·rw[h1] at h3;cases h3
 ·rw[h1] at h3;cases h3;rw[jqz h2] at h4;cases h4
theorem jsH(ex bl:List Tk->Pn)(ts:List Tk)(hn:yB ts=false)(hw:qC tX (hd ts).text=false):stG ex bl ts=synE ts:=by
 refine jhn ex bl ts hn fun h=>?_
 have:qC tX (hd ts).text=true:=by
  unfold qC tX;rw[xtw34]
  rcases h with e|e|e|e|e|e|e|e|e <;> exact⟨_,by simp,xtw1 e.symm⟩
 rw[hw] at this;cases this
theorem jnG{lv:Int}{ex:List Tk->Pn}(hT:Ks T)(hx:nS T lv 1 ex)(s:S6)(hi:s.i<T.length)(h0:s.e=0)(hn:yB (T.drop s.i)=true) :
  SpecU 95 (wR T s) [.box 0 0,intA lv] (RU T s fun ts=>xpt pEq ts.tail fun r=>(ex r).andThen fun e r=>xpt pSemi r fun r=>.ok (.mk 1 0 (hd ts).text [e]) r):=fun y hy=>by
 have hnx:=xU hi y hy;have hnm:=jbO hi y hy;have hta:=nQ hT hi y hy;rw[hn] at hnm
 have hk:(qH T s).kind≠0:=by
  have:=y6 hn
  change (qH T s).kind=1 at this
  rw[this];decide
 have hi1:=nJ hi
 have hxe:=fun s2 (h2:s2.i<T.length)=>hx s2 h2 y hy
 obtain⟨t,ht⟩:∃t,(qH T s).text=t:=⟨_,rfl⟩
 rw[ht] at hnx;refine eN jnl (fun _=>[0]) 1 Tryz.func95 rfl ?_;intro _;conv=>whnf
 refine jL 0 [] hnx ?_;rintro o r ⟨c,ho,rfl,rfl⟩;cases ho;conv=>whnf
 refine jL 0 [] hnm ?_;rintro o r ⟨c,ho,rfl,rfl⟩;cases ho;conv=>whnf
 refine jL 0 [] hta ?_;rintro o r ⟨c,ho,rfl,rfl⟩;cases ho;conv=>whnf
 refine jL 0 [] (qO hT hi1 pEq y hy) ?_;rintro o r ⟨c,ho,rfl,rfl⟩;cases ho;conv=>whnf
 have hi2:=vZ hi1 pEq;refine dB 0 [] rfl rfl rfl rfl (fun _=>hxe _ hi2) ?_;rintro o r ⟨c,ho,s3,f,hq,rfl,rfl⟩;cases ho;conv=>whnf
 refine jL 0 [] (qO hT hq.1 pSemi y hy) ?_;rintro o r ⟨c,ho,rfl,rfl⟩;cases ho;conv=>whnf
 have hi4:=vZ hq.1 pSemi;refine⟨_,rfl,bV T s3 pSemi,.mk 1 0 t [f],?_,rfl,by rw[kO];rfl⟩
 exact rM hT hi h0 hk (P:=fun ts=>xpt pEq ts fun r=>(ex r).andThen fun e r=>xpt pSemi r fun r=>.ok (.mk 1 0 t [e]) r) (yJ hT hi1 (xT (by decide)) (zJ hq (yJ hT hq.1 (xT (by decide)) (yI hi4 _)))) |> fun h=>by
  have e:(hd (T.drop s.i)).text=t:=ht;simp only[e];exact h
theorem jnH{lv:Int}(hT:Ks T)(s:S6)(hi:s.i<T.length)(h0:s.e=0)(hn:yB (T.drop s.i)=false)(hw:qC tX (qH T s).text=false) :
  SpecU 95 (wR T s) [.box 0 0,intA lv] (RU T s synE):=jkh fun y hy=>by
 have hnx:=xU hi y hy;have hnm:=jbO hi y hy;have hfl:=nO s.i hi 10 (s:=s) y hy;have hhs:=vA tX (qH T s).text (by decide);rw[hn] at hnm;rw[hw] at hhs;unfold stF at hfl;rw[xtw3 h0] at hfl;refine eN jnl (fun _=>[0]) 1 Tryz.func95 rfl ?_;intro _;conv=>whnf
 refine jL 0 [] hnx ?_;rintro o r ⟨c,ho,rfl,rfl⟩;cases ho;conv=>whnf
 refine jL 0 [] hnm ?_;rintro o r ⟨c,ho,rfl,rfl⟩;cases ho;conv=>whnf
 (refine jY [0] hhs ?_;rintro r rfl;conv=>whnf)
 conv=>whnf
 refine jL 0 [] hfl ?_;rintro o r ⟨c,ho,rfl,rfl⟩;cases ho;conv=>whnf
 exact⟨_,rfl,_,.mk 0 0 eB [],_,jms (s':=⟨s.i,(hd (T.drop s.i)).pos,10⟩) hi h0 (show(10:Int)≠0 by decide) rfl rfl _,rfl,rfl,j4 (f:=.mk 0 0 eB []) rfl⟩
end
section
variable{T:List Tk}
theorem jti(hT:Ks T){s s2:S6}(hi:s.i<T.length)(h0:s.e=0){P:Pn}{f:Nt}(h2:Dq T (xF T s) s2 P f):Dq T s s2 P f :=
 jeC h2 (fun h=>absurd h0 h) fun _=>.inl ⟨by rw[(vF s).1];exact h0,(vF s).2,rfl⟩
theorem jmu(hT:Ks T){s s2:S6}(hi:s.i<T.length){K:Int->List Tk->Pn}{f:Nt}(h2:Dq T (mT T s 29) s2 (K (vaN T s 29) (T.drop (mT T s 29).i)) f):Dq T s s2 (bE 30 (T.drop s.i) K) f:=jmt hT hi (m:=29) h2
theorem jjF(hT:Ks T){s s2:S6}(hi:s.i<T.length){K:Int->List Tk->Pn}{f:Nt}(h2:Dq T (mT T s 7) s2 (K (vaN T s 7) (T.drop (mT T s 7).i)) f):Dq T s s2 (bE 8 (T.drop s.i) K) f:=jmt hT hi (m:=7) h2
theorem jkC(f b:Nt):WkL [intA 2,intA 0,jJ eB,.sl 4 3 (ntA f++(ntA b++jpE (yG [])))] [intA 2,intA 0,jJ eB,.sl 4 3 (ntA f++(ntA b++ntA (yG [])))] :=
 .cons (.refl _) (.cons (.refl _) (.cons (.refl _) (.cons (.sl 4 3 (WkL.app (WkL.refl (ntA f)) (WkL.app (WkL.refl (ntA b)) (j4 (f:=yG []) rfl)))) .nil)))
theorem jnI{lv:Int}{ex bl:List Tk->Pn}(hlv:0<=lv/\lv<=20)(hT:Ks T)(hx:nS T lv 1 ex)(hb:uA T 49 (lv+1) bl)(s:S6)(hi:s.i<T.length)(h0:s.e=0)(hn:yB (T.drop s.i)=false)(hw:qC tX (qH T s).text=true) :
  SpecU 95 (wR T s) [.box 0 0,intA lv] (RU T s fun ts=>stK ex bl (hd ts).text ts.tail):=jkh fun y hy=>by
 have hnx:=xU hi y hy;have hnm:=jbO hi y hy;have hta:=nQ hT hi y hy;rw[hn] at hnm;have hhs:=vA tX (qH T s).text (by decide);rw[hw] at hhs
 have hk:(qH T s).kind≠0:=by
  obtain⟨w,hw1,hw2⟩:=xtw34.1 hw;have hk1:(qH T s).kind=1:=jed (hT.hd hi) (jo8 w hw1) (xtw23 hw2).symm;rw[hk1];decide
 have hi1:=nJ hi
 have hxe:=fun s2 (h2:s2.i<T.length)=>hx s2 h2 y hy
 have hbe:=fun s2 (h2:s2.i<T.length)=>hb s2 h2 y hy
 obtain⟨P,hP⟩:∃P,stK ex bl (qH T s).text (T.drop s.i).tail=P:=⟨_,rfl⟩
 change Spec _ _ _ _ fun o r=>∃c,o=[c++[.v y]]/\∃s' f l,Dq T s s' (stK ex bl (qH T s).text (T.drop s.i).tail) f/\c=wR T s'/\r=.agg l/\WkL l (ntA f)
 rw[hP];unfold stK at hP;rw[<- zF hT hi hk] at hP
 have hup:=fun s2 f (h2:Dq T (xF T s) s2 P f)=>jti hT hi h0 h2
 generalize (qH T s).text=t at *;refine eN jnl (fun _=>[0]) 1 Tryz.func95 rfl ?_;intro _;conv=>whnf
 refine jL 0 [] hnx ?_;rintro o r ⟨c,ho,rfl,rfl⟩;cases ho;conv=>whnf
 refine jL 0 [] hnm ?_;rintro o r ⟨c,ho,rfl,rfl⟩;cases ho;conv=>whnf
 (refine jY [0] hhs ?_;rintro r rfl;conv=>whnf)
 conv=>whnf
 refine jL 0 [] hta ?_;rintro o r ⟨c,ho,rfl,rfl⟩;cases ho;conv=>whnf
 by_cases g0:t=wIf
 ·rw[xtw1 (p:=t=⟨_⟩) g0];conv=>whnf
  rw[xtw3 g0] at hP;refine dB 0 [] rfl rfl rfl rfl (fun _=>hxe _ hi1) ?_;rintro o r ⟨c,ho,s2,f,hq2,rfl,rfl⟩;cases ho;conv=>whnf
  refine⟨jG (by omega),?_⟩;conv=>whnf
  refine dB 0 [] rfl rfl rfl rfl (fun _=>hbe _ hq2.1) ?_;rintro o r ⟨c,ho,s3,b,hq3,rfl,rfl⟩;cases ho;conv=>whnf
  have g1:¬t=wWhile:=fun e=>by rw[g0] at e;exact absurd e (by decide)
  rw[xtw0 (p:=t=⟨_⟩) g1];conv=>whnf
  by_cases e3:s3.e=0
  ·rw[xtw1 e3];conv=>whnf
   refine jL 0 [] (xU hq3.1 y hy) ?_;rintro o r ⟨c,ho,rfl,rfl⟩;cases ho;conv=>whnf
   by_cases we:(qH T s3).text=wElse
   ·rw[xtw1 (p:=(qH T s3).text=⟨_⟩) we];have hk3:=vG hT hq3.1 (xT (by decide)) we;conv=>whnf
    refine jL 0 [] (nQ hT hq3.1 y hy) ?_;rintro o r ⟨c,ho,rfl,rfl⟩;cases ho;conv=>whnf
    refine⟨jG (by omega),?_⟩;conv=>whnf
    refine dB 0 [] rfl rfl rfl rfl (fun _=>hbe _ (nJ hq3.1)) ?_;rintro o r ⟨c,ho,s4,d,hq4,rfl,rfl⟩;cases ho;conv=>whnf
    refine⟨⟨by unfold maxLen;omega,by omega⟩,?_⟩;conv=>whnf
    exact⟨_,rfl,s4,(.mk 2 0 eB [f,b,d]),_,hup _ _ (by rw[<- hP];exact zJ hq2 (zJ hq3 (by rw[zC hT hq3.1 (w:=wElse) (xT (by decide)),xtw3 (xtw1 we)];exact rM hT hq3.1 e3 hk3 (P:=fun r=>(bl r).andThen fun o r=>.ok (.mk 2 0 eB [f,b,o]) r) (zJ hq4 (yI hq4.1 _))))),rfl,rfl,by rw[kT];exact jU _⟩
   ·rw[xtw0 (p:=(qH T s3).text=⟨_⟩) we];conv=>whnf
    refine⟨⟨by unfold maxLen;omega,by omega⟩,?_⟩;conv=>whnf
    exact⟨_,rfl,s3,(.mk 2 0 eB [f,b,yG []]),_,hup _ _ (by rw[<- hP];exact zJ hq2 (zJ hq3 (by rw[zC hT hq3.1 (w:=wElse) (xT (by decide)),xtw2 (by rw[xtw0 we];simp)];exact yI hq3.1 _))),rfl,rfl,by rw[kT];exact jkC f b⟩
  ·rw[xtw0 e3];conv=>whnf
   refine⟨⟨by unfold maxLen;omega,by omega⟩,?_⟩;conv=>whnf
   exact⟨_,rfl,s3,(.mk 2 0 eB [f,b,yG []]),_,hup _ _ (by rw[<- hP];exact zJ hq2 (zJ hq3 (sV hq3.1 e3 rfl rfl _ _))),rfl,rfl,by rw[kT];exact jkC f b⟩
 rw[xtw0 (p:=t=⟨_⟩) g0];conv=>whnf
 rw[xtw2 g0] at hP;by_cases g1:t=wWhile
 ·rw[xtw1 (p:=t=⟨_⟩) g1];conv=>whnf
  rw[xtw3 g1] at hP;refine dB 0 [] rfl rfl rfl rfl (fun _=>hxe _ hi1) ?_;rintro o r ⟨c,ho,s2,f,hq2,rfl,rfl⟩;cases ho;conv=>whnf
  refine⟨jG (by omega),?_⟩;conv=>whnf
  refine dB 0 [] rfl rfl rfl rfl (fun _=>hbe _ hq2.1) ?_;rintro o r ⟨c,ho,s3,b,hq3,rfl,rfl⟩;cases ho;conv=>whnf
  rw[xtw1 (p:=t=⟨_⟩) g1];conv=>whnf
  exact⟨_,rfl,s3,(.mk 3 0 eB [f,b]),_,hup _ _ (by rw[<- hP];exact zJ hq2 (zJ hq3 (yI hq3.1 _))),rfl,rfl,by rw[z6];exact jU _⟩
 rw[xtw0 (p:=t=⟨_⟩) g1];conv=>whnf
 rw[xtw2 g1] at hP;by_cases g2:t=wSend
 ·rw[xtw1 (p:=t=⟨_⟩) g2];conv=>whnf
  rw[xtw3 g2] at hP;simp only[lK] at hP;refine dB 0 [] rfl rfl rfl rfl (fun _=>hxe _ hi1) ?_;rintro o r ⟨c,ho,s2,f,hq2,rfl,rfl⟩;cases ho;conv=>whnf
  refine jL 0 [] (qO hT hq2.1 pComma y hy) ?_;rintro o r ⟨c,ho,rfl,rfl⟩;cases ho;conv=>whnf
  have hi3:=vZ hq2.1 pComma
  obtain⟨s3,hs3⟩:∃s3,bV T s2 pComma=s3:=⟨_,rfl⟩
  rw[hs3] at hi3;rw[hs3];refine jL 0 [] (jh2 hT hi3 29 y hy) ?_;rintro o r ⟨c,ho,rfl,rfl⟩;cases ho;conv=>whnf
  refine jL 0 [] (qO hT (oH hi3 29) pComma y hy) ?_;rintro o r ⟨c,ho,rfl,rfl⟩;cases ho;conv=>whnf
  have hi4:=vZ (oH hi3 29) pComma;refine dB 0 [] rfl rfl rfl rfl (fun _=>hxe _ hi4) ?_;rintro o r ⟨c,ho,s5,d,hq5,rfl,rfl⟩;cases ho;conv=>whnf
  refine jL 0 [] (qO hT hq5.1 pComma y hy) ?_;rintro o r ⟨c,ho,rfl,rfl⟩;cases ho;conv=>whnf
  refine dB 0 [] rfl rfl rfl rfl (fun _=>hxe _ (vZ hq5.1 pComma)) ?_;rintro o r ⟨c,ho,s6,g,hq6,rfl,rfl⟩;cases ho;conv=>whnf
  refine jL 0 [] (qO hT hq6.1 pSemi y hy) ?_;rintro o r ⟨c,ho,rfl,rfl⟩;cases ho;conv=>whnf
  have hf:=vZ hq6.1 pSemi
  have hup':=fun f2 (h2:Dq T (bV T s2 pComma) (bV T s6 pSemi) (bE 30 (T.drop (bV T s2 pComma).i) fun n r=>xpt pComma r fun r=>(ex r).andThen fun a r=>xpt pComma r fun r=>(ex r).andThen fun a2 r=>xpt pSemi r fun r=>.ok (.mk 4 n eB ([f]++[a]++[a2])) r) f2)=>hup _ f2 (by rw[<- hP];exact zJ hq2 (yJ hT hq2.1 (xT (by decide)) h2))
  rw[hs3] at hup';refine⟨_,rfl,_,.mk 4 (vaN T s3 29) eB [f,d,g],_,hup' _ (jmu hT hi3 (yJ hT (oH hi3 29) (xT (by decide)) (zJ hq5 (yJ hT hq5.1 (xT (by decide)) (zJ hq6 (yJ hT hq6.1 (xT (by decide)) (yI hf _))))))),rfl,rfl,?_⟩;rw[kT];exact jU _
 rw[xtw0 (p:=t=⟨_⟩) g2];conv=>whnf
 rw[xtw2 g2] at hP;by_cases g3:t=wTimer
 ·rw[xtw1 (p:=t=⟨_⟩) g3];conv=>whnf
  rw[xtw3 g3] at hP;refine jL 0 [] (jh2 hT hi1 7 y hy) ?_;rintro o r ⟨c,ho,rfl,rfl⟩;cases ho;conv=>whnf
  refine jL 0 [] (qO hT (oH hi1 7) pSemi y hy) ?_;rintro o r ⟨c,ho,rfl,rfl⟩;cases ho;conv=>whnf
  exact⟨_,rfl,bV T (mT T (xF T s) 7) pSemi,(.mk 5 (vaN T (xF T s) 7) eB []),_,hup _ _ (by rw[<- hP];exact jjF hT hi1 (yJ hT (oH hi1 7) (xT (by decide)) (yI (vZ (oH hi1 7) _) _))),rfl,rfl,j4 (f:=.mk 5 (vaN T (xF T s) 7) eB []) rfl⟩
 rw[xtw0 (p:=t=⟨_⟩) g3];conv=>whnf
 rw[xtw2 g3] at hP;by_cases g4:t=wCancel
 ·rw[xtw1 (p:=t=⟨_⟩) g4];conv=>whnf
  rw[xtw3 g4] at hP;refine jL 0 [] (jh2 hT hi1 7 y hy) ?_;rintro o r ⟨c,ho,rfl,rfl⟩;cases ho;conv=>whnf
  refine jL 0 [] (qO hT (oH hi1 7) pSemi y hy) ?_;rintro o r ⟨c,ho,rfl,rfl⟩;cases ho;conv=>whnf
  exact⟨_,rfl,bV T (mT T (xF T s) 7) pSemi,(.mk 6 (vaN T (xF T s) 7) eB []),_,hup _ _ (by rw[<- hP];exact jjF hT hi1 (yJ hT (oH hi1 7) (xT (by decide)) (yI (vZ (oH hi1 7) _) _))),rfl,rfl,j4 (f:=.mk 6 (vaN T (xF T s) 7) eB []) rfl⟩
 rw[xtw0 (p:=t=⟨_⟩) g4];conv=>whnf
 rw[xtw2 g4] at hP;by_cases g7:t=wReply
 ·rw[xtw1 (p:=t=⟨_⟩) g7];conv=>whnf
  have n5:¬t=wSync:=fun e=>by rw[g7] at e;exact absurd e (by decide)
  have n6:¬t=wStop:=fun e=>by rw[g7] at e;exact absurd e (by decide)
  rw[xtw2 n5] at hP;rw[xtw2 n6] at hP;rw[xtw3 g7] at hP;refine dB 0 [] rfl rfl rfl rfl (fun _=>hxe _ hi1) ?_;rintro o r ⟨c,ho,s2,f,hq2,rfl,rfl⟩;cases ho;conv=>whnf
  refine jL 0 [] (qO hT hq2.1 pComma y hy) ?_;rintro o r ⟨c,ho,rfl,rfl⟩;cases ho;conv=>whnf
  have hi3:=vZ hq2.1 pComma;refine dB 0 [] rfl rfl rfl rfl (fun _=>hxe _ hi3) ?_;rintro o r ⟨c,ho,s4,d,hq4,rfl,rfl⟩;cases ho;conv=>whnf
  refine jL 0 [] (qO hT hq4.1 pSemi y hy) ?_;rintro o r ⟨c,ho,rfl,rfl⟩;cases ho;conv=>whnf
  exact⟨_,rfl,bV T s4 pSemi,(.mk 8 0 eB [f,d]),_,hup _ _ (by rw[<- hP];exact zJ hq2 (yJ hT hq2.1 (xT (by decide)) (zJ hq4 (yJ hT hq4.1 (xT (by decide)) (yI (vZ hq4.1 _) _))))),rfl,rfl,by rw[z6];exact jU _⟩
 rw[xtw0 (p:=t=⟨_⟩) g7];conv=>whnf
 by_cases g8:t=wFail
 ·rw[xtw1 (p:=t=⟨_⟩) g8];conv=>whnf
  have n5:¬t=wSync:=fun e=>by rw[g8] at e;exact absurd e (by decide)
  have n6:¬t=wStop:=fun e=>by rw[g8] at e;exact absurd e (by decide)
  rw[xtw2 n5] at hP;rw[xtw2 n6] at hP;rw[xtw2 g7] at hP;refine dB 0 [] rfl rfl rfl rfl (fun _=>hxe _ hi1) ?_;rintro o r ⟨c,ho,s2,f,hq2,rfl,rfl⟩;cases ho;conv=>whnf
  refine jL 0 [] (qO hT hq2.1 pSemi y hy) ?_;rintro o r ⟨c,ho,rfl,rfl⟩;cases ho;conv=>whnf
  exact⟨_,rfl,bV T s2 pSemi,(.mk 9 0 eB [f]),_,hup _ _ (by rw[<- hP];exact zJ hq2 (yJ hT hq2.1 (xT (by decide)) (yI (vZ hq2.1 _) _))),rfl,rfl,by rw[kO];exact jU _⟩
 rw[xtw0 (p:=t=⟨_⟩) g8];conv=>whnf
 by_cases g5:t=wSync
 ·rw[xtw1 (p:=t=⟨_⟩) g5];conv=>whnf
  rw[xtw3 g5] at hP;refine jL 0 [] (qO hT hi1 pSemi y hy) ?_;rintro o r ⟨c,ho,rfl,rfl⟩;cases ho;conv=>whnf
  exact⟨_,rfl,bV T (xF T s) pSemi,(.mk 7 0 eB []),_,hup _ _ (by rw[<- hP];exact yJ hT hi1 (xT (by decide)) (yI (vZ hi1 _) _)),rfl,rfl,j4 (f:=.mk 7 0 eB []) rfl⟩
 rw[xtw0 (p:=t=⟨_⟩) g5];conv=>whnf
 rw[xtw2 g5] at hP
 have g6:t=wStop:=by
  obtain⟨w,hw1,hw2⟩:=xtw34.1 hw;have hw2:=(xtw23 hw2).symm;simp only[tX,xtw13,xtw42,xtw81] at hw1
  rcases hw1 with e|e|e|e|e|e|e|e|e <;> rw[e] at hw2 <;> first|exact hw2|contradiction
 rw[xtw3 g6] at hP;refine jL 0 [] (qO hT hi1 pSemi y hy) ?_;rintro o r ⟨c,ho,rfl,rfl⟩;cases ho;conv=>whnf
 exact⟨_,rfl,bV T (xF T s) pSemi,(.mk 10 0 eB []),_,hup _ _ (by rw[<- hP];exact yJ hT hi1 (xT (by decide)) (yI (vZ hi1 _) _)),rfl,rfl,j4 (f:=.mk 10 0 eB []) rfl⟩
end
section
variable{T:List Tk}
theorem jpU{t:ByteArray}(h:qC tX t=true):t=wIf∨t=wWhile∨t=wSend∨t=wTimer∨t=wCancel∨t=wSync∨t=wStop∨t=wReply∨t=wFail:=by
 obtain⟨w,hw1,hw2⟩:=xtw34.1 h;have hw2:=(xtw23 hw2).symm;simp only[tX,xtw13,xtw42,xtw81] at hw1
 rcases hw1 with e|e|e|e|e|e|e|e|e <;> rw[e] at hw2 <;> simp only[hw2,true_or,or_true]
theorem jiT{lv:Int}{ex bl:List Tk->Pn}(hlv:0<=lv/\lv<=20)(hT:Ks T)(hx:nS T lv 1 ex)(hb:uA T 49 (lv+1) bl)(s:S6)(hi:s.i<T.length)(h0:s.e=0) :
  SpecU 95 (wR T s) [.box 0 0,intA lv] (RU T s (stG ex bl)):=by
 cases hn:yB (T.drop s.i) with
 |true =>
  have e:stG ex bl (T.drop s.i)=(fun ts=>xpt pEq ts.tail fun r=>(ex r).andThen fun e r=>xpt pSemi r fun r=>.ok (.mk 1 0 (hd ts).text [e]) r) (T.drop s.i):=by
   unfold stG;rw[xtw3 hn]
  have:=jnG hT hx s hi h0 hn;unfold RU at this ⊢;rw[e];exact this
 |false =>
  cases hw:qC tX (qH T s).text with
  |true =>
   have hk:(qH T s).kind=1:=by
    obtain⟨w,hw1,hw2⟩:=xtw34.1 hw;exact jed (hT.hd hi) (jo8 w hw1) (xtw23 hw2).symm
   have e:=jho ex bl (T.drop s.i) hn (jpU hw);rw[xtw2 (show ¬(hd (T.drop s.i)).kind≠1 from fun h=>h hk)] at e;have:=jnI hlv hT hx hb s hi h0 hn hw;unfold RU at this ⊢;rw[<- e];exact this
  |false =>
   have e:=jsH ex bl (T.drop s.i) hn hw;have:=jnH (lv:=lv) hT s hi h0 hn hw;unfold RU at this ⊢;rw[e];exact this
theorem jlg{lv:Int}(hlv:0<=lv/\lv<=20)(hT:Ks T){st:List Tk->Pn}(hst:∀s:S6,s.i<T.length->s.e=0->SpecU 95 (wR T s) [.box 0 0,intA lv] (RU T s st))(gst:GoesS st):uA T 49 lv (bkF st):=fun s0 hi0 y hy=>by
 obtain⟨P,hP⟩:∃P,bkF st (T.drop s0.i)=P:=⟨_,rfl⟩
 unfold RU;rw[hP];have hop:=jf8 hT hi0 pLb lv y hy
 have hst:=fun s h1 h2=>hst s h1 h2 y hy
 have hn0:=hT.n;rw[jj5 hlv.2] at hop;unfold bkF at hP;have hi1:=vZ hi0 pLb
 have hup:=fun s2 f (h:Dq T (bV T s0 pLb) s2 (mY st (T.drop (bV T s0 pLb).i).length [] (T.drop (bV T s0 pLb).i)) f)=>yJ (w:=pLb) (K:=fun r=>mY st r.length [] r) hT hi0 (xT (by decide)) h
 rw[hP] at hup;clear hP;generalize bV T s0 pLb=s1 at *;refine eN jqJ (fun _=>[0]) 1 Tryz.func49 rfl ?_;intro _;conv=>whnf
 refine jL 0 [] hop ?_;rintro o r ⟨c,ho,rfl,rfl⟩;cases ho;conv=>whnf
 refine qU 65 4 [] [(2,3)] ?_;conv=>whnf
 refine⟨trivial,?_⟩;conv=>whnf
 refine jA [0,1,4,5] ?_;conv=>whnf
 refine jE (fun _:Nat×List Nt×S6=>[]) (fun x=>[wR T x.2.2++[.v y],jcn,[intA 11,intA 0,jJ ⟨#[]⟩,.own 0]]) (fun x=>[.live 65 4 x.2.1.length (jQ x.2.1)]) (fun x=>x.2.2.i<T.length/\(x.2.2.e=0->(T.drop x.2.2.i).length<=x.1/\x.2.1.length+(T.drop x.2.2.i).length<=1000001)/\∀s' f',Dq T x.2.2 s' (mY st x.1 x.2.1 (T.drop x.2.2.i)) f'->Dq T s0 s' P f') (fun x=>if x.2.2.e=0 then T.length-x.2.2.i+1 else 0) ((T.drop s1.i).length,[],s1) ?_ ⟨hi1,fun _=>⟨xtw11 _,by simp only[xtw8,xtw28];omega⟩,hup⟩ ?_
 ·repeat' constructor
  show Row.live _ _ _ _=Row.live _ 4 0 (jQ []);rw[kN]
 rintro⟨n,acc,s⟩ ⟨hi,hn,hinv⟩
 simp only at hi hn hinv
 have hnx:=xU hi y hy;have htk:=nQ hT hi y hy;have hxp:=qO hT hi pRb y hy;conv=>whnf
 by_cases h0:s.e=0
 ·rw[xtw1 h0];conv=>whnf
  refine jL 0 [] hnx ?_;rintro o r ⟨c,ho,rfl,rfl⟩;cases ho;conv=>whnf
  obtain⟨hn1,hn2⟩:=hn h0;have hln:(T.drop s.i).length=T.length-s.i:=xtw28
  obtain⟨m,rfl⟩:∃m,n=m+1:=⟨n-1,by omega⟩
  rw[mY] at hinv;have hip:=zC hT hi (w:=pRb) (xT (by decide));by_cases h1:(qH T s).text=pRb
  ·rw[xtw1 (p:=(qH T s).text=⟨_⟩) h1];rw[xtw3 (by rw[hip];exact xtw1 h1)] at hinv;conv=>whnf
   refine jL 0 [] hxp ?_;rintro o r ⟨c,ho,rfl,rfl⟩;cases ho;conv=>whnf
   have hd:Dq T s (bV T s pRb) (xpt pRb (T.drop s.i) fun r=>.ok (yG acc) r) (yG acc):=yJ hT hi (xT (by decide)) (yI (vZ hi _) _);unfold xpt at hd;rw[xtw3 (by rw[hip];exact xtw1 h1)] at hd;exact⟨_,rfl,_,yG acc,hinv _ _ hd,rfl,rfl⟩
  ·rw[xtw0 (p:=(qH T s).text=⟨_⟩) h1];rw[xtw2 (by rw[hip,xtw0 h1];simp)] at hinv;have hs:=hst s hi h0;conv=>whnf
   refine jL 0 [] hs ?_;rintro o r ⟨c,ho,s2,f2,hq2,rfl,rfl⟩;cases ho
   have hlt:s2.e=0->(T.drop s2.i).length+1<=(T.drop s.i).length:=fun e2=>by
    have h5:=hq2.2.2 h0
    cases hop:st (T.drop s.i) with
    |ok g r =>
     rw[hop] at h5;have h6:=(gst _ _ _ (hT.p hi) hop).2;rw[h5.2.2.2];omega
    |bad x e =>
     rw[hop] at h5;exact absurd (h5.2.1.symm.trans e2) h5.1
   conv=>whnf
   refine⟨⟨by simp only;unfold maxLen;omega,by simp only;omega⟩,?_⟩;conv=>whnf
   refine⟨(m,acc++[f2],s2),jD [0] ?_,⟨hq2.1,fun e2=>?_,fun s' f' h=>hinv s' f' (zJ hq2 h)⟩,?_⟩
   ·conv=>whnf
    repeat' constructor
    simp only[xtw4,xtw6,xtw8];rw[mG];rfl
   ·have:=hlt e2;simp only[xtw4,xtw6,xtw8];omega
   ·simp only
    rw[xtw3 h0];by_cases e2:s2.e=0
    ·have h6:=hlt e2;rw[xtw28,xtw28] at h6;rw[xtw3 e2];omega
    ·rw[xtw2 e2];omega
 ·rw[xtw0 h0];conv=>whnf
  refine jL 0 [] hxp ?_;rintro o r ⟨c,ho,rfl,rfl⟩;cases ho;conv=>whnf
  rw[mU h0];exact⟨_,rfl,s,yG acc,hinv _ _ (sV hi h0 rfl rfl _ _),rfl,rfl⟩
theorem jgS(hT:Ks T):uA T 49 21 bkN:=fun s0 hi0 y hy=>by
 have hop:=jf8 hT hi0 pLb 21 y hy;have he:=jbZ (T:=T) s0 pLb;have hi1:=jhp hi0 pLb 21
 have hup:=fun f=>jeA (w:=pLb) hT hi0 (xT (by decide)) (s2:=sL T s0 pLb 21) (s3:=sL T s0 pLb 21) (sV hi1 he rfl rfl (.bad 0 1) (yG [])) ⟨hi1,fun _=>⟨rfl,rfl⟩⟩ f
 change ∀f,Dq T s0 (sL T s0 pLb 21) (bkN (T.drop s0.i)) f at hup
 generalize sL T s0 pLb 21=s at *;have hxp:=qO hT hi1 pRb y hy;refine eN jqJ (fun _=>[0]) 1 Tryz.func49 rfl ?_;intro _;conv=>whnf
 refine jL 0 [] hop ?_;rintro o r ⟨c,ho,rfl,rfl⟩;cases ho;conv=>whnf
 refine qU 65 4 [] [(2,3)] ?_;conv=>whnf
 refine⟨trivial,?_⟩;conv=>whnf
 refine jA [0,1,4,5] ?_;conv=>whnf
 refine jE (fun _:Unit=>[]) (fun _=>[wR T s++[.v y],jcn,[intA 11,intA 0,jJ ⟨#[]⟩,.own 0]]) (fun _=>[.live 65 4 0 (jQ [])]) (fun _=>True) (fun _=>0) () ?_ trivial ?_
 ·repeat' constructor
  show Row.live _ _ _ _=Row.live _ 4 0 (jQ []);rw[kN]
 rintro _ _;conv=>whnf
 rw[xtw0 he];conv=>whnf
 refine jL 0 [] hxp ?_;rintro o r ⟨c,ho,rfl,rfl⟩;cases ho;conv=>whnf
 rw[mU he];exact⟨_,rfl,s,yG [],hup _,rfl,rfl⟩
theorem jqM{lv:Int}{low:Option Pa}(hT:Ks T)(h:LowR6 T lv low):uA T 49 (lv+1) (jmY low):=by
 obtain⟨h0,⟨rfl,rfl⟩|⟨p,rfl,h1,a,b,c,d⟩⟩:=h
 ·exact jgS hT
 ·exact d
theorem jdO{lv:Int}{low:Option Pa}(hT:Ks T)(h0:0<=lv)(h1:lv+1<=20)(hg:cV low)(h:LowR6 T (lv+1) low):LowR6 T lv (some (paG low)):=by
 obtain⟨x7,x3,x1⟩:=jsv hT hg h
 have hst:=fun s=>jiT (lv:=lv+1) ⟨by omega,h1⟩ hT x1 (jqM hT h) s
 exact⟨h0,.inr ⟨_,rfl,h1,x3,x7,x1,jlg ⟨by omega,h1⟩ hT hst (rQ (gX hg) (gG hg))⟩⟩
theorem jkg(hT:Ks T):∀d:Nat,d<=19->LowR6 T (19-d) (some (pa d))
 |0,_=>jdO hT (by decide) (by decide) (fun p h=>by cases h) ⟨by decide,.inl ⟨rfl,rfl⟩⟩
 |d+1,h=>by
  have ih:=jkg hT d (by omega);refine jdO hT (by omega) (by omega) (jeZ [] d (by omega)).goes ?_;rw[show(19-((d+1:Nat):Int)+1)=19-(d:Int) by push_cast;omega];exact ih
theorem jkb(hT:Ks T):uA T 49 1 (pa 19).bl:=jqM hT (jkg hT 19 (by decide))
end
section
variable{T:List Tk}
def ju0(id:Nat):Tr:=match Nat.beq id 6 with
 |true=>.q 0 3 (.q 1 3 (.q 2 3 (.q 4 3 (.alt 3 2 (.alt 5 2 (.alt 6 2 .nil .nil) .nil) (.alt 5 2 (.alt 3 2 (.alt 6 2 .nil .nil) .nil) .nil)))))
 |false=>match Nat.beq id 12 with
  |true=>.q 0 3 (.q 1 3 (.q 2 3 (.q 3 3 (.q 5 3 (.alt 4 2 (.alt 6 2 (.alt 7 2 (.alt 8 2 (.q 9 3 (.q 10 3 (.alt 11 2 .nil .nil))) .nil) .nil) .nil) (.alt 6 2 (.alt 4 2 (.alt 7 2 (.alt 8 2 (.q 9 3 (.q 10 3 (.alt 11 2 .nil .nil))) .nil) .nil) (.alt 7 2 (.alt 4 2 (.alt 8 2 (.q 9 3 (.q 10 3 (.alt 11 2 .nil .nil))) .nil) .nil) .nil)) .nil))))))
  |false=>.nil
def deB(n:Nat)(nm out:List ByteArray)(us:List Tk):Pd :=
 if yB us=false then .bad (hd us).pos 10
 else if qC nm (hd us).text=true then .bad (hd us).pos 4
 else if nm.length=16 then .bad (hd us).pos 2
 else deH n (nm++[(hd us).text]) (out++[(hd us).text]) us.tail
theorem jmn(n:Nat)(nm out:List ByteArray)(ts:List Tk):aU (n+1) nm out ts=deB n nm out ts.tail:=rfl
def Dd(T:List Tk)(s':S6)(P:Pd)(nm out:List ByteArray):Prop:=s'.i<T.length/\match P with
 |.ok n o r=>s'.e=0/\nm=n/\out=o/\T.drop s'.i=r
 |.bad x e=>e≠0/\s'.e=e/\s'.a=x
theorem ju7(hT:Ks T)(nm0:List ByteArray)(s0:S6)(hi0:s0.i<T.length)(h0:s0.e=0)(hk0:(qH T s0).kind≠0)(hl16:nm0.length<=16) :
  iD Tryz.prog 46 [wR T s0++[.own 0]] 9 1 nm0.length (xA nm0) [.box 0 0]
   (fun o n cs r=>∃s' nm out,o=[wR T s'++[.own 0]]/\n=nm.length/\cs=xA nm/\r=.sl 1 out.length (xA out)/\nm.length<=16/\nm0.length+out.length<=nm.length/\Dd T s' (aU (T.drop s0.i).length nm0 [] (T.drop s0.i)) nm out) (fun _=>False):=by
 obtain⟨P,hP⟩:∃P,aU (T.drop s0.i).length nm0 [] (T.drop s0.i)=P:=⟨_,rfl⟩
 rw[hP];have hn0:=hT.n;have hln0:(T.drop s0.i).length=T.length-s0.i:=xtw28;have htk0:=nQ hT hi0;have hi1:=nJ hi0;have hdn:=zF hT hi0 hk0;have hse:=(vF (T:=T) s0).1;have hst:=bM hT hi0 hk0
 obtain⟨n0,hn0'⟩:∃n0,(T.drop s0.i).length=n0+1:=⟨(T.drop s0.i).length-1,by omega⟩
 rw[hn0',jmn,<- hdn] at hP
 have hl1:(T.drop (xF T s0).i).length<=n0:=by rw[hst,xtw28];simp only;omega
 rw[h0] at hse;generalize xF T s0=s1 at *;refine sJ (wH ju0 (fun _=>[0]) 1 (fun ch _=>False)) (fun _ _ h=>h) Tryz.func46 rfl (by kernel_rfl) rfl (by kernel_rfl) ?_;intro _;conv=>whnf
 refine zA 0 0 (cA:=wR T (s0)) rfl rfl (xtw37 _) rfl rfl (htk0).v (fun _ _ h=>h.elim) ?_;rintro c r ⟨rfl,rfl⟩;conv=>whnf
 refine qU 9 1 [3] [] ?_;conv=>whnf
 refine⟨trivial,?_⟩;conv=>whnf
 refine jA [0,3] ?_;conv=>whnf
 refine jE (fun x:Nat×List ByteArray×List ByteArray×S6=>[]) (fun x=>[wR T x.2.2.2++[.own 0]]) (fun x=>[.live 9 1 x.2.1.length (xA x.2.1),.live 9 1 x.2.2.1.length (xA x.2.2.1)])
  (fun x=>x.2.2.2.i<T.length/\x.2.2.2.e=0/\(T.drop x.2.2.2.i).length<=x.1/\x.2.1.length<=16/\nm0.length+x.2.2.1.length<=x.2.1.length/\deB x.1 x.2.1 x.2.2.1 (T.drop x.2.2.2.i)=P) (fun x=>T.length-x.2.2.2.i) (n0,nm0,[],s1) ?_ ⟨hi1,hse,hl1,hl16,xtw11 _,hP⟩ ?_
 ·repeat' constructor
 clear hP hse hl1 hi1 hn0' hdn;rintro⟨n,nm,out,s⟩ ⟨hi,he,g3,g4,g5,hP⟩
 simp only at hi he g3 g4 g5 hP
 have hnx:=xU hi;have hnm:=jbO hi;have htk:=nQ hT hi
 have hfl:∀x:Int,SpecU 91 (wR T s) [.box 0 0,intA x,.v (.int .i64 s.i)] fun c r=>c=wR T ⟨s.i,(qH T s).pos,x⟩/\r=.tup []:=fun x=>by
  have:=nO s.i hi x (s:=s);unfold stF at this;rw[xtw3 he] at this;exact this
 have hxe:∀x:Int,x≠0->SpecU 47 (wR T ⟨s.i,(qH T s).pos,x⟩) [.box 0 0,jJ pSemi] fun c r=>c=wR T ⟨s.i,(qH T s).pos,x⟩/\r=.tup []:=fun x h=>by
  have:=qO hT (s:=⟨s.i,(qH T s).pos,x⟩) hi pSemi;rw[mU h] at this;exact this
 conv=>whnf
 rw[xtw1 he];conv=>whnf
 refine zA 0 0 (cA:=wR T (s)) rfl rfl (xtw37 _) rfl rfl (hnm).v (fun _ _ h=>h.elim) ?_;rintro c r ⟨rfl,rfl⟩;conv=>whnf
 cases hn:yB (T.drop s.i) with
 |false =>
  unfold deB at hP;rw[xtw3 hn] at hP;conv=>whnf
  refine zA 0 0 (cA:=wR T (s)) rfl rfl (xtw37 _) rfl rfl (hfl 10).v (fun _ _ h=>h.elim) ?_;rintro c r ⟨rfl,rfl⟩;conv=>whnf
  refine zA 0 0 (cA:=wR T (⟨s.i,(qH T s).pos,10⟩)) rfl rfl (xtw37 _) rfl rfl (hxe 10 (by decide)).v (fun _ _ h=>h.elim) ?_;rintro c r ⟨rfl,rfl⟩;conv=>whnf
  subst hP;refine⟨0,?_⟩;conv=>whnf
  exact⟨⟨s.i,(qH T s).pos,10⟩,nm,out,rfl,rfl,rfl,rfl,g4,g5,hi,show(10:Int)≠0 by decide,rfl,rfl⟩
 |true =>
  have hk:(qH T s).kind≠0:=by
   have:=y6 hn
   change (qH T s).kind=1 at this
   rw[this];decide
  have hdn:=zF hT hi hk;have hi1:=nJ hi;have he1:=(vF (T:=T) s).1;have hst:=bM hT hi hk;rw[he] at he1;unfold deB at hP;rw[xtw2 (by rw[hn];simp)] at hP;conv=>whnf
  have hct:=vA nm (qH T s).text (by omega);apply mA
  ·conv=>whnf
   refine⟨?_,?_⟩
   ·conv=>whnf
    refine zA 0 0 (cA:=wR T (s)) rfl rfl (xtw37 _) rfl rfl (hnx).v (fun _ _ h=>h.elim) ?_;rintro c r ⟨rfl,rfl⟩;conv=>whnf
    refine jjx [0] rfl (fun _=>hct) ?_;rintro r rfl;refine⟨_,rfl,?_⟩;conv=>whnf
   ·conv=>whnf
    refine zA 0 0 (cA:=wR T (s)) rfl rfl (xtw37 _) rfl rfl (hnx).v (fun _ _ h=>h.elim) ?_;rintro c r ⟨rfl,rfl⟩;conv=>whnf
    refine jjx [0] rfl (fun _=>hct) ?_;rintro r rfl;refine⟨_,rfl,?_⟩;conv=>whnf
  conv=>whnf
  cases hh:qC nm (qH T s).text with
  |true =>
   change qC nm (hd (T.drop s.i)).text=true at hh
   rw[xtw3 hh] at hP;conv=>whnf
   refine zA 0 0 (cA:=wR T (s)) rfl rfl (xtw37 _) rfl rfl (hfl 4).v (fun _ _ h=>h.elim) ?_;rintro c r ⟨rfl,rfl⟩;conv=>whnf
   refine zA 0 0 (cA:=wR T (⟨s.i,(qH T s).pos,4⟩)) rfl rfl (xtw37 _) rfl rfl (hxe 4 (by decide)).v (fun _ _ h=>h.elim) ?_;rintro c r ⟨rfl,rfl⟩;conv=>whnf
   subst hP;refine⟨0,?_⟩;conv=>whnf
   exact⟨⟨s.i,(qH T s).pos,4⟩,nm,out,rfl,rfl,rfl,rfl,g4,g5,hi,show(4:Int)≠0 by decide,rfl,rfl⟩
  |false =>
   change qC nm (hd (T.drop s.i)).text=false at hh
   rw[xtw2 (by rw[hh];simp)] at hP;conv=>whnf
   by_cases h16:nm.length=16
   ·rw[xtw3 h16] at hP;rw[xtw1 (show 16<=(nm.length:Int) by omega)];conv=>whnf
    refine zA 0 0 (cA:=wR T (s)) rfl rfl (xtw37 _) rfl rfl (hfl 2).v (fun _ _ h=>h.elim) ?_;rintro c r ⟨rfl,rfl⟩;conv=>whnf
    refine zA 0 0 (cA:=wR T (⟨s.i,(qH T s).pos,2⟩)) rfl rfl (xtw37 _) rfl rfl (hxe 2 (by decide)).v (fun _ _ h=>h.elim) ?_;rintro c r ⟨rfl,rfl⟩;conv=>whnf
    subst hP;refine⟨0,?_⟩;conv=>whnf
    exact⟨⟨s.i,(qH T s).pos,2⟩,nm,out,rfl,rfl,rfl,rfl,g4,g5,hi,show(2:Int)≠0 by decide,rfl,rfl⟩
   ·rw[xtw2 h16] at hP;rw[xtw0 (show ¬16<=(nm.length:Int) by omega)];conv=>whnf
    rw[xtw1 he];conv=>whnf
    refine zA 0 0 (cA:=wR T (s)) rfl rfl (xtw37 _) rfl rfl (hnx).v (fun _ _ h=>h.elim) ?_;rintro c r ⟨rfl,rfl⟩;conv=>whnf
    refine⟨⟨by simp only;unfold maxLen;omega,by simp only;omega⟩,?_⟩;conv=>whnf
    apply mA
    ·conv=>whnf
     refine⟨?_,?_⟩
     ·conv=>whnf
      refine zA 0 0 (cA:=wR T (s)) rfl rfl (xtw37 _) rfl rfl (hnx).v (fun _ _ h=>h.elim) ?_;rintro c r ⟨rfl,rfl⟩;conv=>whnf
      refine⟨⟨by simp only;unfold maxLen;omega,by simp only;omega⟩,?_⟩;conv=>whnf
      try rfl
     ·conv=>whnf
      refine zA 0 0 (cA:=wR T (s)) rfl rfl (xtw37 _) rfl rfl (hnx).v (fun _ _ h=>h.elim) ?_;rintro c r ⟨rfl,rfl⟩;conv=>whnf
      refine⟨?_,?_⟩
      ·conv=>whnf
       refine⟨⟨by simp only;unfold maxLen;omega,by simp only;omega⟩,?_⟩;conv=>whnf
       try rfl
      ·conv=>whnf
       refine⟨⟨by simp only;unfold maxLen;omega,by simp only;omega⟩,?_⟩;conv=>whnf
       try rfl
    conv=>whnf
    refine zA 0 0 (cA:=wR T (s)) rfl rfl (xtw37 _) rfl rfl (htk).v (fun _ _ h=>h.elim) ?_;rintro c r ⟨rfl,rfl⟩;conv=>whnf
    rw[<- hdn] at hP
    have hln1:(T.drop (xF T s).i).length+1=(T.drop s.i).length:=by
     have:s.i+1<T.length:=by
      rw[hst] at hi1;exact hi1
     rw[hst,xtw28,xtw28]
     simp only
     omega
    have hl2:nm.length+1<=16:=by omega
    have htt:(hd (T.drop s.i)).text=(qH T s).text:=rfl;rw[htt] at hP;clear hfl hxe hct hnx hnm htk;generalize htx:(qH T s).text=tx at *;generalize hs1:xF T s=s2 at *;have hnx:=xU hi1;have htk:=nQ hT hi1;have hxp:=qO hT hi1 pSemi;refine zA 0 0 (cA:=wR T (s2)) rfl rfl (xtw37 _) rfl rfl (hnx).v (fun _ _ h=>h.elim) ?_;rintro c r ⟨rfl,rfl⟩;conv=>whnf
    unfold deH at hP;rw[zC hT hi1 (w:=pComma) (xT (by decide)),zC hT hi1 (w:=pSemi) (xT (by decide))] at hP;by_cases hc:(qH T s2).text=pComma
    ·rw[xtw1 (p:=(qH T s2).text=⟨_⟩) hc];rw[xtw3 (xtw1 hc)] at hP;have hk2:=vG hT hi1 (w:=pComma) (xT (by decide)) hc;have hdn2:=zF hT hi1 hk2;have he2:=(vF (T:=T) s2).1;have hi2:=nJ hi1;have hst2:=bM hT hi1 hk2
     obtain⟨m,rfl⟩:∃m,n=m+1:=⟨n-1,by rw[xtw28] at hln1;omega⟩
     rw[jmn,<- hdn2] at hP
     have hln2:(T.drop (xF T s2).i).length+1=(T.drop s2.i).length:=by
      rw[hst2] at hi2;rw[hst2,xtw28,xtw28]
      simp only at hi2 ⊢
      omega
     rw[he1] at he2;generalize xF T s2=s3 at *;conv=>whnf
     refine zA 0 0 (cA:=wR T (s2)) rfl rfl (xtw37 _) rfl rfl (htk).v (fun _ _ h=>h.elim) ?_;rintro c r ⟨rfl,rfl⟩;conv=>whnf
     refine⟨(m,nm++[tx],out++[tx],s3),jD [0,1] ?_,⟨hi2,he2,by simp only;omega,by simp only[xtw4,xtw6,xtw8];omega,by simp only[xtw4,xtw6,xtw8];omega,hP⟩,by simp only[xtw28] at hln1 hln2 ⊢;omega⟩;conv=>whnf
     simp only[xtw4,xtw6,xtw8,lR];repeat' constructor
    ·rw[xtw0 (p:=(qH T s2).text=⟨_⟩) hc];rw[xtw2 (by rw[xtw0 hc];simp)] at hP;conv=>whnf
     refine zA 0 0 (cA:=wR T (s2)) rfl rfl (xtw37 _) rfl rfl (hxp).v (fun _ _ h=>h.elim) ?_;rintro c r ⟨rfl,rfl⟩;conv=>whnf
     refine⟨0,?_⟩;conv=>whnf
     refine⟨bV T s2 pSemi,nm++[tx],out++[tx],rfl,by rw[xtw4];rfl,by rw[lR];rfl,by rw[xtw4,lR];rfl,by simp only[xtw4,xtw6,xtw8];omega,by simp only[xtw4,xtw6,xtw8];omega,vZ hi1 _,?_⟩;subst hP;by_cases hs:(qH T s2).text=pSemi
     ·rw[xtw3 (xtw1 hs)]
      have e1:bV T s2 pSemi=xF T s2:=by unfold bV;rw[xtw3 he1,xtw3 hs]
      rw[e1];exact⟨by rw[(vF s2).1];exact he1,rfl,rfl,zF hT hi1 (vG hT hi1 (xT (by decide)) hs)⟩
     ·rw[xtw2 (by rw[xtw0 hs];simp)]
      have e1:bV T s2 pSemi=⟨s2.i,(qH T s2).pos,10⟩:=by unfold bV;rw[xtw3 he1,xtw2 hs]
      rw[e1];exact⟨show(10:Int)≠0 by decide,rfl,rfl⟩
end
section
variable{T:List Tk}
def jb9:List ByteArray:=[wStart,wRequest,wTimer,wMessage]
def Dh(T:List Tk)(s':S6)(P:Ph)(k:Int):Prop:=s'.i<T.length/\match P with
 |.ok n r=>s'.e=0/\k=n/\T.drop s'.i=r
 |.bad x e=>e≠0/\s'.e=e/\s'.a=x
def stD(T:List Tk)(s:S6)(p:Int)(b:Bool):S6:=if s.e=0/\b=true then ⟨s.i,p,4⟩ else s
theorem jeB{hs:List (Int×Nt)}{us:List Tk}{s:S6}{k:Int}(h:Dh T s (uK us) k):Dh T (stD T s (hd us).pos (hs.any fun h=>decide (h.1=k))) (uI hs us) k:=by
 obtain⟨hi,h⟩:=h;unfold uI stD
 cases hP:uK us with
 |ok n r =>
  rw[hP] at h;obtain⟨h1,rfl,h2⟩:=h
  simp only
  by_cases hd:(hs.any fun h=>decide (h.1=k))=true
  ·rw[xtw3 hd,xtw3 ⟨h1,hd⟩];exact⟨hi,show(4:Int)≠0 by decide,rfl,rfl⟩
  ·rw[xtw2 hd,xtw2 (fun h=>hd h.2)];exact⟨hi,h1,rfl,h2⟩
 |bad x e =>
  rw[hP] at h;obtain⟨h1,h2,h3⟩:=h;rw[xtw2 (fun h=>h1 (h2.symm.trans h.1))];exact⟨hi,h1,h2,h3⟩
theorem jmq(hT:Ks T){s:S6}(hi:s.i<T.length)(h0:s.e=0)(m off:Int):Dh T (mT T s m) (mZ (m+1) off (T.drop s.i)) (off+vaN T s m):=by
 refine⟨oH hi m,?_⟩;unfold mZ;have e0:hd (T.drop s.i)=qH T s:=rfl;rw[e0];by_cases hk:(qH T s).kind=2
 ·have hk':¬(qH T s).kind≠2:=fun h=>h hk
  rw[xtw2 hk'];by_cases hm:m<(qH T s).n
  ·have e1:mT T s m=⟨s.i,(qH T s).pos,6⟩:=by unfold mT;rw[xtw3 h0,xtw2 hk',xtw3 hm]
   rw[e1,xtw3 (by omega)];exact⟨show(6:Int)≠0 by decide,rfl,rfl⟩
  ·have e1:mT T s m=xF T s:=by unfold mT;rw[xtw3 h0,xtw2 hk',xtw2 hm]
   have e2:vaN T s m=(qH T s).n:=by unfold vaN;rw[xtw3 ⟨h0,hk,by omega⟩]
   rw[e1,e2,xtw2 (by omega)];exact⟨by rw[(vF s).1];exact h0,rfl,zF hT hi (by rw[hk];decide)⟩
 ·have e1:mT T s m=⟨s.i,(qH T s).pos,10⟩:=by unfold mT;rw[xtw3 h0,xtw3 hk]
  rw[e1,xtw3 hk];exact⟨show(10:Int)≠0 by decide,rfl,rfl⟩
theorem jfk(hT:Ks T){s:S6}(hi:s.i<T.length){m:Int}(hm:0<=m):0<=vaN T s m/\vaN T s m<=m:=by
 unfold vaN;have:=(hT.p hi).good.2.2.2.1
 change 0<=(qH T s).n at this
 split
 ·omega
 ·omega
theorem sK{T:List Tk}{s:S6}{k0:Nat}{b c:Bool}:(if c=true then stF T (stD T s (hd (T.drop k0)).pos b) 4 k0 else stD T s (hd (T.drop k0)).pos b)=stD T s (hd (T.drop k0)).pos (b||c):=by
 unfold stF stD;by_cases h0:s.e=0
 ·cases b <;> cases c <;> simp[h0]
 ·cases b <;> cases c <;> simp[h0]
theorem rA(p:Int×Nt->Bool)(l:List (Int×Nt))(j:Nat)(h:j<l.length):(l.take (j+1)).any p=((l.take j).any p||p l[j]):=by
 rw[xtw26 h,List.any_append,xtw114,List.any_nil,Bool.or_false]
theorem jrQ(hT:Ks T){s:S6}(hi:s.i<T.length)(h:qC jb9 (qH T s).text=false):uK (T.drop s.i)=.bad (hd (T.drop s.i)).pos 10:=by
 have hn:∀w∈jb9,Ws6 w->¬zO w (T.drop s.i)=true:=fun w hw h6 e=>by
  rw[zC hT hi h6] at e;have e2:qC jb9 (qH T s).text=true:=xtw34.2 ⟨w,hw,xtw1 (xtw23 e).symm⟩;rw[h] at e2;cases e2
 unfold uK;rw[xtw2 (hn wStart (by simp[jb9]) (xT (by decide))),xtw2 (hn wRequest (by simp[jb9]) (xT (by decide))),xtw2 (hn wTimer (by simp[jb9]) (xT (by decide))),xtw2 (hn wMessage (by simp[jb9]) (xT (by decide)))]
theorem jh1(hT:Ks T)(hs:List (Int×Nt))(hlen:hs.length<=1000000)(s0:S6)(hi0:s0.i<T.length)(h0:s0.e=0) :
  SpecU 48 (wR T s0) [.box 0 0,.sl 5 hs.length (zV hs)] fun c r=>∃s' k,c=wR T s'/\r=intA k/\0<=k/\k<=100/\Dh T s' (uI hs (T.drop s0.i)) k:=fun y hy=>by
 have hnx:=xU hi0 y hy;have hta:=nQ hT hi0 y hy;have hhs:=vA jb9 (qH T s0).text (by decide)
 obtain⟨P,hP⟩:∃P,uI hs (T.drop s0.i)=P:=⟨_,rfl⟩
 rw[hP];unfold uI at hP;have hfl:=nO s0.i hi0 10 (s:=s0) y hy
 obtain⟨t,ht⟩:∃t,(qH T s0).text=t:=⟨_,rfl⟩
 rw[ht] at hnx hhs;refine eN jK (fun _=>[0]) 1 Tryz.func48 rfl ?_;intro _;conv=>whnf
 refine jL 0 [] hnx ?_;rintro o r ⟨c,ho,rfl,rfl⟩;cases ho;conv=>whnf
 (refine jY [0] hhs ?_;rintro r rfl;conv=>whnf)
 conv=>whnf
 cases hw:qC jb9 t with
 |false =>
  unfold stF at hfl;rw[xtw3 h0] at hfl;conv=>whnf
  refine jL 0 [] hfl ?_;rintro o r ⟨c,ho,rfl,rfl⟩;cases ho;conv=>whnf
  refine⟨_,rfl,⟨s0.i,(hd (T.drop s0.i)).pos,10⟩,0,rfl,rfl,by omega,by omega,hi0,?_⟩;rw[jrQ hT hi0 (by rw[ht];exact hw)] at hP;subst hP;exact⟨show(10:Int)≠0 by decide,rfl,rfl⟩
 |true =>
  have hkd:(qH T s0).kind≠0:=by
   obtain⟨w,hw1,hw2⟩:=xtw34.1 hw;have hw2:=(xtw23 hw2).symm;refine vG hT hi0 (w:=w) ?_ (ht.trans hw2);simp only[jb9,xtw13,xtw42,xtw81] at hw1
   rcases hw1 with e|e|e|e <;> rw[e] <;> exact xT (by decide)
  conv=>whnf
  refine jL 0 [] hta ?_;rintro o r ⟨c,ho,rfl,rfl⟩;cases ho;conv=>whnf
  by_cases g1:t=wStart
  ·have n1:¬t=wRequest:=fun e=>by rw[g1] at e;exact absurd e (by decide)
   have n2:¬t=wTimer:=fun e=>by rw[g1] at e;exact absurd e (by decide)
   have n3:¬t=wMessage:=fun e=>by rw[g1] at e;exact absurd e (by decide)
   rw[xtw0 (p:=t=⟨_⟩) n1];conv=>whnf
   rw[xtw0 (p:=t=⟨_⟩) n2];conv=>whnf
   rw[xtw0 (p:=t=⟨_⟩) n3];conv=>whnf
   have hs1:Dh T (xF T s0) (uK (T.drop s0.i)) 0:=by
    unfold uK;rw[zC hT hi0 (w:=wStart) (xT (by decide)),xtw3 (xtw1 (ht.trans g1))];exact⟨nJ hi0,by rw[(vF s0).1];exact h0,rfl,zF hT hi0 hkd⟩
   refine nC [] ?_;conv=>whnf
   refine jA [0,1,5,7] ?_;conv=>whnf
   have hdh:=jeB (hs:=hs) hs1;unfold uI at hdh;rw[hP] at hdh;refine jE (fun x:Nat×S6=>[(8,.v (.int .i64 x.1))]) (fun x=>[wR T x.2++[.v y]]) (fun _=>[]) (fun x=>x.1<=hs.length/\x.2=stD T (xF T s0) (hd (T.drop s0.i)).pos ((hs.take x.1).any fun h=>decide (h.1=0))) (fun x=>hs.length-x.1) (0,xF T s0) ?_ ⟨xtw19 _,by unfold stD;rw[xtw2 (fun h=>by simp at h)]⟩ ?_
   ·repeat' constructor
   rintro⟨j,s2⟩ ⟨hj,hs2⟩
   simp only at hj hs2
   conv=>whnf
   by_cases hlt:j<hs.length
   ·rw[xtw1 (show(j:Int)<hs.length by omega)];have hrow:=y9 hs j hlt;have hst:=sK (T:=T) (s:=xF T s0) (k0:=s0.i) (b:=(hs.take j).any fun h=>decide (h.1=0)) (c:=decide (hs[j].1=0));rw[<- rA (fun h=>decide (h.1=0)) hs j hlt,<- hs2] at hst;generalize hs[j]=h at *;have hf4:=nO s0.i hi0 4 (s:=s2) y hy;conv=>whnf
    refine⟨by omega,?_⟩;conv=>whnf
    (generalize hrq:jC _ _ (zV hs)=rq;obtain rfl:rq=tC h:=hrq.symm.trans (hrow);clear hrq;conv=>whnf)
    by_cases hk:h.1=0
    ·rw[xtw1 (show _=_ from hk)];rw[xtw3 (xtw1 hk)] at hst;conv=>whnf
     refine jL 0 [] hf4 ?_;rintro o r ⟨c,ho,rfl,rfl⟩;cases ho;conv=>whnf
     refine⟨jG (by omega),?_⟩;conv=>whnf
     refine⟨(j+1,stF T s2 4 s0.i),jD [] ?_,⟨hlt,hst⟩,by simp only;omega⟩;conv=>whnf
     repeat' constructor
    ·rw[xtw0 (show ¬_=_ from hk)];rw[xtw2 (by rw[xtw0 hk];simp)] at hst;conv=>whnf
     refine⟨jG (by omega),?_⟩;conv=>whnf
     refine⟨(j+1,s2),jD [] ?_,⟨hlt,hst⟩,by simp only;omega⟩;conv=>whnf
     repeat' constructor
   ·rw[xtw0 (show ¬(j:Int)<hs.length by omega)];rw[show j=hs.length by omega,xtw54] at hs2;rw[<- hs2] at hdh;conv=>whnf
    exact⟨_,rfl,s2,0,rfl,rfl,by omega,by omega,hdh⟩
  have h1:¬zO wStart (T.drop s0.i)=true:=by rw[zC hT hi0 (w:=wStart) (xT (by decide)),ht,xtw0 g1];simp
  by_cases g2:t=wRequest
  ·have n2:¬t=wTimer:=fun e=>by rw[g2] at e;exact absurd e (by decide)
   have n3:¬t=wMessage:=fun e=>by rw[g2] at e;exact absurd e (by decide)
   rw[xtw1 (p:=t=⟨_⟩) g2];conv=>whnf
   rw[xtw0 (p:=t=⟨_⟩) n2];conv=>whnf
   rw[xtw0 (p:=t=⟨_⟩) n3];conv=>whnf
   have hs1:Dh T (xF T s0) (uK (T.drop s0.i)) 1:=by
    unfold uK;rw[xtw2 h1,zC hT hi0 (w:=wRequest) (xT (by decide)),xtw3 (xtw1 (ht.trans g2))];exact⟨nJ hi0,by rw[(vF s0).1];exact h0,rfl,zF hT hi0 hkd⟩
   refine nC [] ?_;conv=>whnf
   refine jA [0,1,5,7] ?_;conv=>whnf
   have hdh:=jeB (hs:=hs) hs1;unfold uI at hdh;rw[hP] at hdh;refine jE (fun x:Nat×S6=>[(8,.v (.int .i64 x.1))]) (fun x=>[wR T x.2++[.v y]]) (fun _=>[]) (fun x=>x.1<=hs.length/\x.2=stD T (xF T s0) (hd (T.drop s0.i)).pos ((hs.take x.1).any fun h=>decide (h.1=1))) (fun x=>hs.length-x.1) (0,xF T s0) ?_ ⟨xtw19 _,by unfold stD;rw[xtw2 (fun h=>by simp at h)]⟩ ?_
   ·repeat' constructor
   rintro⟨j,s2⟩ ⟨hj,hs2⟩
   simp only at hj hs2
   conv=>whnf
   by_cases hlt:j<hs.length
   ·rw[xtw1 (show(j:Int)<hs.length by omega)];have hrow:=y9 hs j hlt;have hst:=sK (T:=T) (s:=xF T s0) (k0:=s0.i) (b:=(hs.take j).any fun h=>decide (h.1=1)) (c:=decide (hs[j].1=1));rw[<- rA (fun h=>decide (h.1=1)) hs j hlt,<- hs2] at hst;generalize hs[j]=h at *;have hf4:=nO s0.i hi0 4 (s:=s2) y hy;conv=>whnf
    refine⟨by omega,?_⟩;conv=>whnf
    (generalize hrq:jC _ _ (zV hs)=rq;obtain rfl:rq=tC h:=hrq.symm.trans (hrow);clear hrq;conv=>whnf)
    by_cases hk:h.1=1
    ·rw[xtw1 (show _=_ from hk)];rw[xtw3 (xtw1 hk)] at hst;conv=>whnf
     refine jL 0 [] hf4 ?_;rintro o r ⟨c,ho,rfl,rfl⟩;cases ho;conv=>whnf
     refine⟨jG (by omega),?_⟩;conv=>whnf
     refine⟨(j+1,stF T s2 4 s0.i),jD [] ?_,⟨hlt,hst⟩,by simp only;omega⟩;conv=>whnf
     repeat' constructor
    ·rw[xtw0 (show ¬_=_ from hk)];rw[xtw2 (by rw[xtw0 hk];simp)] at hst;conv=>whnf
     refine⟨jG (by omega),?_⟩;conv=>whnf
     refine⟨(j+1,s2),jD [] ?_,⟨hlt,hst⟩,by simp only;omega⟩;conv=>whnf
     repeat' constructor
   ·rw[xtw0 (show ¬(j:Int)<hs.length by omega)];rw[show j=hs.length by omega,xtw54] at hs2;rw[<- hs2] at hdh;conv=>whnf
    exact⟨_,rfl,s2,1,rfl,rfl,by omega,by omega,hdh⟩
  rw[xtw0 (p:=t=⟨_⟩) g2];conv=>whnf
  have h2:¬zO wRequest (T.drop s0.i)=true:=by rw[zC hT hi0 (w:=wRequest) (xT (by decide)),ht,xtw0 g2];simp
  have hi1:=nJ hi0;by_cases g3:t=wTimer
  ·have n3:¬t=wMessage:=fun e=>by rw[g3] at e;exact absurd e (by decide)
   have hnx2:uK (T.drop s0.i)=mZ 8 2 (T.drop s0.i).tail:=by
    unfold uK;rw[xtw2 h1,xtw2 h2,zC hT hi0 (w:=wTimer) (xT (by decide)),xtw3 (xtw1 (ht.trans g3))]
   rw[xtw1 (p:=t=⟨_⟩) g3];conv=>whnf
   refine jL 0 [] (jh2 hT hi1 7 y hy) ?_;rintro o r ⟨c,ho,rfl,rfl⟩;cases ho;conv=>whnf
   refine⟨jG (by have:=jfk hT hi1 (m:=7) (by decide);omega),?_⟩;conv=>whnf
   have hvb:=jfk hT hi1 (m:=7) (by decide)
   have hs1:Dh T (mT T (xF T s0) 7) (uK (T.drop s0.i)) (2+vaN T (xF T s0) 7):=by
    have hd:=jmq hT hi1 (by rw[(vF s0).1];exact h0) 7 2;rw[zF hT hi0 hkd] at hd;rw[hnx2];exact hd
   generalize vaN T (xF T s0) 7=v at *;rw[xtw0 (p:=t=⟨_⟩) n3];conv=>whnf
   refine nC [] ?_;conv=>whnf
   refine jA [0,1,5,7] ?_;conv=>whnf
   have hdh:=jeB (hs:=hs) hs1;unfold uI at hdh;rw[hP] at hdh;refine jE (fun x:Nat×S6=>[(8,.v (.int .i64 x.1))]) (fun x=>[wR T x.2++[.v y]]) (fun _=>[]) (fun x=>x.1<=hs.length/\x.2=stD T (mT T (xF T s0) 7) (hd (T.drop s0.i)).pos ((hs.take x.1).any fun h=>decide (h.1=(2+v)))) (fun x=>hs.length-x.1) (0,mT T (xF T s0) 7) ?_ ⟨xtw19 _,by unfold stD;rw[xtw2 (fun h=>by simp at h)]⟩ ?_
   ·repeat' constructor
   rintro⟨j,s2⟩ ⟨hj,hs2⟩
   simp only at hj hs2
   conv=>whnf
   by_cases hlt:j<hs.length
   ·rw[xtw1 (show(j:Int)<hs.length by omega)];have hrow:=y9 hs j hlt;have hst:=sK (T:=T) (s:=mT T (xF T s0) 7) (k0:=s0.i) (b:=(hs.take j).any fun h=>decide (h.1=(2+v))) (c:=decide (hs[j].1=(2+v)));rw[<- rA (fun h=>decide (h.1=(2+v))) hs j hlt,<- hs2] at hst;generalize hs[j]=h at *;have hf4:=nO s0.i hi0 4 (s:=s2) y hy;conv=>whnf
    refine⟨by omega,?_⟩;conv=>whnf
    (generalize hrq:jC _ _ (zV hs)=rq;obtain rfl:rq=tC h:=hrq.symm.trans (hrow);clear hrq;conv=>whnf)
    by_cases hk:h.1=(2+v)
    ·rw[xtw1 (show _=_ from hk)];rw[xtw3 (xtw1 hk)] at hst;conv=>whnf
     refine jL 0 [] hf4 ?_;rintro o r ⟨c,ho,rfl,rfl⟩;cases ho;conv=>whnf
     refine⟨jG (by omega),?_⟩;conv=>whnf
     refine⟨(j+1,stF T s2 4 s0.i),jD [] ?_,⟨hlt,hst⟩,by simp only;omega⟩;conv=>whnf
     repeat' constructor
    ·rw[xtw0 (show ¬_=_ from hk)];rw[xtw2 (by rw[xtw0 hk];simp)] at hst;conv=>whnf
     refine⟨jG (by omega),?_⟩;conv=>whnf
     refine⟨(j+1,s2),jD [] ?_,⟨hlt,hst⟩,by simp only;omega⟩;conv=>whnf
     repeat' constructor
   ·rw[xtw0 (show ¬(j:Int)<hs.length by omega)];rw[show j=hs.length by omega,xtw54] at hs2;rw[<- hs2] at hdh;conv=>whnf
    exact⟨_,rfl,s2,(2+v),rfl,rfl,by omega,by omega,hdh⟩
  rw[xtw0 (p:=t=⟨_⟩) g3];conv=>whnf
  have h3:¬zO wTimer (T.drop s0.i)=true:=by rw[zC hT hi0 (w:=wTimer) (xT (by decide)),ht,xtw0 g3];simp
  clear g3
  have g3:t=wMessage:=by
   obtain⟨w,hw1,hw2⟩:=xtw34.1 hw;have hw2:=(xtw23 hw2).symm;simp only[jb9,xtw13,xtw42,xtw81] at hw1
   rcases hw1 with e|e|e|e <;> rw[e] at hw2 <;> first|exact hw2|contradiction|skip
   exact absurd (by rw[zC hT hi0 (w:=wTimer) (xT (by decide)),ht];exact xtw1 hw2) h3
  have hnx2:uK (T.drop s0.i)=mZ 30 10 (T.drop s0.i).tail:=by
   unfold uK;rw[xtw2 h1,xtw2 h2,xtw2 h3,zC hT hi0 (w:=wMessage) (xT (by decide)),xtw3 (xtw1 (ht.trans g3))]
  rw[xtw1 (p:=t=⟨_⟩) g3];conv=>whnf
  refine jL 0 [] (jh2 hT hi1 29 y hy) ?_;rintro o r ⟨c,ho,rfl,rfl⟩;cases ho;conv=>whnf
  refine⟨jG (by have:=jfk hT hi1 (m:=29) (by decide);omega),?_⟩;conv=>whnf
  have hvb:=jfk hT hi1 (m:=29) (by decide)
  have hs1:Dh T (mT T (xF T s0) 29) (uK (T.drop s0.i)) (10+vaN T (xF T s0) 29):=by
   have hd:=jmq hT hi1 (by rw[(vF s0).1];exact h0) 29 10;rw[zF hT hi0 hkd] at hd;rw[hnx2];exact hd
  generalize vaN T (xF T s0) 29=v at *;refine nC [] ?_;conv=>whnf
  refine jA [0,1,5,7] ?_;conv=>whnf
  have hdh:=jeB (hs:=hs) hs1;unfold uI at hdh;rw[hP] at hdh;refine jE (fun x:Nat×S6=>[(8,.v (.int .i64 x.1))]) (fun x=>[wR T x.2++[.v y]]) (fun _=>[]) (fun x=>x.1<=hs.length/\x.2=stD T (mT T (xF T s0) 29) (hd (T.drop s0.i)).pos ((hs.take x.1).any fun h=>decide (h.1=(10+v)))) (fun x=>hs.length-x.1) (0,mT T (xF T s0) 29) ?_ ⟨xtw19 _,by unfold stD;rw[xtw2 (fun h=>by simp at h)]⟩ ?_
  ·repeat' constructor
  rintro⟨j,s2⟩ ⟨hj,hs2⟩
  simp only at hj hs2
  conv=>whnf
  by_cases hlt:j<hs.length
  ·rw[xtw1 (show(j:Int)<hs.length by omega)];have hrow:=y9 hs j hlt;have hst:=sK (T:=T) (s:=mT T (xF T s0) 29) (k0:=s0.i) (b:=(hs.take j).any fun h=>decide (h.1=(10+v))) (c:=decide (hs[j].1=(10+v)));rw[<- rA (fun h=>decide (h.1=(10+v))) hs j hlt,<- hs2] at hst;generalize hs[j]=h at *;have hf4:=nO s0.i hi0 4 (s:=s2) y hy;conv=>whnf
   refine⟨by omega,?_⟩;conv=>whnf
   (generalize hrq:jC _ _ (zV hs)=rq;obtain rfl:rq=tC h:=hrq.symm.trans (hrow);clear hrq;conv=>whnf)
   by_cases hk:h.1=(10+v)
   ·rw[xtw1 (show _=_ from hk)];rw[xtw3 (xtw1 hk)] at hst;conv=>whnf
    refine jL 0 [] hf4 ?_;rintro o r ⟨c,ho,rfl,rfl⟩;cases ho;conv=>whnf
    refine⟨jG (by omega),?_⟩;conv=>whnf
    refine⟨(j+1,stF T s2 4 s0.i),jD [] ?_,⟨hlt,hst⟩,by simp only;omega⟩;conv=>whnf
    repeat' constructor
   ·rw[xtw0 (show ¬_=_ from hk)];rw[xtw2 (by rw[xtw0 hk];simp)] at hst;conv=>whnf
    refine⟨jG (by omega),?_⟩;conv=>whnf
    refine⟨(j+1,s2),jD [] ?_,⟨hlt,hst⟩,by simp only;omega⟩;conv=>whnf
    repeat' constructor
  ·rw[xtw0 (show ¬(j:Int)<hs.length by omega)];rw[show j=hs.length by omega,xtw54] at hs2;rw[<- hs2] at hdh;conv=>whnf
   exact⟨_,rfl,s2,(10+v),rfl,rfl,by omega,by omega,hdh⟩
end
theorem jpd(h:Int×Nt)(l:List (Int×Nt))(j:Nat)(hj:j<l.length)(hlt:l[j].1<h.1)(e:g9 h l=l.take j++g9 h (l.drop j)):g9 h l=l.take (j+1)++g9 h (l.drop (j+1)):=by
 rw[e,xtw63 hj,xtw26 hj,xtw40]
 congr 1
 rw[g9,xtw2 (by omega)];rfl
theorem jgg(h:Int×Nt)(l:List (Int×Nt))(j:Nat)(hs:∀hj:j<l.length,¬l[j].1<h.1)(e:g9 h l=l.take j++g9 h (l.drop j)):g9 h l=l.take j++[h]++l.drop j:=by
 rw[e,xtw40]
 congr 1
 by_cases hj:j<l.length
 ·rw[xtw63 hj,g9,xtw3 (by have:=hs hj;omega)];rfl
 ·rw[xtw51 (by omega)];rfl
theorem jba(l m:List (Int×Nt)):zV (l++m)=zV l++zV m:=by unfold zV;rw[List.flatMap_append]
theorem jdd(l:List (Int×Nt))(j:Nat):((zV l).drop (j*5)).take ((l.drop j).length*5)=zV (l.drop j):=by
 have e:zV l=zV (l.take j)++zV (l.drop j):=by rw[<- jba,xtw69]
 by_cases hj:j<=l.length
 ·rw[e,List.drop_left' (by rw[jgb,xtw38];omega),xtw56 (by rw[jgb];exact xtw11 _)]
 ·rw[xtw51 (show l.length<=j by omega),xtw8,Nat.zero_mul,xtw99,aW]
theorem ju8(l:List (Int×Nt))(h:Int×Nt)(hlen:l.length<=1000000):Spec Tryz.prog 50 [] [.sl 5 l.length (zV l),.agg (tC h)] fun _ r=>r=.sl 5 (g9 h l).length (zV (g9 h l)):=by
 refine eN jtT jT 0 Tryz.func50 rfl ?_;intro _;conv=>whnf
 refine qU 67 5 [5] [] ?_;conv=>whnf
 refine⟨trivial,?_⟩;conv=>whnf
 refine jA [0,3,5] ?_;conv=>whnf
 refine jE (fun j:Nat=>[(6,.v (.int .i64 j))]) (fun j=>[tC h]) (fun j=>[.live 67 5 (l.take j).length (zV (l.take j))]) (fun j=>j<=l.length/\g9 h l=l.take j++g9 h (l.drop j)) (fun j=>l.length-j) 0 ?_ ⟨xtw19 _,rfl⟩ ?_
 ·repeat' constructor
  show Row.live _ _ _ _=Row.live _ 5 0 (zV []);rw[aW]
 rintro j ⟨hj,hin⟩;conv=>whnf
 by_cases hlt:j<l.length
 ·rw[xtw1 (show(j:Int)<l.length by omega)];have hrow:=y9 l j hlt;have hnext:=jpd h l j hlt
  have hstop:=fun(k:¬l[j].1<h.1)=>jgg h l j (fun _=>k) hin
  have htk:l.take (j+1)=l.take j++[l[j]]:=xtw26 hlt;generalize l[j]=g at *;conv=>whnf
  refine⟨by omega,?_⟩;conv=>whnf
  (generalize hrq:jC _ _ (zV l)=rq;obtain rfl:rq=tC g:=hrq.symm.trans (hrow);clear hrq;conv=>whnf)
  by_cases hg:g.1<h.1
  ·rw[xtw1 (show _<_ from hg)];conv=>whnf
   refine⟨by omega,?_⟩;conv=>whnf
   (generalize hrq:jC _ _ (zV l)=rq;obtain rfl:rq=tC g:=hrq.symm.trans (hrow);clear hrq;conv=>whnf)
   refine⟨⟨by rw[xtw38];unfold maxLen;omega,by rw[xtw38];omega⟩,?_⟩;conv=>whnf
   refine⟨jG (by omega),?_⟩;conv=>whnf
   refine⟨j+1,jD [0] ?_,⟨hlt,hnext hg hin⟩,by omega⟩;conv=>whnf
   rw[htk];repeat' constructor
   show Row.live _ 5 _ _=Row.live _ 5 (l.take j++[g]).length (zV (l.take j++[g]));rw[dL,xtw4];rfl
  ·rw[xtw0 (show ¬_<_ from hg)];conv=>whnf
   refine⟨⟨by rw[xtw38];unfold maxLen;omega,by rw[xtw38];omega⟩,?_⟩;conv=>whnf
   refine⟨by omega,?_⟩;conv=>whnf
   refine⟨⟨by rw[xtw38];unfold maxLen;omega,by rw[xtw38];omega⟩,?_⟩;conv=>whnf
   have hres:=hstop hg
   have e0:(((l.length:Int).toNat-(j:Int).toNat):Nat)=(l.drop j).length:=by rw[xtw28];omega
   rw[e0,show(j:Int).toNat=j by omega,jdd,hres];show A.sl 5 _ (zV (l.take j)++tC h++_)=_;rw[jba,dL,xtw4,xtw4];rfl
 ·rw[xtw0 (show ¬(j:Int)<l.length by omega)];have hstop:=jgg h l j (fun k=>absurd k hlt) hin;conv=>whnf
  refine⟨⟨by rw[xtw38];unfold maxLen;omega,by rw[xtw38];omega⟩,?_⟩;conv=>whnf
  refine⟨by omega,?_⟩;conv=>whnf
  refine⟨⟨by rw[xtw38];unfold maxLen;omega,by rw[xtw38];omega⟩,?_⟩;conv=>whnf
  have hres:=hstop
  have e0:(((l.length:Int).toNat-(j:Int).toNat):Nat)=(l.drop j).length:=by rw[xtw28];omega
  rw[e0,show(j:Int).toNat=j by omega,jdd,hres];show A.sl 5 _ (zV (l.take j)++tC h++_)=_;rw[jba,dL,xtw4,xtw4];rfl
theorem jjX:∀{l:List (Int×Nt)},(l.map (·.1)).Nodup->∀a∈l,∀b∈l,a.1=b.1->a=b
 |x::l,h,a,ha,b,hb,e=>by
  rw[xtw22,xtw121] at h;rcases xtw13.1 ha with rfl|ha'
  ·rcases xtw13.1 hb with rfl|hb'
   ·rfl
   ·exact absurd (xtw60.2 ⟨b,hb',e.symm⟩) h.1
  ·rcases xtw13.1 hb with rfl|hb'
   ·exact absurd (xtw60.2 ⟨a,ha',e⟩) h.1
   ·exact jjX h.2 a ha' b hb' e
theorem jbY{hs:List (Int×Nt)}{h:Int×Nt}(hn:((hs++[h]).map (·.1)).Nodup):g9 h (vX hs)=vX (hs++[h]):=by
 have p1:(g9 h (vX hs)).Perm (hs++[h]):=(aK h _).trans (((wX hs).cons h).trans (List.perm_append_comm (l₁:=[h]) (l₂:=hs)));have p2:=wX (hs++[h]);refine List.Perm.eq_of_pairwise (le:=fun a b=>a.1<=b.1) (fun a b ha hb h1 h2=>?_) (iR h _ (aF hs)) (aF _) (p1.trans p2.symm);exact jjX hn a (p1.mem_iff.1 ha) b (p2.mem_iff.1 hb) (Int.le_antisymm h1 h2)
theorem jga{l m:List (Int×Nt)}(h:l.Perm m)(ts:List Tk):uI l ts=uI m ts:=by
 unfold uI
 cases uK ts with
 |bad x e=>rfl
 |ok k r =>
  simp only
  have:(l.any fun h=>decide (h.1=k))=(m.any fun h=>decide (h.1=k)):=by
   rw[Bool.eq_iff_iff,xtw34,xtw34];exact⟨fun ⟨x,h1,h2⟩=>⟨x,h.mem_iff.1 h1,h2⟩,fun ⟨x,h1,h2⟩=>⟨x,h.mem_iff.2 h1,h2⟩⟩
  rw[this]
def juA(id:Nat):List Nat:=match Nat.beq id 19 with
 |true=>[0]
 |false=>match Nat.beq id 12 with
  |true=>[]
  |false=>[1]
def ju4(id:Nat):Tr:=match Nat.beq id 10||Nat.beq id 11 with
 |true=>.q 0 3 (.q 2 3 (.alt 1 2 (.alt 3 2 (.alt 4 2 (.q 5 3 (.alt 6 2 .nil .nil)) .nil) .nil) (.alt 3 2 (.alt 1 2 (.alt 4 2 (.q 5 3 (.alt 6 2 .nil .nil)) .nil) .nil) .nil)))
 |false=>jtM id
theorem jjQ{T:List Tk}(hT:Ks T){du vo:List ByteArray}{m:Nat}{hs:List (Int×Nt)}{s3 s4 s5:S6}(hi:s3.i<T.length){k:Int}{b:Nt}{R:PU}(hdh:Dh T s4 (uI hs (T.drop s3.i)) k)(hq:Dq T s4 s5 ((pa 19).bl (T.drop s4.i)) b)
  (hP:(match uI hs (T.drop s3.i) with
   |.bad x e=>.bad x e
   |.ok k r=>match (pa 19).bl r with
    |.bad x e=>.bad x e
    |.ok b r=>s8 du vo m (hs++[(k,b)]) r)=R) :
  (s5.e=0->(T.drop s5.i).length+1<=(T.drop s3.i).length/\(∀p∈hs,k≠p.1)/\s8 du vo m (hs++[(k,b)]) (T.drop s5.i)=R)/\(s5.e≠0->R=.bad s5.a s5.e):=by
 obtain⟨h1,h2⟩:=hdh;obtain⟨h3,h4,h5⟩:=hq
 cases hh:uI hs (T.drop s3.i) with
 |bad x e =>
  rw[hh] at h2 hP;obtain⟨q1,q2,q3⟩:=h2;obtain⟨q4,q5⟩:=h4 (by rw[q2];exact q1);refine⟨fun h=>absurd (q2.symm.trans (q5.symm.trans h)) q1,fun _=>?_⟩;rw[q4,q5,q2,q3];exact hP.symm
 |ok k2 r =>
  rw[hh] at h2 hP;obtain⟨q1,rfl,rfl⟩:=h2;obtain⟨y1,y2,y3⟩:=jif (hT.p hi) hh;have h5:=h5 q1
  simp only at hP
  cases hb:(pa 19).bl (T.drop s4.i) with
  |bad x e =>
   rw[hb] at h5 hP;obtain⟨q4,q5,q6⟩:=h5;refine⟨fun h=>absurd (q5.symm.trans h) q4,fun _=>?_⟩;rw[q5,q6];exact hP.symm
  |ok b2 r2 =>
   rw[hb] at h5 hP;obtain⟨q4,q5,rfl,rfl⟩:=h5;obtain⟨y4,y5⟩:=iH _ _ _ y2 hb;exact⟨fun _=>⟨by omega,y1,hP⟩,fun h=>absurd q4 h⟩
theorem ja5{T:List Tk}(hT:Ks T){s1 s2:S6}(hi:s1.i<T.length)(hk:(qH T s1).kind≠0){nm nm2 out:List ByteArray}(g1:nm.length<=16){F:List ByteArray->List ByteArray->List Tk->PU}{R:PU}
  (k:match aU (T.drop s1.i).length nm [] (T.drop s1.i) with
   |.ok n o r=>s2.e=0/\nm2=n/\out=o/\T.drop s2.i=r
   |.bad x e=>e≠0/\s2.e=e/\s2.a=x)
  (hP:(match aU (T.drop s1.i).length nm [] (T.drop s1.i) with
   |.bad x e=>.bad x e
   |.ok n o r=>F n o r)=R) :
  (s2.e=0->(T.drop s2.i).length+1<=(T.drop s1.i).length/\F nm2 out (T.drop s2.i)=R)/\(s2.e≠0->R=.bad s2.a s2.e):=by
 cases hd:aU (T.drop s1.i).length nm [] (T.drop s1.i) with
 |ok n o r =>
  rw[hd] at k hP;obtain⟨q1,rfl,rfl,rfl⟩:=k;exact⟨fun _=>⟨(x8 _ _ _ _ _ _ _ (hT.p hi) hk g1 hd).2.1,hP⟩,fun h=>absurd q1 h⟩
 |bad x e =>
  rw[hd] at k hP;obtain⟨q1,q2,q3⟩:=k;refine⟨fun h=>absurd (q2.symm.trans h) q1,fun _=>?_⟩;rw[q2,q3];exact hP.symm
theorem jiR(s:ByteArray)(hs:s.size<=1000000000):Spec Tryz.prog 14 [] [jJ s] fun _ r=>r=jdE (eE s):=by
 obtain⟨R,hR⟩:∃R,eE s=R:=⟨_,rfl⟩
 rw[hR];have htk:=jfb s hs;refine eN ju4 juA 0 Tryz.func14 rfl ?_;intro _;conv=>whnf
 unfold eE at hR;by_cases hbig:3000<s.size
 ·rw[xtw3 hbig] at hR;rw[xtw1 (by omega)];conv=>whnf
  subst hR;rfl
 rw[xtw2 hbig] at hR;rw[xtw0 (by omega)];conv=>whnf
 refine jY [] htk ?_;rintro r rfl
 have htb:=fun h=>jfa (s:=s) (by omega) h
 have hk6:=fun h=>jnE (s:=s) h
 unfold tI
 cases herr:(qM s).err with
 |some pe =>
  obtain⟨p,e⟩:=pe;rw[herr] at hR
  simp only at hR
  have hne:=(vS (s.data.toList.length+1) 0 s.data.toList).2 p e herr;conv=>whnf
  rw[xtw0 hne.2.1];conv=>whnf
  subst hR;rfl
 |none =>
  rw[herr] at hR
  simp only at hR
  have htb:=htb herr;have hk6:=hk6 herr;have hrl:=gO herr;rw[<- hrl]
  have hln:(qM s).toks.length+1=(lH s).length:=by rw[hrl];simp
  rw[hln];generalize lH s=T at *
  have hT:Ks T:=⟨hk6,htb.1.2,htb.1.1⟩
  conv=>whnf
  refine qU 9 1 [] [(1,4)] ?_;conv=>whnf
  refine⟨trivial,?_⟩;conv=>whnf
  refine qU 9 1 [] [(2,0)] ?_;conv=>whnf
  refine⟨trivial,?_⟩;conv=>whnf
  refine qU 9 1 [] [(2,1)] ?_;conv=>whnf
  refine⟨trivial,?_⟩;conv=>whnf
  refine jA [2,8,9] ?_;conv=>whnf
  refine jE (fun x:Nat×List ByteArray×List ByteArray×List ByteArray×S6=>[]) (fun x=>[eF,wR T x.2.2.2.2++[.own 0],[.own 1,.own 2,.v (.slice none 0 0)]]) (fun x=>[.live 9 1 x.2.1.length (xA x.2.1),.live 9 1 x.2.2.1.length (xA x.2.2.1),.live 9 1 x.2.2.2.1.length (xA x.2.2.2.1)])
   (fun x=>x.2.2.2.2.i<T.length/\x.2.1.length<=16/\x.2.2.1.length+x.2.2.2.1.length<=x.2.1.length/\(x.2.2.2.2.e=0->(T.drop x.2.2.2.2.i).length+1<=x.1/\jaO x.1 x.2.1 x.2.2.1 x.2.2.2.1 (T.drop x.2.2.2.2.i)=R)/\(x.2.2.2.2.e≠0->R=.bad x.2.2.2.2.a x.2.2.2.2.e)) (fun x=>if x.2.2.2.2.e=0 then(T.drop x.2.2.2.2.i).length+1 else 0) (T.length+1,[],[],[],⟨0,0,0⟩) ?_ ⟨htb.pos,xtw19 _,xtw11 _,fun _=>⟨xtw11 _,hR⟩,fun h=>absurd rfl h⟩ ?_
  ·repeat' constructor
  clear hR htk hrl hln herr hbig;rintro⟨n,nm,du,vo,s1⟩ ⟨hi,g1,g2,g3,g4⟩
  simp only at hi g1 g2 g3 g4
  have hnx:=xU hi;conv=>whnf
  by_cases h0:s1.e=0
  ·rw[xtw1 h0];obtain⟨hn,hP⟩:=g3 h0
   obtain⟨m,rfl⟩:∃m,n=m+1:=⟨n-1,by omega⟩
   rw[jaO,zC hT hi (w:=zR) (xT (by decide)),zC hT hi (w:=zH) (xT (by decide))] at hP
   have hde:=fun k=>ju7 hT nm s1 hi h0 k g1
   conv=>whnf
   refine zA 1 0 (cA:=wR T (s1)) rfl rfl (xtw37 _) rfl rfl (hnx).v (fun _ _ h=>h.elim) ?_;rintro c r ⟨rfl,rfl⟩;conv=>whnf
   by_cases q1:(qH T s1).text=zR
   ·rw[xtw1 (p:=(qH T s1).text=⟨_⟩) q1];rw[xtw3 (xtw1 q1)] at hP;have hkd:=vG hT hi (w:=zR) (xT (by decide)) q1;have hde:=hde hkd;conv=>whnf
    refine zA 1 0 (cA:=wR T (s1)) rfl rfl (xtw37 _) rfl rfl (hnx).v (fun _ _ h=>h.elim) ?_;rintro c r ⟨rfl,rfl⟩;conv=>whnf
    rw[xtw1 (p:=(qH T s1).text=⟨_⟩) q1];conv=>whnf
    unfold fU;refine⟨_,?_,fun _ h=>h⟩;conv=>whnf
    refine⟨?_,?_⟩
    ·conv=>whnf
     refine qK 1 0 3 [] rfl rfl rfl rfl rfl rfl rfl (fun _=>hde) (fun ch bx' hp _ _=>hp.elim) ?_;rintro o n' cs' r ⟨s2,nm2,out,ho,rfl,rfl,rfl,k1,k2,k3,k4⟩;cases ho;conv=>whnf
     obtain⟨z1,z2⟩:=ja5 hT hi hkd g1 k4 hP;refine⟨⟨by simp only;unfold maxLen;omega,by simp only;omega⟩,?_⟩;conv=>whnf
     refine⟨(m,nm2,du++out,vo,s2),jD [3,1,2] ?_,⟨k3,k1,by simp only[xtw4];omega,fun e=>⟨by simp only;have:=(z1 e).1;omega,(z1 e).2⟩,z2⟩,?_⟩
     ·conv=>whnf
      simp only[xtw4,cF];repeat' constructor
     ·simp only
      rw[xtw3 h0];by_cases e2:s2.e=0
      ·rw[xtw3 e2];have:=(z1 e2).1;omega
      ·rw[xtw2 e2];omega
    ·conv=>whnf
     refine qK 1 0 3 [] rfl rfl rfl rfl rfl rfl rfl (fun _=>hde) (fun ch bx' hp _ _=>hp.elim) ?_;rintro o n' cs' r ⟨s2,nm2,out,ho,rfl,rfl,rfl,k1,k2,k3,k4⟩;cases ho;conv=>whnf
     obtain⟨z1,z2⟩:=ja5 hT hi hkd g1 k4 hP;refine⟨⟨by simp only;unfold maxLen;omega,by simp only;omega⟩,?_⟩;conv=>whnf
     refine⟨(m,nm2,du++out,vo,s2),jD [3,1,2] ?_,⟨k3,k1,by simp only[xtw4];omega,fun e=>⟨by simp only;have:=(z1 e).1;omega,(z1 e).2⟩,z2⟩,?_⟩
     ·conv=>whnf
      simp only[xtw4,cF];repeat' constructor
     ·simp only
      rw[xtw3 h0];by_cases e2:s2.e=0
      ·rw[xtw3 e2];have:=(z1 e2).1;omega
      ·rw[xtw2 e2];omega
   ·rw[xtw0 (p:=(qH T s1).text=⟨_⟩) q1];rw[xtw2 (by rw[xtw0 q1];simp)] at hP;conv=>whnf
    refine zA 1 0 (cA:=wR T (s1)) rfl rfl (xtw37 _) rfl rfl (hnx).v (fun _ _ h=>h.elim) ?_;rintro c r ⟨rfl,rfl⟩;conv=>whnf
    by_cases q2:(qH T s1).text=zH
    ·rw[xtw1 (p:=(qH T s1).text=⟨_⟩) q2];rw[xtw3 (xtw1 q2)] at hP;have hkd:=vG hT hi (w:=zH) (xT (by decide)) q2;have hde:=hde hkd;conv=>whnf
     refine zA 1 0 (cA:=wR T (s1)) rfl rfl (xtw37 _) rfl rfl (hnx).v (fun _ _ h=>h.elim) ?_;rintro c r ⟨rfl,rfl⟩;conv=>whnf
     rw[xtw0 (p:=(qH T s1).text=⟨_⟩) q1];conv=>whnf
     unfold fU;refine⟨_,?_,fun _ h=>h⟩;conv=>whnf
     refine⟨?_,?_⟩
     ·conv=>whnf
      refine qK 1 0 3 [] rfl rfl rfl rfl rfl rfl rfl (fun _=>hde) (fun ch bx' hp _ _=>hp.elim) ?_;rintro o n' cs' r ⟨s2,nm2,out,ho,rfl,rfl,rfl,k1,k2,k3,k4⟩;cases ho;conv=>whnf
      obtain⟨z1,z2⟩:=ja5 hT hi hkd g1 k4 hP;refine⟨⟨by simp only;unfold maxLen;omega,by simp only;omega⟩,?_⟩;conv=>whnf
      refine⟨(m,nm2,du,vo++out,s2),jD [3,1,2] ?_,⟨k3,k1,by simp only[xtw4];omega,fun e=>⟨by simp only;have:=(z1 e).1;omega,(z1 e).2⟩,z2⟩,?_⟩
      ·conv=>whnf
       simp only[xtw4,cF];repeat' constructor
      ·simp only
       rw[xtw3 h0];by_cases e2:s2.e=0
       ·rw[xtw3 e2];have:=(z1 e2).1;omega
       ·rw[xtw2 e2];omega
     ·conv=>whnf
      refine qK 1 0 3 [] rfl rfl rfl rfl rfl rfl rfl (fun _=>hde) (fun ch bx' hp _ _=>hp.elim) ?_;rintro o n' cs' r ⟨s2,nm2,out,ho,rfl,rfl,rfl,k1,k2,k3,k4⟩;cases ho;conv=>whnf
      obtain⟨z1,z2⟩:=ja5 hT hi hkd g1 k4 hP;refine⟨⟨by simp only;unfold maxLen;omega,by simp only;omega⟩,?_⟩;conv=>whnf
      refine⟨(m,nm2,du,vo++out,s2),jD [3,1,2] ?_,⟨k3,k1,by simp only[xtw4];omega,fun e=>⟨by simp only;have:=(z1 e).1;omega,(z1 e).2⟩,z2⟩,?_⟩
      ·conv=>whnf
       simp only[xtw4,cF];repeat' constructor
      ·simp only
       rw[xtw3 h0];by_cases e2:s2.e=0
       ·rw[xtw3 e2];have:=(z1 e2).1;omega
       ·rw[xtw2 e2];omega
    ·rw[xtw0 (p:=(qH T s1).text=⟨_⟩) q2];rw[xtw2 (by rw[xtw0 q2];simp)] at hP;conv=>whnf
     clear g3;refine qU 67 5 [] [(2,2)] ?_;conv=>whnf
     refine⟨trivial,?_⟩;conv=>whnf
     refine xM [3] ?_;conv=>whnf
     refine nC [0,1,2] ?_;conv=>whnf
     refine jA [2,8,9] ?_;conv=>whnf
     refine jE (fun x:Nat×List (Int×Nt)×List (Int×Nt)×S6=>[]) (fun x=>[eF,wR T x.2.2.2++[.own 0],[.own 1,.own 2,.sl 5 x.2.2.1.length (zV x.2.2.1)]]) (fun x=>[.live 9 1 nm.length (xA nm),.live 9 1 du.length (xA du),.live 9 1 vo.length (xA vo)])
      (fun x=>x.2.2.2.i<T.length/\x.2.2.1.length<=1000000/\(x.2.2.2.e=0->(T.drop x.2.2.2.i).length+1<=x.1/\(x.2.1.map (·.1)).Nodup/\x.2.2.1=vX x.2.1/\x.2.1.length+(T.drop x.2.2.2.i).length<=1000000/\s8 du vo x.1 x.2.1 (T.drop x.2.2.2.i)=R)/\(x.2.2.2.e≠0->R=.bad x.2.2.2.a x.2.2.2.e)) (fun x=>if x.2.2.2.e=0 then(T.drop x.2.2.2.i).length+1 else 0) ((T.drop s1.i).length+1,[],[],s1) ?_ ⟨hi,xtw19 _,fun _=>⟨xtw11 _,xtw92,rfl,by simp only[xtw8,xtw28];have:=hT.n;omega,hP⟩,g4⟩ ?_
     ·repeat' constructor
      show A.sl _ _ _=A.sl 5 0 (zV []);rw[aW]
     clear g4;rintro⟨n,hs,L,s2⟩ ⟨hi,g3,g4,g5⟩
     simp only at hi g3 g4 g5
     conv=>whnf
     by_cases h0:s2.e=0
     ·rw[xtw1 h0];obtain⟨hn,gnd,gL,g6,hP⟩:=g4 h0
      obtain⟨m,rfl⟩:∃m,n=m+1:=⟨n-1,by omega⟩
      rw[ja7] at hP;have hrow:=xW T s2.i hi;have htx0:hd (T.drop s2.i)=qH T s2:=rfl;rw[htx0] at hP hrow;conv=>whnf
      (refine cR ?_;try with_reducible exact trivial)
      (generalize hrq:jC _ _ (z8 T)=rq;obtain rfl:rq=cT (qH T s2):=hrq.symm.trans (hrow);clear hrq;conv=>whnf)
      by_cases hk:(qH T s2).kind=0
      ·rw[xtw1 hk];rw[xtw3 hk] at hP;conv=>whnf
       rw[xtw1 h0];conv=>whnf
       subst hP;rw[gL];rfl
      ·rw[xtw0 hk];rw[xtw2 hk,zC hT hi (w:=wOn) (xT (by decide))] at hP;have hx:=qO hT hi wOn;by_cases hon:(qH T s2).text=wOn
       ·rw[xtw2 (by rw[xtw1 hon];simp),<- zF hT hi hk] at hP
        have e1:bV T s2 wOn=xF T s2:=by unfold bV;rw[xtw3 h0,xtw3 hon]
        rw[e1] at hx;have hi3:=nJ hi
        have he3:(xF T s2).e=0:=by rw[(vF s2).1];exact h0
        have hl3:(T.drop (xF T s2).i).length+1=(T.drop s2.i).length:=by
         have e2:=bM hT hi hk;rw[e2] at hi3;rw[e2,xtw28,xtw28]
         simp only at hi3 ⊢
         omega
        clear e1;generalize xF T s2=s3 at *;have hha:=jh1 hT L g3 s3 hi3 he3;rw[jga (show L.Perm hs by rw[gL];exact wX hs)] at hha;conv=>whnf
        refine zA 1 0 (cA:=wR T (s2)) rfl rfl (xtw37 _) rfl rfl (hx).v (fun _ _ h=>h.elim) ?_;rintro c r ⟨rfl,rfl⟩;conv=>whnf
        rw[xtw1 he3];conv=>whnf
        refine zA 1 0 (cA:=wR T s3) rfl rfl (xtw37 _) rfl rfl hha.v (fun _ _ h=>h.elim) ?_;rintro c r ⟨s4,k,rfl,rfl,hk0,hk1,hdh⟩;conv=>whnf
        refine zA 1 0 (cA:=wR T s4) rfl rfl (xtw37 _) rfl rfl (jkb hT s4 hdh.1).v (fun _ _ h=>h.elim) ?_;rintro c r ⟨s5,b,hq,rfl,rfl⟩;conv=>whnf
        refine jY [] (ju8 L (k,b) g3) ?_;rintro r rfl;conv=>whnf
        obtain⟨z1,z2⟩:=jjQ hT hi3 hdh hq hP;refine⟨(m,hs++[(k,b)],g9 (k,b) L,s5),jD [0,1,2] ?_,⟨hq.1,?_,fun e=>?_,z2⟩,?_⟩
        ·conv=>whnf
         repeat' constructor
        ·simp only
         rw[(aK (k,b) L).length_eq,gL,xtw6,(wX hs).length_eq]
         have:0<(T.drop s2.i).length:=by rw[xtw28];omega
         omega
        ·obtain⟨y1,y2,y3⟩:=z1 e
         have hnd:((hs++[(k,b)]).map (·.1)).Nodup:=by
          rw[xtw59,xtw115];refine⟨gnd,by simp,fun a ha c hc e=>?_⟩;simp at hc;subst hc;obtain⟨q,hq,rfl⟩:=xtw60.1 ha;exact y2 q hq e.symm
         refine⟨by simp only;omega,hnd,by simp only;rw[gL];exact jbY hnd,by simp only[xtw4,xtw6,xtw8];omega,y3⟩
        ·simp only
         rw[xtw3 h0];by_cases e2:s5.e=0
         ·rw[xtw3 e2];have:=(z1 e2).1;omega
         ·rw[xtw2 e2];omega
       ·rw[xtw3 (xtw0 hon)] at hP
        have e1:bV T s2 wOn=⟨s2.i,(qH T s2).pos,10⟩:=by unfold bV;rw[xtw3 h0,xtw2 hon]
        rw[e1] at hx;conv=>whnf
        refine zA 1 0 (cA:=wR T (s2)) rfl rfl (xtw37 _) rfl rfl (hx).v (fun _ _ h=>h.elim) ?_;rintro c r ⟨rfl,rfl⟩;conv=>whnf
        subst hP;rfl
     ·rw[xtw0 h0];conv=>whnf
      rw[xtw0 h0];conv=>whnf
      rw[g5 h0];rfl
  ·rw[xtw0 h0];conv=>whnf
   clear g3;refine qU 67 5 [] [(2,2)] ?_;conv=>whnf
   refine⟨trivial,?_⟩;conv=>whnf
   refine xM [3] ?_;conv=>whnf
   refine nC [0,1,2] ?_;conv=>whnf
   refine jA [2,8,9] ?_;conv=>whnf
   refine jE (fun x:Nat×List (Int×Nt)×List (Int×Nt)×S6=>[]) (fun x=>[eF,wR T x.2.2.2++[.own 0],[.own 1,.own 2,.sl 5 x.2.2.1.length (zV x.2.2.1)]]) (fun x=>[.live 9 1 nm.length (xA nm),.live 9 1 du.length (xA du),.live 9 1 vo.length (xA vo)])
    (fun x=>x.2.2.2.i<T.length/\x.2.2.1.length<=1000000/\(x.2.2.2.e=0->(T.drop x.2.2.2.i).length+1<=x.1/\(x.2.1.map (·.1)).Nodup/\x.2.2.1=vX x.2.1/\x.2.1.length+(T.drop x.2.2.2.i).length<=1000000/\s8 du vo x.1 x.2.1 (T.drop x.2.2.2.i)=R)/\(x.2.2.2.e≠0->R=.bad x.2.2.2.a x.2.2.2.e)) (fun x=>if x.2.2.2.e=0 then(T.drop x.2.2.2.i).length+1 else 0) (0,[],[],s1) ?_ ⟨hi,xtw19 _,fun e=>absurd e h0,g4⟩ ?_
   ·repeat' constructor
    show A.sl _ _ _=A.sl 5 0 (zV []);rw[aW]
   clear g4;rintro⟨n,hs,L,s2⟩ ⟨hi,g3,g4,g5⟩
   simp only at hi g3 g4 g5
   conv=>whnf
   by_cases h0:s2.e=0
   ·rw[xtw1 h0];obtain⟨hn,gnd,gL,g6,hP⟩:=g4 h0
    obtain⟨m,rfl⟩:∃m,n=m+1:=⟨n-1,by omega⟩
    rw[ja7] at hP;have hrow:=xW T s2.i hi;have htx0:hd (T.drop s2.i)=qH T s2:=rfl;rw[htx0] at hP hrow;conv=>whnf
    (refine cR ?_;try with_reducible exact trivial)
    (generalize hrq:jC _ _ (z8 T)=rq;obtain rfl:rq=cT (qH T s2):=hrq.symm.trans (hrow);clear hrq;conv=>whnf)
    by_cases hk:(qH T s2).kind=0
    ·rw[xtw1 hk];rw[xtw3 hk] at hP;conv=>whnf
     rw[xtw1 h0];conv=>whnf
     subst hP;rw[gL];rfl
    ·rw[xtw0 hk];rw[xtw2 hk,zC hT hi (w:=wOn) (xT (by decide))] at hP;have hx:=qO hT hi wOn;by_cases hon:(qH T s2).text=wOn
     ·rw[xtw2 (by rw[xtw1 hon];simp),<- zF hT hi hk] at hP
      have e1:bV T s2 wOn=xF T s2:=by unfold bV;rw[xtw3 h0,xtw3 hon]
      rw[e1] at hx;have hi3:=nJ hi
      have he3:(xF T s2).e=0:=by rw[(vF s2).1];exact h0
      have hl3:(T.drop (xF T s2).i).length+1=(T.drop s2.i).length:=by
       have e2:=bM hT hi hk;rw[e2] at hi3;rw[e2,xtw28,xtw28]
       simp only at hi3 ⊢
       omega
      clear e1;generalize xF T s2=s3 at *;have hha:=jh1 hT L g3 s3 hi3 he3;rw[jga (show L.Perm hs by rw[gL];exact wX hs)] at hha;conv=>whnf
      refine zA 1 0 (cA:=wR T (s2)) rfl rfl (xtw37 _) rfl rfl (hx).v (fun _ _ h=>h.elim) ?_;rintro c r ⟨rfl,rfl⟩;conv=>whnf
      rw[xtw1 he3];conv=>whnf
      refine zA 1 0 (cA:=wR T s3) rfl rfl (xtw37 _) rfl rfl hha.v (fun _ _ h=>h.elim) ?_;rintro c r ⟨s4,k,rfl,rfl,hk0,hk1,hdh⟩;conv=>whnf
      refine zA 1 0 (cA:=wR T s4) rfl rfl (xtw37 _) rfl rfl (jkb hT s4 hdh.1).v (fun _ _ h=>h.elim) ?_;rintro c r ⟨s5,b,hq,rfl,rfl⟩;conv=>whnf
      refine jY [] (ju8 L (k,b) g3) ?_;rintro r rfl;conv=>whnf
      obtain⟨z1,z2⟩:=jjQ hT hi3 hdh hq hP;refine⟨(m,hs++[(k,b)],g9 (k,b) L,s5),jD [0,1,2] ?_,⟨hq.1,?_,fun e=>?_,z2⟩,?_⟩
      ·conv=>whnf
       repeat' constructor
      ·simp only
       rw[(aK (k,b) L).length_eq,gL,xtw6,(wX hs).length_eq]
       have:0<(T.drop s2.i).length:=by rw[xtw28];omega
       omega
      ·obtain⟨y1,y2,y3⟩:=z1 e
       have hnd:((hs++[(k,b)]).map (·.1)).Nodup:=by
        rw[xtw59,xtw115];refine⟨gnd,by simp,fun a ha c hc e=>?_⟩;simp at hc;subst hc;obtain⟨q,hq,rfl⟩:=xtw60.1 ha;exact y2 q hq e.symm
       refine⟨by simp only;omega,hnd,by simp only;rw[gL];exact jbY hnd,by simp only[xtw4,xtw6,xtw8];omega,y3⟩
      ·simp only
       rw[xtw3 h0];by_cases e2:s5.e=0
       ·rw[xtw3 e2];have:=(z1 e2).1;omega
       ·rw[xtw2 e2];omega
     ·rw[xtw3 (xtw0 hon)] at hP
      have e1:bV T s2 wOn=⟨s2.i,(qH T s2).pos,10⟩:=by unfold bV;rw[xtw3 h0,xtw2 hon]
      rw[e1] at hx;conv=>whnf
      refine zA 1 0 (cA:=wR T (s2)) rfl rfl (xtw37 _) rfl rfl (hx).v (fun _ _ h=>h.elim) ?_;rintro c r ⟨rfl,rfl⟩;conv=>whnf
      subst hP;rfl
   ·rw[xtw0 h0];conv=>whnf
    rw[xtw0 h0];conv=>whnf
    rw[g5 h0];rfl
theorem jhJ:Wk (.agg eG) (sE [] zE 0 0):=by
 unfold eG sE pgL;rw[rS];exact .agg (.cons (.nil 2) (WkL.refl _))
def CmpW(u:Ut)(c:List Ic)(e:Nat->Int)(du vo E:Int):Prop:=c.length<=400/\Wk (jcu u) (.tup [sE c e du vo,intA E])
theorem jmj(u:Ut):∃(c:List Ic) (e:Nat->Int) (du vo E:Int),CmpW u c e du vo E:=by
 unfold CmpW jcu;by_cases h:u5 u=0
 ·rw[xtw3 h];refine⟨_,_,_,_,_,?_,.refl _⟩;unfold u5 at h;by_cases hb:400<(yZ u).1.length
  ·rw[xtw3 hb] at h;cases h
  ·omega
 ·rw[xtw2 h];exact⟨[],zE,0,0,u5 u,by decide,.tup (.cons jhJ (WkL.refl _))⟩
theorem CmpW.prog{u:Ut}(hu:WfU u)(hz:pP u.on<=900000){c:List Ic}{e:Nat->Int}{du vo E:Int}(h:CmpW u c e du vo E):Spec Tryz.prog 12 [] [.agg (cO u)] fun _ r=>r=.tup [sE c e du vo,intA E] :=
 (rK u hu hz).weaken fun o r hr=>⟨o,_,rfl,WkB.refl o,by rw[hr];exact h.2⟩
theorem jfg:Spec Tryz.prog 51 [] [] fun _ r=>∃l:List ByteArray,l.length=12/\(∀s∈l,s.size<=1000)/\r=.sl 1 12 (xA l):=by
 refine eN jK jT 0 Tryz.func51 rfl ?_;intro _;conv=>whnf
 refine⟨[_,_,_,_,_,_,_,_,_,_,_,_],rfl,?_,rfl⟩;intro s hs;simp only[xtw13,xtw42,xtw81] at hs;rcases hs with h|h|h|h|h|h|h|h|h|h|h|h
 all_goals(rw[h];decide)
theorem jhh(n:Int):Spec Tryz.prog 15 [] [intA n] fun _ r=>∃s:ByteArray,s.size<=1000/\r=jJ s:=by
 have hso:=jfg;have har:=xZ n 12 (by decide);refine eN jK jT 0 Tryz.func15 rfl ?_;intro _;conv=>whnf
 refine jY [] hso ?_;rintro r ⟨l,hl,hs,rfl⟩;conv=>whnf
 refine jY [] har ?_;rintro r ⟨hi,rfl⟩;have hr:=iF (m:=12) hi (by decide);clear hi har;generalize xR n 12=j at *
 have hj:j.toNat<l.length:=by omega
 have hrow:=bJ l j.toNat hj;conv=>whnf
 refine⟨hr,?_⟩;conv=>whnf
 (generalize hrq:jC _ _ (xA l)=rq;obtain rfl:rq=[jJ l[j.toNat]]:=hrq.symm.trans (hrow);clear hrq;conv=>whnf)
 exact⟨_,hs _ (xtw10 hj),rfl⟩
theorem CmpW.ref{u:Ut}(hu:WfU u)(hz:pP u.on<=900000){c:List Ic}{e:Nat->Int}{du vo E:Int}(h:CmpW u c e du vo E):Spec Tryz.prog 13 [] [.agg (cO u)] fun _ r=>r=.tup [sE c e du vo,intA E] :=
 (jnw u hu hz).weaken fun o r hr=>⟨o,_,rfl,WkB.refl o,by rw[hr];exact h.2⟩
def inB(l:List ByteArray)(s:ByteArray):Bool:=l.any fun x=>decide (x=s)
theorem jpb{l:List ByteArray}{s:ByteArray}{j:Nat}(hj:j<l.length)(h:l[j]=s):inB l s=true:=xtw34.2 ⟨_,xtw10 hj,xtw1 h⟩
theorem jrT{l:List ByteArray}{s:ByteArray}(h:∀i (h:i<l.length),l[i]≠s):inB l s=false:=by
 unfold inB;rw[xtw124];intro x hx;obtain⟨i,hi,rfl⟩:=xtw67.1 hx;simpa using h i hi
theorem inB_mem{l:List ByteArray}{s:ByteArray}:inB l s=true↔s∈l:=by
 unfold inB;rw[xtw34];exact⟨fun ⟨x,h1,h2⟩=>by rw[xtw17] at h2;rw[<- h2];exact h1,fun h=>⟨s,h,xtw1 rfl⟩⟩
theorem tU(l:List ByteArray)(s:ByteArray)(hl:l.length<=10000000):Spec Tryz.prog 109 [] [.sl 1 l.length (xA l),jJ s] fun _ r=>r=qA (inB l s):=by
 refine eN jK jT 0 Tryz.func109 rfl ?_;intro _;conv=>whnf
 refine jA [0,1] ?_;conv=>whnf
 refine jE (fun j:Nat=>[(5,.v (.int .i64 j))]) (fun _=>[]) (fun _=>[]) (fun j=>j<=l.length/\∀i (h:i<l.length),i<j->l[i]≠s) (fun j=>l.length-j) 0 ?_ ⟨xtw19 _,fun i h h2=>by omega⟩ ?_
 ·repeat' constructor
 rintro j ⟨hj,hn⟩;conv=>whnf
 rcases xtw36 j l.length with hlt|hge
 ·have hrow:=bJ l j hlt;rw[xtw1 (show(j:Int)<(l.length:Int) by omega)];conv=>whnf
  refine⟨show(0:Int)<=(j:Int)/\(j:Int)<(l.length:Nat) from ⟨by omega,by omega⟩,?_⟩;conv=>whnf
  (generalize hrq:jC _ _ (xA l)=rq;obtain rfl:rq=[jJ l[j]]:=hrq.symm.trans (hrow);clear hrq;conv=>whnf)
  by_cases he:l[j]=s
  ·rw[xtw1 he,jpb hlt he];conv=>whnf
   rfl
  rw[xtw0 he];conv=>whnf
  refine jN j (by omega) ?_;conv=>whnf
  refine⟨j+1,jD [] ?_,⟨show j+1<=l.length by omega,fun i h h2=>?_⟩,show l.length-(j+1)<l.length-j by omega⟩
  ·conv=>whnf
   repeat' constructor
  ·by_cases q:i=j
   ·subst q;exact he
   ·exact hn i h (by omega)
 rw[jrT fun i h=>hn i h (by omega)];rw[xtw0 (show ¬(j:Int)<(l.length:Int) by omega)];conv=>whnf
 rfl
theorem jiN(s:ByteArray):Spec Tryz.prog 141 [] [jJ s] fun _ r=>r=qA (inB dD s):=by
 have h:=tU dD s (by decide);refine eN jK jT 0 Tryz.func141 rfl ?_;intro _;conv=>whnf
 refine jY [0] h ?_;rintro r rfl;conv=>whnf
 rfl
def uZ(f:Nt):Int:=xO (toD f)
theorem jow(o:Int)(l:List Nt):wJ o (eC l)=l.any fun f=>decide (uZ f≠o):=by
 rw[jbw,jcc,List.any_map]
 congr 1
 funext f;show(uZ f != o)=_;by_cases h:uZ f=o
 ·simp[h]
 ·simp[h]
theorem jja{o:Int}{l:List Nt}{j:Nat}(hj:j<l.length)(h:uZ l[j]≠o):wJ o (eC l)=true:=by
 rw[jow];exact xtw34.2 ⟨_,xtw10 hj,xtw1 h⟩
theorem jj9{o:Int}{l:List Nt}(h:∀i (h:i<l.length),uZ l[i]=o):wJ o (eC l)=false:=by
 rw[jow,xtw124];intro x hx;obtain⟨i,hi,rfl⟩:=xtw67.1 hx;simpa using h i hi
def TyC(f:Nt):Prop:=Spec Tryz.prog 108 [] [.agg (ntA f)] fun _ r=>r=intA (uZ f)
theorem jsO(k n:Int)(s:ByteArray)(kids:List Nt)(h:k=17∨k=18)(o r:Int)(hs:pO (k==18) s=(o,r)):uZ (.mk k n s kids)=if wJ o (eC kids)=true then 0 else r:=by
 unfold uZ toD xO;rw[xtw2 (by omega),xtw2 (by omega),xtw3 h,hs]
theorem jq7(k n:Int)(s:ByteArray)(kids:List Nt)(hw:eJ (.mk k n s kids))(hx:12<=k)(ih:∀x∈kids,TyC x):TyC (.mk k n s kids):=by
 unfold eJ at hw;obtain⟨ha,-,-⟩:=hw;have hm:=sP ha;have hin:=tU [yW,sD] s (by decide);have hcm:=jiN s;unfold arN at ha
 show Spec Tryz.prog 108 [] [.agg [intA k,intA n,jJ s,.sl 4 kids.length (jQ kids)]] fun _ r=>r=intA (uZ (.mk k n s kids))
 have hty:∀o r,pO (k==18) s=(o,r)/\(k=17∨k=18)∨k=16/\o=1/\r=1->uZ (.mk k n s kids)=if wJ o (eC kids)=true then 0 else r:=fun o r h=>by
  rcases h with ⟨h,hk⟩|⟨rfl,rfl,rfl⟩
  ·exact jsO k n s kids hk o r h
  ·rfl
 by_cases h11:k=11
 ·omega
 rw[xtw2 h11] at ha;by_cases h0:k=12∨k=13∨k=14∨k=5∨k=6∨k=7∨k=10
 ·rcases h0 with rfl|rfl|rfl|h|h|h|h
  ·refine eN jK jT 0 Tryz.func108 rfl ?_;intro _;conv=>whnf
   rfl
  ·refine eN jK jT 0 Tryz.func108 rfl ?_;intro _;conv=>whnf
   rfl
  ·refine eN jK jT 0 Tryz.func108 rfl ?_;intro _;conv=>whnf
   rfl
  all_goals omega
 rw[xtw2 h0] at ha;by_cases h15:k=15
 ·subst h15;refine eN jK jT 0 Tryz.func108 rfl ?_;intro _;conv=>whnf
  rfl
 rw[xtw2 h15] at ha;by_cases h1:k=16∨k=1∨k=9
 ·obtain rfl:k=16:=by omega
  obtain⟨o,ho⟩:∃o:Int,o=1:=⟨_,rfl⟩
  obtain⟨r0,hr⟩:∃r:Int,r=1:=⟨_,rfl⟩
  have hop:pO ((16:Int)==18) s=(o,r0)/\((16:Int)=17∨(16:Int)=18)∨(16:Int)=16/\o=1/\r0=1:=.inr ⟨rfl,ho,hr⟩;clear ha;refine eN jK jT 0 Tryz.func108 rfl ?_;intro _;conv=>whnf
  refine jA [1,3,4] ?_;conv=>whnf
  refine jE (fun j:Nat=>[(5,.v (.int .i64 j))]) (fun _=>[[intA 16,intA n,jJ s,.sl 4 kids.length (jQ kids)]]) (fun _=>[]) (fun j=>j<=kids.length/\∀i (h:i<kids.length),i<j->uZ kids[i]=o) (fun j=>kids.length-j) 0 ?_ ⟨xtw19 _,fun i h h2=>by omega⟩ ?_
  ·repeat' constructor
  rintro j ⟨hj,hn⟩;conv=>whnf
  rcases xtw36 j kids.length with hlt|hge
  ·have hrow:=jR kids j hlt;have hsp:=ih kids[j] (xtw10 hlt);unfold TyC at hsp;rw[xtw1 (show(j:Int)<(kids.length:Int) by omega)];conv=>whnf
   refine⟨show(0:Int)<=(j:Int)/\(j:Int)<(kids.length:Nat) from ⟨by omega,by omega⟩,?_⟩;conv=>whnf
   (generalize hrq:jC _ _ (jQ kids)=rq;obtain rfl:rq=ntA kids[j]:=hrq.symm.trans (hrow);clear hrq;conv=>whnf)
   refine jY [] hsp ?_;rintro r rfl;by_cases he:uZ kids[j]=o
   ·conv=>whnf
    rw[xtw1]
    rotate_left
    ·omega
    conv=>whnf
    refine jN j (by omega) ?_;conv=>whnf
    refine⟨j+1,jD [] ?_,⟨show j+1<=kids.length by omega,fun i h h2=>?_⟩,show kids.length-(j+1)<kids.length-j by omega⟩
    ·conv=>whnf
     repeat' constructor
    ·by_cases q:i=j
     ·subst q;exact he
     ·exact hn i h (by omega)
   ·have hb:=hty _ _ hop;rw[jja hlt he,xtw3 rfl] at hb;conv=>whnf
    rw[xtw0]
    rotate_left
    ·omega
    conv=>whnf
    rw[hb];rfl
  have hb:=hty _ _ hop;rw[jj9 fun i h=>hn i h (by omega),xtw2 (by decide)] at hb;rw[xtw0 (show ¬(j:Int)<(kids.length:Int) by omega)];conv=>whnf
  rw[hb,hr];rfl
 rw[xtw2 h1] at ha;by_cases h17:k=17
 ·rw[xtw3 h17,xtw14,xtw72,xtw17,xtw17,xtw17] at ha;subst h17;obtain⟨-,ha⟩:=ha
  obtain⟨o,ho⟩:∃o:Int,o=if s=bU then 2 else 1:=⟨_,rfl⟩
  obtain⟨r0,hr⟩:∃r:Int,r=if s=bU then 2 else 1:=⟨_,rfl⟩
  have hop:pO ((17:Int)==18) s=(o,r0)/\((17:Int)=17∨(17:Int)=18)∨(17:Int)=16/\o=1/\r0=1:=.inl ⟨by rw[ho,hr];rcases ha with rfl|rfl <;> decide,.inl rfl⟩;refine eN jK jT 0 Tryz.func108 rfl ?_;intro _;conv=>whnf
  rcases(show s=bU∨¬s=bU from Decidable.em _) with hs|hs;rw[show decide (s=⟨#[33]⟩)=true from xtw1 hs];rw[xtw3 hs] at ho hr
  rotate_left
  rw[show decide (s=⟨#[33]⟩)=false from xtw0 hs];rw[xtw2 hs] at ho hr
  all_goals
   conv=>whnf
   refine jA [1,3,4] ?_;conv=>whnf
   refine jE (fun j:Nat=>[(5,.v (.int .i64 j))]) (fun _=>[[intA 17,intA n,jJ s,.sl 4 kids.length (jQ kids)]]) (fun _=>[]) (fun j=>j<=kids.length/\∀i (h:i<kids.length),i<j->uZ kids[i]=o) (fun j=>kids.length-j) 0 ?_ ⟨xtw19 _,fun i h h2=>by omega⟩ ?_
   ·repeat' constructor
   rintro j ⟨hj,hn⟩;conv=>whnf
   rcases xtw36 j kids.length with hlt|hge
   ·have hrow:=jR kids j hlt;have hsp:=ih kids[j] (xtw10 hlt);unfold TyC at hsp;rw[xtw1 (show(j:Int)<(kids.length:Int) by omega)];conv=>whnf
    refine⟨show(0:Int)<=(j:Int)/\(j:Int)<(kids.length:Nat) from ⟨by omega,by omega⟩,?_⟩;conv=>whnf
    (generalize hrq:jC _ _ (jQ kids)=rq;obtain rfl:rq=ntA kids[j]:=hrq.symm.trans (hrow);clear hrq;conv=>whnf)
    refine jY [] hsp ?_;rintro r rfl;by_cases he:uZ kids[j]=o
    ·conv=>whnf
     rw[xtw1]
     rotate_left
     ·omega
     conv=>whnf
     refine jN j (by omega) ?_;conv=>whnf
     refine⟨j+1,jD [] ?_,⟨show j+1<=kids.length by omega,fun i h h2=>?_⟩,show kids.length-(j+1)<kids.length-j by omega⟩
     ·conv=>whnf
      repeat' constructor
     ·by_cases q:i=j
      ·subst q;exact he
      ·exact hn i h (by omega)
    ·have hb:=hty _ _ hop;rw[jja hlt he,xtw3 rfl] at hb;conv=>whnf
     rw[xtw0]
     rotate_left
     ·omega
     conv=>whnf
     rw[hb];rfl
   have hb:=hty _ _ hop;rw[jj9 fun i h=>hn i h (by omega),xtw2 (by decide)] at hb;rw[xtw0 (show ¬(j:Int)<(kids.length:Int) by omega)];conv=>whnf
   rw[hb,hr];rfl
 rw[xtw2 h17] at ha;by_cases h18:k=18
 ·rw[xtw3 h18,xtw14] at ha;subst h18;have hmem:=jem ha.2;clear ha
  obtain⟨o,ho⟩:∃o:Int,o=if inB [yW,sD] s=true then 2 else 1:=⟨_,rfl⟩
  obtain⟨r0,hr⟩:∃r:Int,r=if inB [yW,sD] s=true then 2 else if inB dD s=true then 2 else 1:=⟨_,rfl⟩
  have hsg:pO ((18:Int)==18) s=(o,r0):=by
   rw[ho,hr];unfold opAll at hmem;simp only[xtw13,xtw42,xtw81] at hmem;rcases hmem with rfl|rfl|rfl|rfl|rfl|rfl|rfl|rfl|rfl|rfl|rfl|rfl
   all_goals decide
  have hop:pO ((18:Int)==18) s=(o,r0)/\((18:Int)=17∨(18:Int)=18)∨(18:Int)=16/\o=1/\r0=1:=.inl ⟨hsg,.inr rfl⟩
  cases b1:inB [yW,sD] s <;> cases b2:inB dD s
  all_goals
   rw[b1] at ho hr hin;rw[b2] at hr hcm;simp only[xtw127,if_false,Bool.false_eq_true] at ho hr;refine eN jK jT 0 Tryz.func108 rfl ?_;intro _;conv=>whnf
   refine jY [0] hin ?_;rintro r rfl;conv=>whnf
   refine jY [] hcm ?_;rintro r rfl;conv=>whnf
   refine jA [1,3,4] ?_;conv=>whnf
   refine jE (fun j:Nat=>[(5,.v (.int .i64 j))]) (fun _=>[[intA 18,intA n,jJ s,.sl 4 kids.length (jQ kids)]]) (fun _=>[]) (fun j=>j<=kids.length/\∀i (h:i<kids.length),i<j->uZ kids[i]=o) (fun j=>kids.length-j) 0 ?_ ⟨xtw19 _,fun i h h2=>by omega⟩ ?_
   ·repeat' constructor
   rintro j ⟨hj,hn⟩;conv=>whnf
   rcases xtw36 j kids.length with hlt|hge
   ·have hrow:=jR kids j hlt;have hsp:=ih kids[j] (xtw10 hlt);unfold TyC at hsp;rw[xtw1 (show(j:Int)<(kids.length:Int) by omega)];conv=>whnf
    refine⟨show(0:Int)<=(j:Int)/\(j:Int)<(kids.length:Nat) from ⟨by omega,by omega⟩,?_⟩;conv=>whnf
    (generalize hrq:jC _ _ (jQ kids)=rq;obtain rfl:rq=ntA kids[j]:=hrq.symm.trans (hrow);clear hrq;conv=>whnf)
    refine jY [] hsp ?_;rintro r rfl;by_cases he:uZ kids[j]=o
    ·conv=>whnf
     rw[xtw1]
     rotate_left
     ·omega
     conv=>whnf
     refine jN j (by omega) ?_;conv=>whnf
     refine⟨j+1,jD [] ?_,⟨show j+1<=kids.length by omega,fun i h h2=>?_⟩,show kids.length-(j+1)<kids.length-j by omega⟩
     ·conv=>whnf
      repeat' constructor
     ·by_cases q:i=j
      ·subst q;exact he
      ·exact hn i h (by omega)
    ·have hb:=hty _ _ hop;rw[jja hlt he,xtw3 rfl] at hb;conv=>whnf
     rw[xtw0]
     rotate_left
     ·omega
     conv=>whnf
     rw[hb];rfl
   have hb:=hty _ _ hop;rw[jj9 fun i h=>hn i h (by omega),xtw2 (by decide)] at hb;rw[xtw0 (show ¬(j:Int)<(kids.length:Int) by omega)];conv=>whnf
   rw[hb,hr];rfl
 rw[xtw2 h18] at ha;by_cases h8:k=8∨k=3
 ·omega
 rw[xtw2 h8] at ha;by_cases h2:k=2∨k=4
 ·omega
 rw[xtw2 h2] at ha;cases ha
theorem jqB{k:Int}{l:List Nt}(hc:clN k l=true)(hk:k≠11/\k≠2/\k≠3){f:Nt}(hf:f∈l):isX f=true:=by
 rw[jmf hk,xtw65] at hc;exact hc f hf
theorem jfi:∀f:Nt,eJ f->isX f=true->TyC f
 |.mk k n s kids,hw,hx=>by
  have hx':12<=k:=xtw23 hx
  refine jq7 k n s kids hw hx' fun x hx2=>?_
  have h2:=hw;unfold eJ at h2;exact jfi x (xQ h2.2.1 hx2) (jqB h2.2.2 (by omega) hx2)
mutual
def ocN(x:ByteArray):Nt->Prop
 |.mk k _ s kids=>(k=1∨k=14)/\x=s∨i6 x kids
def i6(x:ByteArray):List Nt->Prop
 |[]=>False
 |f::l=>ocN x f∨i6 x l
end
theorem jeV(x:ByteArray):∀l:List Nt,i6 x l↔∃f∈l,ocN x f
 |[]=>by unfold i6;simp
 |f::l=>by unfold i6;rw[jeV x l];simp
theorem jl9(x:ByteArray)(l:List Nt)(j:Nat)(hj:j<l.length):i6 x (l.take (j+1))↔i6 x (l.take j)∨ocN x l[j]:=by
 rw[jeV,jeV,xtw26 hj];simp only[xtw30,xtw16];constructor
 ·rintro⟨f,h1|rfl,h2⟩
  ·exact .inl ⟨f,h1,h2⟩
  ·exact .inr h2
 ·rintro (⟨f,h1,h2⟩|h)
  ·exact⟨f,.inl h1,h2⟩
  ·exact⟨_,.inr rfl,h⟩
def NmP(l out:List ByteArray)(P:ByteArray->Prop)(z:Nat):Prop:=(∀x,x∈out↔x∈l∨P x)/\out.length<=l.length+z
def NmC(f:Nt):Prop:=∀l:List ByteArray,l.length+zN f<=1000000->Spec Tryz.prog 66 [] [.agg (ntA f),.sl 1 l.length (xA l)] fun _ r=>∃out,r=.sl 1 out.length (xA out)/\NmP l out (ocN · f) (zN f)
theorem NmP.step{l c d:List ByteArray}{P Q:ByteArray->Prop}{y z:Nat}(h1:NmP l c P y)(h2:NmP c d Q z):NmP l d (fun x=>P x∨Q x) (y+z):=⟨fun x=>by rw[h2.1,h1.1,or_assoc],by have:=h1.2;have:=h2.2;omega⟩
theorem NmP.ext{l c:List ByteArray}{P Q:ByteArray->Prop}{y z:Nat}(h1:NmP l c P y)(h:∀x,P x↔Q x)(hz:y<=z):NmP l c Q z:=⟨fun x=>by rw[h1.1,h],by have:=h1.2;omega⟩
theorem jc5:∀(l:List Nt) (j:Nat) (h:j<l.length),qX (l.take j)+zN l[j]=qX (l.take (j+1))
 |f::l,0,h=>by show 0+zN f=zN f+0;omega
 |f::l,j+1,h=>by
  have hj:j<l.length:=by simpa using h
  have:=jc5 l j hj;show zN f+qX (l.take j)+zN (l[j]'hj)=zN f+qX (l.take (j+1));omega
theorem jpp{l:List ByteArray}{P:ByteArray->Prop}(h:∀x,P x->x∈l):NmP l l (fun y=>P y∨i6 y ([]:List Nt)) (1+0):=⟨fun x=>⟨.inl,fun h2=>h2.elim id fun h2=>h2.elim (h x) fun h=>h.elim⟩,by omega⟩
theorem js4{l:List ByteArray}{P:ByteArray->Prop}{s:ByteArray}(h:∀x,P x↔x=s):NmP l (l++[s]) (fun y=>P y∨i6 y ([]:List Nt)) (1+0):=⟨fun x=>by
 show _↔x∈l∨P x∨i6 x [];rw[xtw30,xtw16,h]
 exact⟨fun h=>h.elim .inl fun h=>.inr (.inl h),fun h=>h.elim .inl fun h=>h.elim .inr fun h=>h.elim⟩,by rw[xtw4,xtw31];omega⟩
theorem jpq(k n:Int)(s:ByteArray)(kids:List Nt)(hm:kids.length<=3002)(ih:∀x∈kids,NmC x):NmC (.mk k n s kids):=by
 intro l hl;have hz:zN (.mk k n s kids)=3+qX kids:=rfl;have hin:=tU l s (by omega);rw[hz] at hl
 show Spec _ _ _ [.agg [intA k,intA n,jJ s,.sl 4 kids.length (jQ kids)],_] fun _ r=>∃out,r=.sl 1 out.length (xA out)/\NmP l out (fun y=>(k=1∨k=14)/\y=s∨i6 y kids) (3+qX kids)
 obtain⟨l0,hl0⟩:∃l0,l0=if (k=1∨k=14)/\inB l s=false then l++[s] else l:=⟨_,rfl⟩
 have h0:NmP l l0 (fun y=>(k=1∨k=14)/\y=s∨i6 y ([]:List Nt)) (1+0):=by
  rw[hl0];split
  ·rename_i h
   exact js4 fun x=>⟨fun h=>h.2,fun h2=>⟨h.1,h2⟩⟩
  ·rename_i h
   exact jpp fun x h2=>by
    rw[h2.2];cases hb:inB l s
    ·exact absurd ⟨h2.1,hb⟩ h
    ·exact inB_mem.1 hb
 cases hb:inB l s
 all_goals
  rw[hb] at hin;refine eN jK jT 0 Tryz.func66 rfl ?_;intro _;conv=>whnf
  rcases(show k=1∨k=14∨¬(k=1∨k=14) by omega) with hk1|hk1|hk1;rw[xtw1 hk1]
  rotate_left
  rw[xtw0 (show ¬k=1 by omega)];conv=>whnf
  rw[xtw1 hk1]
  rotate_left
  rw[xtw0 (show ¬k=1 by omega)];conv=>whnf
  rw[xtw0 (show ¬k=14 by omega)]
  all_goals
   simp[hk1,hb] at hl0;conv=>whnf
   try (refine jY [] hin ?_;rintro r rfl;(conv=>whnf))
   try (refine⟨⟨by unfold maxLen;omega,by omega⟩,?_⟩;(conv=>whnf);refine⟨⟨by unfold maxLen;omega,by omega⟩,?_⟩;(conv=>whnf);refine xM [1] ?_;(conv=>whnf))
   refine jA [2] ?_;conv=>whnf
   refine jE (fun x:Nat×List ByteArray=>[(1,.sl 1 x.2.length (xA x.2)),(6,.v (.int .i64 x.1))]) (fun _=>[[intA k,intA n,jJ s,.sl 4 kids.length (jQ kids)]]) (fun _=>[]) (fun x=>x.1<=kids.length/\NmP l x.2 (fun y=>(k=1∨k=14)/\y=s∨i6 y (kids.take x.1)) (1+qX (kids.take x.1))) (fun x=>kids.length-x.1) (0,l0) ?_ ⟨xtw19 _,h0⟩ ?_
   ·repeat' constructor
    all_goals(show A.sl _ _ _=A.sl _ _ _;rw[hl0];first|done|(unfold xA;simp;try rfl))
   rintro⟨j,c⟩ ⟨hj,hc⟩
   simp only at hj hc
   conv=>whnf
   rcases xtw36 j kids.length with hlt|hge
   ·have hrow:=jR kids j hlt;have hz1:=mW kids j hlt;have hsp:=ih kids[j] (xtw10 hlt) c (by have:=hc.2;omega);rw[xtw1 (show(j:Int)<(kids.length:Int) by omega)];conv=>whnf
    refine⟨show(0:Int)<=(j:Int)/\(j:Int)<(kids.length:Nat) from ⟨by omega,by omega⟩,?_⟩;conv=>whnf
    (generalize hrq:jC _ _ (jQ kids)=rq;obtain rfl:rq=ntA kids[j]:=hrq.symm.trans (hrow);clear hrq;conv=>whnf)
    refine jY [] hsp ?_;rintro r ⟨out,rfl,ho⟩;conv=>whnf
    refine jN j (by omega) ?_;conv=>whnf
    refine⟨(j+1,out),jD [] ?_,⟨show j+1<=kids.length by omega,(hc.step ho).ext (fun y=>?_) ?_⟩,show kids.length-(j+1)<kids.length-j by omega⟩
    ·conv=>whnf
     repeat' constructor
    ·show _↔_∨i6 y (kids.take (j+1));rw[jl9 y kids j hlt,or_assoc]
    ·show _<=1+qX (kids.take (j+1));have:=jc5 kids j hlt;omega
   obtain rfl:j=kids.length:=by omega
   rw[xtw54] at hc;rw[xtw0 (show ¬((kids.length:Nat):Int)<(kids.length:Int) by omega)];conv=>whnf
   exact⟨c,rfl,hc.ext (fun y=>Iff.rfl) (by omega)⟩
theorem jn5:∀f:Nt,eJ f->NmC f
 |.mk k n s kids,hw=>by
  unfold eJ at hw
  exact jpq k n s kids (sP hw.1) fun x hx=>jn5 x (xQ hw.2.1 hx)
theorem js5(f:Nt)(hw:eJ f)(hz:zN f<=1000000):Spec Tryz.prog 66 [] [.agg (ntA f),.v (.slice none 0 0)] fun _ r=>∃out,r=.sl 1 out.length (xA out)/\NmP [] out (ocN · f) (zN f):=by
 refine jly (args:=[.agg (ntA f),.sl 1 0 []]) (fun E us h=>?_) (jn5 f hw [] (by simpa using hz));unfold A.repL at h ⊢;obtain⟨u,us',rfl,h1,h2⟩:=h;refine⟨u,us',rfl,h1,?_⟩;unfold A.repL at h2 ⊢;obtain⟨u2,us2,rfl,h3,h4⟩:=h2;exact⟨u2,us2,rfl,jn4 h3,h4⟩
def weN(f:Nt):Bool:=wP (toD f)
theorem jfl:∀l:List Nt,aH (eC l)=l.all weN
 |[]=>by rw[eC,aH];rfl
 |f::l=>by rw[eC,aH,jfl l,xtw113];rfl
theorem jsQ(n:Int)(s:ByteArray)(l:List Nt):weN (.mk 11 n s l)=l.all weN:=by
 show wP (toD (.mk 11 n s l))=_;rw[toD,wP,xtw3 rfl,jfl]
theorem juf(k n:Int)(s:ByteArray)(c:Nt)(l:List Nt)(hk:k=2∨k=3):weN (.mk k n s (c::l))=(decide (uZ c=2)&&l.all weN):=by
 show wP (toD (.mk k n s (c::l)))=_;rw[toD,wP,xtw2 (by omega),xtw3 hk,eC,jkz,jfl];show(uZ c==2&&_)=_
 congr 1
theorem jqd(k n:Int)(s:ByteArray)(l:List Nt)(hk:k≠11/\k≠2/\k≠3):weN (.mk k n s l)=l.all fun f=>decide (uZ f=1):=by
 unfold weN toD wP;rw[xtw2 hk.1,xtw2 (fun h=>h.elim hk.2.1 hk.2.2),jow]
 induction l with
 |nil=>rfl
 |cons f l ih=>rw[xtw114,xtw113,Bool.not_or,ih];congr 1;by_cases h:uZ f=1 <;> simp[h]
theorem jr3{l:List Nt}{p:Nt->Bool}(h:∀i (hi:i<l.length),p l[i]=true):l.all p=true:=xtw65.2 fun x hx=>by
 obtain⟨i,hi,rfl⟩:=xtw67.1 hx;exact h i hi
theorem jr4{l:List Nt}{p:Nt->Bool}{i:Nat}(hi:i<l.length)(h:p l[i]=false):l.all p=false:=by
 rw[List.all_eq_false];exact⟨l[i],xtw10 hi,by simp[h]⟩
def WeC(f:Nt):Prop:=Spec Tryz.prog 65 [] [.agg (ntA f)] fun _ r=>r=qA (weN f)
theorem jqe(k n:Int)(s:ByteArray)(kids:List Nt)(hw:eJ (.mk k n s kids))(hx:k<12)(ih:∀x∈kids,isX x=false->WeC x):WeC (.mk k n s kids):=by
 unfold eJ at hw;obtain⟨ha,hws,hc⟩:=hw;have hm:=sP ha
 show Spec Tryz.prog 65 [] [.agg [intA k,intA n,jJ s,.sl 4 kids.length (jQ kids)]] fun _ r=>r=qA (weN (.mk k n s kids))
 by_cases h11:k=11
 ·subst h11
  have hs:∀f∈kids,isX f=false:=fun f hf=>by
   unfold clN at hc;rw[xtw3 rfl,xtw65] at hc;simpa using hc f hf
  rw[jsQ];clear ha hc
  obtain⟨R,hR⟩:∃R,kids.all weN=R:=⟨_,rfl⟩
  rw[hR];refine eN jK jT 0 Tryz.func65 rfl ?_;intro _;conv=>whnf
  refine jA [1] ?_;conv=>whnf
  refine jE (fun j:Nat=>[(3,.v (.int .i64 j))]) (fun _=>[[intA 11,intA n,jJ s,.sl 4 kids.length (jQ kids)]]) (fun _=>[]) (fun j=>j<=kids.length/\0<=j/\∀i (h:i<kids.length),0<=i->i<j->weN kids[i]=true) (fun j=>kids.length-j) 0 ?_ ⟨by omega,xtw11 _,fun i h h1 h2=>by omega⟩ ?_
  ·repeat' constructor
  rintro j ⟨hj,hj0,hn⟩;conv=>whnf
  rcases xtw36 j kids.length with hlt|hge
  ·have hrow:=jR kids j hlt;have hsp:=ih kids[j] (xtw10 hlt) (hs _ (xtw10 hlt));rw[xtw1 (show(j:Int)<(kids.length:Int) by omega)];conv=>whnf
   refine⟨show(0:Int)<=(j:Int)/\(j:Int)<(kids.length:Nat) from ⟨by omega,by omega⟩,?_⟩;conv=>whnf
   (generalize hrq:jC _ _ (jQ kids)=rq;obtain rfl:rq=ntA kids[j]:=hrq.symm.trans (hrow);clear hrq;conv=>whnf)
   refine jY [] hsp ?_;rintro r rfl;cases he:weN kids[j]
   ·rw[jr4 hlt he] at hR;subst hR;unfold WeC at hsp;conv=>whnf
    rfl
   ·conv=>whnf
    refine jN j (by omega) ?_;conv=>whnf
    refine⟨j+1,jD [] ?_,⟨show j+1<=kids.length by omega,show 0<=j+1 by omega,fun i h h1 h2=>?_⟩,show kids.length-(j+1)<kids.length-j by omega⟩
    ·conv=>whnf
     repeat' constructor
    ·by_cases q:i=j
     ·subst q;exact he
     ·exact hn i h h1 (by omega)
  rw[jr3 fun i h=>hn i h (by omega) (by omega)] at hR;subst hR;rw[xtw0 (show ¬(j:Int)<(kids.length:Int) by omega)];conv=>whnf
  rfl
 by_cases h23:k=2∨k=3
 ·obtain⟨c,l,rfl⟩:∃c l,kids=c::l:=by
   cases kids with
   |nil =>
    unfold arN at ha
    rcases h23 with rfl|rfl <;> cases ha
   |cons c l=>exact⟨c,l,rfl⟩
  have hcl:isX c=true/\∀f∈l,isX f=false:=by
   unfold clN at hc;rw[xtw2 h11,xtw3 h23] at hc;simpa using hc
  have hty:=jfi c (xQ hws xtw29) hcl.1
  have hs:∀j (h:j<(c::l).length),1<=j->isX (c::l)[j]=false:=fun j h h1=>by
   cases j with
   |zero=>omega
   |succ j=>exact hcl.2 _ (xtw10 _)
  have hrow0:=jR (c::l) 0 (by simp)
  have hap:(∀i (h:i<(c::l).length),1<=i->weN (c::l)[i]=true)->l.all weN=true:=fun h=>jr3 fun i hi=>h (i+1) (by simpa using hi) (by omega)
  have han:∀j (h:j<(c::l).length),1<=j->weN (c::l)[j]=false->l.all weN=false:=fun j h h1 h2=>by
   cases j with
   |zero=>omega
   |succ j=>exact jr4 (by simpa using h) h2
  rw[juf k n s c l h23];clear ha hc hcl hws;unfold TyC at hty
  obtain⟨ty,hty2⟩:∃ty,uZ c=ty:=⟨_,rfl⟩
  rw[hty2] at hty ⊢
  obtain⟨R,hR⟩:∃R,(decide (ty=2)&&l.all weN)=R:=⟨_,rfl⟩
  rw[hR]
  have hlen:1<=(c::l).length:=by simp
  simp only[xtw50] at hrow0;generalize hkd:c::l=kids at *;rcases h23 with rfl|rfl
  ·refine eN jK jT 0 Tryz.func65 rfl ?_;intro _;conv=>whnf
   refine⟨show(0:Int)<=0/\(0:Int)<(kids.length:Nat) from ⟨by omega,by omega⟩,?_⟩;conv=>whnf
   (generalize hrq:jC _ _ (jQ kids)=rq;obtain rfl:rq=ntA c:=hrq.symm.trans (hrow0);clear hrq;conv=>whnf)
   refine jY [] hty ?_;rintro r rfl;conv=>whnf
   refine jA [1,5] ?_;conv=>whnf
   refine jE (fun j:Nat=>[(6,.v (.int .i64 j))]) (fun _=>[[intA 2,intA n,jJ s,.sl 4 kids.length (jQ kids)]]) (fun _=>[]) (fun j=>j<=kids.length/\1<=j/\∀i (h:i<kids.length),1<=i->i<j->weN kids[i]=true) (fun j=>kids.length-j) 1 ?_ ⟨by omega,xtw11 _,fun i h h1 h2=>by omega⟩ ?_
   ·repeat' constructor
   rintro j ⟨hj,hj0,hn⟩;conv=>whnf
   rcases xtw36 j kids.length with hlt|hge
   ·have hrow:=jR kids j hlt;have hsp:=ih kids[j] (xtw10 hlt) (hs j hlt hj0);rw[xtw1 (show(j:Int)<(kids.length:Int) by omega)];conv=>whnf
    refine⟨show(0:Int)<=(j:Int)/\(j:Int)<(kids.length:Nat) from ⟨by omega,by omega⟩,?_⟩;conv=>whnf
    (generalize hrq:jC _ _ (jQ kids)=rq;obtain rfl:rq=ntA kids[j]:=hrq.symm.trans (hrow);clear hrq;conv=>whnf)
    refine jY [] hsp ?_;rintro r rfl;cases he:weN kids[j]
    ·rw[han j hlt hj0 he,xtw119] at hR;subst hR;conv=>whnf
     rfl
    ·conv=>whnf
     refine jN j (by omega) ?_;conv=>whnf
     refine⟨j+1,jD [] ?_,⟨show j+1<=kids.length by omega,show 1<=j+1 by omega,fun i h h1 h2=>?_⟩,show kids.length-(j+1)<kids.length-j by omega⟩
     ·conv=>whnf
      repeat' constructor
     ·by_cases q:i=j
      ·subst q;exact he
      ·exact hn i h h1 (by omega)
   rw[hap fun i h h1=>hn i h h1 (by omega),Bool.and_true] at hR;subst hR;rw[xtw0 (show ¬(j:Int)<(kids.length:Int) by omega)];conv=>whnf
   rfl
  ·refine eN jK jT 0 Tryz.func65 rfl ?_;intro _;conv=>whnf
   refine⟨show(0:Int)<=0/\(0:Int)<(kids.length:Nat) from ⟨by omega,by omega⟩,?_⟩;conv=>whnf
   (generalize hrq:jC _ _ (jQ kids)=rq;obtain rfl:rq=ntA c:=hrq.symm.trans (hrow0);clear hrq;conv=>whnf)
   refine jY [] hty ?_;rintro r rfl;conv=>whnf
   refine jA [1,5] ?_;conv=>whnf
   refine jE (fun j:Nat=>[(6,.v (.int .i64 j))]) (fun _=>[[intA 3,intA n,jJ s,.sl 4 kids.length (jQ kids)]]) (fun _=>[]) (fun j=>j<=kids.length/\1<=j/\∀i (h:i<kids.length),1<=i->i<j->weN kids[i]=true) (fun j=>kids.length-j) 1 ?_ ⟨by omega,xtw11 _,fun i h h1 h2=>by omega⟩ ?_
   ·repeat' constructor
   rintro j ⟨hj,hj0,hn⟩;conv=>whnf
   rcases xtw36 j kids.length with hlt|hge
   ·have hrow:=jR kids j hlt;have hsp:=ih kids[j] (xtw10 hlt) (hs j hlt hj0);rw[xtw1 (show(j:Int)<(kids.length:Int) by omega)];conv=>whnf
    refine⟨show(0:Int)<=(j:Int)/\(j:Int)<(kids.length:Nat) from ⟨by omega,by omega⟩,?_⟩;conv=>whnf
    (generalize hrq:jC _ _ (jQ kids)=rq;obtain rfl:rq=ntA kids[j]:=hrq.symm.trans (hrow);clear hrq;conv=>whnf)
    refine jY [] hsp ?_;rintro r rfl;cases he:weN kids[j]
    ·rw[han j hlt hj0 he,xtw119] at hR;subst hR;conv=>whnf
     rfl
    ·conv=>whnf
     refine jN j (by omega) ?_;conv=>whnf
     refine⟨j+1,jD [] ?_,⟨show j+1<=kids.length by omega,show 1<=j+1 by omega,fun i h h1 h2=>?_⟩,show kids.length-(j+1)<kids.length-j by omega⟩
     ·conv=>whnf
      repeat' constructor
     ·by_cases q:i=j
      ·subst q;exact he
      ·exact hn i h h1 (by omega)
   rw[hap fun i h h1=>hn i h h1 (by omega),Bool.and_true] at hR;subst hR;rw[xtw0 (show ¬(j:Int)<(kids.length:Int) by omega)];conv=>whnf
   rfl
 ·have hx2:∀f∈kids,isX f=true:=fun f hf=>jqB hc (by omega) hf
  rw[jqd k n s kids (by omega)];clear ha hc
  obtain⟨R,hR⟩:∃R,(kids.all fun f=>decide (uZ f=1))=R:=⟨_,rfl⟩
  rw[hR];refine eN jK jT 0 Tryz.func65 rfl ?_;intro _;conv=>whnf
  rw[xtw0 h11];conv=>whnf
  rw[xtw0 (show ¬k=2 by omega)];conv=>whnf
  rw[xtw0 (show ¬k=3 by omega)];conv=>whnf
  refine jA [1] ?_;conv=>whnf
  refine jE (fun j:Nat=>[(8,.v (.int .i64 j))]) (fun _=>[[intA k,intA n,jJ s,.sl 4 kids.length (jQ kids)]]) (fun _=>[]) (fun j=>j<=kids.length/\0<=j/\∀i (h:i<kids.length),0<=i->i<j->(fun f=>decide (uZ f=1)) kids[i]=true) (fun j=>kids.length-j) 0 ?_ ⟨by omega,xtw11 _,fun i h h1 h2=>by omega⟩ ?_
  ·repeat' constructor
  rintro j ⟨hj,hj0,hn⟩;conv=>whnf
  rcases xtw36 j kids.length with hlt|hge
  ·have hrow:=jR kids j hlt;have hsp:=jfi kids[j] (xQ hws (xtw10 hlt)) (hx2 _ (xtw10 hlt));rw[xtw1 (show(j:Int)<(kids.length:Int) by omega)];conv=>whnf
   refine⟨show(0:Int)<=(j:Int)/\(j:Int)<(kids.length:Nat) from ⟨by omega,by omega⟩,?_⟩;conv=>whnf
   (generalize hrq:jC _ _ (jQ kids)=rq;obtain rfl:rq=ntA kids[j]:=hrq.symm.trans (hrow);clear hrq;conv=>whnf)
   refine jY [] hsp ?_;rintro r rfl;cases he:(fun f=>decide (uZ f=1)) kids[j]
   ·rw[jr4 (p:=fun f=>decide (uZ f=1)) hlt he] at hR;subst hR;simp only[] at he;conv=>whnf
    rw[he];conv=>whnf
    rfl
   ·simp only[] at he;conv=>whnf
    rw[he];conv=>whnf
    refine jN j (by omega) ?_;conv=>whnf
    refine⟨j+1,jD [] ?_,⟨show j+1<=kids.length by omega,show 0<=j+1 by omega,fun i h h1 h2=>?_⟩,show kids.length-(j+1)<kids.length-j by omega⟩
    ·conv=>whnf
     repeat' constructor
    ·by_cases q:i=j
     ·subst q;exact he
     ·exact hn i h h1 (by omega)
  rw[jr3 (p:=fun f=>decide (uZ f=1)) fun i h=>hn i h (by omega) (by omega)] at hR;subst hR;rw[xtw0 (show ¬(j:Int)<(kids.length:Int) by omega)];conv=>whnf
  rfl
theorem joz:∀f:Nt,eJ f->isX f=false->WeC f
 |.mk k n s kids,hw,hx=>by
  have hx':k<12:=Int.not_le.1 (of_decide_eq_false hx);have h2:=hw;unfold eJ at h2
  exact jqe k n s kids hw hx' fun x hx2 hx3=>joz x (xQ h2.2.1 hx2) hx3
end Go.Proofs.YtfbifdccmabdbaaGreatDoor.Vm
