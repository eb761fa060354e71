/- Part 5 of the proof. -/
import Derived.Test.YtdnnmiemgmgffaaGreatDoorK4
set_option maxRecDepth 100000
set_option linter.unusedSimpArgs false
set_option linter.unusedVariables false
set_option maxHeartbeats 4000000
namespace Go.Proofs.YtdnnmiemgmgffaaGreatDoor.Vm
open Go.RowKit Go.Shelf Go.Maps Go.Sort
def juf(id:Nat):Tr:=match Nat.beq id 4||Nat.beq id 5 with
 |true=>.q 0 3 (.q 2 3 (.alt 1 2 (.alt 3 2 (.alt 4 2 (.q 5 3 (.alt 6 2 .nil .nil)) .nil) .nil) (.alt 3 2 (.alt 1 2 (.alt 4 2 (.q 5 3 (.alt 6 2 .nil .nil)) .nil) .nil) .nil)))
 |false=>.nil
theorem xX:∀(n:Nat) (nm out:List ByteArray) (ts:List Tk) (nm' out':List ByteArray) (r:List Tk),TkP ts->(hd ts).kind≠0->nm.length<=16->gG n nm out ts=.ok nm' out' r->TkP r/\r.length<ts.length/\nm'.length<=16/\out'.length+r.length<=out.length+ts.length
 |0,nm,out,ts,nm',out',r,h,hk,h16,e=>by cases e
 |n+1,nm,out,ts,nm',out',r,h,hk,h16,e=>by
  rw[uZ] at e;obtain⟨q1,q2⟩:=h.tail hk;by_cases hn:wQ ts.tail=false
  ·rw[if_pos hn] at e;cases e
  rw[if_neg hn] at e;by_cases hh:qD nm (hd ts.tail).text=true
  ·rw[if_pos hh] at e;cases e
  rw[if_neg hh] at e;by_cases h6:nm.length=16
  ·rw[if_pos h6] at e;cases e
  rw[if_neg h6] at e;obtain⟨q3,q4⟩:=q1.tail (by rw[yW (by simpa using hn)];decide);unfold deH at e;by_cases hc:q8 jZ ts.tail.tail=true
  ·rw[if_pos hc] at e;obtain⟨g1,g2,g3,g4⟩:=xX n _ _ _ _ _ _ q3 (yS hc) (by simp only[List.length_append,List.length_cons,List.length_nil];omega) e;refine⟨g1,by omega,g3,?_⟩;simp only[List.length_append,List.length_cons,List.length_nil] at g4;omega
  ·rw[if_neg hc] at e;by_cases hs:q8 jO ts.tail.tail=true
   ·rw[if_pos hs] at e;cases e;obtain⟨g1,g2⟩:=q3.is hs;refine⟨g1,by omega,by simp only[List.length_append,List.length_cons,List.length_nil];omega,by simp only[List.length_append,List.length_cons,List.length_nil];omega⟩
   ·rw[if_neg hs] at e;cases e
theorem u4(du vo:List ByteArray)(n:Nat)(hs:List (Int×Nt))(ts:List Tk):o5 du vo (n+1) hs ts=(if (hd ts).kind=0 then .ok ⟨du,vo,vS hs⟩
  else if q8 wOn ts=false then .bad (hd ts).pos 10
  else match t7 hs ts.tail with
   |.bad x e=>.bad x e
   |.ok k r=>match (pa 19).bl r with
    |.bad x e=>.bad x e
    |.ok b r=>o5 du vo n (hs++[(k,b)]) r):=by
 rw[o5];unfold t7
 cases sH ts.tail with
 |bad x e=>rfl
 |ok k r =>
  simp only
  by_cases hd:(hs.any fun h=>decide (h.1=k))=true
  ·rw[if_pos hd,if_pos hd]
  ·rw[if_neg hd,if_neg hd];try rfl
theorem jif{hs:List (Int×Nt)}{ts:List Tk}{k:Int}{r:List Tk}(h:TkP ts)(e:t7 hs ts=.ok k r):(∀p∈hs,k≠p.1)/\TkP r/\r.length<ts.length:=by
 unfold t7 at e
 cases hh:sH ts with
 |bad x e2=>rw[hh] at e;cases e
 |ok k2 r2 =>
  rw[hh] at e
  simp only at e
  by_cases hdp:(hs.any fun h=>decide (h.1=k2))=true
  ·rw[if_pos hdp] at e;cases e
  rw[if_neg hdp] at e;cases e;refine⟨fun p hp e=>hdp (List.any_eq_true.2 ⟨p,hp,jJ e.symm⟩),?_⟩
  have num:∀(lim off:Int) (t:List Tk),TkP t->t.length+1=ts.length->iB lim off t=.ok k r->TkP r/\r.length<ts.length:=fun lim off t ht hl e=>by
   unfold iB at e;split at e
   ·cases e
   ·split at e
    ·cases e
    ·rename_i h2 _;obtain⟨q1,q2⟩:=ht.tail (by rw[Decidable.not_not.1 h2];decide);cases e;exact⟨q1,by omega⟩
  unfold sH at hh;by_cases h1:q8 aB ts=true
  ·rw[if_pos h1] at hh;obtain⟨q1,q2⟩:=h.is h1;cases hh;exact⟨q1,by omega⟩
  rw[if_neg h1] at hh;by_cases h2:q8 wRequest ts=true
  ·rw[if_pos h2] at hh;obtain⟨q1,q2⟩:=h.is h2;cases hh;exact⟨q1,by omega⟩
  rw[if_neg h2] at hh;by_cases h3:q8 wTimer ts=true
  ·rw[if_pos h3] at hh;obtain⟨q1,q2⟩:=h.is h3;exact num _ _ _ q1 q2 hh
  rw[if_neg h3] at hh;by_cases h4:q8 wMessage ts=true
  ·rw[if_pos h4] at hh;obtain⟨q1,q2⟩:=h.is h4;exact num _ _ _ q1 q2 hh
  rw[if_neg h4] at hh;cases hh
def cK:List A:=[.v (.slice none 0 0),.v (.slice none 0 0),.v (.slice none 0 0)]
theorem cJ(l m:List ByteArray):gB (l++m)=gB l++gB m:=by unfold gB;rw[List.map_append]
theorem jf1(ts:List Tk)(h:TkP ts):SpecP Tryz.prog 83 [bxN ts++[.v (.slice none 0 0)]] [.box 0 0] (fun o r=>(∃nm ts',o=[hZ nm ts'])/\uoQ (jnx ts) r) (puQ (jnx ts)):=by
 obtain⟨P,hP⟩:∃P,jnx ts=P:=⟨_,rfl⟩
 rw[hP];have hb0:=h.1.2;refine lN (wJ juf (fun _=>[0]) 1 (fun ch _=>puQ P ch)) (fun _ _ h=>h) Tryz.func83 rfl (by kernel_rfl) rfl ?_;intro _;conv=>whnf
 refine yO (wJ _ _ _ _) (by kernel_rfl) ?_;conv=>whnf
 refine yO (wJ _ _ _ _) (by kernel_rfl) ?_;conv=>whnf
 refine yO (wJ _ _ _ _) (by kernel_rfl) ?_;conv=>whnf
 refine qU 9 1 [] [(0,1)] ?_;conv=>whnf
 refine⟨trivial,?_⟩;conv=>whnf
 refine qU 9 1 [] [(2,0)] ?_;conv=>whnf
 refine⟨trivial,?_⟩;conv=>whnf
 refine qU 9 1 [] [(2,1)] ?_;conv=>whnf
 refine⟨trivial,?_⟩;conv=>whnf
 refine jC [0,2,3] ?_;conv=>whnf
 refine jI (fun x:Nat×List ByteArray×List ByteArray×List ByteArray×List Tk=>[]) (fun x=>[bxN x.2.2.2.2++[.own 0],cK,[.own 1,.own 2,.v (.slice none 0 0)]]) (fun x=>[.live 9 1 x.2.1.length (gB x.2.1),.live 9 1 x.2.2.1.length (gB x.2.2.1),.live 9 1 x.2.2.2.1.length (gB x.2.2.2.1)])
  (fun x=>TkP x.2.2.2.2/\x.2.2.2.2.length+1<=x.1/\x.2.1.length<=16/\x.2.2.1.length+x.2.2.2.1.length+x.2.2.2.2.length<=1000001/\sP x.1 x.2.1 x.2.2.1 x.2.2.2.1 x.2.2.2.2=P) (fun x=>x.2.2.2.2.length) (ts.length+1,[],[],[],ts) ?_ ⟨h,Nat.le_refl _,Nat.zero_le _,by simp only[List.length_nil];omega,hP⟩ ?_
 ·repeat' constructor
 rintro⟨n0,nm,du,vo,ts0⟩ ⟨g1,g2,g3,g4,hP⟩
 simp only at g1 g2 g3 g4 hP
 obtain⟨n,rfl⟩:∃n,n0=n+1:=⟨n0-1,by omega⟩
 have hpos:=g1.pos;rw[sP] at hP
 have his:=fun s=>jpE ts0 hpos s
 conv=>whnf
 refine qJ 0 0 3 [] rfl rfl rfl rfl rfl rfl rfl (fun _=>(his xL).rp rfl rfl _ _ _ _) (fun ch bx' hp=>hp.elim) ?_;rintro o n' cs' r ⟨c,ho,rfl,rfl,rfl,rfl⟩;cases ho;conv=>whnf
 cases hq1:q8 xL ts0 with
 |true =>
  rw[if_pos hq1] at hP;have hkd:=yS hq1;have hde:=jcN nm ts0 g1 hkd g3;conv=>whnf
  refine qJ 0 3 4 [] rfl rfl rfl rfl rfl rfl rfl (fun _=>(his xL).rp rfl rfl _ _ _ _) (fun ch bx' hp=>hp.elim) ?_;rintro o n' cs' r ⟨c,ho,rfl,rfl,rfl,rfl⟩;cases ho;conv=>whnf
  rw[hq1];conv=>whnf
  unfold fU;refine⟨_,?_,fun _ h=>h⟩;conv=>whnf
  refine⟨?_,?_⟩
  ·refine qJ 0 4 5 [] rfl rfl rfl rfl rfl rfl rfl (fun _=>hde) (fun ch bx' hp _ _=>?_) ?_
   ·unfold pdQ at hp;split at hp
    ·rename_i he;rw[he] at hP;exact pH hP.symm hp
    ·exact hp.elim
   rintro o n' cs' r hdo;unfold doQ at hdo;split at hdo
   rotate_left
   ·exact hdo.elim
   rename_i nm2 out r1 he;obtain⟨ho,rfl,rfl,rfl⟩:=hdo;rw[he] at hP
   simp only at hP
   obtain⟨k1,k2,k3,k4⟩:=xX _ _ _ _ _ _ _ g1 hkd g3 he;simp only[List.length_nil] at k4;cases ho;conv=>whnf
   refine⟨⟨by simp only;unfold maxLen;omega,by simp only;omega⟩,?_⟩;conv=>whnf
   refine⟨(n,nm2,du++out,vo,r1),jF [5,1,2] ?_,⟨k1,by simp only;omega,k3,by simp only[List.length_append];omega,hP⟩,by simp only;omega⟩;conv=>whnf
   simp only[List.length_append,cJ];repeat' constructor
  ·refine qJ 0 4 5 [] rfl rfl rfl rfl rfl rfl rfl (fun _=>hde) (fun ch bx' hp _ _=>?_) ?_
   ·unfold pdQ at hp;split at hp
    ·rename_i he;rw[he] at hP;exact pH hP.symm hp
    ·exact hp.elim
   rintro o n' cs' r hdo;unfold doQ at hdo;split at hdo
   rotate_left
   ·exact hdo.elim
   rename_i nm2 out r1 he;obtain⟨ho,rfl,rfl,rfl⟩:=hdo;rw[he] at hP
   simp only at hP
   obtain⟨k1,k2,k3,k4⟩:=xX _ _ _ _ _ _ _ g1 hkd g3 he;simp only[List.length_nil] at k4;cases ho;conv=>whnf
   refine⟨⟨by simp only;unfold maxLen;omega,by simp only;omega⟩,?_⟩;conv=>whnf
   refine⟨(n,nm2,du++out,vo,r1),jF [5,1,2] ?_,⟨k1,by simp only;omega,k3,by simp only[List.length_append];omega,hP⟩,by simp only;omega⟩;conv=>whnf
   simp only[List.length_append,cJ];repeat' constructor
 |false =>
  rw[if_neg (by rw[hq1];simp)] at hP;conv=>whnf
  refine qJ 0 3 4 [] rfl rfl rfl rfl rfl rfl rfl (fun _=>(his vE).rp rfl rfl _ _ _ _) (fun ch bx' hp=>hp.elim) ?_;rintro o n' cs' r ⟨c,ho,rfl,rfl,rfl,rfl⟩;cases ho;conv=>whnf
  cases hq2:q8 vE ts0 with
  |true =>
   rw[if_pos hq2] at hP;have hkd:=yS hq2;have hde:=jcN nm ts0 g1 hkd g3;conv=>whnf
   refine qJ 0 4 5 [] rfl rfl rfl rfl rfl rfl rfl (fun _=>(his xL).rp rfl rfl _ _ _ _) (fun ch bx' hp=>hp.elim) ?_;rintro o n' cs' r ⟨c,ho,rfl,rfl,rfl,rfl⟩;cases ho;conv=>whnf
   rw[hq1];conv=>whnf
   unfold fU;refine⟨_,?_,fun _ h=>h⟩;conv=>whnf
   refine⟨?_,?_⟩
   ·refine qJ 0 5 6 [] rfl rfl rfl rfl rfl rfl rfl (fun _=>hde) (fun ch bx' hp _ _=>?_) ?_
    ·unfold pdQ at hp;split at hp
     ·rename_i he;rw[he] at hP;exact pH hP.symm hp
     ·exact hp.elim
    rintro o n' cs' r hdo;unfold doQ at hdo;split at hdo
    rotate_left
    ·exact hdo.elim
    rename_i nm2 out r1 he;obtain⟨ho,rfl,rfl,rfl⟩:=hdo;rw[he] at hP
    simp only at hP
    obtain⟨k1,k2,k3,k4⟩:=xX _ _ _ _ _ _ _ g1 hkd g3 he;simp only[List.length_nil] at k4;cases ho;conv=>whnf
    refine⟨⟨by simp only;unfold maxLen;omega,by simp only;omega⟩,?_⟩;conv=>whnf
    refine⟨(n,nm2,du,vo++out,r1),jF [6,1,2] ?_,⟨k1,by simp only;omega,k3,by simp only[List.length_append];omega,hP⟩,by simp only;omega⟩;conv=>whnf
    simp only[List.length_append,cJ];repeat' constructor
   ·refine qJ 0 5 6 [] rfl rfl rfl rfl rfl rfl rfl (fun _=>hde) (fun ch bx' hp _ _=>?_) ?_
    ·unfold pdQ at hp;split at hp
     ·rename_i he;rw[he] at hP;exact pH hP.symm hp
     ·exact hp.elim
    rintro o n' cs' r hdo;unfold doQ at hdo;split at hdo
    rotate_left
    ·exact hdo.elim
    rename_i nm2 out r1 he;obtain⟨ho,rfl,rfl,rfl⟩:=hdo;rw[he] at hP
    simp only at hP
    obtain⟨k1,k2,k3,k4⟩:=xX _ _ _ _ _ _ _ g1 hkd g3 he;simp only[List.length_nil] at k4;cases ho;conv=>whnf
    refine⟨⟨by simp only;unfold maxLen;omega,by simp only;omega⟩,?_⟩;conv=>whnf
    refine⟨(n,nm2,du,vo++out,r1),jF [6,1,2] ?_,⟨k1,by simp only;omega,k3,by simp only[List.length_append];omega,hP⟩,by simp only;omega⟩;conv=>whnf
    simp only[List.length_append,cJ];repeat' constructor
  |false =>
   rw[if_neg (by rw[hq2];simp)] at hP
   have g4':du.length+vo.length<=1000001:=by omega
   conv=>whnf
   refine yO (wJ _ _ _ _) (by kernel_rfl) ?_;conv=>whnf
   refine yO (wJ _ _ _ _) (by kernel_rfl) ?_;conv=>whnf
   refine nL [4] ?_;conv=>whnf
   refine nM [1,2,5] ?_;conv=>whnf
   refine jC [0,2,3,4] ?_;conv=>whnf
   refine jI (fun x:Nat×List (Int×Nt)×List Tk=>[]) (fun x=>[hZ nm x.2.2,cK,[.own 0,.own 1,.v (.slice none 0 0)]]) (fun x=>[.live 9 1 du.length (gB du),.live 9 1 vo.length (gB vo),.live 134 0 x.2.1.length [.clo 0 (mkA (vX x.2.1)),.clo 0 (pX (vX x.2.1))]])
    (fun x=>TkP x.2.2/\x.2.2.length+1<=x.1/\(x.2.1.map (·.1)).Nodup/\x.2.1.length+x.2.2.length<=1000000/\o5 du vo x.1 x.2.1 x.2.2=P) (fun x=>x.2.2.length) (ts0.length+1,[],ts0) ?_ ⟨g1,Nat.le_refl _,List.nodup_nil,by have:=g1.1.2;simp only[List.length_nil];omega,hP⟩ ?_
   ·repeat' constructor
    show Row.live _ _ _ _=Row.live _ 0 0 [.clo 0 (mkA (vX [])),.clo 0 (pX (vX []))];rw[show vX []=[] from rfl,jpp,jpr]
   clear hP hq1 hq2 his hpos g2 g1;rintro⟨n0,hs,ts1⟩ ⟨g1,g2,gnd,g5,hP⟩
   simp only at g1 g2 gnd g5 hP
   obtain⟨n1,rfl⟩:∃n1,n0=n1+1:=⟨n0-1,by omega⟩
   have hpos:=g1.pos;rw[u4] at hP;have hr:=nZ hpos;have htl:=g1.tail
   have hbl:=fun r (q:TkP r)=>jfz nm r q
   generalize ht1:hd ts1=t1 at *;conv=>whnf
   (refine iA ?_;try with_reducible exact trivial)
   (generalize hrq:jD _ _ (z8 ts1)=rq;obtain rfl:rq=cR t1:=hrq.symm.trans (hr);clear hrq;conv=>whnf)
   by_cases hk:t1.kind=0
   ·rw[jJ hk];rw[if_pos hk] at hP;conv=>whnf
    refine jeP 2 ?_;refine bF _ ?_;conv=>whnf
    have hlh:(vX hs).length=hs.length:=by unfold vX;rw[List.length_map]
    have hso:=jfc (vX hs) ((jiu hs).2 gnd) (by omega);rw[jj1,hlh] at hso;have hpm:=wX hs
    have hfind:=fun h (hm:h∈vS hs)=>jmK gnd (hpm.mem_iff.1 hm)
    have hln:hs.length=(vS hs).length:=hpm.length_eq.symm;rw[hln] at hso;refine z6 (wJ _ _ _ _) (by kernel_rfl) ?_;conv=>whnf
    refine jqx 3 [] rfl rfl (fun _=>jil _ _) ?_;rintro e k n r x ⟨rfl,rfl,rfl,rfl,rfl⟩;conv=>whnf
    refine jrr 3 4 [] rfl rfl rfl rfl (fun _=>hso) ?_;rintro n' cs' r rfl;generalize vS hs=L at *;conv=>whnf
    refine qU 47 5 [] [(2,2)] ?_;conv=>whnf
    refine⟨trivial,?_⟩;conv=>whnf
    refine nM [0,1,5] ?_;conv=>whnf
    refine jC [2,3,4,50,51] ?_;conv=>whnf
    refine jI (fun j:Nat=>[(52,.v (.int .i64 j))]) (fun _=>[hZ nm ts1,cK,[.own 0,.own 1,.own 2]]) (fun j=>[.live 9 1 du.length (gB du),.live 9 1 vo.length (gB vo),.live 47 5 (L.take j).length (kH (L.take j))])
     (fun j=>j<=L.length) (fun j=>L.length-j) 0 ?_ (Nat.zero_le _) ?_
    ·repeat' constructor
     show Row.live _ _ _ _=Row.live _ 5 0 (kH []);rw[nI]
    intro j hj;conv=>whnf
    by_cases hlt:j<L.length
    ·have hrow:jD 1 j ((L.map fun x=>x.1).map intA)=[intA L[j].1]:=by
      have:=y8 intA (L.map fun x=>x.1) j (by simpa using hlt);rw[this,List.getElem_map]
     have hfj:=hfind L[j] (List.getElem_mem hlt);have htk:L.take (j+1)=L.take j++[L[j]]:=List.take_succ_eq_append_getElem hlt
     have hlj:(L.take j).length=j:=by rw[List.length_take];omega
     generalize L[j]=h at *
     (refine iA ?_;try with_reducible exact trivial)
     (generalize hrq:jD _ _ ((L.map fun x=>x.1).map intA)=rq;obtain rfl:rq=[intA h.1]:=hrq.symm.trans (hrow);clear hrq;conv=>whnf)
     refine kI _ _ ?_;rw[hfj];conv=>whnf
     refine⟨⟨by unfold maxLen;omega,by omega⟩,?_⟩;conv=>whnf
     refine⟨jH (by omega),?_⟩;conv=>whnf
     refine⟨j+1,jF [0,1,2] ?_,hlt,by omega⟩;conv=>whnf
     rw[htk];repeat' constructor
     show Row.live _ 5 _ _=Row.live _ 5 (L.take j++[h]).length (kH (L.take j++[h]));rw[dG,List.length_append];rfl
    ·(refine iA ?_;try with_reducible exact trivial)
     rw[show j=L.length by omega,List.take_length];subst hP;exact⟨⟨nm,ts1,rfl⟩,rfl⟩
   ·rw[jG hk];rw[if_neg hk] at hP;obtain⟨q1,q2⟩:=htl hk;have hx:=jU nm ts1 hpos wOn;rw[ht1] at hx;generalize ts1.tail=ts2 at *;have hh:=jkT nm hs ts2 q1;rw[jne,<- jnf] at hh
    have hhok:=fun k r=>jif (hs:=hs) (k:=k) (r:=r) q1
    conv=>whnf
    refine kR 0 [] hx (fun ch bx' hp=>?_) ?_
    ·rw[if_pos hp.1] at hP;exact pH hP.symm hp.2
    rintro o r ⟨hon,ho,rfl⟩;cases ho;rw[if_neg (by rw[hon];simp)] at hP;conv=>whnf
    refine jrp 0 2 rfl rfl rfl (bF _ rfl) rfl hh (fun o r hho=>?_) (fun ch bx' hp _ _=>?_) ?_
    ·unfold hoQ at hho;split at hho
     ·obtain⟨rfl,rfl⟩:=hho;exact⟨fun c hc=>by rw[List.mem_singleton.1 hc];exact jni _ _,rfl⟩
     ·exact hho.elim
    ·unfold phQ at hp;split at hp
     ·rename_i he;rw[he] at hP;exact pH hP.symm hp
     ·exact hp.elim
    rintro o r hho;unfold hoQ at hho;split at hho
    rotate_left
    ·exact hho.elim
    rename_i k r1 he;obtain⟨ho,rfl⟩:=hho;rw[he] at hP
    simp only at hP
    obtain⟨hnk,k1,k2⟩:=hhok _ _ he;have hb:=hbl r1 k1;cases ho;conv=>whnf
    refine kR 0 [] hb (fun ch bx' hp=>?_) ?_
    ·obtain⟨x,e,he,hc⟩:=zN hp;rw[he] at hP;exact pH hP.symm hc
    rintro o r hpo;obtain⟨b,r2,he2,ho,rfl⟩:=j8 hpo;cases ho;rw[he2] at hP
    simp only at hP
    obtain⟨k3,k4⟩:=iL _ _ _ k1 he2;conv=>whnf
    refine jd3 (fun p hp=>?_) ?_
    ·unfold vX at hp;obtain⟨q,hq,rfl⟩:=List.mem_map.1 hp;exact hnk q hq
    conv=>whnf
    refine⟨(n1,hs++[(k,b)],r2),jF [0,1,2] ?_,⟨k3,by simp only;omega,?_,by simp only[List.length_append,List.length_cons,List.length_nil];omega,hP⟩,by simp only;omega⟩
    ·conv=>whnf
     repeat' constructor
     show Row.live _ 0 (hs.length+1) [.clo 0 (mkA (vX hs++[(k,.agg (intA k::ntA b))])),.clo 0 (pX (vX hs++[(k,.agg (intA k::ntA b))]))]=Row.live _ 0 (hs++[(k,b)]).length [.clo 0 (mkA (vX (hs++[(k,b)]))),.clo 0 (pX (vX (hs++[(k,b)])))];rw[jkS,List.length_append];rfl
    ·simp only
     rw[List.map_append,List.nodup_append];refine⟨gnd,by simp,fun a ha c hc e=>?_⟩;simp at hc;subst hc;obtain⟨q,hq,rfl⟩:=List.mem_map.1 ha;exact hnk q hq e.symm
end Go.Proofs.YtdnnmiemgmgffaaGreatDoor.Vm
namespace Go.Proofs.YtdnnmiemgmgffaaGreatDoor.Vm
open Go.RowKit Go.Shelf
theorem jrZ{c:UInt8}(h:wG c=true):c.toNat-48<=9:=by
 simp only[wG,Bool.and_eq_true,decide_eq_true_eq] at h;omega
theorem jbe(n:Nat):jgF n []=n:=rfl
theorem jdm(n:Nat)(c:UInt8)(r:List UInt8):jgF n (c::r)=jgF (10*n+(c.toNat-48)) r:=by kernel_rfl
theorem jpv(l:List UInt8):∀(n:Nat),jcb l=true->jgF n l+1<=(n+1)*10 ^ l.length:=by
 induction l with
 |nil=>intro n _;rw[jbe];simp
 |cons c r ih =>
  intro n h;simp only[jcb,List.all_cons,Bool.and_eq_true] at h;have:=jrZ h.1;have ih:=ih (10*n+(c.toNat-48)) h.2;rw[jdm,List.length_cons,Nat.pow_succ];refine Nat.le_trans ih ?_;generalize 10 ^ r.length=p at *;rw[show(n+1)*(p*10)=(10*n+10)*p by rw[Nat.mul_comm p 10,<- Nat.mul_assoc];congr 1;omega];exact Nat.mul_le_mul_right _ (by omega)
theorem jha{l:List UInt8}(h:l.length<=10):jbI l:=fun k hk hd=>by
 have h1:=jpv _ 0 hd
 have h2:(l.take k).length<=10:=by rw[List.length_take];omega
 have h3:10 ^ (l.take k).length<=10 ^ 10:=Nat.pow_le_pow_right (by decide) h2
 have h4:(10:Nat) ^ 10=10000000000:=by decide
 omega
theorem jdn:∀(l:List UInt8) (n:Nat) (k:Nat),0<=xK n l->jcb l=true->n<=2147483647->jgF n (l.take k)<=2147483647
 |[],n,k,_,_,hn=>by rw[List.take_nil,jbe];exact hn
 |c::r,n,k,h,hd,hn=>by
  simp only[jcb,List.all_cons,Bool.and_eq_true] at hd;have hc:=hd.1;simp only[wG,Bool.and_eq_true,decide_eq_true_eq] at hc;rw[xK] at h;split at h
  ·omega
  ·rename_i hv
   cases k with
   |zero=>rw[List.take_zero,jbe];exact hn
   |succ k =>
    rw[List.take_succ_cons,jdm]
    have e:(((10*n+(c.toNat-48):Nat)):Int)=10*(n:Int)+c.toNat-48:=by omega
    refine jdn r (10*n+(c.toNat-48)) k ?_ hd.2 (by omega);rw[e];exact h
theorem jcy:∀r:List UInt8,jcb (r.take (jE wG r))=true
 |[]=>rfl
 |c::r=>by
  rw[jE]
  cases h:wG c with
  |false=>rfl
  |true =>
   simp only[List.take_succ_cons,jcb,List.all_cons,h,Bool.true_and];exact jcy r
theorem jqH{c:UInt8}(h:isL c=true):wG c=false:=by
 simp only[isL,Bool.and_eq_true,decide_eq_true_eq] at h;simp only[wG,Bool.and_eq_false_iff,decide_eq_false_iff_not]
 right;omega
theorem jaA(s:ByteArray):(oY s).1.size<=s.size:=by
 cases h:s.data.toList with
 |nil=>rw[jmi h];exact Nat.le_refl _
 |cons c r =>
  have hl:=zR s;rw[h,List.length_cons] at hl;by_cases hc:c=118
  ·subst hc;rw[jrF h,eH];omega
  ·rw[jjy h hc];exact Nat.le_refl _
theorem sO{s:ByteArray}(h:s.size<=10):jbI (oY s).1.data.toList:=by
 have h1:=jaA s;have h2:=zR (oY s).1;exact jha (by omega)
theorem jlw{l:List UInt8}{k:Int}{len:Nat}{n:Int}(h:qE l=.tok k len n):jbI (oY (bs (l.take len))).1.data.toList:=by
 have hle:=bO h;have hsz:(bs (l.take len)).size=len:=aZ l len hle.2
 cases l with
 |nil=>simp[qE] at h
 |cons c r =>
  cases hL:isL c
  ·cases hD:wG c
   ·refine sO ?_;cases h3:qD pQ (bs ((c::r).take 2))
    ·cases h4:qD tB (bs [c])
     ·simp only[qE,hL,hD,h3,h4] at h;cases h
     ·simp only[qE,hL,hD,h3,h4] at h;cases h;omega
    ·simp only[qE,hL,hD,h3] at h;cases h;omega
   ·simp only[qE,hL,hD] at h;split at h
    ·cases h
    ·rename_i hv;cases h
     have hc:c≠118:=fun e=>by subst e;simp[wG] at hD; 
     have hlist:(bs ((c::r).take (jE wG r+1))).data.toList=c::r.take (jE wG r):=by rw[yL,List.take_succ_cons]
     rw[jjy hlist hc,hlist];intro j hj hd
     have h0:jcb (c::r.take (jE wG r))=true:=by
      simp only[jcb,List.all_cons,hD,Bool.true_and];exact jcy r
     have:=jdn (c::r.take (jE wG r)) 0 j (by simpa using hv) h0 (by omega);omega
  ·simp only[qE,hL] at h;split at h
   ·cases h
   ·cases h;exact sO (by omega)
theorem eX:∀(f p:Nat) (l:List UInt8),∀t∈(vF f p l).toks,jbI (oY t.text).1.data.toList
 |0,p,l=>by simp[vF]
 |f+1,p,[]=>by simp[vF]
 |f+1,p,c::r=>by
  rw[vF];split
  ·exact eX f _ _
  ·split
   ·exact eX f _ _
   ·cases ht:qE (c::r) with
    |bad e=>simp
    |tok k len n =>
     intro t hm;simp only[Lx.cons,List.mem_cons] at hm;rcases hm with rfl|hm
     ·exact jlw ht
     ·exact eX f _ _ t hm
theorem jon{e:Tk}(he:tN e/\e.kind=0/\e.text.data.toList=[]):∀l:List Tk,(∀t∈l,tN t/\t.kind≠0)->TkW (l++[e])
 |[],_=>⟨he.1,.inl ⟨rfl,he.2⟩⟩
 |t::l,h=>⟨(h t (by simp)).1,.inr ⟨(h t (by simp)).2,jon he l fun x hx=>h x (by simp[hx])⟩⟩
theorem jpQ{s:ByteArray}(hs:s.size<=3000)(he:(qM s).err=none):TkB (iD s):=by
 rw[gR he];have hl:=zR s;have hlen:=(gZ (s.data.toList.length+1) 0 s.data.toList).1;refine⟨jon ⟨⟨?_,?_,?_,?_⟩,rfl,rfl⟩ _ fun t ht=>?_,?_⟩
 ·show(⟨#[]⟩:ByteArray).size<=_;decide
 ·exact sO (by show(⟨#[]⟩:ByteArray).size<=_;decide)
 ·exact Nat.le_trans (jaA _) (by show(⟨#[]⟩:ByteArray).size<=_;decide)
 ·exact⟨by show(0:Int)<=0;decide,by show(0:Int)<=_;decide,by show s.size<=_;omega⟩
 ·have h1:=mE (s.data.toList.length+1) 0 s.data.toList (by omega) t ht;exact⟨⟨h1.2.2.1,eX _ _ _ t ht,Nat.le_trans (jaA _) h1.2.2.1,h1.2.2.2.1,h1.2.2.2.2,h1.2.1⟩,by have:=h1.1.1;omega⟩
 ·have:(qM s).toks.length<=s.data.toList.length:=hlen;simp only[List.length_append,List.length_cons,List.length_nil];omega
def K6(t:Tk):Prop:=(t.kind=1/\∃c r,t.text.data.toList=c::r/\isL c=true/\∀x∈c::r,wD x=true)∨(t.kind=3/\∃c r,t.text.data.toList=c::r/\wD c=false)∨(t.kind=0/\t.text.data.toList=[])∨(t.kind=2/\∃c r,t.text.data.toList=c::r/\wG c=true)
theorem jsO{l:List UInt8}{k:Int}{len:Nat}{n:Int}{p:Nat}(h:qE l=.tok k len n):K6 ⟨k,p,bs (l.take len),n⟩:=by
 unfold K6;simp only[yL]
 cases l with
 |nil=>simp[qE] at h
 |cons c r =>
  cases hL:isL c
  ·cases hD:wG c
   ·have h3:k=3/\(len=1∨len=2):=by
     cases h3:qD pQ (bs ((c::r).take 2))
     ·cases h4:qD tB (bs [c])
      ·simp only[qE,hL,hD,h3,h4] at h;cases h
      ·simp only[qE,hL,hD,h3,h4] at h;cases h;exact⟨rfl,.inl rfl⟩
     ·simp only[qE,hL,hD,h3] at h;cases h;exact⟨rfl,.inr rfl⟩
    right;left
    refine⟨h3.1,c,r.take (len-1),?_,by unfold wD;rw[hL,hD];rfl⟩
    rcases h3.2 with e|e <;> rw[e] <;> rfl
   ·simp only[qE,hL,hD] at h;split at h
    ·cases h
    ·cases h;exact .inr (.inr (.inr ⟨rfl,c,r.take (jE wG r),List.take_succ_cons,hD⟩))
  ·simp only[qE,hL] at h;split at h
   ·cases h
   ·cases h;left;refine⟨rfl,c,r.take (jE wD r),List.take_succ_cons,hL,fun x hx=>?_⟩;rcases List.mem_cons.1 hx with rfl|hx
    ·unfold wD;rw[hL];rfl
    ·exact mT wD r x hx
theorem u6:∀(f p:Nat) (l:List UInt8),∀t∈(vF f p l).toks,K6 t
 |0,p,l=>by simp[vF]
 |f+1,p,[]=>by simp[vF]
 |f+1,p,c::r=>by
  rw[vF];split
  ·exact u6 f _ _
  ·split
   ·exact u6 f _ _
   ·cases ht:qE (c::r) with
    |bad e=>simp
    |tok k len n =>
     intro t hm;simp only[Lx.cons,List.mem_cons] at hm;rcases hm with rfl|hm
     ·exact jsO ht
     ·exact u6 f _ _ t hm
theorem jnI{s:ByteArray}(he:(qM s).err=none):∀t∈iD s,K6 t:=fun t ht=>by
 rw[gR he,List.mem_append] at ht;rcases ht with ht|ht
 ·exact u6 _ _ _ t ht
 ·rw[List.mem_singleton.1 ht];exact .inr (.inr (.inl ⟨rfl,rfl⟩))
theorem jii{c:UInt8}(h:wD c=true):c≠32:=fun e=>by subst e;revert h;decide
theorem jn5{t:Tk}(h:K6 t):wOk t:=fun hk=>by
 rcases h with ⟨_,c,r,h1,_,h3⟩|⟨h1,_⟩|⟨h1,_⟩|⟨h1,_⟩
 ·rw[h1];exact⟨by simp,fun x hx=>jii (h3 x hx)⟩
 ·omega
 ·omega
 ·omega
theorem jkf{s:ByteArray}(hs:s.size<=3000)(he:(qM s).err=none):TkP (iD s):=⟨jpQ hs he,fun t ht=>jn5 (jnI he t ht)⟩
def okE(x e:Int):Prop:=(0<=x/\x<=1000000000)/\0<e/\e<=100
def mZ(p:Pn):Prop:=match p with
 |.bad x e=>okE x e
 |_=>True
def bT(op:List Tk->Pn):Prop:=∀ts,TkP ts->mZ (op ts)
theorem TkP.hp{ts:List Tk}(h:TkP ts):(Vm.hd ts).pos<=1000000000:=h.good.2.2.2.2.2
theorem cH{ts:List Tk}(h:TkP ts){e:Int}(he:0<e/\e<=100):mZ (.bad (hd ts).pos e):=⟨⟨by omega,by have:=h.hp;omega⟩,he⟩
theorem q9{p:Pn}{k:Nt->List Tk->Pn}(h:mZ p)(hk:∀f r,p=.ok f r->mZ (k f r)):mZ (p.andThen k):=by
 cases p with
 |ok f r=>exact hk f r rfl
 |bad x e=>exact h
theorem wW{s:ByteArray}{ts:List Tk}{k:List Tk->Pn}(h:TkP ts)(hk:TkP ts.tail->mZ (k ts.tail)):mZ (xpt s ts k):=by
 unfold xpt;by_cases hs:q8 s ts=true
 ·rw[if_pos hs];exact hk (h.is hs).1
 ·rw[if_neg hs];exact cH h (by decide)
theorem jf7{lim:Int}{ts:List Tk}{k:Int->List Tk->Pn}(h:TkP ts)(hk:TkP ts.tail->mZ (k (hd ts).n ts.tail)):mZ (nX lim ts k):=by
 unfold nX;by_cases h1:(hd ts).kind≠2
 ·rw[if_pos h1];exact cH h (by decide)
 ·rw[if_neg h1];by_cases h2:lim<=(hd ts).n
  ·rw[if_pos h2];exact cH h (by decide)
  ·rw[if_neg h2];exact hk (h.tail (by rw[Decidable.not_not.1 h1];decide)).1
theorem mP{ts:List Tk}(h:TkP ts):mZ (synE ts):=cH h (by decide)
def jca(low:Option Pa):Prop:=∀p,low=some p->bT p.no/\bT p.un/\bT p.ex/\bT p.bl
theorem jh0{low:Option Pa}(hg:cT low)(hl:jca low):bT (cD low):=fun ts h=>by
 unfold cD;by_cases hs:q8 pLp ts=true
 ·rw[if_pos hs]
  cases low with
  |none=>exact cH h (by decide)
  |some p =>
   have q:=(h.is hs).1
   exact q9 ((hl p rfl).2.2.1 _ q) fun f r e=>wW ((hg p rfl).2.2.1 _ _ _ q e).1 fun _=>trivial
 ·rw[if_neg hs];exact mP h
theorem qY{c:Prop}[Decidable c]{a b:Pn}(h1:c->mZ a)(h2:¬c->mZ b):mZ (if c then a else b):=by
 by_cases h:c
 ·rw[if_pos h];exact h1 h
 ·rw[if_neg h];exact h2 h
theorem jnT{low:Option Pa}(hg:cT low)(hl:jca low):bT (dS low):=fun ts h=>by
 unfold dS
 refine qY (fun hs=>jh0 hg hl ts h) fun _=>?_
 refine qY (fun hs=>q9 (jh0 hg hl _ (h.is hs).1) fun _ _ _=>trivial) fun _=>?_
 refine qY (fun hs=>trivial) fun _=>?_
 refine qY (fun hs=>trivial) fun _=>?_
 refine qY (fun hs=>trivial) fun _=>?_
 refine qY (fun hs=>trivial) fun _=>?_
 exact qY (fun hs=>trivial) fun _=>mP h
theorem jkl{s:ByteArray}{op:Option (List Tk->Pn)}(hl:∀f,op=some f->bT f){ts:List Tk}(h:TkP ts)(hs:q8 s ts=true):mZ (tE s op ts):=by
 cases op with
 |none=>exact cH h (by decide)
 |some f=>exact q9 (hl f rfl _ (h.is hs).1) fun _ _ _=>trivial
theorem jkn{low:Option Pa}(hg:cT low)(hl:jca low):bT (aA low):=fun ts h=>by
 unfold aA
 refine qY (fun hs=>jkl (fun f hf=>?_) h hs) fun _=>jnT hg hl ts h
 obtain⟨p,hp,rfl⟩:=Option.map_eq_some_iff.1 hf;exact(hl p hp).2.1
theorem jdE{op:List Tk->Pn}(hg:qZ op)(ho:bT op)(signs:List ByteArray):∀(n:Nat) (l:Nt) (ts:List Tk),TkP ts->mZ (wZ op signs n l ts)
 |0,l,ts,h=>trivial
 |n+1,l,ts,h=>by
  rw[wZ]
  refine qY (fun hs=>?_) fun _=>trivial
  obtain⟨s,hs⟩:=eE hs;have q:=(h.is hs).1
  exact q9 (ho _ q) fun f r e=>jdE hg ho signs n _ _ (hg _ _ _ q e).1
theorem ja5{op:List Tk->Pn}(hg:qZ op)(ho:bT op)(signs:List ByteArray):bT (wF op signs):=fun ts h=>by
 unfold wF
 exact q9 (ho _ h) fun f r e=>jdE hg ho signs _ _ _ (hg _ _ _ h e).1
theorem jkm{low:Option Pa}(hg:cT low)(hl:jca low):bT (jbP low):=ja5 (xH (nH hg) _) (ja5 (nH hg) (jkn hg hl) _) _
theorem jkk{low:Option Pa}(hg:cT low)(hl:jca low):bT (uR low):=fun ts h=>by
 unfold uR
 refine qY (fun hs=>jkl (fun f hf=>?_) h hs) fun _=>?_
 ·obtain⟨p,hp,rfl⟩:=Option.map_eq_some_iff.1 hf;exact(hl p hp).1
 ·refine q9 (jkm hg hl _ h) fun l r e=>?_
  have q:=(iT hg _ _ _ h e).1
  refine qY (fun hs=>?_) fun _=>trivial
  obtain⟨s,hs⟩:=eE hs
  exact q9 (jkm hg hl _ (q.is hs).1) fun _ _ _=>trivial
theorem jkj{low:Option Pa}(hg:cT low)(hl:jca low):bT (jfT low):=ja5 (xH (nG hg) _) (ja5 (nG hg) (jkk hg hl) _) _
theorem jsH{ex bl:List Tk->Pn}(gex:qZ ex)(gbl:qZ bl)(hex:bT ex)(hbl:bT bl):bT (stG ex bl):=fun ts h=>by
 unfold stG
 refine qY (fun hn=>?_) fun _=>?_
 ·have q:=(h.tail (by rw[yW hn];decide)).1
  exact wW q fun q=>q9 (hex _ q) fun f r e=>wW (gex _ _ _ q e).1 fun _=>trivial
 refine qY (fun _=>mP h) fun hk=>?_
 have q:=(h.tail (by rw[Decidable.not_not.1 hk];decide)).1
 refine qY (fun _=>q9 (hex _ q) fun f r e=>q9 (hbl _ (gex _ _ _ q e).1) fun f2 r2 e2=>qY (fun hs=>q9 (hbl _ ((gbl _ _ _ (gex _ _ _ q e).1 e2).1.is hs).1) fun _ _ _=>trivial) fun _=>trivial) fun _=>?_
 refine qY (fun _=>q9 (hex _ q) fun f r e=>q9 (hbl _ (gex _ _ _ q e).1) fun _ _ _=>trivial) fun _=>?_
 refine qY (fun _=>q9 (hex _ q) fun f r e=>wW (gex _ _ _ q e).1 fun q=>jf7 q fun q=>wW q fun q=>q9 (hex _ q) fun f r e=>wW (gex _ _ _ q e).1 fun q=>q9 (hex _ q) fun f r e=>wW (gex _ _ _ q e).1 fun _=>trivial) fun _=>?_
 refine qY (fun _=>jf7 q fun q=>wW q fun _=>trivial) fun _=>?_
 refine qY (fun _=>jf7 q fun q=>wW q fun _=>trivial) fun _=>?_
 refine qY (fun _=>wW q fun _=>trivial) fun _=>?_
 refine qY (fun _=>q9 (hex _ q) fun f r e=>wW (gex _ _ _ q e).1 fun q=>q9 (hex _ q) fun f r e=>wW (gex _ _ _ q e).1 fun _=>trivial) fun _=>?_
 refine qY (fun _=>q9 (hex _ q) fun f r e=>wW (gex _ _ _ q e).1 fun _=>trivial) fun _=>?_
 exact qY (fun _=>wW q fun _=>trivial) fun _=>mP h
theorem jgZ{st:List Tk->Pn}(gst:GoesS st)(hst:bT st):∀(n:Nat) (acc:List Nt) (ts:List Tk),TkP ts->mZ (cY st n acc ts)
 |0,acc,ts,h=>mP h
 |n+1,acc,ts,h=>by
  rw[cY]
  exact qY (fun _=>trivial) fun _=>q9 (hst _ h) fun f r e=>jgZ gst hst n _ _ (gst _ _ _ h e).1
theorem jsF{st:List Tk->Pn}(gst:GoesS st)(hst:bT st):bT (bkF st):=fun ts h=>by
 unfold bkF
 exact wW h fun q=>jgZ gst hst _ _ _ q
theorem jnR{low:Option Pa}(hl:jca low):bT (jna low):=by
 cases low with
 |none=>exact fun ts h=>qY (fun _=>cH h (by decide)) fun _=>mP h
 |some p=>exact(hl p rfl).2.2.2
theorem jnS{low:Option Pa}(hg:cT low)(hl:jca low):jca (some (paG low)):=fun p hp=>by
 cases hp;exact⟨jkk hg hl,jkn hg hl,jkj hg hl,jsF (rL (nF hg) (gI hg)) (jsH (nF hg) (gI hg) (jkj hg hl) (jnR hl))⟩
theorem jeU:∀d,cT (some (pa d))/\jca (some (pa d))
 |0=>⟨jeD (fun _ h=>by cases h),jnS (fun _ h=>by cases h) (fun _ h=>by cases h)⟩
 |d+1=>⟨jeD (jeU d).1,jnS (jeU d).1 (jeU d).2⟩
theorem jpR:bT (pa 19).bl:=((jeU 19).2 _ rfl).2.2.2
theorem xO{ts:List Tk}(h:TkP ts){e:Int}(he:0<e/\e<=100):okE (hd ts).pos e:=cH h he
theorem jh1{lim off:Int}{ts:List Tk}(h:TkP ts){x e:Int}(k:iB lim off ts=.bad x e):okE x e:=by
 unfold iB at k;split at k
 ·cases k;exact xO h (by decide)
 ·split at k
  ·cases k;exact xO h (by decide)
  ·cases k
theorem jsG{hs:List (Int×Nt)}{ts:List Tk}(h:TkP ts){x e:Int}(k:t7 hs ts=.bad x e):okE x e:=by
 unfold t7 at k
 cases hh:sH ts with
 |bad x2 e2 =>
  rw[hh] at k;cases k;unfold sH at hh;by_cases h1:q8 aB ts=true
  ·rw[if_pos h1] at hh;cases hh
  rw[if_neg h1] at hh;by_cases h2:q8 wRequest ts=true
  ·rw[if_pos h2] at hh;cases hh
  rw[if_neg h2] at hh;by_cases h3:q8 wTimer ts=true
  ·rw[if_pos h3] at hh;exact jh1 (h.is h3).1 hh
  rw[if_neg h3] at hh;by_cases h4:q8 wMessage ts=true
  ·rw[if_pos h4] at hh;exact jh1 (h.is h4).1 hh
  rw[if_neg h4] at hh;cases hh;exact xO h (by decide)
 |ok k2 r2 =>
  rw[hh] at k
  simp only at k
  split at k
  ·cases k;exact xO h (by decide)
  ·cases k
theorem jnQ(du vo:List ByteArray):∀(n:Nat) (hs:List (Int×Nt)) (ts:List Tk) (x e:Int),TkP ts->o5 du vo n hs ts=.bad x e->okE x e
 |0,hs,ts,x,e,h,k=>by cases k;exact xO h (by decide)
 |n+1,hs,ts,x,e,h,k=>by
  rw[u4] at k;by_cases hk:(hd ts).kind=0
  ·rw[if_pos hk] at k;cases k
  rw[if_neg hk] at k;by_cases ho:q8 wOn ts=false
  ·rw[if_pos ho] at k;cases k;exact xO h (by decide)
  rw[if_neg ho] at k;have q:=(h.tail hk).1
  cases hh:t7 hs ts.tail with
  |bad x2 e2=>rw[hh] at k;cases k;exact jsG q hh
  |ok k2 r =>
   rw[hh] at k
   simp only at k
   obtain⟨_,q2,_⟩:=jif q hh;have hb:=jpR _ q2
   cases hbl:(pa 19).bl r with
   |bad x2 e2=>rw[hbl] at k hb;cases k;exact hb
   |ok b r2 =>
    rw[hbl] at k;exact jnQ du vo n _ _ _ _ (iL _ _ _ q2 hbl).1 k
theorem jiY:∀(n:Nat) (nm out:List ByteArray) (ts:List Tk) (x e:Int),TkP ts->(hd ts).kind≠0->gG n nm out ts=.bad x e->okE x e
 |0,nm,out,ts,x,e,h,hk,k=>by cases k;exact xO h (by decide)
 |n+1,nm,out,ts,x,e,h,hk,k=>by
  rw[uZ] at k;have q:=(h.tail hk).1;by_cases hn:wQ ts.tail=false
  ·rw[if_pos hn] at k;cases k;exact xO q (by decide)
  rw[if_neg hn] at k;by_cases hh:qD nm (hd ts.tail).text=true
  ·rw[if_pos hh] at k;cases k;exact xO q (by decide)
  rw[if_neg hh] at k;by_cases h6:nm.length=16
  ·rw[if_pos h6] at k;cases k;exact xO q (by decide)
  rw[if_neg h6] at k;have q3:=(q.tail (by rw[yW (by simpa using hn)];decide)).1;unfold deH at k;by_cases hc:q8 jZ ts.tail.tail=true
  ·rw[if_pos hc] at k;exact jiY n _ _ _ _ _ q3 (yS hc) k
  ·rw[if_neg hc] at k;by_cases hs:q8 jO ts.tail.tail=true
   ·rw[if_pos hs] at k;cases k
   ·rw[if_neg hs] at k;cases k;exact xO q3 (by decide)
theorem jiX:∀(n:Nat) (nm du vo:List ByteArray) (ts:List Tk) (x e:Int),TkP ts->nm.length<=16->sP n nm du vo ts=.bad x e->okE x e
 |0,nm,du,vo,ts,x,e,h,h16,k=>by cases k;exact xO h (by decide)
 |n+1,nm,du,vo,ts,x,e,h,h16,k=>by
  rw[sP] at k;by_cases h1:q8 xL ts=true
  ·rw[if_pos h1] at k
   cases hd:gG ts.length nm [] ts with
   |bad x2 e2=>rw[hd] at k;cases k;exact jiY _ _ _ _ _ _ h (yS h1) hd
   |ok nm2 out r =>
    rw[hd] at k;obtain⟨k1,k2,k3,k4⟩:=xX _ _ _ _ _ _ _ h (yS h1) h16 hd;exact jiX n _ _ _ _ _ _ k1 k3 k
  rw[if_neg h1] at k;by_cases h2:q8 vE ts=true
  ·rw[if_pos h2] at k
   cases hd:gG ts.length nm [] ts with
   |bad x2 e2=>rw[hd] at k;cases k;exact jiY _ _ _ _ _ _ h (yS h2) hd
   |ok nm2 out r =>
    rw[hd] at k;obtain⟨k1,k2,k3,k4⟩:=xX _ _ _ _ _ _ _ h (yS h2) h16 hd;exact jiX n _ _ _ _ _ _ k1 k3 k
  rw[if_neg h2] at k;exact jnQ _ _ _ _ _ _ _ h k
theorem jny{ts:List Tk}(h:TkP ts){x e:Int}(k:jnx ts=.bad x e):okE x e:=jiX _ _ _ _ _ _ _ h (Nat.zero_le _) k
theorem jiE(u:Ut):jcv (ClD Tryz.prog 82 .returning .returning) [iE u,[intA 0],[intA 0]] [.box 0 0,.box 1 0,.box 2 0] (fun o r=>o=[iE u,[intA 0],[intA 0]]/\r=.tup []) fun _=>False:=by
 refine jkb (jQ jqQ (fun _=>[0,1,2]) 3) (fun _ _ h=>h) Tryz.func82 rfl (d0:=6) ⟨rfl,rfl,rfl⟩ (by decide) (rv:=.nilIface) trivial (.inl ⟨rfl,rfl,rfl⟩) rfl ?_;intro _;conv=>whnf
 refine z6 (jQ _ _ _) (by kernel_rfl) ?_;conv=>whnf
 exact⟨rfl,rfl⟩
theorem jiD(x e:Int)(hx:okE x e)(c0 c1 c2 b1 b2:A):jcv (ClD Tryz.prog 82 (.panicking (qX x e)) (.panicking [⟨.iface 120 (.agg #[.int .i64 x,.int .i64 e]),true,false⟩])) [[c0,c1,c2],[b1],[b2]] [.box 0 0,.box 1 0,.box 2 0]
  (fun o r=>o=[cK,[intA x],[intA e]]/\r=.tup []) fun _=>False:=by
 obtain⟨hx,he⟩:=hx;refine jkb (jQ jqQ (fun _=>[0,1,2]) 3) (fun _ _ h=>h) Tryz.func82 rfl (d0:=6) ⟨rfl,rfl,rfl⟩ (by decide) (rv:=.iface 120 (.agg #[.int .i64 x,.int .i64 e])) trivial (.inr ⟨_,[],rfl,rfl,rfl⟩) rfl ?_;intro _;conv=>whnf
 refine z6 (jQ _ _ _) (by kernel_rfl) ?_;conv=>whnf
 refine⟨?_,?_⟩
 ·intro u hu;simp at hu;rcases hu with rfl|rfl
  ·exact okV_int.2 (jH (by omega))
  ·exact okV_int.2 (jH (by omega))
 conv=>whnf
 exact⟨rfl,rfl⟩
def jk9:PU->A
 |.ok u=>.tup [.agg (iE u),intA 0,intA 0]
 |.bad x e=>.tup [.agg cK,intA x,intA e]
def jr8(p:PU)(ch:List PanicEntry)(s:S):Prop:=∃(x e:Int) (c0 c1 c2:A) (bx:List (List A)) (a b:A) (t:List A),p=.bad x e/\okE x e/\ch=qX x e/\s.bx=cK::[intA 0]::[intA 0]::bx/\s.t=a::b::.box 0 0::.box 1 0::.box 2 0::t/\s.rw=[]
theorem jtn{l:List (List A)}{a b c d:List A}(h:l.length=4)(k:∀j,j≠3->l[j]?=[a,b,c,d][j]?):∃d',l=[a,b,c,d']:=by
 match l,h with
 |[x,y,z,w],_ =>
  have h0:=k 0 (by decide);have h1:=k 1 (by decide);have h2:=k 2 (by decide);simp at h0 h1 h2;exact⟨w,by rw[h0,h1,h2]⟩
def oH(id:Nat):Tr:=match Nat.beq id 5 with
 |true=>.q 0 3 (.alt 1 2 (.alt 2 2 (.alt 3 2 (.alt 4 2 (.alt 5 2 .nil .nil) .nil) .nil) (.alt 3 2 (.alt 2 2 (.alt 4 2 (.alt 5 2 .nil .nil) .nil) (.alt 4 2 (.alt 2 2 (.alt 5 2 .nil .nil) .nil) .nil)) .nil)) (.alt 2 2 (.alt 1 2 (.alt 3 2 (.alt 4 2 (.alt 5 2 .nil .nil) .nil) .nil) (.alt 3 2 (.alt 1 2 (.alt 4 2 (.alt 5 2 .nil .nil) .nil) .nil) .nil)) (.alt 3 2 (.alt 1 2 (.alt 2 2 (.alt 4 2 (.alt 5 2 .nil .nil) .nil) (.alt 4 2 (.alt 2 2 (.alt 5 2 .nil .nil) .nil) .nil)) (.alt 2 2 (.alt 1 2 (.alt 4 2 (.alt 5 2 .nil .nil) .nil) .nil) .nil)) .nil)))
 |false=>.nil
theorem jiH(s:ByteArray)(hs:s.size<=1000000000):Spec Tryz.prog 60 [] [jX s] fun _ r=>r=jk9 (eA s):=by
 obtain⟨R,hR⟩:∃R,eA s=R:=⟨_,rfl⟩
 rw[hR];have htk:=jht s hs
 have hpan:∀(ch:List PanicEntry) (s':S),jr8 R ch s'->eV ⟨Tryz.prog,tab,oH,fun _=>[0],0,fun _ _=>False⟩ Tryz.f60.results.toList (fun _ r=>r=jk9 R) [(82,[.box 0 0,.box 1 0,.box 2 0])] (.panicking ch) s':=fun ch s' hP=>by
  obtain⟨x,e,c0,c1,c2,bx,a,b,t0,hRe,hran,rfl,hbx,ht,hrw⟩:=hP;obtain⟨t,bx',rw'⟩:=s'
  simp only at hbx hrw ht
  subst hbx hrw ht;subst hRe;unfold eV;refine⟨(fun h=>by cases h),FrameMode.panicking [⟨.iface 120 (.agg #[.int .i64 x,.int .i64 e]),true,false⟩],?_⟩;unfold joT;refine⟨fun vs w=>rfl,[0,1,2],[],[cK,[intA 0],[intA 0]],[.box 0 0,.box 1 0,.box 2 0],fun o r=>o=[cK,[intA x],[intA e]]/\r=.tup [],by decide,?_,rfl,rfl,fun _=>jiD x e hran _ _ _ _ _,?_⟩
  ·intro i hi;simp only[List.length_cons];simp at hi;omega
  rintro o r ⟨rfl,rfl⟩ _;conv=>whnf
  rfl
 refine jo7 (jQ oH (fun _=>[0]) 0) Tryz.func60 rfl (by kernel_rfl) rfl ?_;intro _;conv=>whnf
 refine kC (jQ oH (fun _=>[0]) 0) (dr:=[]) ⟨0,rfl⟩ (.inl rfl) (by kernel_rfl) (fun _ _ h=>h.elim) ?_;conv=>whnf
 refine kC (jQ oH (fun _=>[0]) 0) (dr:=[]) ⟨0,rfl⟩ (.inl rfl) (by kernel_rfl) (fun _ _ h=>h.elim) ?_;conv=>whnf
 unfold eA at hR;by_cases hbig:3000<s.size
 ·rw[if_pos hbig] at hR;rw[jJ (by omega)];conv=>whnf
  refine⟨.inr rfl,?_⟩;conv=>whnf
  subst hR;rfl
 rw[if_neg hbig] at hR;rw[jG (by omega)];conv=>whnf
 refine kC (jQ oH (fun _=>[0]) 0) (dr:=[]) ⟨0,rfl⟩ (.inl rfl) (by kernel_rfl) (fun _ _ h=>h.elim) ?_;conv=>whnf
 refine kL [] htk ?_;rintro r rfl
 have htb:=fun h=>jkf (s:=s) (by omega) h
 unfold s7
 cases herr:(qM s).err with
 |some pe =>
  obtain⟨p,e⟩:=pe;rw[herr] at hR
  simp only at hR
  have hne:=(gZ (s.data.toList.length+1) 0 s.data.toList).2 p e herr;conv=>whnf
  refine kC (jQ oH (fun _=>[0]) 0) (dr:=[]) ⟨0,rfl⟩ (.inl rfl) (by kernel_rfl) (fun _ _ h=>h.elim) ?_;conv=>whnf
  rw[jG hne.2.1];conv=>whnf
  apply cB
  ·repeat' (first|(with_reducible refine And.intro ?_ ?_)|(conv=>whnf))
  conv=>whnf
  refine⟨.inr rfl,?_⟩;conv=>whnf
  subst hR;rfl
 |none =>
  rw[herr] at hR
  simp only at hR
  have htb:=htb herr;have hrl:=gR herr;rw[<- hrl]
  have hln:(qM s).toks.length+1=(iD s).length:=by rw[hrl];simp
  rw[hln];generalize iD s=T at *;conv=>whnf
  refine kC (jQ oH (fun _=>[0]) 0) (dr:=[]) ⟨0,rfl⟩ (.inl rfl) (by kernel_rfl) (fun _ _ h=>h.elim) ?_;conv=>whnf
  refine jl6 (jQ oH (fun _=>[0]) 0) ⟨0,rfl⟩ (fun _ _ h=>h.elim) (l:=[_]) rfl rfl rfl ?_;conv=>whnf
  have hpg:=jf1 T htb
  have hsan:=fun x e=>jny htb (x:=x) (e:=e)
  rw[hR] at hpg;refine kC (c:=⟨Tryz.prog,tab,oH,fun _=>[0],0,jr8 R⟩) (wJ _ _ _ _) ⟨3,rfl⟩ (.inr (by kernel_rfl)) (by kernel_rfl) hpan ?_;conv=>whnf
  refine jp1 3 [] rfl rfl rfl rfl (fun _=>hpg) (fun ch bx' hp hbl hbx=>?_) ?_
  ·unfold puQ at hp;split at hp
   ·rename_i x e;obtain⟨d',rfl⟩:=jtn hbl hbx;exact⟨x,e,.dead,.dead,.dead,_,_,_,_,rfl,hsan _ _ hR,hp,rfl,rfl,rfl⟩
   ·exact hp.elim
  rintro o r ⟨⟨nm,ts1,ho⟩,huo⟩;cases ho;unfold uoQ at huo;split at huo
  rotate_left
  ·exact huo.elim
  rename_i u;subst huo;conv=>whnf
  refine jgH (c:=⟨Tryz.prog,tab,oH,fun _=>[0],0,jr8 (.ok u)⟩) (wJ _ _ _ _) ⟨3,rfl⟩ (.inr (by kernel_rfl)) (by kernel_rfl) hpan ?_;conv=>whnf
  refine⟨.inr rfl,?_⟩;unfold eV;refine⟨(fun h=>by cases h),FrameMode.returning,?_⟩;unfold joT;refine⟨fun vs w=>rfl,[0,1,2],[],[iE u,[intA 0],[intA 0]],[.box 0 0,.box 1 0,.box 2 0],fun o r=>o=[iE u,[intA 0],[intA 0]]/\r=.tup [],by decide,?_,rfl,rfl,fun _=>jiE u,?_⟩
  ·intro i hi;simp only[List.length_cons];simp at hi;omega
  rintro o r ⟨rfl,rfl⟩ _;conv=>whnf
  rfl
def opAll:List ByteArray:=[k9,pOr,dQ,pMinus,vZ,yG,pLt,pLe,pGt,pGe,jnu,pNe]
def arN(k:Int)(s:ByteArray)(m:Nat):Bool :=
 if k=11 then decide (m<=3002)
 else if k=12∨k=13∨k=14∨k=5∨k=6∨k=7∨k=10 then decide (m=0)
 else if k=15 then decide (m=0)&&builtL.any fun x=>decide (s=x)
 else if k=16∨k=1∨k=9 then decide (m=1)
 else if k=17 then decide (m=1)&&(decide (s=pMinus)||decide (s=pNot))
 else if k=18 then decide (m=2)&&opAll.any fun x=>decide (s=x)
 else if k=8∨k=3 then decide (m=2)
 else if k=2∨k=4 then decide (m=3)
 else false
theorem jhQ{k:Int}{s:ByteArray}{m:Nat}(h:arN k s m=true):m<=3002:=by
 unfold arN at h
 repeat' split at h
 all_goals(try rw[Bool.and_eq_true] at h);(try simp only[decide_eq_true_eq] at h);(first|omega|(have:=h.1;omega)|cases h)
def isX(f:Nt):Bool:=decide (12<=f.k)
def clN(k:Int)(l:List Nt):Bool :=
 if k=11 then l.all fun f => !isX f
 else if k=2∨k=3 then(l.take 1).all isX&&(l.drop 1).all fun f => !isX f
 else l.all isX
mutual
def xD:Nt->Prop
 |.mk k n s kids=>arN k s kids.length=true/\jfl kids/\clN k kids=true
def jfl:List Nt->Prop
 |[]=>True
 |f::l=>xD f/\jfl l
end
theorem xN:∀{l:List Nt} {f:Nt},jfl l->f∈l->xD f
 |x::r,f,h,hf=>by
  unfold jfl at h;rcases List.mem_cons.1 hf with rfl|hf
  ·exact h.1
  ·exact xN h.2 hf
theorem jkz:∀{l:List Nt},(∀f∈l,xD f)->jfl l
 |[],_=>by unfold jfl;trivial
 |x::r,h=>by
  unfold jfl;exact⟨h x List.mem_cons_self,jkz fun f hf=>h f (List.mem_cons_of_mem _ hf)⟩
theorem jc5{k n:Int}{s:ByteArray}{kids:List Nt}(h:arN k s kids.length=true)(hc:clN k kids=true)(hk:∀f∈kids,xD f):xD (.mk k n s kids):=by
 unfold xD;exact⟨h,jkz hk,hc⟩
def Wc(c:Bool)(f:Nt):Prop:=xD f/\isX f=c
theorem wx0{k n:Int}{s:ByteArray}(h:arN k s 0=true):xD (.mk k n s []):=jc5 h (by unfold clN;(repeat' split) <;> rfl) (by simp)
theorem jmf{k:Int}{l:List Nt}(hk:k≠11/\k≠2/\k≠3):clN k l=l.all isX:=by
 unfold clN;rw[if_neg hk.1,if_neg (fun h=>h.elim hk.2.1 hk.2.2)]
theorem wx1{k n:Int}{s:ByteArray}{f:Nt}(h:arN k s 1=true)(hk:k≠11/\k≠2/\k≠3)(hf:Wc true f):xD (.mk k n s [f]):=jc5 h (by rw[jmf hk];simp[hf.2]) fun x hx=>by rw[List.mem_singleton.1 hx];exact hf.1
theorem jhu{f g h:Nt}(hf:xD f)(hg:xD g)(hh:h∈[f,g]):xD h:=by
 simp only[List.mem_cons,List.not_mem_nil,or_false] at hh
 rcases hh with rfl|rfl <;> assumption
theorem jbV{f g h i:Nt}(hf:xD f)(hg:xD g)(hh:xD h)(hi:i∈[f,g,h]):xD i:=by
 simp only[List.mem_cons,List.not_mem_nil,or_false] at hi
 rcases hi with rfl|rfl|rfl <;> assumption
theorem wx2{k n:Int}{s:ByteArray}{f g:Nt}(h:arN k s 2=true)(hk:k≠11/\k≠2/\k≠3)(hf:Wc true f)(hg:Wc true g):xD (.mk k n s [f,g]):=jc5 h (by rw[jmf hk];simp[hf.2,hg.2]) fun x hx=>jhu hf.1 hg.1 hx
theorem wx3{k n:Int}{s:ByteArray}{f g c:Nt}(h:arN k s 3=true)(hk:k≠11/\k≠2/\k≠3)(hf:Wc true f)(hg:Wc true g)(hc:Wc true c):xD (.mk k n s [f,g,c]):=jc5 h (by rw[jmf hk];simp[hf.2,hg.2,hc.2]) fun x hx=>jbV hf.1 hg.1 hc.1 hx
theorem wi2{n:Int}{s:ByteArray}{c b:Nt}(hc:Wc true c)(hb:Wc false b):Wc false (.mk 3 n s [c,b]):=⟨jc5 rfl (by unfold clN;simp[hc.2,hb.2]) fun x hx=>jhu hc.1 hb.1 hx,rfl⟩
theorem wi3{n:Int}{s:ByteArray}{c b o:Nt}(hc:Wc true c)(hb:Wc false b)(ho:Wc false o):Wc false (.mk 2 n s [c,b,o]):=⟨jc5 rfl (by unfold clN;simp[hc.2,hb.2,ho.2]) fun x hx=>jbV hc.1 hb.1 ho.1 hx,rfl⟩
theorem wbk{n:Int}{s:ByteArray}{l:List Nt}(hl:l.length<=3002)(h:∀f∈l,Wc false f):Wc false (.mk 11 n s l):=⟨jc5 (jJ hl) (by
 unfold clN;rw[if_pos rfl,List.all_eq_true]
 exact fun f hf=>by rw[(h f hf).2];rfl) fun f hf=>(h f hf).1,rfl⟩
mutual
def j6:Nt->Nat
 |.mk _ _ _ kids=>3+qF kids
def qF:List Nt->Nat
 |[]=>0
 |f::l=>j6 f+qF l
end
theorem jdV(s:Nt):∀l:List Nt,qF (l++[s])=qF l+j6 s
 |[]=>by show j6 s+0=0+j6 s;omega
 |f::l=>by show j6 f+qF (l++[s])=j6 f+qF l+j6 s;rw[jdV s l];omega
def WP(c:Bool)(z:Nat)(op:List Tk->Pn):Prop:=∀ts f r,ts.length<=3002->op ts=.ok f r->Wc c f/\∃a,ts=a++r/\j6 f<=z+9*a.length
def WPt(c:Bool)(z:Nat)(op:List Tk->Pn):Prop:=∀ts f r,ts≠[]->ts.length<=3002->op ts=.ok f r->Wc c f/\∃a,ts=a++r/\j6 f<=z+9*a.length
theorem WP.syn{c:Bool}{z:Nat}:WP c z synE:=fun ts f r _ h=>by cases h
theorem WP.bad{c:Bool}{z:Nat}(x:List Tk->Int)(y:Int):WP c z (fun ts=>.bad (x ts) y):=fun ts f r _ h=>by cases h
theorem WP.mono{c:Bool}{z y:Nat}{op:List Tk->Pn}(h:WP c z op)(hz:z<=y):WP c y op:=fun ts f r h1 h2=>by
 obtain⟨a1,a,a2,a3⟩:=h ts f r h1 h2;exact⟨a1,a,a2,by omega⟩
theorem WP.okT{c:Bool}{z:Nat}{f:Nt}(hf:Wc c f)(hz:j6 f<=z:=by first|omega|(simp only[j6,qF,wO];omega)):WP c z (fun r=>.ok f r):=fun ts g r _ h=>by cases h;exact⟨hf,[],rfl,by simpa using hz⟩
theorem WP.andThen{c d:Bool}{z:Nat}{op:List Tk->Pn}{k:Nt->List Tk->Pn}(h1:WP c 0 op)(h2:∀f,Wc c f->WP d (z+j6 f) (k f)):WP d z (fun ts=>(op ts).andThen k):=fun ts f r hz h=>by
 cases ho:op ts with
 |bad x y=>simp only[ho] at h;cases h
 |ok g u =>
  simp only[ho] at h;obtain⟨a1,a,a2,a3⟩:=h1 ts g u hz ho
  have hu:u.length<=3002:=by rw[a2,List.length_append] at hz;omega
  obtain⟨b1,b,b2,b3⟩:=h2 g a1 u f r hu h;exact⟨b1,a++b,by rw[a2,b2,List.append_assoc],by rw[List.length_append];omega⟩
theorem WP.tail{c:Bool}{z:Nat}{op:List Tk->Pn}(h:WP c (z+9) op):WPt c z (fun ts=>op ts.tail):=fun ts f r hne hz ho=>by
 obtain⟨a1,a,a2,a3⟩:=h _ f r (by rw[List.length_tail];omega) ho
 cases ts with
 |nil=>exact absurd rfl hne
 |cons t ts=>exact⟨a1,t::a,by simpa using a2,by rw[List.length_cons];omega⟩
theorem WP.itc{d:Bool}{z:Nat}(c:List Tk->Prop)[DecidablePred c](hc:¬c []){op1 op2:List Tk->Pn}(h1:WPt d z op1)(h2:WP d z op2):WP d z (fun ts=>if c ts then op1 ts else op2 ts):=fun ts f r hz h=>by
 dsimp only at h
 split at h
 ·rename_i hcc;exact h1 ts f r (fun e=>hc (e ▸ hcc)) hz h
 ·exact h2 ts f r hz h
theorem WP.ite{d:Bool}{z:Nat}(c:List Tk->Prop)[DecidablePred c]{op1 op2:List Tk->Pn}(h1:WP d z op1)(h2:WP d z op2):WP d z (fun ts=>if c ts then op1 ts else op2 ts):=fun ts f r hz h=>by
 dsimp only at h
 split at h
 ·exact h1 ts f r hz h
 ·exact h2 ts f r hz h
theorem gY(s:ByteArray):¬q8 s []=true:=by
 unfold q8;rw[show(decide ((hd []).kind=1)||decide ((hd []).kind=3))=false from rfl,Bool.and_false];exact Bool.false_ne_true
theorem jft(l:List ByteArray):¬bU l []=true:=fun h=>by
 obtain⟨s,-,h2⟩:=List.any_eq_true.1 h;exact gY s h2
theorem WP.xpt{c:Bool}{z:Nat}(s:ByteArray){k:List Tk->Pn}(h:WP c (z+9) k):WP c z (fun ts=>Vm.xpt s ts k):=WP.itc (fun ts=>q8 s ts=true) (gY s) h.tail WP.syn
theorem WP.num{c:Bool}{z:Nat}(limit:Int){k:Int->List Tk->Pn}(h:∀n,WP c (z+9) (k n)):WP c z (fun ts=>nX limit ts k):=fun ts f r hz ho=>by
 unfold nX at ho
 dsimp only at ho
 split at ho
 ·cases ho
 ·rename_i h2;split at ho
  ·cases ho
  ·exact(h _).tail ts f r (fun e=>h2 (by rw[e];decide)) hz ho
structure WPa(p:Pa):Prop where
 no:WP true 0 p.no
 un:WP true 0 p.un
 ex:WP true 0 p.ex
 bl:WP false 0 p.bl
def jhL(low:Option Pa):Prop:=∀p,low=some p->WPa p
theorem WP.nest{low:Option Pa}(hl:jhL low):WP true 0 (cD low):=by
 cases low with
 |none=>exact WP.ite (fun ts=>q8 pLp ts=true) (WP.bad _ _) WP.syn
 |some p=>exact WP.itc (fun ts=>q8 pLp ts=true) (gY _) (((hl p rfl).ex.andThen fun n hn=>WP.xpt pRp (WP.okT hn)).tail) WP.syn
theorem WP.tok{c:Bool}{z:Nat}{op:Tk->List Tk->Pn}(h:∀t,WP c (z+9) (op t)):WPt c z (fun ts=>op (hd ts) ts.tail):=fun ts f r hne hz ho=>(h (hd ts)).tail ts f r hne hz ho
theorem jgm:wQ []=false:=rfl
theorem WP.prim{low:Option Pa}(hl:jhL low):WP true 0 (dS low):=by
 refine WP.ite (fun ts=>q8 pLp ts=true) (WP.nest hl) <|
  WP.itc (fun ts=>q8 uO ts=true) (gY _) (((WP.nest hl).andThen fun n hn=>WP.okT ⟨wx1 rfl (by decide) hn,rfl⟩).tail) <|
  WP.itc (fun ts=>(hd ts).kind=2) (by decide) (WP.tok (op:=fun t r=>.ok (.mk 12 t.n eB []) r) fun t=>WP.okT ⟨wx0 rfl,rfl⟩) <|
  WP.itc (fun ts=>q8 uP ts=true) (gY _) (WP.okT ⟨wx0 rfl,rfl⟩).tail <|
  WP.itc (fun ts=>q8 lT ts=true) (gY _) (WP.okT ⟨wx0 rfl,rfl⟩).tail <|
  WP.itc (fun ts=>wQ ts=true) (by rw[jgm];exact Bool.false_ne_true) (WP.tok (op:=fun t r=>.ok (.mk 14 0 t.text []) r) fun t=>WP.okT ⟨wx0 rfl,rfl⟩) ?_
 intro ts f r hz h
 dsimp only at h
 by_cases hb:jgk ts=true
 ·rw[if_pos hb] at h;cases h;refine⟨⟨wx0 ?_,rfl⟩,?_⟩
  ·unfold jgk at hb;rw[Bool.and_eq_true] at hb;show(decide (0=0)&&_)=true;rw[hb.2];rfl
  ·cases ts with
   |nil=>cases hb
   |cons t ts=>exact⟨[t],rfl,by show 3+0<=0+9*1;decide⟩
 ·rw[if_neg hb] at h;cases h
theorem jlU{s:ByteArray}(h:s=pMinus∨s=pNot):arN 17 s 1=true:=by
 show(decide (1=1)&&(decide (s=pMinus)||decide (s=pNot)))=true
 rcases h with rfl|rfl <;> simp
theorem WP.pre(s:ByteArray)(hs:s=pMinus∨s=pNot){op:Option (List Tk->Pn)}(h:∀f,op=some f->WP true 0 f){op2:List Tk->Pn}(h2:WP true 0 op2):WP true 0 (fun ts=>if q8 s ts=true then tE s op ts else op2 ts):=by
 cases op with
 |none=>exact WP.ite (fun ts=>q8 s ts=true) (WP.bad _ _) h2
 |some f=>exact WP.itc (fun ts=>q8 s ts=true) (gY _) (((h f rfl).andThen fun n hn=>WP.okT ⟨wx1 (jlU hs) (by decide) hn,rfl⟩).tail) h2
theorem WP.una{low:Option Pa}(hl:jhL low):WP true 0 (aA low) :=
 WP.pre pMinus (.inl rfl) (op:=low.map fun p:Pa=>p.un) (fun f hf=>by
  cases low with
  |none=>cases hf
  |some p=>cases hf;exact(hl p rfl).un) (WP.prim hl)
theorem jjr{signs:List ByteArray}{ts:List Tk}(hs:∀s∈signs,(opAll.any fun x=>decide (s=x))=true)(h:bU signs ts=true):(opAll.any fun x=>decide ((hd ts).text=x))=true:=by
 unfold bU at h;rw[List.any_eq_true] at h;obtain⟨s,h1,h2⟩:=h;unfold q8 at h2;rw[Bool.and_eq_true,decide_eq_true_eq] at h2;rw[h2.1];exact hs s h1
theorem jal{s:ByteArray}(h:(opAll.any fun x=>decide (s=x))=true):arN 18 s 2=true:=by
 show(decide (2=2)&&_)=true;rw[h];rfl
theorem WP.chn{op:List Tk->Pn}{signs:List ByteArray}(hs:∀s∈signs,(opAll.any fun x=>decide (s=x))=true)(h:WP true 0 op):WP true 0 (wF op signs):=by
 have go:∀(n:Nat) (l:Nt),Wc true l->WP true (j6 l) (wZ op signs n l):=fun n=>by
  induction n with
  |zero=>intro l hl;exact WP.okT hl
  |succ n ih =>
   intro l hl ts f r hz ho;rw[wZ] at ho;by_cases ha:bU signs ts=true
   ·rw[if_pos ha] at ho;exact(h.andThen (k:=fun f r=>wZ op signs n (.mk 18 0 (hd ts).text [l,f]) r) fun g hg=>(ih _ ⟨wx2 (jal (jjr hs ha)) (by decide) hl hg,rfl⟩).mono (by simp only[j6,qF];omega)).tail ts f r (fun e=>jft signs (by rw[<- e];exact ha)) hz ho
   ·rw[if_neg ha] at ho;exact WP.okT hl (Nat.le_refl _) ts f r hz ho
 exact h.andThen (k:=fun f r=>wZ op signs r.length f r) fun f hf ts g r hz ho=>(go _ f hf).mono (by omega) ts g r hz ho
theorem WP.sum{low:Option Pa}(hl:jhL low):WP true 0 (jbP low):=WP.chn (by decide) (WP.chn (by decide) (WP.una hl))
theorem WP.nt{low:Option Pa}(hl:jhL low):WP true 0 (uR low) :=
 WP.pre pNot (.inr rfl) (op:=low.map fun p:Pa=>p.no) (fun f hf=>by
  cases low with
  |none=>cases hf
  |some p=>cases hf;exact(hl p rfl).no)<|(WP.sum hl).andThen fun l hw=>fun r f r' hz ho=>by
   by_cases ha:bU cmpL r=true
   ·rw[if_pos ha] at ho;exact((WP.sum hl).andThen (k:=fun m r'=>.ok (.mk 18 0 (hd r).text [l,m]) r') fun g hg=>WP.okT ⟨wx2 (jal (jjr (by decide) ha)) (by decide) hw hg,rfl⟩).tail r f r' (fun e=>jft cmpL (by rw[<- e];exact ha)) hz ho
   ·rw[if_neg ha] at ho;exact WP.okT hw (by omega) r f r' hz ho
theorem WP.exp{low:Option Pa}(hl:jhL low):WP true 0 (jfT low):=WP.chn (by decide) (WP.chn (by decide) (WP.nt hl))
theorem jnn{c:Bool}{f g:Nt}(hf:Wc c f)(hg:g∈[f]):Wc c g:=by rw[List.mem_singleton.1 hg];exact hf
theorem WP.stm{ex bl:List Tk->Pn}(hx:WP true 0 ex)(hb:WP false 0 bl):WP false 0 (stG ex bl):=by
 have semi:∀(z:Nat) (f:Nt),Wc false f->j6 f<=z+9->WP false z (fun r=>Vm.xpt jO r fun r=>.ok f r):=fun z f hf hz=>WP.xpt jO (WP.okT hf hz)
 exact WP.itc (fun ts=>wQ ts=true) (by rw[jgm];exact Bool.false_ne_true) (WP.tok (op:=fun t ts=>Vm.xpt pEq ts fun r=>(ex r).andThen fun e r=>Vm.xpt jO r fun r=>.ok (.mk 1 0 t.text [e]) r) fun t=>WP.xpt pEq (hx.andThen fun e he=>semi _ _ ⟨wx1 rfl (by decide) he,rfl⟩ (by simp only[j6,qF];omega))) <|
  WP.ite (fun ts=>(hd ts).kind≠1) WP.syn <|
  WP.itc (fun ts=>(hd ts).text=wIf) (by decide) ((hx.andThen fun c hc=>hb.andThen fun b hb2=>WP.itc (fun r=>q8 f9 r=true) (gY _) ((hb.andThen fun o ho=>WP.okT (wi3 hc hb2 ho)).tail) (WP.okT (wi3 hc hb2 ⟨wx0 rfl,rfl⟩))).tail) <|
  WP.itc (fun ts=>(hd ts).text=wWhile) (by decide) ((hx.andThen fun c hc=>hb.andThen fun b hb2=>WP.okT (wi2 hc hb2)).tail) <|
  WP.itc (fun ts=>(hd ts).text=gC) (by decide) ((hx.andThen fun t ht=>WP.xpt jZ (WP.num 30 fun n=>WP.xpt jZ (hx.andThen fun a ha=>WP.xpt jZ (hx.andThen fun b hb2=>semi _ _ ⟨wx3 rfl (by decide) ht ha hb2,rfl⟩ (by simp only[j6,qF];omega))))).tail) <|
  WP.itc (fun ts=>(hd ts).text=wTimer) (by decide) ((WP.num 8 fun n=>semi _ _ ⟨wx0 rfl,rfl⟩ (by simp only[j6,qF];omega)).tail) <|
  WP.itc (fun ts=>(hd ts).text=kN) (by decide) ((WP.num 8 fun n=>semi _ _ ⟨wx0 rfl,rfl⟩ (by simp only[j6,qF];omega)).tail) <|
  WP.itc (fun ts=>(hd ts).text=wSync) (by decide) ((semi _ _ ⟨wx0 rfl,rfl⟩ (by simp only[j6,qF];omega)).tail) <|
  WP.itc (fun ts=>(hd ts).text=yJ) (by decide) ((hx.andThen fun a ha=>WP.xpt jZ (hx.andThen fun b hb2=>semi _ _ ⟨wx2 rfl (by decide) ha hb2,rfl⟩ (by simp only[j6,qF];omega))).tail) <|
  WP.itc (fun ts=>(hd ts).text=wFail) (by decide) ((hx.andThen fun a ha=>semi _ _ ⟨wx1 rfl (by decide) ha,rfl⟩ (by simp only[j6,qF];omega)).tail) <|
  WP.itc (fun ts=>(hd ts).text=wStop) (by decide) ((semi _ _ ⟨wx0 rfl,rfl⟩ (by simp only[j6,qF];omega)).tail) WP.syn
theorem WP.blk{st:List Tk->Pn}(h:WP false 0 st):WP false 0 (bkF st):=by
 have go:∀(n:Nat) (acc:List Nt),(∀f∈acc,Wc false f)->acc.length+n<=3002->WP false (9+qF acc) (cY st n acc):=fun n=>by
  induction n with
  |zero=>intro acc ha hz ts f r _ ho;cases ho
  |succ n ih =>
   intro acc ha hz ts f r hz2 ho;rw[cY] at ho;by_cases hp:q8 pRb ts=true
   ·rw[if_pos hp] at ho;cases ho;refine⟨wbk (by omega) ha,?_⟩
    cases ts with
    |nil=>exact absurd hp (gY _)
    |cons t ts=>exact⟨[t],rfl,by show 3+qF acc<=9+qF acc+9*1;omega⟩
   ·rw[if_neg hp] at ho
    exact h.andThen (k:=fun s r=>cY st n (acc++[s]) r) (fun s hs=>(ih (acc++[s]) (fun f hf=>by
     rcases List.mem_append.1 hf with hf|hf
     ·exact ha f hf
     ·exact jnn hs hf) (by rw[List.length_append,List.length_singleton];omega)).mono (by rw[jdV];omega)) ts f r hz2 ho
 exact WP.xpt pLb (k:=fun r=>cY st r.length [] r) fun ts f r hz ho=>go ts.length [] (by simp) (by simpa using hz) ts f r hz ho
theorem WP.bkN:WP false 0 bkN:=WP.ite (fun ts=>q8 pLb ts=true) (WP.bad _ _) WP.syn
theorem WPa.pa{low:Option Pa}(hl:jhL low):WPa (paG low) where
 no:=WP.nt hl
 un:=WP.una hl
 ex:=WP.exp hl
 bl:=WP.blk (WP.stm (WP.exp hl) (by
  cases low with
  |none=>exact WP.bkN
  |some p=>exact(hl p rfl).bl))
theorem wpa:∀n,WPa (pa n)
 |0=>WPa.pa fun p h=>by cases h
 |n+1=>WPa.pa fun p h=>by cases h;exact wpa n
def sJ:List (Int×Nt)->Nat
 |[]=>0
 |h::r=>j6 h.2+1+sJ r
structure eD(u:Ut):Prop where
 du:u.du.length+u.vo.length<=16
 on:∀h∈u.on,0<=h.1/\h.1<40/\xD h.2
 st:∀h∈u.on,isX h.2=false
 nd:u.on.Pairwise fun a b=>a.1≠b.1
 ol:u.on.length<=4000
mutual
def toD:Nt->Nd
 |.mk k n s kids=>.mk k n s (jhp kids)
def jhp:List Nt->List Nd
 |[]=>[]
 |f::l=>toD f::jhp l
end
theorem jhq:∀l:List Nt,jhp l=l.map toD
 |[]=>rfl
 |f::l=>by rw[jhp,jhq l];rfl
def toU(u:Ut):Un:=⟨u.du,u.vo,u.on.map fun h=>(h.1,toD h.2)⟩
def jlH(C D:Rd):Prop:=∀b o u,C ⟨b,o,none⟩=some u->D ⟨b,o,none⟩=some u
theorem fK{E:Env}{b:Nat}:∀{l m:List A} {off:Nat},A.repAt (l++m) E b off↔A.repAt l E b off/\A.repAt m E b (off+l.length)
 |[],m,off=>by simp[A.repAt]
 |a::r,m,off=>by
  simp only[List.cons_append,A.repAt];rw[fK (l:=r)];simp only[List.length_cons,Nat.add_assoc,Nat.add_comm 1];constructor
  ·rintro⟨h1,h2,h3⟩;exact⟨⟨h1,h2⟩,h3⟩
  ·rintro⟨⟨h1,h2⟩,h3⟩;exact⟨h1,h2,h3⟩
theorem jkd{E:Env}{n:Int}{u:Value}:(A.v (.int .i64 n)).rep E u↔u=.int .i64 n/\(-9223372036854775808<=n/\n<=9223372036854775807):=by
 rw[A.rep_v_iff];constructor
 ·rintro⟨h1,h2⟩;exact⟨h1,okV_int.1 h2⟩
 ·rintro⟨h1,h2⟩;exact⟨h1,okV_int.2 h2⟩
theorem rep_vsC{E:Env}{n:ByteArray}{u:Value}:(A.v (.string n)).rep E u↔u=.string n/\n.size<=maxLen:=by
 rw[A.rep_v_iff];exact Iff.rfl
mutual
theorem jqL:∀(t:Nt) {E:Env} {D:Rd} {v:Value},jlH E.C D->xD t->(A.agg (nt0 t)).rep E v->(toD t).At D v
 |.mk k n s kids,E,D,v,hD,hs,h=>by
  unfold xD at hs;have hl:kids.length<=3002:=jhQ hs.1;unfold A.rep nt0 at h;obtain⟨us,rfl,h⟩:=h;obtain⟨us⟩:=us;simp only[A.repC] at h;obtain⟨_,_,rfl,-,g1,_,_,rfl,-,g2,_,_,rfl,-,g3,_,_,rfl,-,g4,rfl⟩:=h;unfold intA at g1 g2;unfold jX at g3;rw[jkd] at g1 g2;rw[rep_vsC] at g3;obtain⟨rfl,g1⟩:=g1;obtain⟨rfl,g2⟩:=g2;obtain⟨rfl,g3⟩:=g3;unfold A.rep at g4;obtain⟨_,_,p,b,off,cap,rfl,h6,h7,h8,h9⟩:=g4;unfold toD Nd.At
  have hlen:(jhp kids).length=kids.length:=by rw[jhq,List.length_map]
  rw[hlen];refine⟨g1,g2,g3,by omega,p,b,off,cap,rfl,h6,?_,h8,jqM kids (E:=E.per) hD hs.2.1 h9⟩;rcases h7 with h7|h7
  ·exact .inl (List.eq_nil_of_length_eq_zero (by rw[hlen];exact h7))
  ·exact .inr h7
theorem jqM:∀(l:List Nt) {E:Env} {D:Rd} {b off:Nat},jlH E.C D->jfl l->A.repAt (jiz l) E b off->Nd.In D b (jhp l) off
 |[],_,_,_,_,_,_,_=>by unfold jhp Nd.In;trivial
 |t::ts,E,D,b,off,hD,hs,h=>by
  unfold jfl at hs;unfold jiz at h
  have hl4:(nt0 t).length=4:=by rw[jiy];rfl
  rw[fK,hl4] at h;obtain⟨h1,h2⟩:=h;unfold jhp Nd.In;refine⟨?_,jqM ts hD hs.2 h2⟩;obtain⟨us,k1,k2⟩:=A.repAt_vals h1;have hl:=A.repC_len k1;rw[hl4] at hl
  match us,hl,k1,k2 with
  |[v0,v1,v2,v3],_,k1,k2 =>
   refine⟨v0,v1,v2,v3,hD _ _ _ (k2 0 v0 rfl),hD _ _ _ (k2 1 v1 rfl),hD _ _ _ (k2 2 v2 rfl),hD _ _ _ (k2 3 v3 rfl),jqL t (E:=E) hD hs.1 ?_⟩;unfold A.rep;exact⟨_,rfl,k1⟩
end
theorem jbt{α:Type}{E:Env}{b:Nat}(f:α->Value)(hf:∀x,(f x).oneCell'=true):∀{l:List α} {off:Nat},A.repAt (l.map fun x=>.v (f x)) E b off↔∀i (hi:i<l.length),E.C ⟨b,off+i,none⟩=some (f l[i])/\fD (f l[i])
 |[],off=>by simp[A.repAt]
 |x::l,off=>by
  simp only[List.map_cons,A.repAt];rw[jbt f hf (l:=l)];constructor
  ·rintro⟨⟨u,h1,-,h3⟩,h4⟩ i hi;rw[A.rep_v_iff] at h3
   cases i with
   |zero=>rw[Nat.add_zero,h1,h3.1];exact⟨rfl,h3.2⟩
   |succ i =>
    have:=h4 i (by simpa using hi);rw[show off+(i+1)=off+1+i by omega];exact this
  ·intro h;refine⟨⟨f x,by have:=(h 0 (by simp)).1;simpa using this,hf x,A.rep_v_iff.2 ⟨rfl,(h 0 (by simp)).2⟩⟩,fun i hi=>?_⟩;have:=h (i+1) (by simpa using hi);rw[show off+1+i=off+(i+1) by omega];exact this
theorem jgS{E:Env}{D:Rd}{v:Value}{l:List ByteArray}(hD:jlH E.C D)(hl:l.length<=1000000000)(h:(A.sl 1 l.length (gB l)).rep E v):StrsAt D v l:=by
 unfold gB jX at h;unfold A.rep at h;obtain⟨_,_,p,b,off,cap,rfl,h6,h7,h8,h9⟩:=h;have h9:=(jbt (E:=E.per) Value.string (fun _=>rfl)).1 h9;refine⟨hl,fun s hs=>?_,p,b,off,cap,rfl,h6,?_,h8,fun i hi=>?_⟩
 ·obtain⟨i,hi,rfl⟩:=List.mem_iff_getElem.1 hs;exact(h9 i hi).2
 ·rcases h7 with h7|h7
  ·exact .inl (List.eq_nil_of_length_eq_zero h7)
  ·exact .inr h7
 ·have:=(h9 i hi).1;simp[List.getD_eq_getElem?_getD,hi];exact hD _ _ _ this
theorem jbs{α:Type}{E:Env}{b k:Nat}(f:α->List A)(hf:∀x,(f x).length=k):∀{l:List α} {off:Nat},A.repAt (l.flatMap f) E b off↔∀i (hi:i<l.length),A.repAt (f l[i]) E b (off+i*k)
 |[],off=>by simp[A.repAt]
 |x::l,off=>by
  rw[List.flatMap_cons,fK,jbs f hf (l:=l),hf];constructor
  ·rintro⟨h1,h2⟩ i hi
   cases i with
   |zero=>simpa using h1
   |succ i =>
    have:=h2 i (by simpa using hi);rw[show off+(i+1)*k=off+k+i*k by rw[Nat.add_mul];omega];exact this
  ·intro h;refine⟨by have:=h 0 (by simp);rw[Nat.zero_mul,Nat.add_zero] at this;exact this,fun i hi=>?_⟩;have:=h (i+1) (by simpa using hi);rw[show off+k+i*k=off+(i+1)*k by rw[Nat.add_mul];omega];exact this
theorem jnG{E:Env}{D:Rd}{v:Value}{u:Ut}(hD:jlH E.C D)(hs:eD u)(h:(A.agg (iE u)).rep E v):jtc D v (toU u):=by
 unfold A.rep iE at h;obtain⟨us,rfl,h⟩:=h;obtain⟨us⟩:=us;simp only[A.repC] at h;obtain⟨dv,_,rfl,-,g1,vv,_,rfl,-,g2,ov,_,rfl,-,g3,rfl⟩:=h;refine⟨dv,vv,ov,rfl,jgS (l:=u.du) hD (by have:=hs.du;omega) g1,jgS (l:=u.vo) hD (by have:=hs.du;omega) g2,?_⟩;unfold A.rep at g3;obtain⟨_,_,p,b,off,cap,rfl,h6,h7,h8,h9⟩:=g3;have hlen:(toU u).on.length=u.on.length:=List.length_map ..;unfold jt8;rw[hlen];refine⟨by have:=hs.ol;omega,p,b,off,cap,rfl,h6,?_,h8,fun i hi=>?_⟩
 ·rcases h7 with h7|h7
  ·exact .inl (List.eq_nil_of_length_eq_zero (by rw[hlen];exact h7))
  ·exact .inr h7
 ·rw[hlen] at hi
  have hon:(toU u).on[i]=(u.on[i].1,toD u.on[i].2):=by simp[toU]
  rw[hon];unfold kH at h9;have h10:=(jbs (E:=E.per) (k:=5) hnA (fun _=>rfl)).1 h9 i hi;obtain⟨us,k1,k2⟩:=A.repAt_vals h10;have hl:=A.repC_len k1;rw[show(hnA u.on[i]).length=5 from rfl] at hl
  match us,hl,k1,k2 with
  |[v0,v1,v2,v3,v4],_,k1,k2 =>
   unfold hnA intA A.repC at k1;obtain⟨_,_,e,-,g1,k3⟩:=k1;cases e;rw[jkd] at g1;obtain⟨rfl,g4,g5⟩:=g1;refine⟨g4,g5,v1,v2,v3,v4,hD _ _ _ (k2 0 _ rfl),hD _ _ _ (k2 1 v1 rfl),hD _ _ _ (k2 2 v2 rfl),hD _ _ _ (k2 3 v3 rfl),hD _ _ _ (k2 4 v4 rfl),jqL u.on[i].2 (E:=E) hD (hs.on _ (List.getElem_mem hi)).2.2 ?_⟩;unfold A.rep;rw[jiy];exact⟨_,rfl,A.repC.mono _ E.per_le k3⟩
theorem jgC{w:World}{C:Rd}(h:Sub C (kQ w)):jlH C w.cell?:=fun b o u hc=>h _ _ hc
def jS(u:Ut)(s:ByteArray):Int:=vM u.du u.vo s
theorem jsL(u:Ut)(hu:eD u):Spec Tryz.prog 61 [] [.agg (iE u)] fun _ r=>r=intA (eO (toU u)):=by
 refine lO (eJ Tryz.func61 rfl (by kernel_rfl)) fun w C vals h0 h1 h2=>?_
 unfold A.repL at h2;obtain⟨v,us,rfl,h2,h3⟩:=h2;unfold A.repL at h3;subst h3;refine(jkK (toU u) v w (jnG (jgC h1) hu h2)).mono ?_;rintro e w' ⟨rfl,hx⟩;exact⟨_,rfl,hx,A.rep_v (okV_int.2 (by unfold eO;split <;> decide))⟩
theorem lD(l:List ByteArray)(s:ByteArray) : -1<=gM l s/\gM l s<=l.length:=by
 have:=jeY l s;omega
theorem jjO{u:Ut}(hu:eD u)(s:ByteArray) : -1<=jS u s/\jS u s<=100:=by
 have h1:=lD u.du s;have h2:=lD u.vo s;have h3:=hu.du;unfold jS vM
 repeat' split
 all_goals omega
theorem jsM(u:Ut)(hu:eD u)(s:ByteArray):Spec Tryz.prog 78 [] [.agg (iE u),jX s] fun _ r=>r=intA (jS u s):=by
 have hb:=jjO hu s
 refine lO (eJ Tryz.func78 rfl (by kernel_rfl)) fun w C vals h0 h1 h2=>?_
 unfold A.repL at h2;obtain⟨v,us,rfl,h2,h3⟩:=h2;unfold A.repL at h3;obtain⟨v2,us2,rfl,h3,h4⟩:=h3;unfold A.repL at h4;subst h4;obtain⟨rfl,-⟩:=rep_vsC.1 h3;obtain⟨dv,vv,ov,rfl,g1,g2,g3⟩:=jnG (jgC h1) hu h2;refine(jd2 dv vv ov u.du u.vo s w g1 g2).mono ?_;rintro e w' ⟨rfl,hx⟩;exact⟨_,rfl,hx,A.rep_v (by have h:=(okA_int (n:=jS u s)).2 (by omega);unfold okA at h;exact h)⟩
theorem jgi(x:Int×Nt):∀l:List (Int×Nt),(nJ x l).Perm (x::l)
 |[]=>.refl _
 |y::l=>by
  rw[nJ];split
  ·exact .refl _
  ·exact((jgi x l).cons y).trans (.swap x y l)
theorem gW:∀l:List (Int×Nt),(vS l).Perm l
 |[]=>.refl _
 |x::l=>(jgi x (vS l)).trans ((gW l).cons x)
theorem joj{l m:List (Int×Nt)}(h:l.Perm m):sJ l=sJ m:=by
 induction h with
 |nil=>rfl
 |cons x _ ih=>show _+sJ _=_+sJ _;rw[ih]
 |swap x y l=>show j6 y.2+1+(j6 x.2+1+sJ l)=j6 x.2+1+(j6 y.2+1+sJ l);omega
 |trans _ _ i j=>exact i.trans j
theorem jhm(x:Int×Nt):∀l:List (Int×Nt),sJ (l++[x])=sJ l+(j6 x.2+1)
 |[]=>by show j6 x.2+1+0=0+(j6 x.2+1);omega
 |f::l=>by show j6 f.2+1+sJ (l++[x])=j6 f.2+1+sJ l+(j6 x.2+1);rw[jhm x l];omega
structure WfH(l:List (Int×Nt)):Prop where
 on:∀h∈l,0<=h.1/\h.1<40/\xD h.2
 st:∀h∈l,isX h.2=false
 nd:l.Pairwise fun a b=>a.1≠b.1
theorem WfH.sort{l:List (Int×Nt)}(h:WfH l):WfH (vS l) where
 on:=fun x hx=>h.on x ((gW l).mem_iff.1 hx)
 st:=fun x hx=>h.st x ((gW l).mem_iff.1 hx)
 nd:=((gW l).pairwise_iff (fun {a b} hab=>fun e=>hab e.symm)).2 h.nd
def TkN(ts:List Tk):Prop:=∀t∈ts,0<=t.n
theorem TkN.suf{a r:List Tk}(h:TkN (a++r)):TkN r:=fun t ht=>h t (List.mem_append_right _ ht)
theorem TkN.tail{ts:List Tk}(h:TkN ts):TkN ts.tail:=fun t ht=>h t (List.mem_of_mem_tail ht)
theorem TkN.hd{ts:List Tk}(h:TkN ts):0<=(Vm.hd ts).n:=by
 cases ts with
 |nil=>exact Int.le_refl 0
 |cons t ts=>exact h t List.mem_cons_self
theorem jtA{ts r:List Tk}{n:Int}(hz:TkN ts)(h:sH ts=.ok n r):0<=n/\n<40/\∃a,ts=a++r:=by
 have suf:∀ts:List Tk,∃a,ts=a++ts.tail:=fun ts=>by
  cases ts with
  |nil=>exact⟨[],rfl⟩
  |cons t ts=>exact⟨[t],rfl⟩
 have num:∀(limit off:Int) (q:List Tk),TkN q->iB limit off q=.ok n r->off<=n/\n<off+limit/\∃a,q=a++r:=fun limit off q hq h=>by
  unfold iB at h;split at h
  ·cases h
  ·split at h
   ·cases h
   ·cases h;have:=hq.hd;exact⟨by omega,by omega,suf q⟩
 obtain⟨a,ha⟩:=suf ts;unfold sH at h;split at h
 ·cases h;exact⟨by omega,by omega,suf ts⟩
 ·split at h
  ·cases h;exact⟨by omega,by omega,suf ts⟩
  ·split at h
   ·obtain⟨h1,h2,b,h3⟩:=num 8 2 _ hz.tail h;exact⟨by omega,by omega,a++b,by rw[List.append_assoc,<- h3];exact ha⟩
   ·split at h
    ·obtain⟨h1,h2,b,h3⟩:=num 30 10 _ hz.tail h;exact⟨by omega,by omega,a++b,by rw[List.append_assoc,<- h3];exact ha⟩
    ·cases h
theorem jqF(du vo:List ByteArray)(hn:du.length+vo.length<=16):∀(n:Nat) (hs:List (Int×Nt)) (ts:List Tk) (u:Ut),sJ hs+10*ts.length<=40000->TkN ts->ts.length<=3002->hs.length+n<=4000->WfH hs->o5 du vo n hs ts=.ok u->eD u/\sJ u.on<=40000
 |0,hs,ts,u,_,_,_,_,_,h=>by cases h
 |n+1,hs,ts,u,hs0,hz,hl,hb,hw,h=>by
  rw[o5] at h;split at h
  ·cases h;exact⟨⟨hn,hw.sort.on,hw.sort.st,hw.sort.nd,by show(vS hs).length<=_;rw[(gW hs).length_eq];omega⟩,by show sJ (vS hs)<=_;rw[joj (gW hs)];omega⟩
  ·split at h
   ·cases h
   ·rename_i hon
    have hne:ts≠[]:=fun e=>hon (by rw[e];exact Bool.eq_false_iff.2 (gY _))
    cases hh:sH ts.tail with
    |bad x y=>rw[hh] at h;cases h
    |ok k r =>
     rw[hh] at h;obtain⟨k0,k1,a,ha⟩:=jtA hz.tail hh
     dsimp only at h
     split at h
     ·cases h
     ·rename_i hdup
      cases hbl:(pa 19).bl r with
      |bad x y=>rw[hbl] at h;cases h
      |ok b r2 =>
       rw[hbl] at h
       have hr:r.length<=3002:=by
        have:=congrArg List.length ha;rw[List.length_append,List.length_tail] at this;omega
       obtain⟨wb,a2,ha2,hsb⟩:=(wpa 19).bl r b r2 hr hbl
       have hzr:TkN r:=by
        have h1:=hz.tail;rw[ha] at h1;exact h1.suf
       refine jqF du vo hn n (hs++[(k,b)]) r2 u (by
        have h1:=congrArg List.length ha;have h2:=congrArg List.length ha2;have h3:=List.length_pos_iff.2 hne;rw[List.length_append] at h1 h2;rw[List.length_tail] at h1;rw[jhm];show sJ hs+(j6 b+1)+_<=_
        omega) (by rw[ha2] at hzr;exact hzr.suf) (by
        rw[ha2,List.length_append] at hr;omega) (by rw[List.length_append,List.length_singleton];omega) ?_ h
       refine⟨fun x hx=>?_,fun x hx=>?_,List.pairwise_append.2 ⟨hw.nd,List.pairwise_singleton _ _,fun x hx y hy=>?_⟩⟩
       ·rcases List.mem_append.1 hx with hx|hx
        ·exact hw.on x hx
        ·rw[List.mem_singleton.1 hx];exact⟨k0,k1,wb.1⟩
       ·rcases List.mem_append.1 hx with hx|hx
        ·exact hw.st x hx
        ·rw[List.mem_singleton.1 hx];exact wb.2
       ·rw[List.mem_singleton.1 hy];intro e;refine hdup ?_;rw[List.any_eq_true];exact⟨x,hx,jJ e⟩
theorem jmm:∀(n:Nat) (names out:List ByteArray) (ts:List Tk) (names' out':List ByteArray) (r:List Tk),names.length<=16->gG n names out ts=.ok names' out' r->names'.length<=16/\names'.length+out.length=names.length+out'.length/\∃a,ts=a++r
 |0,names,out,ts,names',out',r,_,h=>by cases h
 |n+1,names,out,ts,names',out',r,hl,h=>by
  have suf:∀ts:List Tk,∃a,ts=a++ts.tail:=fun ts=>by
   cases ts with
   |nil=>exact⟨[],rfl⟩
   |cons t ts=>exact⟨[t],rfl⟩
  obtain⟨a1,h1⟩:=suf ts;obtain⟨a2,h2⟩:=suf ts.tail;obtain⟨a3,h3⟩:=suf ts.tail.tail;rw[gG] at h;split at h
  ·cases h
  ·split at h
   ·cases h
   ·split at h
    ·cases h
    ·split at h
     ·obtain⟨g1,g2,b,g3⟩:=jmm n _ _ _ _ _ _ (by rw[List.length_append,List.length_singleton];omega) h;rw[List.length_append,List.length_append,List.length_singleton] at g2;exact⟨g1,by omega,a1++(a2++b),by rw[List.append_assoc,List.append_assoc,<- g3,<- h2];exact h1⟩
     ·split at h
      ·cases h;refine⟨by rw[List.length_append,List.length_singleton];omega,by rw[List.length_append,List.length_append,List.length_singleton];omega,a1++(a2++a3),by rw[List.append_assoc,List.append_assoc,<- h3,<- h2];exact h1⟩
      ·cases h
theorem jmk:∀(n:Nat) (names du vo:List ByteArray) (ts:List Tk) (u:Ut),TkN ts->ts.length<=3002->names.length<=16->names.length=du.length+vo.length->sP n names du vo ts=.ok u->eD u/\sJ u.on<=40000
 |0,names,du,vo,ts,u,_,_,_,_,h=>by cases h
 |n+1,names,du,vo,ts,u,hz,hl,hn,he,h=>by
  rw[sP] at h;split at h
  ·cases hd:gG ts.length names [] ts with
   |bad x y=>rw[hd] at h;cases h
   |ok names' out r =>
    rw[hd] at h;obtain⟨g1,g2,b,g3⟩:=jmm _ _ _ _ _ _ _ hn hd;rw[List.length_nil] at g2;rw[g3] at hz hl;exact jmk n names' (du++out) vo r u hz.suf (by rw[List.length_append] at hl;omega) g1 (by rw[List.length_append];omega) h
  ·split at h
   ·cases hd:gG ts.length names [] ts with
    |bad x y=>rw[hd] at h;cases h
    |ok names' out r =>
     rw[hd] at h;obtain⟨g1,g2,b,g3⟩:=jmm _ _ _ _ _ _ _ hn hd;rw[List.length_nil] at g2;rw[g3] at hz hl;exact jmk n names' du (vo++out) r u hz.suf (by rw[List.length_append] at hl;omega) g1 (by rw[List.length_append];omega) h
   ·exact jqF du vo (by omega) _ [] ts u (by show 0+_<=_;omega) hz hl (by simp;omega) ⟨by simp,by simp,.nil⟩ h
theorem jkx{s:ByteArray}{u:Ut}(h:eA s=.ok u):eD u/\sJ u.on<=40000:=by
 unfold eA at h;split at h
 ·cases h
 ·rename_i hsz
  cases he:(qM s).err with
  |some p=>rw[he] at h;cases h
  |none =>
   rw[he] at h;have hok:=jke s (by omega)
   have hlen:(iD s).length<=3002:=by
    have h1:=(gZ (s.data.toList.length+1) 0 s.data.toList).1;rw[gR he,List.length_append,List.length_singleton];have h2:(qM s).toks.length<=s.data.toList.length:=h1;rw[zR] at h2;omega
   refine jmk _ [] [] [] (iD s) u (fun t ht=>?_) hlen (by simp) rfl h;rcases hok t ht with h3|h3
   ·exact h3.2.2.2.1
   ·rw[h3.2.2.2];exact Int.le_refl 0
abbrev Ic:=Int×Int
def icA(i:Ic):List A:=[intA i.1,intA i.2]
@[irreducible] def wA(l:List Ic):List A:=l.flatMap icA
theorem jmU:wA []=[]:=by unfold wA;rfl
theorem jmS(l m:List Ic):wA (l++m)=wA l++wA m:=by unfold wA;rw[List.flatMap_append]
theorem jmV(i:Ic):wA [i]=icA i:=by unfold wA;rw[List.flatMap_cons,List.flatMap_nil,List.append_nil]
theorem jd0(l:List Ic)(a b:Int):wA (l++[(a,b)])=wA l++[intA a,intA b]:=by rw[jmS,jmV];rfl
theorem mB(l:List Ic):wA l=l.flatMap icA:=by unfold wA;rfl
theorem mO(l:List Ic)(i:Nat)(hi:i<l.length):jD 2 i (wA l)=icA l[i]:=by rw[mB];exact xU icA (fun _=>rfl) l i hi
theorem jmT(l:List Ic):(wA l).length=l.length*2:=by
 rw[mB]
 induction l with
 |nil=>rfl
 |cons a l ih=>rw[List.flatMap_cons,List.length_append,ih,List.length_cons];simp only[icA,List.length_cons,List.length_nil];omega
def noI:Int->List Ic:=fun _=>[]
def pW(c y n:Int->List Ic)(at':Int):List Ic :=
 let l:=c at'
 let f:=at'+l.length+1+(y (at'+l.length+1)).length+1
 l++(16,f)::(y (at'+l.length+1)++(15,f+(n f).length)::n f)
def zW:List (Int->List Ic)->Int->List Ic
 |[],_=>[]
 |g::r,at'=>g at'++zW r (at'+(g at').length)
def biF(s:ByteArray):Int:=match builtL.findIdx? (fun x=>decide (x=s)) with
 |some i=>i
 |none => -1
def opC(s:ByteArray):List Ic :=
 if s=dQ then [(6,0)] else if s=pMinus then [(7,0)] else if s=vZ then [(8,0)] else if s=yG then [(9,0)]
 else if s=pLt then [(11,0)] else if s=pLe then [(12,0)] else if s=jnu then [(13,0)] else if s=pGt then [(12,0),(14,0)]
 else if s=pGe then [(11,0),(14,0)] else [(13,0),(14,0)]
def xF(ix:ByteArray->Int)(k n:Int)(s:ByteArray)(g:List (Int->List Ic))(at':Int):List Ic :=
 if k=12∨k=13 then [(1,n)]
 else if k=14 then [(2,ix s)]
 else if k=15 then [(4,biF s)]
 else if k=2 then pW (g.getD 0 noI) (g.getD 1 noI) (g.getD 2 noI) at'
 else if k=5 then [(18,n)]
 else if k=6 then [(19,n)]
 else if k=7 then [(20,0)]
 else if k=10 then [(23,0)]
 else if k=3 then
  let c:=(g.getD 0 noI) at'
  let b:=(g.getD 1 noI) (at'+c.length+1)
  c++(16,at'+c.length+b.length+2)::(b++[(15,at')])
 else if k=18/\s=k9 then pW (g.getD 0 noI) (g.getD 1 noI) (fun _=>[(1,0)]) at'
 else if k=18/\s=pOr then pW (g.getD 0 noI) (fun _=>[(1,1)]) (g.getD 1 noI) at'
 else zW g at'++(if k=18 then opC s else if k=16 then [(5,0)] else if k=17 then(if s=pMinus then [(10,0)] else [(14,0)]) else if k=1 then [(3,ix s)] else if k=4 then [(17,n)] else if k=8 then [(21,0)] else if k=9 then [(22,0)] else [])
mutual
def jB(ix:ByteArray->Int):Nt->Int->List Ic
 |.mk k n s kids,at'=>xF ix k n s (qH ix kids) at'
def qH(ix:ByteArray->Int):List Nt->List (Int->List Ic)
 |[]=>[]
 |f::l=>jB ix f::qH ix l
end
theorem yQ(ix:ByteArray->Int):∀l:List Nt,qH ix l=l.map (jB ix)
 |[]=>rfl
 |f::l=>by rw[qH,yQ ix l];rfl
def kJ(k:Int):Int:=if k=3∨k=5∨k=10∨k=14∨k=16∨k=22 then 1 else if 6<=k/\k<=9∨11<=k/\k<=13∨k=21 then 2 else if k=17 then 3 else 0
def vP(k:Int):Int:=if k=1∨k=2∨4<=k/\k<=14 then 1 else 0
def nxI(a:Int)(i:Ic):List Int:=if i.1=23 then [] else if i.1=15 then [i.2] else if i.1=16 then [a+1,i.2] else [a+1]
structure Fs where
 dm:List (Int×Int)
 wk:List Int
 er:Bool
def dF(dm:List (Int×Int))(k:Int):Option Int:=(dm.find? fun p=>decide (k=p.1)).map (·.2)
def jgq(n:Nat)(af:Int)(s:Fs)(k:Int):Option Fs :=
 if (n:Int)<=k then none else match dF s.dm k with
 |some d=>some ⟨s.dm,s.wk,s.er||decide (d≠af)⟩
 |none=>some ⟨s.dm++[(k,af)],s.wk++[k],s.er⟩
def uC(n:Nat)(af:Int):List Int->Fs->Option Fs
 |[],s=>some s
 |k::l,s=>match jgq n af s k with
  |none=>none
  |some s'=>uC n af l s'
def afF(code:List Ic)(dm:List (Int×Int))(a:Int):Int:=(dF dm a).getD 0-kJ (code.getD a.toNat (0,0)).1+vP (code.getD a.toNat (0,0)).1
def jei(code:List Ic)(dm:List (Int×Int))(a:Int):Bool:=decide ((dF dm a).getD 0<kJ (code.getD a.toNat (0,0)).1)||decide (16<afF code dm a)
def jo9(code:List Ic)(dm:List (Int×Int))(wk:List Int)(er:Bool)(a:Int):Option Fs :=
 uC code.length (afF code dm a) (nxI a (code.getD a.toNat (0,0))) ⟨dm,wk,er||jei code dm a⟩
def jpg(er:Bool):Int:=if er=true then 13 else 0
def jmN(code:List Ic):Nat->Fs->Int
 |0,s=>jpg s.er
 |m+1,s=>match s.wk.getLast? with
  |none=>jpg s.er
  |some a=>match jo9 code s.dm s.wk.dropLast s.er a with
   |none=>12
   |some s'=>jmN code m s'
def aK(code:List Ic)(entry:Int):Int:=if entry<0 then 0 else jmN code (code.length+1) ⟨[(entry,0)],[entry],false⟩
def jqn(code:List Ic):Prop:=∀i∈code,i.1=15∨i.1=16->0<=i.2
structure jlD(n:Nat)(s:Fs):Prop where
 rng:∀p∈s.dm,0<=p.1/\p.1<n
 nd:(s.dm.map (·.1)).Nodup
 wk:∀k∈s.wk,∃d,(k,d)∈s.dm
 dep:∀p∈s.dm,-(3*(s.dm.length:Int))<=p.2/\p.2<=3*s.dm.length
theorem jrG{dm:List (Int×Int)}{k d:Int}(h:dF dm k=some d):(k,d)∈dm:=by
 unfold dF at h
 cases hf:dm.find? (fun p=>decide (k=p.1)) with
 |none=>rw[hf] at h;cases h
 |some p =>
  rw[hf] at h;cases h;have h1:=List.find?_some hf;have h2:=List.mem_of_find?_eq_some hf;rw[decide_eq_true_eq] at h1;rw[h1];exact h2
theorem jp4{dm:List (Int×Int)}{k d:Int}(h:(k,d)∈dm):∃d',dF dm k=some d':=by
 unfold dF
 cases hf:dm.find? (fun p=>decide (k=p.1)) with
 |none=>rw[List.find?_eq_none] at hf;exact absurd (hf _ h) (by simp)
 |some p=>exact⟨_,rfl⟩
theorem jjz{dm:List (Int×Int)}{k:Int}(h:dF dm k=none):∀p∈dm,k≠p.1:=by
 unfold dF at h;rw[Option.map_eq_none_iff,List.find?_eq_none] at h
 exact fun p hp=>by simpa using h p hp
theorem rV:∀(n:Nat) (l:List Int),l.Nodup->(∀a∈l,0<=a/\a<(n:Int))->l.length<=n
 |0,l,_,h=>by
  cases l with
  |nil=>exact Nat.le_refl _
  |cons a l=>have:=h a List.mem_cons_self;omega
 |n+1,l,hn,h=>by
  have h1:(l.erase (n:Int)).length<=n:=rV n (l.erase (n:Int)) (hn.erase _) fun a ha=>by
   have h2:=h a (List.mem_of_mem_erase ha);have h3:a≠n:=(hn.mem_erase_iff.1 ha).1;omega
  rw[List.length_erase] at h1
  split at h1 <;> omega
theorem jjQ{n:Nat}{dm:List (Int×Int)}(h:∀p∈dm,0<=p.1/\p.1<(n:Int))(hn:(dm.map (·.1)).Nodup):dm.length<=n:=by
 have:=rV n _ hn fun a ha=>by
  obtain⟨p,hp,rfl⟩:=List.mem_map.1 ha;exact h p hp
 simpa using this
theorem jjR{n:Nat}{af k:Int}{s s':Fs}(h:jlD n s)(hk:0<=k)(ha : -(3*(s.dm.length:Int))-3<=af/\af<=3*s.dm.length+3)(e:jgq n af s k=some s'):jlD n s'/\s'.wk.length+s.dm.length=s.wk.length+s'.dm.length/\s.dm.length<=s'.dm.length:=by
 unfold jgq at e;split at e
 ·cases e
 split at e
 ·cases e;exact⟨⟨h.rng,h.nd,h.wk,h.dep⟩,rfl,Nat.le_refl _⟩
 ·rename_i hd;have hne:=jjz hd;cases e;refine⟨⟨fun p hp=>?_,?_,fun j hj=>?_,fun p hp=>?_⟩,by simp only[List.length_append,List.length_singleton];omega,by simp⟩
  ·rcases List.mem_append.1 hp with hp|hp
   ·exact h.rng p hp
   ·rw[List.mem_singleton.1 hp];exact⟨hk,by simp only;omega⟩
  ·rw[List.map_append,List.map_singleton,List.nodup_append];refine⟨h.nd,by simp,fun a ha b hb=>?_⟩;obtain⟨p,hp,rfl⟩:=List.mem_map.1 ha;rw[List.mem_singleton.1 hb];exact Ne.symm (hne p hp)
  ·rcases List.mem_append.1 hj with hj|hj
   ·obtain⟨d,hd⟩:=h.wk j hj;exact⟨d,List.mem_append_left _ hd⟩
   ·rw[List.mem_singleton.1 hj];exact⟨af,List.mem_append_right _ List.mem_cons_self⟩
  ·simp only[List.length_append,List.length_singleton];rcases List.mem_append.1 hp with hp|hp
   ·have:=h.dep p hp;omega
   ·rw[List.mem_singleton.1 hp];simp only;omega
theorem jeX(k:Int):0<=kJ k/\kJ k<=3:=by unfold kJ;repeat' split <;> omega
theorem jnB(k:Int):0<=vP k/\vP k<=1:=by unfold vP;split <;> omega
theorem jtT{code:List Ic}(hj:jqn code){a:Int}(ha:0<=a/\a<code.length):∀k∈nxI a (code.getD a.toNat (0,0)),0<=k:=by
 have hm:code.getD a.toNat (0,0)∈code:=by
  have h:a.toNat<code.length:=by omega
  rw[List.getD_eq_getElem?_getD,List.getElem?_eq_getElem h];exact List.getElem_mem h
 have hjm:=hj _ hm;generalize code.getD a.toNat (0,0)=i at *;intro k hk;unfold nxI at hk;split at hk
 ·cases hk
 ·split at hk
  ·rw[List.mem_singleton.1 hk];exact hjm (.inl (by assumption))
  ·split at hk
   ·rcases List.mem_cons.1 hk with rfl|hk
    ·omega
    ·rw[List.mem_singleton.1 hk];exact hjm (.inr (by assumption))
   ·rw[List.mem_singleton.1 hk];omega
def dmA(dm:List (Int×Int)):List (Int×A):=dm.map fun p=>(p.1,intA p.2)
theorem jfV(dm:List (Int×Int))(k:Int):wK (dmA dm) k=(dF dm k).map intA:=by
 unfold wK dmA dF;rw[List.find?_map]
 cases h:dm.find? ((fun p:Int×A=>decide (k=p.1)) ∘ fun p:Int×Int=>(p.1,intA p.2)) with
 |none =>
  have:dm.find? (fun p:Int×Int=>decide (k=p.1))=none:=h;rw[this];rfl
 |some p =>
  have:dm.find? (fun p:Int×Int=>decide (k=p.1))=some p:=h;rw[this];rfl
theorem jmp(dm:List (Int×Int))(k d:Int):dmA (dm++[(k,d)])=dmA dm++[(k,intA d)]:=by unfold dmA;rw[List.map_append];rfl
def pgE(e:Nat->Int)(du vo:Int):List A:=[intA (e 0),intA (e 1),intA (e 2),intA (e 3),intA (e 4),intA (e 5),intA (e 6),intA (e 7),intA (e 8),intA (e 9),intA (e 10),intA (e 11),intA (e 12),intA (e 13),intA (e 14),intA (e 15),intA (e 16),intA (e 17),intA (e 18),intA (e 19),intA (e 20),intA (e 21),intA (e 22),intA (e 23),intA (e 24),intA (e 25),intA (e 26),intA (e 27),intA (e 28),intA (e 29),intA (e 30),intA (e 31),intA (e 32),intA (e 33),intA (e 34),intA (e 35),intA (e 36),intA (e 37),intA (e 38),intA (e 39),intA du,intA vo]
def pgL(code:List Ic)(e:Nat->Int)(du vo:Int):List A:=.sl 2 code.length (wA code)::pgE e du vo
def pgA(code:List Ic)(e:Nat->Int)(du vo:Int):A:=.agg (pgL code e du vo)
structure Sh where
 po:Int
 pu:Int
 lo:Int
 hi:Int
def shA(s:Sh):A:=.agg [intA s.po,intA s.pu,intA s.lo,intA s.hi]
def shL(v l:Int):List (Int×Sh):=[(1,⟨0,1,(-2147483647),2147483647⟩),(2,⟨0,1,0,v⟩),(3,⟨1,0,0,v⟩),(4,⟨0,1,0,8⟩),(5,⟨1,1,0,0⟩),(6,⟨2,1,0,0⟩),(7,⟨2,1,0,0⟩),(8,⟨2,1,0,0⟩),(9,⟨2,1,0,0⟩),(10,⟨1,1,0,0⟩),(11,⟨2,1,0,0⟩),(12,⟨2,1,0,0⟩),(13,⟨2,1,0,0⟩),(14,⟨1,1,0,0⟩),(15,⟨0,0,0,l⟩),(16,⟨1,0,0,l⟩),(17,⟨3,0,0,29⟩),(18,⟨0,0,0,7⟩),(19,⟨0,0,0,7⟩),(20,⟨0,0,0,0⟩),(21,⟨2,0,0,0⟩),(22,⟨1,0,0,0⟩),(23,⟨0,0,0,0⟩)]
def shP(v l:Int):List (Int×A):=(shL v l).map fun p=>(p.1,shA p.2)
def shM(v l:Int):A:=.mp (u9 (shP v l)) (pX (shP v l))
theorem uL(code:List Ic)(e:Nat->Int)(du vo:Int)(hd : -100<=du/\du<=100)(hv : -100<=vo/\vo<=100)(hl:code.length<=1000000):Spec Tryz.prog 55 [] [pgA code e du vo] fun _ r=>r=shM (du+vo-1) (code.length-1):=by
 refine bM (jQ ju6 qB 0) (fun _ _ h=>h) Tryz.func55 rfl (by kernel_rfl) rfl ?_;intro _;refine yO (jQ _ _ _) (by kernel_rfl) ?_;conv=>whnf
 refine yO (jQ _ _ _) (by kernel_rfl) ?_;conv=>whnf
 refine⟨jH (by omega),?_⟩;conv=>whnf
 refine⟨jH (by omega),?_⟩;conv=>whnf
 refine⟨jH (by omega),?_⟩;conv=>whnf
 refine yO (jQ _ _ _) (by kernel_rfl) ?_;conv=>whnf
 refine jeP 0 ?_;conv=>whnf
 refine z6 (jQ _ _ _) (by kernel_rfl) ?_;conv=>whnf
 unfold shM u9 pX shP shL;rfl
theorem jmL(v l k:Int)(hk:1<=k/\k<=23):∃lo hi,wK (shP v l) k=some (.agg [intA (kJ k),intA (vP k),intA lo,intA hi]):=by
 have h:k=1∨k=2∨k=3∨k=4∨k=5∨k=6∨k=7∨k=8∨k=9∨k=10∨k=11∨k=12∨k=13∨k=14∨k=15∨k=16∨k=17∨k=18∨k=19∨k=20∨k=21∨k=22∨k=23:=by omega
 rcases h with rfl|rfl|rfl|rfl|rfl|rfl|rfl|rfl|rfl|rfl|rfl|rfl|rfl|rfl|rfl|rfl|rfl|rfl|rfl|rfl|rfl|rfl|rfl
 all_goals exact⟨_,_,rfl⟩
theorem jir(v l k:Int)(hk:1<=k/\k<=23){K:A->Prop}{n:Prop}(h:∀lo hi,K (.agg [intA (kJ k),intA (vP k),intA lo,intA hi])):g9 false (u9 (shP v l)) (pX (shP v l)) (.int .i64 k) K n:=by
 refine kI _ _ ?_;obtain⟨lo,hi,e⟩:=jmL v l k hk;rw[e];exact h lo hi
def jlF(i:Ic):Prop:=(1<=i.1/\i.1<=23)/\(i.1=15∨i.1=16->0<=i.2)
def GOk(g:Int->List Ic):Prop:=∀at':Int,0<=at'->∀i∈g at',jlF i
theorem GOk.no:GOk noI:=fun _ _ i hi=>by cases hi
theorem GOk.one{i:Ic}(h:jlF i):GOk fun _=>[i]:=fun _ _ j hj=>by rw[List.mem_singleton.1 hj];exact h
theorem GOk.seq:∀{l:List (Int->List Ic)},(∀g∈l,GOk g)->GOk (zW l)
 |[],_,_,_,i,hi=>by cases hi
 |g::r,h,at',ha,i,hi=>by
  unfold zW at hi;rcases List.mem_append.1 hi with hi|hi
  ·exact h g List.mem_cons_self at' ha i hi
  ·exact GOk.seq (fun x hx=>h x (List.mem_cons_of_mem _ hx)) _ (by omega) i hi
theorem GOk.br{c y n:Int->List Ic}(hc:GOk c)(hy:GOk y)(hn:GOk n):GOk (pW c y n):=fun at' ha i hi=>by
 unfold pW at hi;simp only[List.mem_append,List.mem_cons] at hi;rcases hi with hi|rfl|hi|rfl|hi
 ·exact hc at' ha i hi
 ·exact⟨by simp,fun _=>by simp only;omega⟩
 ·exact hy _ (by omega) i hi
 ·exact⟨by simp,fun _=>by simp only;omega⟩
 ·exact hn _ (by omega) i hi
theorem GOk.get{l:List (Int->List Ic)}(h:∀g∈l,GOk g)(k:Nat):GOk (l.getD k noI):=by
 rw[List.getD_eq_getElem?_getD]
 cases hk:l[k]? with
 |none=>exact GOk.no
 |some g=>exact h g (List.mem_of_getElem? hk)
theorem jsj(s:ByteArray):∀i∈opC s,jlF i:=by
 unfold opC
 repeat' split
 all_goals(intro i hi;simp only[List.mem_cons,List.not_mem_nil,or_false] at hi)
 all_goals first
  |(rcases hi with rfl|rfl <;> exact⟨by simp,fun h=>by simp at h⟩)
  |(subst hi;exact⟨by simp,fun h=>by simp at h⟩)
theorem GOk.body(ix:ByteArray->Int)(k n:Int)(s:ByteArray){l:List (Int->List Ic)}(h:∀g∈l,GOk g):GOk (xF ix k n s l):=fun at' ha i hi=>by
 have g0:=GOk.get h 0;have g1:=GOk.get h 1;have g2:=GOk.get h 2;have sq:=GOk.seq h
 have one:∀{a b:Int},1<=a->a<=23->a≠15->a≠16->i∈[((a,b):Ic)]->jlF i:=fun h1 h2 h3 h4 hi=>by
  rw[List.mem_singleton.1 hi];exact⟨⟨h1,h2⟩,fun h=>by rcases h with h|h;exact absurd h h3;exact absurd h h4⟩
 unfold xF at hi;by_cases c1:k=12∨k=13
 ·rw[if_pos c1] at hi;exact one (by decide) (by decide) (by decide) (by decide) hi
 rw[if_neg c1] at hi;by_cases c2:k=14
 ·rw[if_pos c2] at hi;exact one (by decide) (by decide) (by decide) (by decide) hi
 rw[if_neg c2] at hi;by_cases c3:k=15
 ·rw[if_pos c3] at hi;exact one (by decide) (by decide) (by decide) (by decide) hi
 rw[if_neg c3] at hi;by_cases c4:k=2
 ·rw[if_pos c4] at hi;exact GOk.br g0 g1 g2 at' ha i hi
 rw[if_neg c4] at hi;by_cases c5:k=5
 ·rw[if_pos c5] at hi;exact one (by decide) (by decide) (by decide) (by decide) hi
 rw[if_neg c5] at hi;by_cases c6:k=6
 ·rw[if_pos c6] at hi;exact one (by decide) (by decide) (by decide) (by decide) hi
 rw[if_neg c6] at hi;by_cases c7:k=7
 ·rw[if_pos c7] at hi;exact one (by decide) (by decide) (by decide) (by decide) hi
 rw[if_neg c7] at hi;by_cases c8:k=10
 ·rw[if_pos c8] at hi;exact one (by decide) (by decide) (by decide) (by decide) hi
 rw[if_neg c8] at hi;by_cases c9:k=3
 ·rw[if_pos c9] at hi;simp only[List.mem_append,List.mem_cons,List.not_mem_nil,or_false] at hi;rcases hi with hi|rfl|hi|rfl
  ·exact g0 at' ha i hi
  ·exact⟨by simp,fun _=>by simp only;omega⟩
  ·exact g1 _ (by omega) i hi
  ·exact⟨by simp,fun _=>ha⟩
 rw[if_neg c9] at hi;by_cases ca:k=18/\s=k9
 ·rw[if_pos ca] at hi;exact GOk.br g0 g1 (GOk.one ⟨by simp,fun h=>by simp at h⟩) at' ha i hi
 rw[if_neg ca] at hi;by_cases cb:k=18/\s=pOr
 ·rw[if_pos cb] at hi;exact GOk.br g0 (GOk.one ⟨by simp,fun h=>by simp at h⟩) g1 at' ha i hi
 rw[if_neg cb] at hi;rcases List.mem_append.1 hi with hi|hi
 ·exact sq at' ha i hi
 by_cases d1:k=18
 ·rw[if_pos d1] at hi;exact jsj s i hi
 rw[if_neg d1] at hi;by_cases d2:k=16
 ·rw[if_pos d2] at hi;exact one (by decide) (by decide) (by decide) (by decide) hi
 rw[if_neg d2] at hi;by_cases d3:k=17
 ·rw[if_pos d3] at hi;by_cases d4:s=pMinus
  ·rw[if_pos d4] at hi;exact one (by decide) (by decide) (by decide) (by decide) hi
  ·rw[if_neg d4] at hi;exact one (by decide) (by decide) (by decide) (by decide) hi
 rw[if_neg d3] at hi;by_cases d5:k=1
 ·rw[if_pos d5] at hi;exact one (by decide) (by decide) (by decide) (by decide) hi
 rw[if_neg d5] at hi;by_cases d6:k=4
 ·rw[if_pos d6] at hi;exact one (by decide) (by decide) (by decide) (by decide) hi
 rw[if_neg d6] at hi;by_cases d7:k=8
 ·rw[if_pos d7] at hi;exact one (by decide) (by decide) (by decide) (by decide) hi
 rw[if_neg d7] at hi;by_cases d8:k=9
 ·rw[if_pos d8] at hi;exact one (by decide) (by decide) (by decide) (by decide) hi
 rw[if_neg d8] at hi;cases hi
theorem jfN(ix:ByteArray->Int):∀f:Nt,GOk (jB ix f)
 |.mk k n s kids=>by
  have h:∀f∈kids,GOk (jB ix f):=fun f hf=>jfN ix f
  rw[show jB ix (.mk k n s kids)=xF ix k n s (qH ix kids) by funext at';rw[jB]]
  refine GOk.body ix k n s fun g hg=>?_
  rw[yQ] at hg;obtain⟨f,hf,rfl⟩:=List.mem_map.1 hg;exact h f hf
def t6(ix:ByteArray->Int):List (Int×Nt)->List Ic->(Nat->Int)->List Ic×(Nat->Int)
 |[],c,e=>(c,e)
 |(h,b)::r,c,e=>t6 ix r (c++jB ix b c.length++[(23,0)]) (fun j=>if j=h.toNat then(c.length:Int) else e j)
def jcU(code:List Ic)(e:Nat->Int):Nat->Nat->Int
 |_,0=>0
 |j,m+1=>if aK code (e j)≠0 then aK code (e j) else jcU code e (j+1) m
def noE:Nat->Int:=fun _ => -1
def zE:Nat->Int:=fun _=>0
def aJ(u:Ut):List Ic×(Nat->Int):=t6 (jS u) u.on [] noE
def jep(u:Ut):Int:=if 400<(aJ u).1.length then 2 else jcU (aJ u).1 (aJ u).2 0 40
def jkD:List A:=.v (.slice none 0 0)::pgE zE 0 0
def jkN(u:Ut):A:=if jep u=0 then .tup [pgA (aJ u).1 (aJ u).2 u.du.length u.vo.length,intA 0] else .tup [.agg jkD,intA (jep u)]
def okI(v l:Int)(i:Ic):Bool:=match (shL v l).find? (fun p=>decide (i.1=p.1)) with
 |none=>false
 |some p=>decide (p.2.lo<=i.2)&&decide (i.2<=p.2.hi)
def m5(n:Nat)(x:Int):Bool:=decide (-1<=x)&&decide (x<(n:Int))
def pZ(p:Int->Bool)(e:Nat->Int):Nat->Nat->Bool
 |_,0=>true
 |j,m+1=>p (e j)&&pZ p e (j+1) m
def jqc(code:List Ic)(e:Nat->Int):Nat->Nat->Int->Int
 |_,0,r=>r
 |j,m+1,r=>if aK code (e j)=12 then 12 else jqc code e (j+1) m (if aK code (e j)=13 then 13 else r)
def jqd(code:List Ic)(e:Nat->Int)(du vo:Int):Int :=
 if 400<code.length then 2
 else if du<0∨vo<0∨16<du∨16-du<vo then 12
 else if (code.all (okI (du+vo-1) (code.length-1)))=false then 12
 else if pZ (m5 code.length) e 0 40=false then 12
 else jqc code e 0 40 0
section
end
def jtP(i:Int):Nt:=.mk 12 i eB []
theorem jih(l:List Int)(a:Int):jV (l++[a])=jV l++[intA a]:=by unfold jV;rw[List.map_append];rfl
theorem jgx{dm:List (Int×Int)}{k:Int}{K:A->Prop}{n:Prop}(hd:dF dm k=none)(h:n):g9 false (u9 (dmA dm)) (pX (dmA dm)) (.int .i64 k) K n:=by
 refine kI _ _ ?_;rw[jfV,hd];exact h
theorem lB{dm:List (Int×Int)}{k d:Int}{K:A->Prop}{n:Prop}(hd:dF dm k=some d)(h:K (intA d)):g9 false (u9 (dmA dm)) (pX (dmA dm)) (.int .i64 k) K n:=by
 refine kI _ _ ?_;rw[jfV,hd];exact h
theorem jpk{dm:List (Int×Int)}{k d:Int}{n:Nat}{K:List A->List A->Nat->Prop}(hd:dF dm k=none)(h:K (mkA (dmA (dm++[(k,d)]))) (pX (dmA (dm++[(k,d)]))) (n+1)):jig false (.int .i64 k) (.v (.int .i64 d)) (mkA (dmA dm)) (pX (dmA dm)) n K:=by
 rw[jmp] at h;refine jd3 (fun p hp=>?_) h;unfold dmA at hp;obtain⟨q,hq,rfl⟩:=List.mem_map.1 hp;exact jjz hd q hq
theorem jsD(t:Nat)(dm:List (Int×Int))(k d:Int):Row.live t 0 (dm.length+1) [.clo 0 (mkA (dmA (dm++[(k,d)]))),.clo 0 (pX (dmA (dm++[(k,d)])))]=Row.live t 0 (dm++[(k,d)]).length [.clo 0 (mkA (dmA (dm++[(k,d)]))),.clo 0 (pX (dmA (dm++[(k,d)])))]:=by rw[List.length_append];rfl
theorem fM(t:Nat)(wk:List Int)(k:Int):Row.live t 1 (wk.length+1) (jV wk++[intA k])=Row.live t 1 (wk++[k]).length (jV (wk++[k])):=by rw[List.length_append,jih];rfl
theorem tC{α:Type}(o:Option α):o=none∨∃a,o=some a:=by cases o with
 |none=>exact .inl rfl
 |some a=>exact .inr ⟨a,rfl⟩
def juX(id:Nat):List Nat:=match Nat.beq id 1000003 with|true=>[1000003]|false=>[]
def flR(dm:List (Int×Int))(wk:List Int):List Row:=[.live 101 0 dm.length [.clo 0 (mkA (dmA dm)),.clo 0 (pX (dmA dm))],.live 3 1 wk.length (jV wk)]
theorem tZ(code:List Ic)(e:Nat->Int)(du vo entry:Int)(hd : -100<=du/\du<=100)(hv : -100<=vo/\vo<=100)(hl:code.length<=1000000)(hj:jqn code)(ho:∀i∈code,1<=i.1/\i.1<=23)(he:entry<code.length):Spec Tryz.prog 27 [] [pgA code e du vo,intA entry] fun _ r=>r=intA (aK code entry):=by
 have hsh:=uL code e du vo hd hv hl
 obtain⟨R,hR⟩:∃R,aK code entry=R:=⟨_,rfl⟩
 rw[hR];unfold aK at hR;refine eN jR juX 0 Tryz.func27 rfl ?_;intro _;conv=>whnf
 by_cases h0:entry<0
 ·rw[jJ h0];rw[if_pos h0] at hR;conv=>whnf
  rw[<- hR];rfl
 rw[jG h0];rw[if_neg h0] at hR;conv=>whnf
 refine kL [] hsh ?_;rintro r rfl;conv=>whnf
 refine jC [2,5,6,8] ?_;conv=>whnf
 refine jI (fun x:Nat×Fs=>[(7,intA (jpg x.2.er))]) (fun _=>[pgL code e du vo]) (fun x=>flR x.2.dm x.2.wk)
  (fun x=>jlD code.length x.2/\x.2.wk.length+(code.length-x.2.dm.length)+1<=x.1/\x.1<=code.length+1/\jmN code x.1 x.2=R) (fun x=>x.1) (code.length+1,⟨[(entry,0)],[entry],false⟩) ?_ ⟨⟨?_,?_,?_,?_⟩,?_,Nat.le_refl _,hR⟩ ?_
 ·repeat' constructor
  unfold mkA pX dmA;rfl
 ·intro p hp;rw[List.mem_singleton.1 hp];exact⟨by simp only;omega,he⟩
 ·simp
 ·intro k hk;rw[List.mem_singleton.1 hk];exact⟨0,List.mem_singleton.2 rfl⟩
 ·intro p hp;rw[List.mem_singleton.1 hp];simp only[List.length_singleton];omega
 ·simp only[List.length_singleton];omega
 rintro⟨m0,dm,wk,er⟩ ⟨g1,g2,g3,hR⟩
 simp only at g1 g2 g3 hR
 obtain⟨m,rfl⟩:∃m,m0=m+1:=⟨m0-1,by omega⟩
 have hwl:wk.length<=1000000:=by omega
 rcases List.eq_nil_or_concat wk with rfl|⟨pre,a,hw⟩
 ·conv=>whnf
  rw[jmN] at hR;simp only[List.getLast?_nil] at hR;rw[<- hR];rfl
 rw[List.concat_eq_append] at hw;subst hw;rw[jmN] at hR;simp only[List.getLast?_append,List.getLast?_singleton,Option.some_or,List.dropLast_append_cons,List.dropLast_singleton,List.append_nil] at hR
 have hlen:(pre++[a]).length=pre.length+1:=by simp
 have htk:(jV (pre++[a])).take (pre.length*1)=jV pre:=by unfold jV;rw[List.map_append,Nat.mul_one];exact List.take_left' (by simp)
 have hdr:(jV (pre++[a])).drop ((((pre++[a]).length:Int)-1).toNat*1)=[intA a]:=by
  have e1:(((pre++[a]).length:Int)-1).toNat*1=pre.length:=by omega
  rw[e1];unfold jV;rw[List.map_append];exact List.drop_left' (by simp)
 obtain⟨d,hda⟩:=g1.wk a (List.mem_append_right _ List.mem_cons_self);have ha:=g1.rng _ hda
 simp only at ha
 obtain⟨d',hd'⟩:=jp4 hda;have hdr':=g1.dep _ (jrG hd')
 simp only at hdr'
 have hdl:=jjQ g1.rng g1.nd
 simp only at hdl
 have hpp:=jeX (code.getD a.toNat (0,0)).1;have hps:=jnB (code.getD a.toNat (0,0)).1;have hnn:=jtT hj ha
 have hst:jo9 code dm pre er a=uC code.length (d'-kJ (code.getD a.toNat (0,0)).1+vP (code.getD a.toNat (0,0)).1) (nxI a (code.getD a.toNat (0,0))) ⟨dm,pre,er||(decide (d'<kJ (code.getD a.toNat (0,0)).1)||decide (16<d'-kJ (code.getD a.toNat (0,0)).1+vP (code.getD a.toNat (0,0)).1))⟩:=by
  unfold jo9 jei afF;rw[hd'];rfl
 rw[hst] at hR
 have hil:a.toNat<code.length:=by omega
 have hgi:code.getD a.toNat (0,0)=code[a.toNat]:=by rw[List.getD_eq_getElem?_getD,List.getElem?_eq_getElem hil];rfl
 have hcr:jD 2 a.toNat (wA code)=icA (code.getD a.toNat (0,0)):=by rw[hgi];exact mO code _ hil
 have hio:1<=(code.getD a.toNat (0,0)).1/\(code.getD a.toNat (0,0)).1<=23:=by rw[hgi];exact ho _ (List.getElem_mem hil)
 generalize code.getD a.toNat (0,0)=i at *;obtain⟨op,n⟩:=i
 simp only at hpp hps hio hR hnn
 unfold icA at hcr
 simp only at hcr
 conv=>whnf
 rw[jJ (show(0:Int)<((pre++[a]).length:Int) by rw[hlen];omega)];conv=>whnf
 refine⟨show lo .i64<=((pre++[a]).length:Int)-1/\((pre++[a]).length:Int)-1<=hi .i64 from jH (by omega),?_⟩;conv=>whnf
 refine⟨show(0:Int)<=((pre++[a]).length:Int)-1/\((pre++[a]).length:Int)-1<((pre++[a]).length:Nat) from ⟨by omega,by omega⟩,?_⟩;conv=>whnf
 rw[hdr];conv=>whnf
 refine⟨show lo .i64<=((pre++[a]).length:Int)-1/\((pre++[a]).length:Int)-1<=hi .i64 from jH (by omega),?_⟩;conv=>whnf
 refine⟨pre.length,jV pre,⟨show((pre++[a]).length:Int)-1=(pre.length:Nat) by omega,show pre.length<=(pre++[a]).length by omega,htk.symm⟩,?_⟩;conv=>whnf
 refine⟨ha,?_⟩;conv=>whnf
 (generalize hrq:jD _ _ (wA code)=rq;obtain rfl:rq=[intA op,intA n]:=hrq.symm.trans (hcr);clear hrq;conv=>whnf)
 conv=>whnf
 refine jir _ _ _ hio fun slo shi=>?_
 conv=>whnf
 refine bF _ ?_;conv=>whnf
 refine lB hd' ?_;conv=>whnf
 refine⟨jH (by omega),?_⟩;conv=>whnf
 refine⟨jH (by omega),?_⟩;conv=>whnf
 refine bF _ ?_;conv=>whnf
 refine lB hd' ?_;conv=>whnf
 rcases(show d'<kJ op∨¬d'<kJ op/\16<d'-kJ op+vP op∨¬d'<kJ op/\¬16<d'-kJ op+vP op by omega) with hb1|⟨hb1,hb2⟩|⟨hb1,hb2⟩;rw[jJ hb1] at hR ⊢;rw[Bool.true_or,Bool.or_true] at hR
 rotate_left
 rw[jG hb1,jJ hb2] at hR;rw[jG hb1];rw[Bool.or_true,Bool.or_true] at hR;conv=>whnf
 rw[jJ hb2]
 rotate_left
 rw[jG hb1] at hR ⊢;conv=>whnf
 rw[jG hb2] at hR ⊢;rw[Bool.or_self,Bool.or_false] at hR
 all_goals
  conv=>whnf
  unfold nxI at hR hnn
  simp only at hR hnn
  by_cases hc1:op=23
  ·rw[jJ hc1];rw[if_pos hc1] at hR hnn;unfold uC at hR;have hF:=hR
   simp only at hF
   conv=>whnf
   refine jC [2,5,6,7,8,88,89,90] ?_;conv=>whnf
   refine jI (fun _:Unit=>[]) (fun _=>[pgL code e du vo]) (fun _=>flR dm pre) (fun _=>True) (fun _=>0) () ?_ trivial ?_
   ·repeat' constructor
   rintro⟨⟩ -;conv=>whnf
   refine⟨(m,⟨dm,pre,_⟩),jF [0,1] ?_,⟨⟨g1.rng,g1.nd,fun k hk=>g1.wk k (List.mem_append_left _ hk),g1.dep⟩,show pre.length+(code.length-dm.length)+1<=m by omega,show m<=code.length+1 by omega,hF⟩,show m<m+1 by omega⟩;conv=>whnf
   repeat' constructor
  rw[jG hc1];rw[if_neg hc1] at hR hnn;conv=>whnf
  generalize hL:ite (op=15) _ _=L at hR hnn;rcases(show op=15∨¬op=15/\op=16∨¬op=15/\¬op=16 by omega) with hc2|⟨hc2,hc3⟩|⟨hc2,hc3⟩;rw[jJ hc2];rw[if_pos hc2] at hL
  have hl1:L.length=1:=by rw[<- hL];rfl
  have hM:[A.v (.int .i64 n)]=L.map intA:=by rw[<- hL];rfl
  conv=>whnf
  rotate_left
  rw[jG hc2];rw[if_neg hc2,if_pos hc3] at hL
  have hl1:L.length=2:=by rw[<- hL];rfl
  have hM:[A.v (.int .i64 (a+1)),A.v (.int .i64 n)]=L.map intA:=by rw[<- hL];rfl
  conv=>whnf
  rw[jJ hc3];conv=>whnf
  refine⟨show lo .i64<=a+1/\a+1<=hi .i64 from jH (by omega),?_⟩;conv=>whnf
  rotate_left
  rw[jG hc2];rw[if_neg hc2,if_neg hc3] at hL
  have hl1:L.length=1:=by rw[<- hL];rfl
  have hM:[A.v (.int .i64 (a+1))]=L.map intA:=by rw[<- hL];rfl
  conv=>whnf
  rw[jG hc3];conv=>whnf
  refine⟨show lo .i64<=a+1/\a+1<=hi .i64 from jH (by omega),?_⟩;conv=>whnf
  all_goals
   generalize hF:uC _ _ L _=F at hR;refine nL [2] ?_;conv=>whnf
   refine jC [2,5,6,8,12,88,89] ?_;conv=>whnf
   refine jI (fun x:Nat×Fs=>[(7,intA (jpg x.2.er)),(90,.v (.int .i64 x.1))]) (fun _=>[pgL code e du vo]) (fun x=>flR x.2.dm x.2.wk++[.pub 1 L.length (L.map intA)])
    (fun x=>x.1<=L.length/\jlD code.length x.2/\x.2.wk.length+dm.length=pre.length+x.2.dm.length/\dm.length<=x.2.dm.length/\uC code.length (d'-kJ op+vP op) (L.drop x.1) x.2=F) (fun x=>L.length-x.1) (0,⟨dm,pre,_⟩) ?_ ⟨Nat.zero_le _,⟨g1.rng,g1.nd,fun k hk=>g1.wk k (List.mem_append_left _ hk),g1.dep⟩,rfl,Nat.le_refl _,hF⟩ ?_
   ·repeat' constructor
    all_goals(rw[<- hL];rfl)
   clear hF;rintro⟨j,dm1,wk1,er1⟩ ⟨f1,f2,f3,f4,hF⟩
   simp only at f1 f2 f3 f4 hF
   have hdl1:=jjQ f2.rng f2.nd
   simp only at hdl1
   rcases Nat.lt_or_ge j L.length with hjL|hjL
   ·have hrw:=y8 intA L j hjL;have hk0:=hnn _ (List.getElem_mem hjL);rw[List.drop_eq_getElem_cons hjL] at hF;unfold uC at hF;generalize L[j]=k at hrw hk0 hF;conv=>whnf
    rw[jJ]
    rotate_left
    ·omega
    conv=>whnf
    refine⟨⟨by omega,by omega⟩,?_⟩;conv=>whnf
    generalize hrq:jD _ _ _=rq;obtain rfl:rq=[intA k]:=hrq.symm.trans (by show jD 1 j _=_;rw[hM];exact hrw);clear hrq;conv=>whnf
    by_cases hge:(code.length:Int)<=k
    ·unfold jgq at hF;rw[if_pos hge] at hF;rw[<- hF] at hR;rw[jJ hge];conv=>whnf
     rw[<- hR];rfl
    rw[jG hge];conv=>whnf
    refine bF _ ?_;conv=>whnf
    rcases tC (dF dm1 k) with hdk|⟨d2,hdk⟩
    ·have hkf:jgq code.length (d'-kJ op+vP op) ⟨dm1,wk1,er1⟩ k=some ⟨dm1++[(k,d'-kJ op+vP op)],wk1++[k],er1⟩:=by unfold jgq;rw[if_neg hge];simp only;rw[hdk]
     obtain⟨q1,q2,q3⟩:=jjR f2 hk0 ⟨by simp only;omega,by simp only;omega⟩ hkf;rw[hkf] at hF
     simp only at hF
     refine jgx hdk ?_;conv=>whnf
     refine jpk hdk ?_;conv=>whnf
     refine⟨⟨show wk1.length+1<=maxLen by unfold maxLen;omega,show(wk1.length+1)*8<=140737488355328 by omega⟩,?_⟩;conv=>whnf
     refine jN j (by omega) ?_;conv=>whnf
     refine⟨(j+1,⟨dm1++[(k,d'-kJ op+vP op)],wk1++[k],er1⟩),jF [0,1,2] ?_,⟨show j+1<=L.length by omega,q1,show _+_=_+_ by simp only at q2 ⊢;omega,show _<=_ by simp only at q3 ⊢;omega,hF⟩,show L.length-(j+1)<L.length-j by omega⟩;conv=>whnf
     repeat' constructor
     ·exact jsD _ _ _ _
     ·exact fM _ _ _
    ·have hkf:jgq code.length (d'-kJ op+vP op) ⟨dm1,wk1,er1⟩ k=some ⟨dm1,wk1,er1||decide (d2≠d'-kJ op+vP op)⟩:=by unfold jgq;rw[if_neg hge];simp only;rw[hdk]
     obtain⟨q1,q2,q3⟩:=jjR f2 hk0 ⟨by simp only;omega,by simp only;omega⟩ hkf;rw[hkf] at hF
     simp only at hF
     refine lB hdk ?_;conv=>whnf
     rcases(show d2=d'-kJ op+vP op∨d2≠d'-kJ op+vP op by omega) with heq|heq
     ·rw[jJ heq];rw[jG (fun h=>h heq),Bool.or_false] at hF q1;conv=>whnf
      refine jN j (by omega) ?_;conv=>whnf
      refine⟨(j+1,⟨dm1,wk1,er1⟩),jF [0,1,2] ?_,⟨show j+1<=L.length by omega,q1,show _+_=_+_ by simp only at q2 ⊢;omega,show _<=_ by simp only at q3 ⊢;omega,hF⟩,show L.length-(j+1)<L.length-j by omega⟩;conv=>whnf
      repeat' constructor
     ·rw[jG heq];rw[jJ heq,Bool.or_true] at hF q1;conv=>whnf
      refine jN j (by omega) ?_;conv=>whnf
      refine⟨(j+1,⟨dm1,wk1,true⟩),jF [0,1,2] ?_,⟨show j+1<=L.length by omega,q1,show _+_=_+_ by simp only at q2 ⊢;omega,show _<=_ by simp only at q3 ⊢;omega,hF⟩,show L.length-(j+1)<L.length-j by omega⟩;conv=>whnf
      repeat' constructor
   rw[List.drop_eq_nil_of_le hjL] at hF;unfold uC at hF;rw[<- hF] at hR
   simp only at hR
   conv=>whnf
   rw[jG]
   rotate_left
   ·omega
   conv=>whnf
   refine⟨(m,⟨dm1,wk1,er1⟩),jF [0,1] ?_,⟨f2,show wk1.length+(code.length-dm1.length)+1<=m by omega,show m<=code.length+1 by omega,hR⟩,show m<m+1 by omega⟩;conv=>whnf
   repeat' constructor
def enL(e:Nat->Int):List A:=(List.range 40).map fun j=>intA (e j)
theorem jey(e:Nat->Int)(j:Nat)(hj:j<40):(enL e)[((j:Int)).toNat*1]?=some (intA (e j)):=by
 rw[Int.toNat_natCast,Nat.mul_one];unfold enL;rw[List.getElem?_map,List.getElem?_range hj];rfl
theorem jlm(c:List Ic)(e:Nat->Int)(du vo:Int)(hl:c.length<=1000000):Spec Tryz.prog 37 [] [pgA c e du vo,pgA c e du vo] fun _ r=>r=zK true:=by
 refine eN ju2 qB 0 Tryz.func37 rfl ?_;intro _;conv=>whnf
 refine⟨by kernel_rfl,?_⟩;conv=>whnf
 generalize hq:(decide (e 0=e 0)&&_)=b
 obtain rfl:b=true:=by rw[<- hq];simp
 clear hq;conv=>whnf
 rw[jJ (rfl:du=du)];conv=>whnf
 rw[jJ (rfl:vo=vo)];conv=>whnf
 rw[jJ (rfl:(c.length:Int)=c.length)];conv=>whnf
 refine jC [2,3] ?_;conv=>whnf
 refine jI (fun j:Nat=>[(5,.v (.int .i64 j))]) (fun _=>[pgL c e du vo,pgL c e du vo]) (fun _=>[]) (fun j=>j<=c.length) (fun j=>c.length-j) 0 ?_ (by omega) ?_
 ·repeat' constructor
 intro j hj;conv=>whnf
 rcases Nat.lt_or_ge j c.length with hlt|hge
 ·have hrow:jD 2 j (wA c)=icA c[j]:=mO c j hlt;generalize c[j]=i at hrow;obtain⟨op,n⟩:=i;unfold icA at hrow
  simp only at hrow
  rw[jJ (show(j:Int)<(c.length:Int) by omega)];conv=>whnf
  refine⟨show(0:Int)<=(j:Int)/\(j:Int)<(c.length:Nat) from ⟨by omega,by omega⟩,?_⟩;conv=>whnf
  (generalize hrq:jD _ _ (wA c)=rq;obtain rfl:rq=[intA op,intA n]:=hrq.symm.trans (hrow);clear hrq;conv=>whnf)
  refine⟨show(0:Int)<=(j:Int)/\(j:Int)<(c.length:Nat) from ⟨by omega,by omega⟩,?_⟩;conv=>whnf
  (generalize hrq:jD _ _ (wA c)=rq;obtain rfl:rq=[intA op,intA n]:=hrq.symm.trans (hrow);clear hrq;conv=>whnf)
  refine⟨by kernel_rfl,?_⟩;conv=>whnf
  generalize hq:(decide (op=op)&&_)=b
  obtain rfl:b=true:=by rw[<- hq];simp
  clear hq;conv=>whnf
  refine jN j (by omega) ?_;conv=>whnf
  refine⟨j+1,jF [] ?_,show j+1<=c.length by omega,show c.length-(j+1)<c.length-j by omega⟩;conv=>whnf
  repeat' constructor
 rw[jG (show ¬(j:Int)<(c.length:Int) by omega)];conv=>whnf
 rfl
end Go.Proofs.YtdnnmiemgmgffaaGreatDoor.Vm
namespace Go.Proofs.YtdnnmiemgmgffaaGreatDoor.Vm
open Go.RowKit
section
theorem jdz{X:List Nat}{rw:List Row}{a a':A}(ha:ren X rw a=some a'):∀{l l':List A},zC X rw l=some l'->zC X rw (l++[a])=some (l'++[a'])
 |[],l',h=>by
  unfold zC at h;cases h;simp only[List.nil_append,zC,ha]
 |x::l,l',h=>by
  unfold zC at h;rw[List.cons_append];unfold zC;split at h
  ·rename_i y hy;split at h
   ·rename_i r hr;cases h;rw[jdz ha hr];rfl
   ·cases h
  ·cases h
theorem jam(X:List Nat)(l:List A)(a:A):y9 X (l++[a])=y9 X l++[back X a]:=by
 rw[cX,cX,List.map_append];rfl
section
variable{w0:W0}{C0:Rd}{β0:List Nat}{bx:List (List A)}{rw:List Row}{w:World}{E:Env}
theorem Hp.last{i:Nat}{c:List A}{a a':A}(h:Hp w0 C0 β0 bx rw w E)(hi:bx[i]?=some (c++[a]))(ha:∀t,a≠.adr t)(ha':∀t,a'≠.adr t)(hl:∀u,a.rep E u->a'.rep E u):Hp w0 C0 β0 (bx.set i (c++[a'])) rw w E:=by
 refine⟨h.sub,h.base,h.fresh,h.bp,h.bnd,h.bC,by rw[List.length_set];exact h.bl,fun j b cs h1 h2=>?_,h.rl,h.rws,h.rC,h.rd,h.rs,h.keep,h.gk⟩;by_cases e:i=j
 ·subst e;rw[List.getElem?_set_self (List.getElem?_eq_some_iff.1 hi).1] at h2;cases h2;obtain⟨T,arr,q1,q2⟩:=h.bxs i b _ h1 hi;exact⟨T,arr,q1,lW ha ha' (fun us hu=>hu) (fun u hu _=>hl u hu) q2⟩
 ·rw[List.getElem?_set_ne e] at h2;exact h.bxs j b cs h1 h2
end
section
variable{P:Program}{pan:List PanicEntry->S->Prop}{Xr:Nat->Bool}{f:Nat}{s:S}{K:A->S->Prop}{post:List A->A->Prop}
theorem zD(i g:Nat){cA c1 args args':List A}{pn:List PanicEntry->Prop}(hX:Xr i=true)(hi:s.bx[i]?=some (cA++[.own g]))(hgl:g<s.rw.length)(h1:zC [i] s.rw cA=some c1)(h2:zC [i] s.rw args=some args')
  (hs:SpecV P f c1 args' post pn)
  (hpn:∀ch bx',pn ch->bx'.length=s.bx.length->(∀j,j≠i->bx'[j]?=s.bx[j]?)->pan ch ⟨s.t,bx',s.rw⟩)
  (hk:∀c r,post c r->iC [i] s.bx [i] [c++[.own g]] fun bx'=>zV (back [i] r) fun r'=>qA s.rw fun rw'=>kT s bx' rw' (K r')):kB P pan Xr f args s K:=by
 unfold kB
 right;right;right;right;right
 have hil:=(List.getElem?_eq_some_iff.1 hi).1;have key:∀(w0:W0) (C0:Rd) (β0:List Nat) (E:Env) (w:World) (vals:List Value),Hp w0 C0 β0 s.bx s.rw w E->A.repL args E vals →
   ((∀vs w,(callFunc f vs).run P w=.ok (.enter f vs) w)/\Calls P f vals.toArray w (fun e w'=>(∃y,e=.returned y/\Left w0 C0 β0 Xr s E w K y w')∨∃ch s' E',e=.panicked ch/\pan ch s'/\s'.t=s.t/\E.le E'/\Hp w0 C0 β0 s'.bx s'.rw w' E')):=fun w0 C0 β0 E w vals hp hargs=>by
  have hgr:g<E.ρ.length:=by rw[<- hp.rl];exact hgl
  obtain⟨y,hyg⟩:∃y,E.ρ[g]?=some y:=⟨_,List.getElem?_eq_getElem hgr⟩
  have hy:fD y:=by
   rcases hp.rs g y hyg with ⟨_,_,_,rfl⟩|⟨_,rfl⟩|⟨_,rfl⟩ <;> exact trivial
  have hp2:=hp.last (a':=.v y) hi (fun t e=>by cases e) (fun t e=>by cases e) (fun u hu=>by
   unfold A.rep at hu
   have:y=u:=by rw[hyg] at hu;exact Option.some.inj hu
   subst this
   exact A.rep_v hy)
  have hc:=jat (s:=⟨s.t,s.bx.set i (cA++[.v y]),s.rw⟩) (pan:=pan) (pn:=pn) (X:=[i]) (ids:=[]) (ins:=[c1++[.v y]]) (post:=fun o r=>∃c,o=[c++[.v y]]/\post c r) (Xr:=Xr) (args:=args) (args':=args') (vs:=vals)
   (K:=fun r s'=>∃c bx',s'=⟨s.t,bx'.set i (c++[.v y]),s.rw⟩/\bx'[i]?=some (c++[.own g])/\K r ⟨s.t,bx',s.rw⟩) hp2 hargs
   (by simp) (by simpa using hX) (by simpa using hil)
   (by
    have:(s.bx.set i (cA++[.v y])).getD i []=cA++[.v y]:=by simp[List.getD_eq_getElem?_getD,hil]
    simp only[List.map_cons,List.map_nil,this];show nP [i] s.rw [cA++[.v y]]=_
    simp only[nP,jdz (a:=.v y) (a':=.v y) (by unfold ren;rfl) h1])
   h2 (fun _=>hs y hy)
   (fun outs r ⟨c,ho,hpost⟩ _=>by
    subst ho;obtain⟨_,bx',q1,q2,q3,q4⟩:=jbi (by simp) (hk c r hpost);rw[force_iff,qR,bQ] at q1;have q5:=q4 0 i _ rfl rfl;rw[jam] at q5;unfold iC;rw[qN];refine fP (by simpa using hil) ?_;unfold iC
    simp only
    rw[force_iff,qR,bQ,<- cX,jam];refine⟨y9 [i] c,bx',?_,by rw[q5];simp[back],q1⟩;simp only[List.set_set,S.mk.injEq,true_and,and_true];refine⟨?_,rfl⟩;apply List.ext_getElem?;intro j;by_cases e:i=j
    ·subst e;rw[List.getElem?_set_self hil,List.getElem?_set_self (by rw[q2];exact hil)];simp[back]
    ·rw[List.getElem?_set_ne e,List.getElem?_set_ne e,q3 j (by simpa using fun h=>e h.symm)])
   (fun ch bx' h k1 k2=>hpn ch bx' h (by simpa using k1) fun j hj=>by
    rw[k2 j (by simpa using hj),List.getElem?_set_ne (fun e=>hj e.symm)])
  refine⟨hc.1,hc.2.mono fun e w' hh=>?_⟩;rcases hh with ⟨y2,rfl,⟨⟨r,s',E',⟨c,bx',rfl,hb,hK⟩,k1,k2,k3,k4,k5,k6⟩⟩⟩|hh
  ·refine .inl ⟨y2,rfl,⟨⟨r,⟨s.t,bx',s.rw⟩,E',hK,rfl,k2,?_,k4,k5,k6⟩⟩⟩;have hbl:=(List.getElem?_eq_some_iff.1 hb).1
   have hp3:=k3.last (i:=i) (c:=c) (a:=.v y) (a':=.own g) (List.getElem?_set_self hbl) (fun t e=>by cases e) (fun t e=>by cases e) (fun u hu=>by
    obtain⟨rfl,-⟩:=A.rep_v_iff.1 hu;unfold A.rep
    exact k2.ρ _ _ hyg)
   have e:(bx'.set i (c++[.v y])).set i (c++[.own g])=bx':=by
    rw[List.set_set];apply List.ext_getElem?;intro j;by_cases e:i=j
    ·subst e;rw[List.getElem?_set_self hbl,hb]
    ·rw[List.getElem?_set_ne e]
   rw[e] at hp3;exact hp3
  ·exact .inr hh
 refine⟨?_,fun w0 C0 β0 E w vals hp hargs=>(key w0 C0 β0 E w vals hp hargs).2⟩;exact(hs (.bool true) trivial).1
end
end
end Go.Proofs.YtdnnmiemgmgffaaGreatDoor.Vm
namespace Go.Proofs.YtdnnmiemgmgffaaGreatDoor.Vm
open Go.RowKit Go.Shelf
def eC(u:Ut):List A:=iE u++[.own 0]
abbrev aC(f:Nat)(ins:List (List A))(l:List Ic)(args:List A)(post:List (List A)->List Ic->A->Prop):Prop :=
 m8 Tryz.prog f ins 84 2 l.length (wA l) args fun o n cs r=>∃l',n=l'.length/\cs=wA l'/\post o l' r
theorem gH(u:Ut)(l:List Ic)(op n:Int)(hl:l.length<=1000000):aC 26 [eC u] l [.box 0 0,intA op,intA n] fun o l' r=>o=[eC u]/\l'=l++[(op,n)]/\r=intA l.length:=by
 refine iP jR qB 1 Tryz.func26 rfl ?_;intro _;conv=>whnf
 refine⟨⟨by unfold maxLen;omega,by omega⟩,?_⟩;conv=>whnf
 refine⟨jH (by omega),?_⟩;conv=>whnf
 refine⟨0,?_⟩;conv=>whnf
 refine⟨l++[(op,n)],by rw[List.length_append];rfl,?_,rfl,rfl,?_⟩
 ·rw[jd0];rfl
 ·show intA (((l.length+1:Nat):Int)-1)=intA l.length
  congr 1;omega
theorem mA(a:Ic)(l:List Ic):wA (a::l)=icA a++wA l:=by rw[mB,List.flatMap_cons,mB]
theorem jgb:∀(l:List Ic) (k:Nat) (hk:k<l.length) (v:Int),(wA l).set (k*2+1) (intA v)=wA (l.set k (l[k].1,v))
 |[],k,hk,v=>by simp at hk
 |a::l,0,hk,v=>by rw[List.set_cons_zero,mA,mA];rfl
 |a::l,k+1,hk,v=>by
  rw[List.set_cons_succ,mA,mA];have h:=jgb l k (by simpa using hk) v;rw[show(k+1)*2+1=k*2+1+2 by omega];show intA a.1::intA a.2::(wA l).set (k*2+1) (intA v)=_;rw[h];rfl
theorem jdG:∀(l:List (Int->List Ic)) (g:Int->List Ic) (at':Int),zW (l++[g]) at'=zW l at'++g (at'+(zW l at').length)
 |[],g,at'=>by
  show g at'++[]=[]++g (at'+((0:Nat):Int));rw[List.append_nil,List.nil_append,show at'+((0:Nat):Int)=at' by omega]
 |h::l,g,at'=>by
  show h at'++zW (l++[g]) _=(h at'++zW l _)++g _;rw[jdG l g,List.append_assoc]
  congr 3
  show _=at'+((h at'++zW l _).length:Int);rw[List.length_append];omega
def bZ(u:Ut)(f:Nt):Prop:=(∀at':Int,(jB (jS u) f at').length<=j6 f)/\∀l:List Ic,l.length+j6 f<=1000000->aC 25 [eC u] l [.box 0 0,.agg (ntA f)] fun o l' r=>o=[eC u]/\l'=l++jB (jS u) f l.length/\r=.tup []
theorem tM:∀(l:List Nt) (j:Nat) (h:j<l.length),qF (l.take j)+j6 l[j]<=qF l
 |[],j,h=>by simp at h
 |f::l,0,h=>by show 0+j6 f<=j6 f+qF l;omega
 |f::l,j+1,h=>by
  have hj:j<l.length:=by simpa using h
  have:=tM l j hj;show j6 f+qF (l.take j)+j6 (l[j]'hj)<=j6 f+qF l;omega
theorem sC:∀(l:List Nt) (j:Nat),qF (l.take j)<=qF l
 |[],j=>by rw[List.take_nil];exact Nat.le_refl _
 |f::l,0=>Nat.zero_le _
 |f::l,j+1=>by
  have:=sC l j;show j6 f+qF (l.take j)<=j6 f+qF l;omega
theorem dV{u:Ut}:∀(l:List Nt) (at':Int),(∀f∈l,bZ u f)->(zW (qH (jS u) l) at').length<=qF l
 |[],at',_=>Nat.zero_le _
 |f::l,at',h=>by
  show(jB (jS u) f at'++zW (qH (jS u) l) _).length<=j6 f+qF l;rw[List.length_append];have h1:=(h f List.mem_cons_self).1 at'
  have h2:=dV l (at'+(jB (jS u) f at').length) fun g hg=>h g (List.mem_cons_of_mem _ hg)
  omega
theorem mC(u:Ut)(k n:Int)(s:ByteArray)(kids:List Nt)(hm:kids.length<=3002)(hf:∀f∈kids,bZ u f)(l:List Ic)(hl:l.length+qF kids<=1000000):aC 53 [eC u] l [.box 0 0,.agg (ntA (.mk k n s kids))] fun o l' r=>o=[eC u]/\l'=l++zW (qH (jS u) kids) l.length/\r=.tup []:=by
 obtain⟨S,hS⟩:∃S:Nat->List Ic,∀j,S j=l++zW (qH (jS u) (kids.take j)) l.length:=⟨_,fun _=>rfl⟩
 have hS0:S 0=l:=by rw[hS];exact List.append_nil l
 have hSl:l++zW (qH (jS u) kids) l.length=S kids.length:=by rw[hS,List.take_length]
 have hSn:∀j (h:j<kids.length),S (j+1)=S j++jB (jS u) kids[j] (S j).length:=fun j h=>by
  rw[hS,hS,List.take_succ_eq_append_getElem h,yQ,yQ,List.map_append];show l++zW (_++[jB (jS u) kids[j]]) _=_;rw[jdG,List.append_assoc,List.length_append]
  congr 3
 have hSz:∀j (h:j<kids.length),(S j).length+j6 kids[j]<=1000000:=fun j h=>by
  rw[hS,List.length_append]
  have h1:=dV (kids.take j) l.length fun f hf'=>hf f (List.mem_of_mem_take hf')
  have h2:=tM kids j h;omega
 rw[hSl,<- hS0];simp only[ntA,Nt.k,Nt.n,Nt.s,Nt.kids];refine iP jR qB 1 Tryz.func53 rfl ?_;intro _;conv=>whnf
 refine jC [0,7,8] ?_;conv=>whnf
 refine jI (fun j:Nat=>[(9,.v (.int .i64 j))]) (fun _=>[eC u,[intA k,intA n,jX s,.sl 4 kids.length (qW kids)]]) (fun j=>[.live 84 2 (S j).length (wA (S j))]) (fun j=>j<=kids.length) (fun j=>kids.length-j) 0 ?_ (Nat.zero_le _) ?_
 ·repeat' constructor
 rintro j hj;conv=>whnf
 by_cases hlt:j<kids.length
 ·rw[jJ (show(j:Int)<(kids.length:Int) by omega)];have hrow:=qT kids j hlt;have hSn:=hSn j hlt;have hSz:=hSz j hlt;have hg:=hf _ (List.getElem_mem hlt);generalize kids[j]=g at *;have hx:=hg.2 (S j) hSz;generalize hcd:jB (jS u) g (S j).length=y at *;conv=>whnf
  refine⟨by omega,?_⟩;conv=>whnf
  (generalize hrq:jD _ _ (qW kids)=rq;obtain rfl:rq=ntA g:=hrq.symm.trans (hrow);clear hrq;conv=>whnf)
  refine wE 0 0 1 [] hx ?_;rintro o n' cs' r ⟨s4,rfl,rfl,ho,hs4,rfl⟩;cases ho;conv=>whnf
  refine⟨jH (by omega),?_⟩;conv=>whnf
  refine⟨j+1,jF [1] ?_,hlt,by omega⟩;conv=>whnf
  rw[hs4,show S (j+1)=_ from hSn];repeat' constructor
 ·rw[jG (show ¬(j:Int)<(kids.length:Int) by omega)];conv=>whnf
  obtain rfl:j=kids.length:=by omega
  refine⟨0,?_⟩;conv=>whnf
  exact⟨_,rfl,rfl,rfl,rfl,rfl⟩
theorem jm9(s:ByteArray)(h:(builtL.any fun x=>decide (s=x))=true):Spec Tryz.prog 79 [] [jX s] fun _ r=>r=intA (biF s):=by
 have h:s∈builtL:=by
  rw[List.any_eq_true] at h;obtain⟨x,h1,h2⟩:=h;rw[decide_eq_true_eq] at h2;rw[h2];exact h1
 unfold builtL at h;simp only[List.mem_cons,List.not_mem_nil,or_false] at h;rcases h with rfl|rfl|rfl|rfl|rfl|rfl|rfl|rfl|rfl
 all_goals
  refine eN jR qB 0 Tryz.func79 rfl ?_;intro _;conv=>whnf
  rfl
def jqJ(ix:ByteArray->Int)(k n:Int)(s:ByteArray):Ic :=
 if k=12∨k=13 then(1,n) else if k=14 then(2,ix s) else if k=15 then(4,biF s) else if k=1 then(3,ix s)
 else if k=4 then(17,n) else if k=5 then(18,n) else if k=6 then(19,n) else if k=16 then(5,0) else if k=7 then(20,0)
 else if k=10 then(23,0) else if k=8 then(21,0) else(22,0)
def dN(id:Nat):Tr:=match Nat.beq id 8 with|true=>.q 0 3 (.q 1 3 (.q 2 3 (.q 3 3 (.q 5 3 (.q 6 0 (.alt 4 1 (.alt 7 1 (.alt 8 2 (.nil) (.nil)) (.nil)) (.nil)))))))|false=>match Nat.beq id 12 with|true=>.q 0 3 (.q 1 3 (.q 2 3 (.q 3 3 (.q 5 3 (.q 6 0 (.alt 4 1 (.alt 7 1 (.alt 8 2 (.nil) (.nil)) (.nil)) (.nil)))))))|false=>.nil
theorem jkZ(u:Ut)(hu:eD u)(k n:Int)(s:ByteArray)(kids:List Nt)(hm:kids.length<=3002)(hf:∀f∈kids,bZ u f)(hc:k=12∨k=13∨k=14∨k=15/\(builtL.any fun x=>decide (s=x))=true∨k=1∨k=4∨k=5∨k=6∨k=16∨k=7∨k=10∨k=8∨k=9)(l:List Ic)(hl:l.length+qF kids+1<=1000000):aC 54 [eC u] l [.box 0 0,.agg (ntA (.mk k n s kids))] fun o l' r=>o=[eC u]/\l'=l++zW (qH (jS u) kids) l.length++[jqJ (jS u) k n s]/\r=.tup []:=by
 have hk:=mC u k n s kids hm hf l (by omega);simp only[ntA,Nt.k,Nt.n,Nt.s,Nt.kids] at hk;have hz:=dV (u:=u) kids l.length hf
 have hem:=fun(l:List Ic) (op n:Int) (h:l.length<=1000000)=>gH u l op n h
 have hix:=jsM u hu s;generalize zW (qH (jS u) kids) l.length=y at *
 have hly:(l++y).length<=999999:=by rw[List.length_append];omega
 generalize l++y=l3 at *;rcases hc with rfl|rfl|rfl|⟨rfl,hb⟩|rfl|rfl|rfl|rfl|rfl|rfl|rfl|rfl|rfl
 ·simp only[ntA,Nt.k,Nt.n,Nt.s,Nt.kids];refine iP dN (fun _=>[0]) 1 Tryz.func54 rfl ?_;intro _;conv=>whnf
  refine wE 0 0 1 [] hk ?_;rintro o n' cs' r ⟨l2,rfl,rfl,ho,hl2,rfl⟩;cases ho;conv=>whnf
  subst hl2;refine wE 0 1 2 [] (hem l2 1 n (by omega)) ?_;rintro o n' cs' r ⟨l4,rfl,rfl,ho,hl4,rfl⟩;cases ho;conv=>whnf
  refine⟨2,?_⟩;conv=>whnf
  exact⟨l4,rfl,rfl,rfl,by rw[hl4];rfl,rfl⟩
 ·simp only[ntA,Nt.k,Nt.n,Nt.s,Nt.kids];refine iP dN (fun _=>[0]) 1 Tryz.func54 rfl ?_;intro _;conv=>whnf
  refine wE 0 0 1 [] hk ?_;rintro o n' cs' r ⟨l2,rfl,rfl,ho,hl2,rfl⟩;cases ho;conv=>whnf
  subst hl2;refine wE 0 1 2 [] (hem l2 1 n (by omega)) ?_;rintro o n' cs' r ⟨l4,rfl,rfl,ho,hl4,rfl⟩;cases ho;conv=>whnf
  refine⟨2,?_⟩;conv=>whnf
  exact⟨l4,rfl,rfl,rfl,by rw[hl4];rfl,rfl⟩
 ·simp only[ntA,Nt.k,Nt.n,Nt.s,Nt.kids];refine iP dN (fun _=>[0]) 1 Tryz.func54 rfl ?_;intro _;conv=>whnf
  refine wE 0 0 1 [] hk ?_;rintro o n' cs' r ⟨l2,rfl,rfl,ho,hl2,rfl⟩;cases ho;conv=>whnf
  subst hl2
  (refine kL [] hix ?_;rintro r rfl;conv=>whnf)
  refine wE 0 1 2 [] (hem l2 2 (jS u s) (by omega)) ?_;rintro o n' cs' r ⟨l4,rfl,rfl,ho,hl4,rfl⟩;cases ho;conv=>whnf
  refine⟨2,?_⟩;conv=>whnf
  exact⟨l4,rfl,rfl,rfl,by rw[hl4];rfl,rfl⟩
 ·have hbi:=jm9 s hb;simp only[ntA,Nt.k,Nt.n,Nt.s,Nt.kids];refine iP dN (fun _=>[0]) 1 Tryz.func54 rfl ?_;intro _;conv=>whnf
  refine wE 0 0 1 [] hk ?_;rintro o n' cs' r ⟨l2,rfl,rfl,ho,hl2,rfl⟩;cases ho;conv=>whnf
  subst hl2
  (refine kL [] hbi ?_;rintro r rfl;conv=>whnf)
  refine wE 0 1 2 [] (hem l2 4 (biF s) (by omega)) ?_;rintro o n' cs' r ⟨l4,rfl,rfl,ho,hl4,rfl⟩;cases ho;conv=>whnf
  refine⟨2,?_⟩;conv=>whnf
  exact⟨l4,rfl,rfl,rfl,by rw[hl4];rfl,rfl⟩
 ·simp only[ntA,Nt.k,Nt.n,Nt.s,Nt.kids];refine iP dN (fun _=>[0]) 1 Tryz.func54 rfl ?_;intro _;conv=>whnf
  refine wE 0 0 1 [] hk ?_;rintro o n' cs' r ⟨l2,rfl,rfl,ho,hl2,rfl⟩;cases ho;conv=>whnf
  subst hl2
  (refine kL [] hix ?_;rintro r rfl;conv=>whnf)
  refine wE 0 1 2 [] (hem l2 3 (jS u s) (by omega)) ?_;rintro o n' cs' r ⟨l4,rfl,rfl,ho,hl4,rfl⟩;cases ho;conv=>whnf
  refine⟨2,?_⟩;conv=>whnf
  exact⟨l4,rfl,rfl,rfl,by rw[hl4];rfl,rfl⟩
 ·simp only[ntA,Nt.k,Nt.n,Nt.s,Nt.kids];refine iP dN (fun _=>[0]) 1 Tryz.func54 rfl ?_;intro _;conv=>whnf
  refine wE 0 0 1 [] hk ?_;rintro o n' cs' r ⟨l2,rfl,rfl,ho,hl2,rfl⟩;cases ho;conv=>whnf
  subst hl2;refine wE 0 1 2 [] (hem l2 17 n (by omega)) ?_;rintro o n' cs' r ⟨l4,rfl,rfl,ho,hl4,rfl⟩;cases ho;conv=>whnf
  refine⟨2,?_⟩;conv=>whnf
  exact⟨l4,rfl,rfl,rfl,by rw[hl4];rfl,rfl⟩
 ·simp only[ntA,Nt.k,Nt.n,Nt.s,Nt.kids];refine iP dN (fun _=>[0]) 1 Tryz.func54 rfl ?_;intro _;conv=>whnf
  refine wE 0 0 1 [] hk ?_;rintro o n' cs' r ⟨l2,rfl,rfl,ho,hl2,rfl⟩;cases ho;conv=>whnf
  subst hl2;refine wE 0 1 2 [] (hem l2 18 n (by omega)) ?_;rintro o n' cs' r ⟨l4,rfl,rfl,ho,hl4,rfl⟩;cases ho;conv=>whnf
  refine⟨2,?_⟩;conv=>whnf
  exact⟨l4,rfl,rfl,rfl,by rw[hl4];rfl,rfl⟩
 ·simp only[ntA,Nt.k,Nt.n,Nt.s,Nt.kids];refine iP dN (fun _=>[0]) 1 Tryz.func54 rfl ?_;intro _;conv=>whnf
  refine wE 0 0 1 [] hk ?_;rintro o n' cs' r ⟨l2,rfl,rfl,ho,hl2,rfl⟩;cases ho;conv=>whnf
  subst hl2;refine wE 0 1 2 [] (hem l2 19 n (by omega)) ?_;rintro o n' cs' r ⟨l4,rfl,rfl,ho,hl4,rfl⟩;cases ho;conv=>whnf
  refine⟨2,?_⟩;conv=>whnf
  exact⟨l4,rfl,rfl,rfl,by rw[hl4];rfl,rfl⟩
 ·simp only[ntA,Nt.k,Nt.n,Nt.s,Nt.kids];refine iP dN (fun _=>[0]) 1 Tryz.func54 rfl ?_;intro _;conv=>whnf
  refine wE 0 0 1 [] hk ?_;rintro o n' cs' r ⟨l2,rfl,rfl,ho,hl2,rfl⟩;cases ho;conv=>whnf
  subst hl2;refine wE 0 1 3 [] (hem l2 5 0 (by omega)) ?_;rintro o n' cs' r ⟨l4,rfl,rfl,ho,hl4,rfl⟩;cases ho;conv=>whnf
  refine⟨3,?_⟩;conv=>whnf
  exact⟨l4,rfl,rfl,rfl,by rw[hl4];rfl,rfl⟩
 ·simp only[ntA,Nt.k,Nt.n,Nt.s,Nt.kids];refine iP dN (fun _=>[0]) 1 Tryz.func54 rfl ?_;intro _;conv=>whnf
  refine wE 0 0 1 [] hk ?_;rintro o n' cs' r ⟨l2,rfl,rfl,ho,hl2,rfl⟩;cases ho;conv=>whnf
  subst hl2;refine wE 0 1 3 [] (hem l2 20 0 (by omega)) ?_;rintro o n' cs' r ⟨l4,rfl,rfl,ho,hl4,rfl⟩;cases ho;conv=>whnf
  refine⟨3,?_⟩;conv=>whnf
  exact⟨l4,rfl,rfl,rfl,by rw[hl4];rfl,rfl⟩
 ·simp only[ntA,Nt.k,Nt.n,Nt.s,Nt.kids];refine iP dN (fun _=>[0]) 1 Tryz.func54 rfl ?_;intro _;conv=>whnf
  refine wE 0 0 1 [] hk ?_;rintro o n' cs' r ⟨l2,rfl,rfl,ho,hl2,rfl⟩;cases ho;conv=>whnf
  subst hl2;refine wE 0 1 3 [] (hem l2 23 0 (by omega)) ?_;rintro o n' cs' r ⟨l4,rfl,rfl,ho,hl4,rfl⟩;cases ho;conv=>whnf
  refine⟨3,?_⟩;conv=>whnf
  exact⟨l4,rfl,rfl,rfl,by rw[hl4];rfl,rfl⟩
 ·simp only[ntA,Nt.k,Nt.n,Nt.s,Nt.kids];refine iP dN (fun _=>[0]) 1 Tryz.func54 rfl ?_;intro _;conv=>whnf
  refine wE 0 0 1 [] hk ?_;rintro o n' cs' r ⟨l2,rfl,rfl,ho,hl2,rfl⟩;cases ho;conv=>whnf
  subst hl2;refine wE 0 1 3 [] (hem l2 21 0 (by omega)) ?_;rintro o n' cs' r ⟨l4,rfl,rfl,ho,hl4,rfl⟩;cases ho;conv=>whnf
  refine⟨3,?_⟩;conv=>whnf
  exact⟨l4,rfl,rfl,rfl,by rw[hl4];rfl,rfl⟩
 ·simp only[ntA,Nt.k,Nt.n,Nt.s,Nt.kids];refine iP dN (fun _=>[0]) 1 Tryz.func54 rfl ?_;intro _;conv=>whnf
  refine wE 0 0 1 [] hk ?_;rintro o n' cs' r ⟨l2,rfl,rfl,ho,hl2,rfl⟩;cases ho;conv=>whnf
  subst hl2;refine wE 0 1 3 [] (hem l2 22 0 (by omega)) ?_;rintro o n' cs' r ⟨l4,rfl,rfl,ho,hl4,rfl⟩;cases ho;conv=>whnf
  refine⟨3,?_⟩;conv=>whnf
  exact⟨l4,rfl,rfl,rfl,by rw[hl4];rfl,rfl⟩
section
section
variable{P:Program}{pan:List PanicEntry->S->Prop}{Xr:Nat->Bool}{f:Nat}{args args':List A}{s:S}{K:A->S->Prop}{post:List (List A)->Nat->List A->A->Prop}
theorem jas(X:List Nat)(g m:Nat)(ids:List Nat)(hm:s.rw.length=m){e k n:Nat}{cs:List A}{ins:List (List A)}(hf:Xr 1000000007=true)(hn:X.Nodup)(hX:∀i∈X,Xr i=true)(hi:∀i∈X,i<s.bx.length)(hg:(jA s.rw ids)[g]?=some (.live e k n cs))(h1:bK X g (jA s.rw ids) (X.map fun i=>s.bx.getD i [])=some ins)(h2:kE X g (jA s.rw ids) args=some args')(hs:nN args'->m8 P f ins e k n cs args' post)
  (hk:∀outs n' cs' r,post outs n' cs' r->outs.length=X.length->fZ X m s.bx X outs fun bx'=>zV (backG X m r) fun r'=>qA ((jA s.rw ids).set g .gone++[.live e k n' cs']) fun rw'=>kT s bx' rw' (K r')):kB P pan Xr f args s K:=by
 subst hm;unfold kB
 right;right;right;right;left
 exact⟨hf,X,ids,g,e,k,n,cs,ins,args',post,_,hn,hX,hi,hg,h1,h2,hs,hk,fun ch bx' h _ _=>h.elim⟩
end
abbrev jhJ(f:Nat)(ins:List (List A))(l:List Ic)(args:List A)(post:List (List A)->List Ic->A->Prop):Prop :=
 jhK Tryz.prog f ins 84 2 l.length (wA l) args fun o n cs r=>∃l',n=l'.length/\cs=wA l'/\post o l' r
theorem jtu(u:Ut)(l:List Ic)(op n:Int)(hl:l.length<=1000000):jhJ 26 [eC u] l [.box 0 0,intA op,intA n] fun o l' r=>o=[eC u]/\l'=l++[(op,n)]/\r=intA l.length:=by
 refine jdP (jQ jR qB 1) (fun _ _ h=>h) Tryz.func26 rfl (by kernel_rfl) rfl (by kernel_rfl) ?_;intro _;conv=>whnf
 refine⟨⟨by unfold maxLen;omega,by omega⟩,?_⟩;conv=>whnf
 refine⟨jH (by omega),?_⟩;conv=>whnf
 refine⟨0,?_⟩;conv=>whnf
 refine⟨l++[(op,n)],by rw[List.length_append];rfl,?_,rfl,rfl,?_⟩
 ·rw[jd0];rfl
 ·show intA (((l.length+1:Nat):Int)-1)=intA l.length
  congr 1;omega
theorem jtz(u:Ut)(l:List Ic)(k:Nat)(hk:k<l.length)(hl:l.length<=1000000):jhJ 77 [eC u] l [.box 0 0,intA k] fun o l' r=>o=[eC u]/\l'=l.set k (l[k].1,l.length)/\r=.tup []:=by
 refine jdP (jQ jua qB 1) (fun _ _ h=>h) Tryz.func77 rfl (by kernel_rfl) rfl (by kernel_rfl) ?_;intro _;conv=>whnf
 refine⟨⟨by omega,by omega⟩,?_⟩;conv=>whnf
 rw[show((k:Int)).toNat=k from rfl];refine fP (by rw[jmT];omega) ?_;conv=>whnf
 refine⟨0,?_⟩;conv=>whnf
 refine⟨l.set k (l[k].1,l.length),by rw[List.length_set],?_,rfl,rfl,rfl⟩;exact jgb l k hk l.length
theorem jfO(u:Ut)(n:Int)(s:ByteArray)(kids:List Nt)(hm:kids.length<=3002)(hf:∀f∈kids,bZ u f)(l:List Ic)(hl:l.length+qF kids+1<=1000000):aC 49 [eC u] l [.box 0 0,.agg (ntA (.mk 17 n s kids))] fun o l' r=>o=[eC u]/\l'=l++zW (qH (jS u) kids) l.length++(if s=pMinus then [(10,0)] else [(14,0)])/\r=.tup []:=by
 have hk:=mC u 17 n s kids hm hf l (by omega);simp only[ntA,Nt.k,Nt.n,Nt.s,Nt.kids] at hk;have hz:=dV (u:=u) kids l.length hf
 have hem:=fun(l:List Ic) (op n:Int) (h:l.length<=1000000)=>gH u l op n h
 generalize zW (qH (jS u) kids) l.length=y at *
 have hly:(l++y).length<=999999:=by rw[List.length_append];omega
 generalize l++y=l3 at *;simp only[ntA,Nt.k,Nt.n,Nt.s,Nt.kids];refine iP jR qB 1 Tryz.func49 rfl ?_;intro _;conv=>whnf
 refine wE 0 0 1 [] hk ?_;rintro o n' cs' r ⟨l2,rfl,rfl,ho,hl2,rfl⟩;cases ho;subst hl2;conv=>whnf
 by_cases hs:s=pMinus
 ·rw[if_pos hs];refine j9 (b:=decide (s=⟨#[45]⟩)) (jJ hs) ?_;conv=>whnf
  refine wE 0 1 2 [] (hem l2 10 0 (by omega)) ?_;rintro o n' cs' r ⟨l4,rfl,rfl,ho,hl4,rfl⟩;cases ho;conv=>whnf
  refine⟨2,?_⟩;conv=>whnf
  exact⟨l4,rfl,rfl,rfl,hl4,rfl⟩
 ·rw[if_neg hs];refine jW (b:=decide (s=⟨#[45]⟩)) (jG hs) ?_;conv=>whnf
  refine wE 0 1 2 [] (hem l2 14 0 (by omega)) ?_;rintro o n' cs' r ⟨l4,rfl,rfl,ho,hl4,rfl⟩;cases ho;conv=>whnf
  refine⟨2,?_⟩;conv=>whnf
  exact⟨l4,rfl,rfl,rfl,hl4,rfl⟩
theorem jko{α:Type}:∀(a:List α) (x v:α) (b:List α),(a++x::b).set a.length v=a++v::b
 |[],x,v,b=>rfl
 |y::a,x,v,b=>by
  show y::(a++x::b).set a.length v=_;rw[jko a x v b];rfl
theorem jmR(u:Ut)(a b:List Ic)(op x:Int)(hl:(a++(op,x)::b).length<=1000000):jhJ 77 [eC u] (a++(op,x)::b) [.box 0 0,intA a.length] fun o l' r=>o=[eC u]/\l'=a++(op,((a++(op,x)::b).length:Int))::b/\r=.tup []:=by
 have hk:a.length<(a++(op,x)::b).length:=by rw[List.length_append,List.length_cons];omega
 have h:=jtz u (a++(op,x)::b) a.length hk hl
 have e:(a++(op,x)::b)[a.length]=(op,x):=by simp
 rw[e,jko] at h;exact h
def joQ(u:Ut)(nd:Nt)(f:Nat)(caps:List A)(g:Int->List Ic)(z:Nat):Prop:=(∀at':Int,(g at').length<=z)/\∀l:List Ic,l.length+z<=1000000->aC f [eC u,[.box 0 0],ntA nd] l caps fun o l' r=>o=[eC u,[.box 0 0],ntA nd]/\l'=l++g l.length/\r=.tup []
theorem choose_spec(u:Ut)(nd:Nt)(f:Nt)(hf:bZ u f)(fy fn zy zn:Nat)(cy cn:List A)(gy gn:Int->List Ic)(hcy:cy=[.box 1 0,.box 2 0]∨cy=[.box 1 0])(hcn:cn=[.box 1 0,.box 2 0]∨cn=[.box 1 0])(hy:joQ u nd fy cy gy zy)(hn:joQ u nd fn cn gn zn)(l:List Ic)(hl:l.length+j6 f+zy+zn+2<=1000000):aC 72 [eC u,[.box 0 0],ntA nd] l [.box 0 0,.agg (ntA f),.clo fy cy,.clo fn cn] fun o l' r=>o=[eC u,[.box 0 0],ntA nd]/\l'=l++pW (jB (jS u) f) gy gn l.length/\r=.tup []:=by
 have hz1:=hf.1 l.length;have hN:=hf.2 l (by omega)
 have hem:=fun(l:List Ic) (op n:Int) (h:l.length<=1000000)=>gH u l op n h
 generalize hC:jB (jS u) f l.length=C at *;have e1:(l++C).length=l.length+C.length:=List.length_append;have h1:=hem (l++C) 16 0 (by omega)
 have e2:(l++C++[(16,0)]).length=l.length+C.length+1:=by rw[List.length_append,e1];rfl
 have hz2:=hy.1 ((l++C++[((16:Int),(0:Int))]).length:Nat);have h2:=hy.2 (l++C++[(16,0)]) (by omega);generalize hY:gy ((l++C++[((16:Int),(0:Int))]).length:Nat)=Y at *
 have e3:(l++C++[(16,0)]++Y).length=l.length+C.length+1+Y.length:=by rw[List.length_append,e2]
 have h3:=hem (l++C++[(16,0)]++Y) 15 0 (by omega)
 have e4:l++C++[(16,0)]++Y++[(15,0)]=(l++C)++((16:Int),(0:Int))::(Y++[(15,0)]):=by simp
 have e5:((l++C)++((16:Int),(0:Int))::(Y++[((15:Int),(0:Int))])).length=l.length+C.length+1+Y.length+1:=by rw[<- e4,List.length_append,e3];rfl
 have h4:=jmR u (l++C) (Y++[(15,0)]) 16 0 (by omega);rw[e5] at h4
 have e6:((l++C)++((16:Int),((l.length+C.length+1+Y.length+1:Nat):Int))::(Y++[((15:Int),(0:Int))])).length=l.length+C.length+1+Y.length+1:=by
  rw[List.length_append,List.length_cons,e1,List.length_append];simp;omega
 have hz3:=hn.1 ((l.length+C.length+1+Y.length+1:Nat):Int);have h5:=hn.2 ((l++C)++((16:Int),((l.length+C.length+1+Y.length+1:Nat):Int))::(Y++[((15:Int),(0:Int))])) (by omega);rw[e6] at h5;generalize hN2:gn ((l.length+C.length+1+Y.length+1:Nat):Int)=N at *
 have e7:(l++C)++((16:Int),((l.length+C.length+1+Y.length+1:Nat):Int))::(Y++[((15:Int),(0:Int))])++N=((l++C)++((16:Int),((l.length+C.length+1+Y.length+1:Nat):Int))::Y)++(15,0)::N:=by simp
 have e8:((l++C)++((16:Int),((l.length+C.length+1+Y.length+1:Nat):Int))::Y).length=l.length+C.length+1+Y.length:=by
  rw[List.length_append,List.length_cons,e1];omega
 have e9:(((l++C)++((16:Int),((l.length+C.length+1+Y.length+1:Nat):Int))::Y)++((15:Int),(0:Int))::N).length=l.length+C.length+1+Y.length+1+N.length:=by
  rw[List.length_append,List.length_cons,e8];omega
 have h6:=jmR u ((l++C)++((16:Int),((l.length+C.length+1+Y.length+1:Nat):Int))::Y) N 15 0 (by omega);rw[e8,e9] at h6
 have hfin:l++pW (jB (jS u) f) gy gn l.length=((l++C)++((16:Int),((l.length+C.length+1+Y.length+1:Nat):Int))::Y)++((15:Int),((l.length+C.length+1+Y.length+1+N.length:Nat):Int))::N:=by
  unfold pW;simp only[hC];rw[e2] at hY
  have k1:(l.length:Int)+(C.length:Int)+1=((l.length+C.length+1:Nat):Int):=by omega
  rw[k1,hY]
  have k2:((l.length+C.length+1:Nat):Int)+(Y.length:Int)+1=((l.length+C.length+1+Y.length+1:Nat):Int):=by omega
  rw[k2,hN2]
  have k3:((l.length+C.length+1+Y.length+1:Nat):Int)+(N.length:Int)=((l.length+C.length+1+Y.length+1+N.length:Nat):Int):=by omega
  rw[k3];simp
 rw[e3] at h3;rw[hfin];rw[e4] at h3;rw[e7] at h5
 rcases hcy with rfl|rfl <;> rcases hcn with rfl|rfl
 all_goals
  refine jdQ (jQ jR qB 3) Tryz.func72 rfl (by kernel_rfl) rfl ?_;intro _;conv=>whnf
  refine kC (jQ jR qB 3) (dr:=[]) ⟨0,rfl⟩ (.inl rfl) (by kernel_rfl) (fun _ _ h=>h.elim) ?_;conv=>whnf
  refine kC (jQ jR qB 3) (dr:=[]) ⟨0,rfl⟩ (.inl rfl) (by kernel_rfl) (fun _ _ h=>h.elim) ?_;conv=>whnf
  refine wE 0 0 1 [] hN ?_;rintro o n' cs' r ⟨l2,rfl,rfl,ho,hl2,rfl⟩;cases ho;subst hl2;conv=>whnf
  refine kC (jQ jR qB 3) (dr:=[]) ⟨0,rfl⟩ (.inl rfl) (by kernel_rfl) (fun _ _ h=>h.elim) ?_;conv=>whnf
  refine wE 0 1 2 [] h1 ?_;rintro o n' cs' r ⟨l3,rfl,rfl,ho,hl3,rfl⟩;cases ho;subst hl3;conv=>whnf
  refine kC (jQ jR qB 3) (dr:=[]) ⟨0,rfl⟩ (.inl rfl) (by kernel_rfl) (fun _ _ h=>h.elim) ?_;conv=>whnf
  refine jas [0,1,2] 2 3 [] rfl rfl (by decide) (by simp) (by simp) rfl rfl rfl (fun _=>h2) ?_;rintro o n' cs' r ⟨l4,rfl,rfl,ho,hl4,rfl⟩ _;cases ho;subst hl4;conv=>whnf
  refine kC (jQ jR qB 3) (dr:=[]) ⟨0,rfl⟩ (.inl rfl) (by kernel_rfl) (fun _ _ h=>h.elim) ?_;conv=>whnf
  refine wE 0 3 4 [] h3 ?_;rintro o n' cs' r ⟨l5,rfl,rfl,ho,hl5,rfl⟩;cases ho;subst hl5;conv=>whnf
  refine jk4 ?_;refine pB (l:=[_,_]) [] (jQ jR qB 3) ⟨0,rfl⟩ (fun _ _ h=>h.elim) rfl rfl rfl ?_;conv=>whnf
  refine jgH (jQ jR qB 3) ⟨1,rfl⟩ (.inl rfl) (by kernel_rfl) (fun _ _ h=>h.elim) ?_;conv=>whnf
  refine wE 0 4 5 [] h4.r ?_;rintro o n' cs' r ⟨l6,rfl,rfl,ho,hl6,rfl⟩;cases ho;subst hl6;conv=>whnf
  refine jas [0,1,2] 5 6 [] rfl rfl (by decide) (by simp) (by simp) rfl rfl rfl (fun _=>h5) ?_;rintro o n' cs' r ⟨l7,rfl,rfl,ho,hl7,rfl⟩ _;cases ho;subst hl7;conv=>whnf
  refine⟨.inl rfl,?_⟩;unfold i7;refine jmn 0 6 7 [] rfl rfl rfl rfl rfl h6 ?_;rintro o n' cs' r ⟨l8,rfl,rfl,ho,hl8,rfl⟩;cases ho;conv=>whnf
  refine⟨7,?_⟩;conv=>whnf
  exact⟨l8,rfl,rfl,rfl,hl8,rfl⟩
end
theorem uX(u:Ut)(k n:Int)(s:ByteArray)(kids:List Nt)(i c:Nat)(hi:i<kids.length)(hf:bZ u kids[i])(hc:c=71/\i=1∨c=75/\i=1∨c=76/\i=2):joQ u (.mk k n s kids) c [.box 1 0,.box 2 0] (jB (jS u) kids[i]) (j6 kids[i]):=by
 refine⟨hf.1,fun l hl=>?_⟩;have hN:=hf.2 l hl;have hrow:=qT kids i hi;generalize kids[i]=g at *;simp only[ntA,Nt.k,Nt.n,Nt.s,Nt.kids];rcases hc with ⟨rfl,rfl⟩|⟨rfl,rfl⟩|⟨rfl,rfl⟩
 ·refine iP ju7 qB 3 Tryz.func71 rfl ?_;intro _;conv=>whnf
  refine⟨by omega,?_⟩;conv=>whnf
  (generalize hrq:jD _ _ (qW kids)=rq;obtain rfl:rq=ntA g:=hrq.symm.trans (hrow);clear hrq;conv=>whnf)
  refine wE 0 0 1 [] hN ?_;rintro o n' cs' r ⟨l2,rfl,rfl,ho,hl2,rfl⟩;cases ho;conv=>whnf
  refine⟨1,?_⟩;conv=>whnf
  exact⟨l2,rfl,rfl,rfl,hl2,rfl⟩
 ·refine iP ju8 qB 3 Tryz.func75 rfl ?_;intro _;conv=>whnf
  refine⟨by omega,?_⟩;conv=>whnf
  (generalize hrq:jD _ _ (qW kids)=rq;obtain rfl:rq=ntA g:=hrq.symm.trans (hrow);clear hrq;conv=>whnf)
  refine wE 0 0 1 [] hN ?_;rintro o n' cs' r ⟨l2,rfl,rfl,ho,hl2,rfl⟩;cases ho;conv=>whnf
  refine⟨1,?_⟩;conv=>whnf
  exact⟨l2,rfl,rfl,rfl,hl2,rfl⟩
 ·refine iP ju9 qB 3 Tryz.func76 rfl ?_;intro _;conv=>whnf
  refine⟨by omega,?_⟩;conv=>whnf
  (generalize hrq:jD _ _ (qW kids)=rq;obtain rfl:rq=ntA g:=hrq.symm.trans (hrow);clear hrq;conv=>whnf)
  refine wE 0 0 1 [] hN ?_;rintro o n' cs' r ⟨l2,rfl,rfl,ho,hl2,rfl⟩;cases ho;conv=>whnf
  refine⟨1,?_⟩;conv=>whnf
  exact⟨l2,rfl,rfl,rfl,hl2,rfl⟩
theorem jfJ(u:Ut)(k n:Int)(s:ByteArray)(kids:List Nt)(c:Nat)(v:Int)(hc:c=73/\v=0∨c=74/\v=1):joQ u (.mk k n s kids) c [.box 1 0] (fun _=>[(1,v)]) 1:=by
 refine⟨fun _=>Nat.le_refl _,fun l hl=>?_⟩;have hN:=gH u l 1 v (by omega);simp only[ntA,Nt.k,Nt.n,Nt.s,Nt.kids];rcases hc with ⟨rfl,rfl⟩|⟨rfl,rfl⟩
 ·refine iP jR qB 3 Tryz.func73 rfl ?_;intro _;conv=>whnf
  refine wE 0 0 1 [] hN ?_;rintro o n' cs' r ⟨l2,rfl,rfl,ho,hl2,rfl⟩;cases ho;conv=>whnf
  refine⟨1,?_⟩;conv=>whnf
  exact⟨l2,rfl,rfl,rfl,hl2,rfl⟩
 ·refine iP jR qB 3 Tryz.func74 rfl ?_;intro _;conv=>whnf
  refine wE 0 0 1 [] hN ?_;rintro o n' cs' r ⟨l2,rfl,rfl,ho,hl2,rfl⟩;cases ho;conv=>whnf
  refine⟨1,?_⟩;conv=>whnf
  exact⟨l2,rfl,rfl,rfl,hl2,rfl⟩
theorem dM(k n:Int)(s:ByteArray)(kids:List Nt):ntA (.mk k n s kids)=[intA k,intA n,jX s,.sl 4 kids.length (qW kids)]:=rfl
theorem jfA(u:Ut)(n:Int)(s:ByteArray)(kids:List Nt)(h3:kids.length=3)(hf:∀f∈kids,bZ u f)(l:List Ic)(hl:l.length+(kids.map j6).sum+2<=1000000):aC 51 [eC u] l [.box 0 0,.agg (ntA (.mk 2 n s kids))] fun o l' r=>o=[eC u]/\l'=l++pW (jB (jS u) (kids[0]'(by omega))) (jB (jS u) (kids[1]'(by omega))) (jB (jS u) (kids[2]'(by omega))) l.length/\r=.tup []:=by
 have h1:=uX u 2 n s kids 1 75 (by omega) (hf _ (List.getElem_mem _)) (.inr (.inl ⟨rfl,rfl⟩));have h2:=uX u 2 n s kids 2 76 (by omega) (hf _ (List.getElem_mem _)) (.inr (.inr ⟨rfl,rfl⟩))
 have hsum:j6 (kids[0]'(by omega))+j6 (kids[1]'(by omega))+j6 (kids[2]'(by omega))<=(kids.map j6).sum:=by
  match kids,h3 with
  |[a,b,c],_=>simp;omega
 have hch:=choose_spec u _ (kids[0]'(by omega)) (hf _ (List.getElem_mem _)) _ _ _ _ _ _ _ _ (.inl rfl) (.inl rfl) h1 h2 l (by omega);have hrow:=qT kids 0 (by omega);generalize kids[0]'(by omega)=g at *;rw[dM] at hch ⊢;refine iP ju5 qB 1 Tryz.func51 rfl ?_;intro _;conv=>whnf
 refine⟨by omega,?_⟩;conv=>whnf
 (generalize hrq:jD _ _ (qW kids)=rq;obtain rfl:rq=ntA g:=hrq.symm.trans (hrow);clear hrq;conv=>whnf)
 refine jas [0,1,2] 0 1 [] rfl rfl (by decide) (by simp) (by simp) rfl rfl rfl (fun _=>hch) ?_;rintro o n' cs' r ⟨l2,rfl,rfl,ho,hl2,rfl⟩ _;cases ho;conv=>whnf
 refine⟨1,?_⟩;conv=>whnf
 exact⟨l2,rfl,rfl,rfl,hl2,rfl⟩
theorem joZ(u:Ut)(n:Int)(kids:List Nt)(h3:kids.length=2)(hf:∀f∈kids,bZ u f)(l:List Ic)(hl:l.length+(kids.map j6).sum+3<=1000000):aC 50 [eC u] l [.box 0 0,.agg (ntA (.mk 18 n k9 kids))] fun o l' r=>o=[eC u]/\l'=l++pW (jB (jS u) (kids[0]'(by omega))) (jB (jS u) (kids[1]'(by omega))) (fun _=>[(1,0)]) l.length/\r=.tup []:=by
 have h1:=uX u 18 n k9 kids 1 71 (by omega) (hf _ (List.getElem_mem _)) (.inl ⟨rfl,rfl⟩);have h2:=jfJ u 18 n k9 kids 73 0 (.inl ⟨rfl,rfl⟩)
 have hsum:j6 (kids[0]'(by omega))+j6 (kids[1]'(by omega))<=(kids.map j6).sum:=by
  match kids,h3 with
  |[a,b],_=>simp
 have hch:=choose_spec u _ (kids[0]'(by omega)) (hf _ (List.getElem_mem _)) _ _ _ _ _ _ _ _ (.inl rfl) (.inr rfl) h1 h2 l (by omega);have hrow:=qT kids 0 (by omega);generalize kids[0]'(by omega)=g at *;rw[dM] at hch ⊢;refine iP fY qB 1 Tryz.func50 rfl ?_;intro _;conv=>whnf
 refine⟨by omega,?_⟩;conv=>whnf
 (generalize hrq:jD _ _ (qW kids)=rq;obtain rfl:rq=ntA g:=hrq.symm.trans (hrow);clear hrq;conv=>whnf)
 refine jas [0,1,2] 0 1 [] rfl rfl (by decide) (by simp) (by simp) rfl rfl rfl (fun _=>hch) ?_;rintro o n' cs' r ⟨l2,rfl,rfl,ho,hl2,rfl⟩ _;cases ho;conv=>whnf
 refine⟨1,?_⟩;conv=>whnf
 exact⟨l2,rfl,rfl,rfl,hl2,rfl⟩
theorem jrk(u:Ut)(n:Int)(kids:List Nt)(h3:kids.length=2)(hf:∀f∈kids,bZ u f)(l:List Ic)(hl:l.length+(kids.map j6).sum+3<=1000000):aC 50 [eC u] l [.box 0 0,.agg (ntA (.mk 18 n pOr kids))] fun o l' r=>o=[eC u]/\l'=l++pW (jB (jS u) (kids[0]'(by omega))) (fun _=>[(1,1)]) (jB (jS u) (kids[1]'(by omega))) l.length/\r=.tup []:=by
 have h1:=uX u 18 n pOr kids 1 71 (by omega) (hf _ (List.getElem_mem _)) (.inl ⟨rfl,rfl⟩);have h2:=jfJ u 18 n pOr kids 74 1 (.inr ⟨rfl,rfl⟩)
 have hsum:j6 (kids[0]'(by omega))+j6 (kids[1]'(by omega))<=(kids.map j6).sum:=by
  match kids,h3 with
  |[a,b],_=>simp
 have hch:=choose_spec u _ (kids[0]'(by omega)) (hf _ (List.getElem_mem _)) _ _ _ _ _ _ _ _ (.inr rfl) (.inl rfl) h2 h1 l (by omega);have hrow:=qT kids 0 (by omega);generalize kids[0]'(by omega)=g at *;rw[dM] at hch ⊢;refine iP fY qB 1 Tryz.func50 rfl ?_;intro _;conv=>whnf
 refine⟨by omega,?_⟩;conv=>whnf
 (generalize hrq:jD _ _ (qW kids)=rq;obtain rfl:rq=ntA g:=hrq.symm.trans (hrow);clear hrq;conv=>whnf)
 refine jas [0,1,2] 0 1 [] rfl rfl (by decide) (by simp) (by simp) rfl rfl rfl (fun _=>hch) ?_;rintro o n' cs' r ⟨l2,rfl,rfl,ho,hl2,rfl⟩ _;cases ho;conv=>whnf
 refine⟨1,?_⟩;conv=>whnf
 exact⟨l2,rfl,rfl,rfl,hl2,rfl⟩
def opBin:List ByteArray:=[dQ,pMinus,vZ,yG,pLt,pLe,jnu,pGt,pGe,pNe]
theorem jrj(u:Ut)(n:Int)(s:ByteArray)(hs:(opBin.any fun x=>decide (s=x))=true)(kids:List Nt)(hm:kids.length<=3002)(hf:∀f∈kids,bZ u f)(l:List Ic)(hl:l.length+qF kids+2<=1000000):aC 50 [eC u] l [.box 0 0,.agg (ntA (.mk 18 n s kids))] fun o l' r=>o=[eC u]/\l'=l++zW (qH (jS u) kids) l.length++opC s/\r=.tup []:=by
 have hs:s∈opBin:=by
  rw[List.any_eq_true] at hs;obtain⟨x,h1,h2⟩:=hs;rw[decide_eq_true_eq] at h2;rw[h2];exact h1
 have hk:=mC u 18 n s kids hm hf l (by omega);have hz:=dV (u:=u) kids l.length hf
 have hem:=fun(l:List Ic) (op n:Int) (h:l.length<=1000000)=>gH u l op n h
 generalize zW (qH (jS u) kids) l.length=y at *
 have hly:(l++y).length<=999998:=by rw[List.length_append];omega
 generalize l++y=l3 at *;rw[dM] at hk ⊢;unfold opBin at hs;simp only[List.mem_cons,List.not_mem_nil,or_false] at hs;rcases hs with rfl|rfl|rfl|rfl|rfl|rfl|rfl|rfl|rfl|rfl
 ·refine iP fY qB 1 Tryz.func50 rfl ?_;intro _;conv=>whnf
  refine wE 0 0 1 [] hk ?_;rintro o n' cs' r ⟨l2,rfl,rfl,ho,hl2,rfl⟩;cases ho;subst hl2;conv=>whnf
  refine wE 0 1 3 [] (hem l2 6 0 (by omega)) ?_;rintro o n' cs' r ⟨l4,rfl,rfl,ho,hl4,rfl⟩;cases ho;conv=>whnf
  refine⟨3,?_⟩;conv=>whnf
  exact⟨l4,rfl,rfl,rfl,hl4,rfl⟩
 ·refine iP fY qB 1 Tryz.func50 rfl ?_;intro _;conv=>whnf
  refine wE 0 0 1 [] hk ?_;rintro o n' cs' r ⟨l2,rfl,rfl,ho,hl2,rfl⟩;cases ho;subst hl2;conv=>whnf
  refine wE 0 1 3 [] (hem l2 7 0 (by omega)) ?_;rintro o n' cs' r ⟨l4,rfl,rfl,ho,hl4,rfl⟩;cases ho;conv=>whnf
  refine⟨3,?_⟩;conv=>whnf
  exact⟨l4,rfl,rfl,rfl,hl4,rfl⟩
 ·refine iP fY qB 1 Tryz.func50 rfl ?_;intro _;conv=>whnf
  refine wE 0 0 1 [] hk ?_;rintro o n' cs' r ⟨l2,rfl,rfl,ho,hl2,rfl⟩;cases ho;subst hl2;conv=>whnf
  refine wE 0 1 3 [] (hem l2 8 0 (by omega)) ?_;rintro o n' cs' r ⟨l4,rfl,rfl,ho,hl4,rfl⟩;cases ho;conv=>whnf
  refine⟨3,?_⟩;conv=>whnf
  exact⟨l4,rfl,rfl,rfl,hl4,rfl⟩
 ·refine iP fY qB 1 Tryz.func50 rfl ?_;intro _;conv=>whnf
  refine wE 0 0 1 [] hk ?_;rintro o n' cs' r ⟨l2,rfl,rfl,ho,hl2,rfl⟩;cases ho;subst hl2;conv=>whnf
  refine wE 0 1 3 [] (hem l2 9 0 (by omega)) ?_;rintro o n' cs' r ⟨l4,rfl,rfl,ho,hl4,rfl⟩;cases ho;conv=>whnf
  refine⟨3,?_⟩;conv=>whnf
  exact⟨l4,rfl,rfl,rfl,hl4,rfl⟩
 ·refine iP fY qB 1 Tryz.func50 rfl ?_;intro _;conv=>whnf
  refine wE 0 0 1 [] hk ?_;rintro o n' cs' r ⟨l2,rfl,rfl,ho,hl2,rfl⟩;cases ho;subst hl2;conv=>whnf
  refine wE 0 1 3 [] (hem l2 11 0 (by omega)) ?_;rintro o n' cs' r ⟨l4,rfl,rfl,ho,hl4,rfl⟩;cases ho;conv=>whnf
  refine⟨3,?_⟩;conv=>whnf
  exact⟨l4,rfl,rfl,rfl,hl4,rfl⟩
 ·refine iP fY qB 1 Tryz.func50 rfl ?_;intro _;conv=>whnf
  refine wE 0 0 1 [] hk ?_;rintro o n' cs' r ⟨l2,rfl,rfl,ho,hl2,rfl⟩;cases ho;subst hl2;conv=>whnf
  refine wE 0 1 3 [] (hem l2 12 0 (by omega)) ?_;rintro o n' cs' r ⟨l4,rfl,rfl,ho,hl4,rfl⟩;cases ho;conv=>whnf
  refine⟨3,?_⟩;conv=>whnf
  exact⟨l4,rfl,rfl,rfl,hl4,rfl⟩
 ·refine iP fY qB 1 Tryz.func50 rfl ?_;intro _;conv=>whnf
  refine wE 0 0 1 [] hk ?_;rintro o n' cs' r ⟨l2,rfl,rfl,ho,hl2,rfl⟩;cases ho;subst hl2;conv=>whnf
  refine wE 0 1 3 [] (hem l2 13 0 (by omega)) ?_;rintro o n' cs' r ⟨l4,rfl,rfl,ho,hl4,rfl⟩;cases ho;conv=>whnf
  refine⟨3,?_⟩;conv=>whnf
  exact⟨l4,rfl,rfl,rfl,hl4,rfl⟩
 ·refine iP fY qB 1 Tryz.func50 rfl ?_;intro _;conv=>whnf
  refine wE 0 0 1 [] hk ?_;rintro o n' cs' r ⟨l2,rfl,rfl,ho,hl2,rfl⟩;cases ho;subst hl2;conv=>whnf
  refine wE 0 1 3 [] (hem l2 12 0 (by omega)) ?_;rintro o n' cs' r ⟨l4,rfl,rfl,ho,hl4,rfl⟩;cases ho
  have hz4:l4.length<=1000000:=by rw[hl4,List.length_append,List.length_singleton];omega
  conv=>whnf
  refine wE 0 3 4 [] (hem l4 14 0 hz4) ?_;rintro o n' cs' r ⟨l5,rfl,rfl,ho,hl5,rfl⟩;cases ho;conv=>whnf
  refine⟨4,?_⟩;conv=>whnf
  exact⟨l5,rfl,rfl,rfl,by rw[hl5,hl4,List.append_assoc];rfl,rfl⟩
 ·refine iP fY qB 1 Tryz.func50 rfl ?_;intro _;conv=>whnf
  refine wE 0 0 1 [] hk ?_;rintro o n' cs' r ⟨l2,rfl,rfl,ho,hl2,rfl⟩;cases ho;subst hl2;conv=>whnf
  refine wE 0 1 3 [] (hem l2 11 0 (by omega)) ?_;rintro o n' cs' r ⟨l4,rfl,rfl,ho,hl4,rfl⟩;cases ho
  have hz4:l4.length<=1000000:=by rw[hl4,List.length_append,List.length_singleton];omega
  conv=>whnf
  refine wE 0 3 4 [] (hem l4 14 0 hz4) ?_;rintro o n' cs' r ⟨l5,rfl,rfl,ho,hl5,rfl⟩;cases ho;conv=>whnf
  refine⟨4,?_⟩;conv=>whnf
  exact⟨l5,rfl,rfl,rfl,by rw[hl5,hl4,List.append_assoc];rfl,rfl⟩
 ·refine iP fY qB 1 Tryz.func50 rfl ?_;intro _;conv=>whnf
  refine wE 0 0 1 [] hk ?_;rintro o n' cs' r ⟨l2,rfl,rfl,ho,hl2,rfl⟩;cases ho;subst hl2;conv=>whnf
  refine wE 0 1 3 [] (hem l2 13 0 (by omega)) ?_;rintro o n' cs' r ⟨l4,rfl,rfl,ho,hl4,rfl⟩;cases ho
  have hz4:l4.length<=1000000:=by rw[hl4,List.length_append,List.length_singleton];omega
  conv=>whnf
  refine wE 0 3 4 [] (hem l4 14 0 hz4) ?_;rintro o n' cs' r ⟨l5,rfl,rfl,ho,hl5,rfl⟩;cases ho;conv=>whnf
  refine⟨4,?_⟩;conv=>whnf
  exact⟨l5,rfl,rfl,rfl,by rw[hl5,hl4,List.append_assoc];rfl,rfl⟩
def whC(c b:Int->List Ic)(at':Int):List Ic:=c at'++(16,at'+(c at').length+(b (at'+(c at').length+1)).length+2)::(b (at'+(c at').length+1)++[(15,at')])
theorem jl1(u:Ut)(n:Int)(s:ByteArray)(kids:List Nt)(h3:kids.length=2)(hf:∀f∈kids,bZ u f)(l:List Ic)(hl:l.length+(kids.map j6).sum+2<=1000000):aC 52 [eC u] l [.box 0 0,.agg (ntA (.mk 3 n s kids))] fun o l' r=>o=[eC u]/\l'=l++whC (jB (jS u) (kids[0]'(by omega))) (jB (jS u) (kids[1]'(by omega))) l.length/\r=.tup []:=by
 have hsum:j6 (kids[0]'(by omega))+j6 (kids[1]'(by omega))<=(kids.map j6).sum:=by
  match kids,h3 with
  |[a,b],_=>simp
 have hem:=fun(l:List Ic) (op n:Int) (h:l.length<=1000000)=>gH u l op n h
 have ha:=hf (kids[0]'(by omega)) (List.getElem_mem _);have hb:=hf (kids[1]'(by omega)) (List.getElem_mem _);have hr0:=qT kids 0 (by omega);have hr1:=qT kids 1 (by omega);generalize kids[0]'(by omega)=a at *;generalize kids[1]'(by omega)=b at *;have hz1:=ha.1 l.length;have h0:=ha.2 l (by omega);generalize hC:jB (jS u) a l.length=C at *;have e1:(l++C).length=l.length+C.length:=List.length_append;have h1:=hem (l++C) 16 0 (by omega)
 have e2:(l++C++[(16,0)]).length=l.length+C.length+1:=by rw[List.length_append,e1];rfl
 have hz2:=hb.1 ((l++C++[((16:Int),(0:Int))]).length:Nat);have h2:=hb.2 (l++C++[(16,0)]) (by omega);generalize hB:jB (jS u) b ((l++C++[((16:Int),(0:Int))]).length:Nat)=B at *
 have e3:(l++C++[(16,0)]++B).length=l.length+C.length+1+B.length:=by rw[List.length_append,e2]
 have h4:=jtu u (l++C++[(16,0)]++B) 15 l.length (by omega)
 have e4:l++C++[(16,0)]++B++[(15,(l.length:Int))]=(l++C)++((16:Int),(0:Int))::(B++[(15,(l.length:Int))]):=by simp
 have e5:((l++C)++((16:Int),(0:Int))::(B++[((15:Int),(l.length:Int))])).length=l.length+C.length+1+B.length+1:=by rw[<- e4,List.length_append,e3];rfl
 have h5:=jmR u (l++C) (B++[(15,(l.length:Int))]) 16 0 (by omega);rw[e5] at h5;rw[e4] at h4
 have hfin:l++whC (jB (jS u) a) (jB (jS u) b) l.length=(l++C)++((16:Int),((l.length+C.length+1+B.length+1:Nat):Int))::(B++[((15:Int),(l.length:Int))]):=by
  unfold whC;simp only[hC];rw[e2] at hB
  have k1:(l.length:Int)+(C.length:Int)+1=((l.length+C.length+1:Nat):Int):=by omega
  rw[k1,hB]
  have k2:(l.length:Int)+(C.length:Int)+(B.length:Int)+2=((l.length+C.length+1+B.length+1:Nat):Int):=by omega
  rw[k2];simp
 rw[hfin];rw[dM];refine jdQ (jQ jR qB 1) Tryz.func52 rfl (by kernel_rfl) rfl ?_;intro _;conv=>whnf
 refine kC (jQ jR qB 1) (dr:=[]) ⟨0,rfl⟩ (.inl rfl) (by kernel_rfl) (fun _ _ h=>h.elim) ?_;conv=>whnf
 refine kC (jQ jR qB 1) (dr:=[]) ⟨0,rfl⟩ (.inl rfl) (by kernel_rfl) (fun _ _ h=>h.elim) ?_;conv=>whnf
 refine kC (jQ jR qB 1) (dr:=[]) ⟨0,rfl⟩ (.inl rfl) (by kernel_rfl) (fun _ _ h=>h.elim) ?_;conv=>whnf
 refine⟨by omega,?_⟩;conv=>whnf
 (generalize hrq:jD _ _ (qW kids)=rq;obtain rfl:rq=ntA a:=hrq.symm.trans (hr0);clear hrq;conv=>whnf)
 refine wE 0 0 1 [] h0 ?_;rintro o n' cs' r ⟨l2,rfl,rfl,ho,hl2,rfl⟩;cases ho;subst hl2;conv=>whnf
 refine kC (jQ jR qB 1) (dr:=[]) ⟨0,rfl⟩ (.inl rfl) (by kernel_rfl) (fun _ _ h=>h.elim) ?_;conv=>whnf
 refine wE 0 1 2 [] h1 ?_;rintro o n' cs' r ⟨l3,rfl,rfl,ho,hl3,rfl⟩;cases ho;subst hl3;conv=>whnf
 refine jk4 ?_;refine pB (l:=[_,_]) [] (jQ jR qB 1) ⟨0,rfl⟩ (fun _ _ h=>h.elim) rfl rfl rfl ?_;conv=>whnf
 refine kC (jQ jR qB 1) ⟨1,rfl⟩ (.inl rfl) (by kernel_rfl) (fun _ _ h=>h.elim) ?_;conv=>whnf
 refine⟨by omega,?_⟩;conv=>whnf
 (generalize hrq:jD _ _ (qW kids)=rq;obtain rfl:rq=ntA b:=hrq.symm.trans (hr1);clear hrq;conv=>whnf)
 refine wE 0 2 3 [] h2 ?_;rintro o n' cs' r ⟨l4,rfl,rfl,ho,hl4,rfl⟩;cases ho;subst hl4;conv=>whnf
 refine pB (l:=[_,_]) [] (jQ jR qB 1) ⟨1,rfl⟩ (fun _ _ h=>h.elim) rfl rfl rfl ?_;conv=>whnf
 refine⟨.inl rfl,?_⟩;unfold i7;refine jmn 0 3 4 [] rfl rfl rfl rfl rfl h4 ?_;rintro o n' cs' r ⟨l5,rfl,rfl,ho,hl5,rfl⟩;cases ho;subst hl5;conv=>whnf
 refine jmn 0 4 5 [] rfl rfl rfl rfl rfl h5 ?_;rintro o n' cs' r ⟨l6,rfl,rfl,ho,hl6,rfl⟩;cases ho;conv=>whnf
 refine⟨5,?_⟩;conv=>whnf
 exact⟨l6,rfl,rfl,rfl,hl6,rfl⟩
theorem jap{c y n:Int->List Ic}{a b d:Nat}(h1:∀at':Int,(c at').length<=a)(h2:∀at':Int,(y at').length<=b)(h3:∀at':Int,(n at').length<=d)(at':Int):(pW c y n at').length<=a+b+d+2:=by
 unfold pW;simp only[List.length_append,List.length_cons];have q1:=h1 at';have q2:=h2 (at'+(c at').length+1);have q3:=h3 (at'+(c at').length+1+(y (at'+(c at').length+1)).length+1);omega
theorem jno(s:ByteArray):(opC s).length<=2:=by
 unfold opC
 repeat' split
 all_goals decide
theorem jhn:∀l:List Nt,qF l=(l.map j6).sum
 |[]=>rfl
 |f::l=>by rw[List.map_cons,List.sum_cons,<- jhn l];rfl
theorem cE(u:Ut)(k n:Int)(s:ByteArray)(kids:List Nt)(l:List Ic)(r:List Ic)(c:Nat)(hc:k=17/\c=49∨k=18/\c=50∨k=2/\c=51∨k=3/\c=52∨k=11/\c=53∨(k≠17/\k≠18/\k≠2/\k≠3/\k≠11)/\c=54)
  (h:aC c [eC u] l [.box 0 0,.agg (ntA (.mk k n s kids))] fun o l' q=>o=[eC u]/\l'=l++r/\q=.tup []):aC 25 [eC u] l [.box 0 0,.agg (ntA (.mk k n s kids))] fun o l' q=>o=[eC u]/\l'=l++r/\q=.tup []:=by
 rw[dM] at h ⊢;rcases hc with ⟨rfl,rfl⟩|⟨rfl,rfl⟩|⟨rfl,rfl⟩|⟨rfl,rfl⟩|⟨rfl,rfl⟩|⟨⟨k1,k2,k3,k4,k5⟩,rfl⟩
 all_goals
  refine iP jR qB 1 Tryz.func25 rfl ?_;intro _;conv=>whnf
 all_goals try
  refine wE 0 0 2 [] h ?_;rintro o n' cs' r ⟨l2,rfl,rfl,ho,hl2,rfl⟩;cases ho;conv=>whnf
  refine⟨2,?_⟩;conv=>whnf
  exact⟨l2,rfl,rfl,rfl,hl2,rfl⟩
 rw[jG k1];conv=>whnf
 rw[jG k2];conv=>whnf
 rw[jG k3];conv=>whnf
 rw[jG k4];conv=>whnf
 rw[jG k5];conv=>whnf
 refine wE 0 0 2 [] h ?_;rintro o n' cs' r ⟨l2,rfl,rfl,ho,hl2,rfl⟩;cases ho;conv=>whnf
 refine⟨2,?_⟩;conv=>whnf
 exact⟨l2,rfl,rfl,rfl,hl2,rfl⟩
theorem lV{l:List ByteArray}{s:ByteArray}(h:(l.any fun x=>decide (s=x))=true):s∈l:=by
 rw[List.any_eq_true] at h;obtain⟨x,h1,h2⟩:=h;rw[decide_eq_true_eq] at h2;rw[h2];exact h1
theorem jl7{s:ByteArray}(h:(opAll.any fun x=>decide (s=x))=true)(h1:s≠k9)(h2:s≠pOr):(opBin.any fun x=>decide (s=x))=true:=by
 have h:=lV h;unfold opAll at h;simp only[List.mem_cons,List.not_mem_nil,or_false] at h;rcases h with h|h|h|h|h|h|h|h|h|h|h|h
 ·exact absurd h h1
 ·exact absurd h h2
 all_goals(rw[h];decide)
theorem jgD(u:Ut)(hu:eD u):∀f:Nt,xD f->bZ u f
 |.mk k n s kids,hw=>by
  unfold xD at hw;obtain⟨ha,hwk,-⟩:=hw;have hm:=jhQ ha
  have hk:∀f∈kids,bZ u f:=fun f hf=>jgD u hu f (xN hwk hf)
  have hsq:=fun at'=>dV (u:=u) kids at' hk
  have hss:=jhn kids;unfold bZ
  show(∀at':Int,(xF (jS u) k n s (qH (jS u) kids) at').length<=3+qF kids)/\∀l:List Ic,l.length+(3+qF kids)<=1000000->aC _ [eC u] l _ fun o l' r=>o=[eC u]/\l'=l++xF (jS u) k n s (qH (jS u) kids) l.length/\r=.tup []
  have lf:∀(hc:k=12∨k=13∨k=14∨k=15/\(builtL.any fun x=>decide (s=x))=true∨k=1∨k=4∨k=5∨k=6∨k=16∨k=7∨k=10∨k=8∨k=9),(∀at',xF (jS u) k n s (qH (jS u) kids) at'=zW (qH (jS u) kids) at'++[jqJ (jS u) k n s])->(∀at':Int,(xF (jS u) k n s (qH (jS u) kids) at').length<=3+qF kids)/\∀l:List Ic,l.length+(3+qF kids)<=1000000->aC 25 [eC u] l [.box 0 0,.agg (ntA (.mk k n s kids))] fun o l' r=>o=[eC u]/\l'=l++xF (jS u) k n s (qH (jS u) kids) l.length/\r=.tup []:=fun hc he=>by
   refine⟨fun at'=>?_,fun l hl=>?_⟩
   ·have:=hsq at';rw[he,List.length_append,List.length_singleton];omega
   ·have h1:=jkZ u hu k n s kids hm hk hc l (by omega);rw[List.append_assoc,<- he] at h1;refine cE u k n s kids l _ _ (.inr (.inr (.inr (.inr (.inr ⟨?_,rfl⟩))))) h1;omega
  unfold arN at ha;by_cases h11:k=11
  ·subst h11
   have he:∀at',xF (jS u) 11 n s (qH (jS u) kids) at'=zW (qH (jS u) kids) at':=fun at'=>List.append_nil _
   refine⟨fun at'=>by rw[he];have:=hsq at';omega,fun l hl=>?_⟩;rw[he];exact cE u 11 n s kids l _ _ (.inr (.inr (.inr (.inr (.inl ⟨rfl,rfl⟩))))) (mC u 11 n s kids hm hk l (by omega))
  rw[if_neg h11] at ha;by_cases h0:k=12∨k=13∨k=14∨k=5∨k=6∨k=7∨k=10
  ·rw[if_pos h0,decide_eq_true_eq] at ha;obtain rfl:=List.eq_nil_of_length_eq_zero ha;rcases h0 with rfl|rfl|rfl|rfl|rfl|rfl|rfl
   all_goals exact lf (by omega) fun at'=>rfl
  rw[if_neg h0] at ha;by_cases h15:k=15
  ·rw[if_pos h15,Bool.and_eq_true,decide_eq_true_eq] at ha;subst h15;obtain⟨ha,hb⟩:=ha;obtain rfl:=List.eq_nil_of_length_eq_zero ha
   exact lf (.inr (.inr (.inr (.inl ⟨rfl,hb⟩)))) fun at'=>rfl
  rw[if_neg h15] at ha;by_cases h1:k=16∨k=1∨k=9
  ·rcases h1 with rfl|rfl|rfl
   all_goals exact lf (by omega) fun at'=>rfl
  rw[if_neg h1] at ha;by_cases h17:k=17
  ·subst h17
   have he:∀at',xF (jS u) 17 n s (qH (jS u) kids) at'=zW (qH (jS u) kids) at'++(if s=pMinus then [(10,0)] else [(14,0)]):=fun at'=>rfl
   refine⟨fun at'=>?_,fun l hl=>?_⟩
   ·have:=hsq at';rw[he,List.length_append]
    split <;> simp only[List.length_singleton] <;> omega
   ·rw[he];refine cE u 17 n s kids l _ _ (.inl ⟨rfl,rfl⟩) ?_;have h2:=jfO u n s kids hm hk l (by omega);rw[List.append_assoc] at h2;exact h2
  rw[if_neg h17] at ha;by_cases h18:k=18
  ·rw[if_pos h18,Bool.and_eq_true,decide_eq_true_eq] at ha;subst h18;obtain⟨ha,hb⟩:=ha;have k0:=hk (kids[0]'(by omega)) (List.getElem_mem _);have k1:=hk (kids[1]'(by omega)) (List.getElem_mem _)
   have hsum:j6 (kids[0]'(by omega))+j6 (kids[1]'(by omega))<=(kids.map j6).sum:=by
    match kids,ha with
    |[a,b],_=>simp
   have g0:(qH (jS u) kids).getD 0 noI=jB (jS u) (kids[0]'(by omega)):=by
    match kids,ha with
    |[a,b],_=>rfl
   have g1:(qH (jS u) kids).getD 1 noI=jB (jS u) (kids[1]'(by omega)):=by
    match kids,ha with
    |[a,b],_=>rfl
   by_cases hA:s=k9
   ·subst hA
    have he:∀at',xF (jS u) 18 n k9 (qH (jS u) kids) at'=pW (jB (jS u) (kids[0]'(by omega))) (jB (jS u) (kids[1]'(by omega))) (fun _=>[(1,0)]) at':=fun at'=>by
     rw[<- g0,<- g1];rfl
    refine⟨fun at'=>?_,fun l hl=>?_⟩
    ·have:=jap k0.1 k1.1 (fun _=>Nat.le_refl 1) (n:=fun _=>[((1:Int),(0:Int))]) at';rw[he];omega
    ·rw[he];exact cE u 18 n k9 kids l _ _ (.inr (.inl ⟨rfl,rfl⟩)) (joZ u n kids ha hk l (by omega))
   by_cases hO:s=pOr
   ·subst hO
    have he:∀at',xF (jS u) 18 n pOr (qH (jS u) kids) at'=pW (jB (jS u) (kids[0]'(by omega))) (fun _=>[(1,1)]) (jB (jS u) (kids[1]'(by omega))) at':=fun at'=>by
     rw[<- g0,<- g1];rfl
    refine⟨fun at'=>?_,fun l hl=>?_⟩
    ·have:=jap k0.1 (fun _=>Nat.le_refl 1) k1.1 (y:=fun _=>[((1:Int),(1:Int))]) at';rw[he];omega
    ·rw[he];exact cE u 18 n pOr kids l _ _ (.inr (.inl ⟨rfl,rfl⟩)) (jrk u n kids ha hk l (by omega))
   have he:∀at',xF (jS u) 18 n s (qH (jS u) kids) at'=zW (qH (jS u) kids) at'++opC s:=fun at'=>by
    unfold xF;rw[if_neg (by decide),if_neg (by decide),if_neg (by decide),if_neg (by decide),if_neg (by decide),if_neg (by decide),if_neg (by decide),if_neg (by decide),if_neg (by decide),if_neg (fun h=>hA h.2),if_neg (fun h=>hO h.2),if_pos rfl]
   refine⟨fun at'=>?_,fun l hl=>?_⟩
   ·have:=hsq at';have:=jno s;rw[he,List.length_append];omega
   ·rw[he];refine cE u 18 n s kids l _ _ (.inr (.inl ⟨rfl,rfl⟩)) ?_;have h2:=jrj u n s (jl7 hb hA hO) kids hm hk l (by omega);rw[List.append_assoc] at h2;exact h2
  rw[if_neg h18] at ha;by_cases h8:k=8∨k=3
  ·rw[if_pos h8,decide_eq_true_eq] at ha;rcases h8 with rfl|rfl
   ·exact lf (by omega) fun at'=>rfl
   ·have k0:=hk (kids[0]'(by omega)) (List.getElem_mem _);have k1:=hk (kids[1]'(by omega)) (List.getElem_mem _)
    have hsum:j6 (kids[0]'(by omega))+j6 (kids[1]'(by omega))<=(kids.map j6).sum:=by
     match kids,ha with
     |[a,b],_=>simp
    have he:∀at',xF (jS u) 3 n s (qH (jS u) kids) at'=whC (jB (jS u) (kids[0]'(by omega))) (jB (jS u) (kids[1]'(by omega))) at':=fun at'=>by
     match kids,ha with
     |[a,b],_=>rfl
    refine⟨fun at'=>?_,fun l hl=>?_⟩
    ·rw[he];unfold whC;have q0:=k0.1 at';have q1:=k1.1 (at'+(jB (jS u) (kids[0]'(by omega)) at').length+1);simp only[List.length_append,List.length_cons,List.length_nil];omega
    ·rw[he];exact cE u 3 n s kids l _ _ (.inr (.inr (.inr (.inl ⟨rfl,rfl⟩)))) (jl1 u n s kids ha hk l (by omega))
  rw[if_neg h8] at ha;by_cases h2:k=2∨k=4
  ·rw[if_pos h2,decide_eq_true_eq] at ha;rcases h2 with rfl|rfl
   ·have k0:=hk (kids[0]'(by omega)) (List.getElem_mem _);have k1:=hk (kids[1]'(by omega)) (List.getElem_mem _);have k2:=hk (kids[2]'(by omega)) (List.getElem_mem _)
    have hsum:j6 (kids[0]'(by omega))+j6 (kids[1]'(by omega))+j6 (kids[2]'(by omega))<=(kids.map j6).sum:=by
     match kids,ha with
     |[a,b,c],_=>simp;omega
    have he:∀at',xF (jS u) 2 n s (qH (jS u) kids) at'=pW (jB (jS u) (kids[0]'(by omega))) (jB (jS u) (kids[1]'(by omega))) (jB (jS u) (kids[2]'(by omega))) at':=fun at'=>by
     match kids,ha with
     |[a,b,c],_=>rfl
    refine⟨fun at'=>?_,fun l hl=>?_⟩
    ·have:=jap k0.1 k1.1 k2.1 at';rw[he];omega
    ·rw[he];exact cE u 2 n s kids l _ _ (.inr (.inr (.inl ⟨rfl,rfl⟩))) (jfA u n s kids ha hk l (by omega))
   ·exact lf (by omega) fun at'=>rfl
  rw[if_neg h2] at ha;cases ha
theorem pE(e:Nat->Int)(du vo:Int):pgE e du vo=enL e++[intA du,intA vo]:=rfl
theorem jp8(e:Nat->Int)(j:Nat)(v:Int):(enL e).set j (intA v)=enL fun i=>if i=j then v else e i:=by
 unfold enL;apply List.ext_getElem (by simp);intro i h1 h2;rw[List.getElem_set,List.getElem_map,List.getElem_map,List.getElem_range];by_cases h:j=i
 ·simp only[if_pos h,if_pos h.symm]
 ·simp only[if_neg h,if_neg (fun q:i=j=>h q.symm)]
theorem jpV(c0:A)(e:Nat->Int)(du vo v:Int)(j:Nat)(hj:j<40){K:List A->Prop}(h:K (c0::pgE (fun i=>if i=j then v else e i) du vo)):aS (c0::pgE e du vo) (1+j*1) (intA v) K:=by
 have hl:(enL e).length=40:=by unfold enL;simp
 refine fP ?_ ?_
 ·rw[pE,List.length_cons,List.length_append,hl];omega
 ·rw[show 1+j*1=j+1 by omega,List.set_cons_succ,pE,List.set_append_left _ _ (by rw[hl];exact hj),jp8];exact h
theorem jbH(c0:A)(e e':Nat->Int)(du vo v:Int)(j:Nat)(hj:j<40)(he:∀i,i<40->(if i=j then v else e i)=e' i){K:List A->Prop}(h:K (c0::pgE e' du vo)):aS (c0::pgE e du vo) (1+j*1) (intA v) K:=by
 refine jpV c0 e du vo v j hj ?_
 have q:pgE (fun i=>if i=j then v else e i) du vo=pgE e' du vo:=by
  rw[pE,pE]
  congr 1
  unfold enL
  exact List.map_congr_left fun i hi=>by simp only[he i (List.mem_range.1 hi)]
 rw[q];exact h
def e1(j:Nat):Nat->Int:=fun i=>if i<j then -1 else 0
theorem jpC{e e':Nat->Int}(h:∀i,i<40->e i=e' i)(du vo:Int):pgE e du vo=pgE e' du vo:=by
 rw[pE,pE]
 congr 1
 unfold enL
 exact List.map_congr_left fun i hi=>by rw[h i (List.mem_range.1 hi)]
theorem rF(u:Ut)(hu:eD u)(hz:sJ u.on<=900000):Spec Tryz.prog 7 [] [.agg (iE u)] fun _ r=>r=jkN u:=by
 have hnode:=jgD u hu;have hdv:=hu.du;have hol:=hu.ol;refine eN juT qB 0 Tryz.func7 rfl ?_;intro _;conv=>whnf
 refine jC [1,2,4] ?_;conv=>whnf
 refine jI (fun j:Nat=>[(19,.v (.int .i64 j))]) (fun j=>[iE u,jkD,.v (.slice none 0 0)::pgE (e1 j) u.du.length u.vo.length]) (fun _=>[]) (fun j=>j<=40) (fun j=>40-j) 0 ?_ (by omega) ?_
 ·repeat' constructor
 intro j hj;conv=>whnf
 rcases Nat.lt_or_ge j 40 with hlt|hge
 ·rw[jJ (show(j:Int)<40 by omega)];conv=>whnf
  refine⟨show(0:Int)<=(j:Int)/\(j:Int)<((40:Nat):Int) from ⟨by omega,by omega⟩,?_⟩;conv=>whnf
  refine jbH (.v (.slice none 0 0)) (e1 j) (e1 (j+1)) u.du.length u.vo.length (-1) j hlt (fun i hi=>?_) ?_
  ·unfold e1;by_cases h:i=j
   ·rw[if_pos h,if_pos (by omega)]
   ·rw[if_neg h];by_cases h2:i<j
    ·rw[if_pos h2,if_pos (by omega)]
    ·rw[if_neg h2,if_neg (by omega)]
  conv=>whnf
  refine jN j (by omega) ?_;conv=>whnf
  refine⟨j+1,jF [] ?_,show j+1<=40 by omega,show 40-(j+1)<40-j by omega⟩;conv=>whnf
  repeat' constructor
 rw[jG (show ¬(j:Int)<40 by omega)]
 obtain rfl:j=40:=by omega
 conv=>whnf
 refine qU 84 2 [] [(3,3)] ?_;conv=>whnf
 refine⟨trivial,?_⟩;conv=>whnf
 refine jC [1,2,4,6,30,31] ?_;conv=>whnf
 refine jI (fun x:Nat×List Ic×(Nat->Int)=>[(32,.v (.int .i64 x.1))]) (fun x=>[iE u,jkD,.v (.slice none 0 0)::pgE x.2.2 u.du.length u.vo.length,eC u]) (fun x=>[.live 84 2 x.2.1.length (wA x.2.1)])
  (fun x=>x.1<=u.on.length/\t6 (jS u) (u.on.drop x.1) x.2.1 x.2.2=aJ u/\x.2.1.length+sJ (u.on.drop x.1)<=900000/\(∀i∈x.2.1,jlF i)/\∀i,x.2.2 i<x.2.1.length) (fun x=>u.on.length-x.1) (0,[],noE) ?_ ⟨Nat.zero_le _,rfl,by simpa using hz,(fun i hi=>by cases hi),fun i=>show(-1:Int)<0 by decide⟩ ?_
 ·repeat' constructor
  show Row.live _ 2 0 []=Row.live _ 2 0 (wA []);rw[jmU]
 rintro⟨j,l,e⟩ ⟨g1,g2,g3,g4,g5⟩
 simp only at g1 g2 g3 g4 g5
 conv=>whnf
 rcases Nat.lt_or_ge j u.on.length with hlt|hge
 ·have hrow:jD 5 j (kH u.on)=hnA u.on[j]:=gQ u.on j hlt;have hon:=hu.on _ (List.getElem_mem hlt);rw[List.drop_eq_getElem_cons hlt] at g2 g3;generalize u.on[j]=hb at hrow hon g2 g3;obtain⟨h,b⟩:=hb;obtain⟨o1,o2,o3⟩:=hon;have hnd:=hnode b o3;unfold t6 at g2;unfold sJ at g3
  simp only at o1 o2 g2 g3
  unfold hnA at hrow
  simp only at hrow
  rw[jJ (show(j:Int)<(u.on.length:Int) by omega)];conv=>whnf
  refine⟨show(0:Int)<=(j:Int)/\(j:Int)<(u.on.length:Nat) from ⟨by omega,by omega⟩,?_⟩;conv=>whnf
  (generalize hrq:jD _ _ (kH u.on)=rq;obtain rfl:rq=intA h::ntA b:=hrq.symm.trans (hrow);clear hrq;conv=>whnf)
  refine⟨⟨o1,show h<((40:Nat):Int) by omega⟩,?_⟩;conv=>whnf
  refine jbH (.v (.slice none 0 0)) e (fun i=>if i=h.toNat then(l.length:Int) else e i) u.du.length u.vo.length l.length h.toNat (by omega) (fun i hi=>rfl) ?_;conv=>whnf
  refine wE 3 0 1 [] (hnd.2 l (by omega)) ?_;rintro o n' cs' r ⟨l2,rfl,rfl,ho,hl2,rfl⟩;cases ho;have hl2:l2=l++jB (jS u) b l.length:=hl2;have hsz:(jB (jS u) b l.length).length<=j6 b:=hnd.1 l.length
  have hl2':l2.length<=l.length+j6 b:=by rw[hl2,List.length_append];omega
  conv=>whnf
  have hem:=gH u l2 23 0 (by omega);refine wE 3 1 2 [] hem ?_;rintro o n' cs' r ⟨l3,rfl,rfl,ho,hl3,rfl⟩;cases ho;conv=>whnf
  refine jN j (by omega) ?_;conv=>whnf
  refine⟨(j+1,l3,fun i=>if i=h.toNat then(l.length:Int) else e i),jF [2] ?_,⟨show j+1<=u.on.length by omega,?_,?_,?_,?_⟩,show u.on.length-(j+1)<u.on.length-j by omega⟩
  ·conv=>whnf
   repeat' constructor
  ·rw[hl3,hl2];exact g2
  ·show l3.length+sJ (u.on.drop (j+1))<=900000;rw[hl3,List.length_append,List.length_singleton];omega
  ·intro i hi
   simp only at hi
   rw[hl3,hl2] at hi;rcases List.mem_append.1 hi with hi|hi
   ·rcases List.mem_append.1 hi with hi|hi
    ·exact g4 i hi
    ·exact jfN (jS u) b _ (by omega) i hi
   ·rw[List.mem_singleton.1 hi];exact⟨by simp,fun h=>by simp at h⟩
  ·intro i;show(if i=h.toNat then(l.length:Int) else e i)<(l3.length:Int);have g5i:=g5 i
   have:l3.length=l.length+(jB (jS u) b l.length).length+1:=by rw[hl3,hl2,List.length_append,List.length_append,List.length_singleton]
   split <;> omega
 rw[jG (show ¬(j:Int)<(u.on.length:Int) by omega)]
 have hcm:t6 (jS u) [] l e=aJ u:=by rw[<- g2,List.drop_of_length_le hge]
 have hcl:l.length<=900000:=by omega
 unfold t6 at hcm;conv=>whnf
 unfold jkN jep;rw[<- hcm]
 simp only
 by_cases hbig:400<l.length
 ·rw[jJ (show(400:Int)<(l.length:Int) by omega)];conv=>whnf
  rw[if_pos hbig,if_neg (by decide)];rfl
 rw[jG (show ¬(400:Int)<(l.length:Int) by omega)];rw[if_neg hbig];conv=>whnf
 refine nL [0] ?_;conv=>whnf
 refine jC [2,4,63] ?_;conv=>whnf
 obtain⟨E,hE⟩:∃E,jcU l e 0 40=E:=⟨_,rfl⟩
 rw[hE];refine jI (fun j:Nat=>[(64,.v (.int .i64 j))]) (fun _=>[iE u,jkD,pgL l e u.du.length u.vo.length,iE u++[.sl 2 l.length (wA l)]]) (fun _=>[]) (fun j=>j<=40/\jcU l e j (40-j)=E) (fun j=>40-j) 0 ?_ ⟨Nat.zero_le _,hE⟩ ?_
 ·repeat' constructor
  done
 clear hE hge g1 g2 g3 hcm;clear j;rintro j ⟨hj,hE⟩;have hE:jcU l e j (40-j)=E:=hE;conv=>whnf
 rcases Nat.lt_or_ge j 40 with hlt|hge
 ·rw[jJ (show(j:Int)<40 by omega)];rw[show 40-j=(40-(j+1))+1 by omega] at hE;unfold jcU at hE;have hfo:=tZ l e u.du.length u.vo.length (e j) (by omega) (by omega) (by omega) (fun i hi=>(g4 i hi).2) (fun i hi=>(g4 i hi).1) (g5 j);conv=>whnf
  refine⟨⟨show(0:Int)<=(j:Int) by omega,show(j:Int)<((40:Nat):Int) by omega⟩,intA (e j),jey e j hlt,?_⟩;conv=>whnf
  refine kL [] hfo ?_;rintro r rfl;generalize aK l (e j)=f at hE;conv=>whnf
  by_cases h0:f=0
  ·rw[jJ h0];rw[if_neg (fun h=>h h0)] at hE;conv=>whnf
   refine jN j (by omega) ?_;conv=>whnf
   refine⟨j+1,jF [] ?_,⟨show j+1<=40 by omega,hE⟩,show 40-(j+1)<40-j by omega⟩;conv=>whnf
   repeat' constructor
  rw[jG h0];rw[if_pos h0] at hE;conv=>whnf
  rw[<- hE,if_neg h0];rfl
 obtain rfl:j=40:=by omega
 rw[jG (show ¬((40:Nat):Int)<40 by omega)];obtain rfl:0=E:=hE;conv=>whnf
 rw[if_pos rfl];rfl
end Go.Proofs.YtdnnmiemgmgffaaGreatDoor.Vm
namespace Go.Proofs.YtdnnmiemgmgffaaGreatDoor.Vm
open Go.RowKit
theorem uD(c:UInt8):Spec Tryz.prog 62 [] [.v (.int .u8 (c.toNat:Int))] fun _ r=>r=zK (isL c):=by
 refine eN jR qB 0 Tryz.func62 rfl ?_;intro _;conv=>whnf
 cases h:decide (97<=(c.toNat:Int))
 ·conv=>whnf
  simp[zK,isL,h]
 ·conv=>whnf
  simp[zK,isL,h]
theorem oZ(c:UInt8):Spec Tryz.prog 63 [] [.v (.int .u8 (c.toNat:Int))] fun _ r=>r=zK (wG c):=by
 refine eN jR qB 0 Tryz.func63 rfl ?_;intro _;conv=>whnf
 cases h:decide (48<=(c.toNat:Int))
 ·conv=>whnf
  simp[zK,wG,h]
 ·conv=>whnf
  simp[zK,wG,h]
theorem jg6(l:List ByteArray)(s:ByteArray)(hl:l.length<=1000000):Spec Tryz.prog 65 [] [.sl 1 l.length (yV l),.v (.string s)] fun _ r=>r=zK (qD l s):=by
 refine eN jR qB 0 Tryz.func65 rfl ?_;intro _;conv=>whnf
 refine jC [0,1,4] ?_;conv=>whnf
 refine jI (fun k:Nat=>[(5,.v (.int .i64 k))]) (fun _=>[]) (fun _=>[]) (fun k=>k<=l.length/\qD (l.take k) s=false) (fun k=>l.length-k) 0 ?_ ⟨Nat.zero_le _,by simp[qD]⟩ ?_
 ·repeat' constructor
 ·rintro k ⟨hk,hn⟩;conv=>whnf
  by_cases hlt:k<l.length
  ·refine j9 (by simp;omega) ?_;conv=>whnf
   refine⟨⟨by omega,by omega⟩,?_⟩;conv=>whnf
   rw[show jD 1 (Int.toNat (k:Int)) (yV l)=[.v (.string l[k])] from fL l k hlt];conv=>whnf
   cases hq:decide (l[k]=s)
   ·conv=>whnf
    refine⟨jH (by omega),?_⟩;conv=>whnf
    refine⟨k+1,zZ ?_,⟨hlt,by rw[sX l s k hlt,hn,hq];rfl⟩,by omega⟩;repeat' constructor
   ·conv=>whnf
    have:qD l s=true:=List.any_eq_true.2 ⟨l[k],List.getElem_mem hlt,hq⟩;rw[this];rfl
  ·refine jW (by simp;omega) ?_
   obtain rfl:k=l.length:=by omega
   rw[List.take_length] at hn;conv=>whnf
   rw[hn];rfl
theorem jdM(s:ByteArray)(k:Nat)(hs:s.size<=1000000000)(hk:k<=s.size):Spec Tryz.prog 39 [] [.v (.string s),.v (.int .i64 k)] fun _ r=>r=intA ((k+jL false (s.data.toList.drop k):Nat):Int):=by
 have hsl:=zR s
 obtain⟨l,hl⟩:∃l,l=s.data.toList:=⟨_,rfl⟩
 refine eN jR qB 0 Tryz.func39 rfl ?_;intro _;conv=>whnf
 refine jC [0,4] ?_;conv=>whnf
 refine jI (fun j:Nat=>[(1,.v (.int .i64 j))]) (fun _=>[]) (fun _=>[]) (fun j=>k<=j/\j<=s.size/\j+jL false (s.data.toList.drop j)=k+jL false (s.data.toList.drop k)) (fun j=>s.size-j) k ?_ ⟨Nat.le_refl _,hk,rfl⟩ ?_
 ·repeat' constructor
 ·rintro j ⟨hkj,hj,hinv⟩;conv=>whnf
  by_cases hlt:j<s.size
  ·refine j9 (by simp;omega) ?_;conv=>whnf
   refine⟨⟨by omega,by omega⟩,?_⟩;rw[show s.data.toList.getD (Int.toNat (j:Int)) 0=s.data.toList[j] from dE s j (by omega)];have hd:=yC s.data.toList j (by omega);generalize hc:s.data.toList[j]'(by omega)=c at *;conv=>whnf
   cases hq:decide ((c.toNat:Int)=35)
   ·have hq':wC c=false:=hq;conv=>whnf
    cases h1:decide ((c.toNat:Int)=32)
    ·conv=>whnf
     cases h2:decide ((c.toNat:Int)=9)
     ·conv=>whnf
      cases h3:decide ((c.toNat:Int)=10)
      ·conv=>whnf
       have h4:aM c=false:=by simp[aM,h1,h2,h3]
       have:jL false (s.data.toList.drop j)=0:=by rw[hd];simp[jL,hq',h4]
       rw[this] at hinv;rw[<- hinv];rfl
      ·conv=>whnf
       have h4:aM c=true:=by simp[aM,h3]
       have:jL false (s.data.toList.drop j)=jL false (s.data.toList.drop (j+1))+1:=by rw[hd];simp[jL,hq',h4]
       refine⟨jH (by omega),?_⟩;conv=>whnf
       refine⟨j+1,zZ ?_,⟨by omega,by omega,by omega⟩,by omega⟩;repeat' constructor
     ·conv=>whnf
      have h4:aM c=true:=by simp[aM,h2]
      have:jL false (s.data.toList.drop j)=jL false (s.data.toList.drop (j+1))+1:=by rw[hd];simp[jL,hq',h4]
      refine⟨jH (by omega),?_⟩;conv=>whnf
      refine⟨j+1,zZ ?_,⟨by omega,by omega,by omega⟩,by omega⟩;repeat' constructor
    ·conv=>whnf
     have h4:aM c=true:=by simp[aM,h1]
     have:jL false (s.data.toList.drop j)=jL false (s.data.toList.drop (j+1))+1:=by rw[hd];simp[jL,hq',h4]
     refine⟨jH (by omega),?_⟩;conv=>whnf
     refine⟨j+1,zZ ?_,⟨by omega,by omega,by omega⟩,by omega⟩;repeat' constructor
   ·have hq':wC c=true:=hq
    have h0:jL false (s.data.toList.drop j)=jL true (s.data.toList.drop (j+1))+1:=by rw[hd];simp[jL,hq']
    have h0':jL true (s.data.toList.drop j)=jL true (s.data.toList.drop (j+1))+1:=by
     have:kO c=true:=by
      have:=of_decide_eq_true hq;simp[kO,this]
     rw[hd];simp[jL,this]
    conv=>whnf
    refine jC [0,4] ?_;conv=>whnf
    refine jI (fun i:Nat=>[(1,.v (.int .i64 i))]) (fun _=>[]) (fun _=>[]) (fun i=>j<=i/\i<=s.size/\i+jL true (s.data.toList.drop i)=k+jL false (s.data.toList.drop k)/\(i=j->kO c=true)) (fun i=>s.size-i) j ?_ ⟨Nat.le_refl _,hj,by omega,fun _=>by
     have:=of_decide_eq_true hq
     simp[kO,this]⟩ ?_
    ·repeat' constructor
    ·rintro i ⟨hji,hi,hinv2,hne⟩;conv=>whnf
     cases hlt2:decide ((i:Int)<(s.size:Int))
     ·have hge:=of_decide_eq_false hlt2;conv=>whnf
      refine⟨i,zZ ?_,⟨by omega,hi,?_⟩,?_⟩
      ·repeat' constructor
      ·rw[<- hinv2];rw[List.drop_of_length_le (by omega)];simp[jL]
      ·omega
     ·have hlt3:=of_decide_eq_true hlt2;conv=>whnf
      refine⟨⟨by omega,by omega⟩,?_⟩;rw[show s.data.toList.getD (Int.toNat (i:Int)) 0=s.data.toList[i]'(by omega) from dE s i (by omega)];have hd2:=yC s.data.toList i (by omega);by_cases hij:i=j
      ·subst hij;rw[hc];conv=>whnf
       have hn:=hne rfl;refine j9 hn ?_;conv=>whnf
       refine⟨jH (by omega),?_⟩;conv=>whnf
       refine⟨i+1,zZ ?_,⟨by omega,by omega,by omega,fun e=>by omega⟩,by omega⟩;repeat' constructor
      ·generalize hc2:s.data.toList[i]'(by omega)=c2 at *;conv=>whnf
       cases hn:kO c2
       ·refine jW hn ?_
        have:jL true (s.data.toList.drop i)=jL false (s.data.toList.drop (i+1))+1:=by rw[hd2];simp[jL,hn]
        have h10:wC c2=false/\aM c2=true:=by
         have:(c2.toNat:Int)=10:=by simpa [kO] using hn
         simp[wC,aM,this]
        have h5:jL false (s.data.toList.drop i)=jL false (s.data.toList.drop (i+1))+1:=by rw[hd2];simp[jL,h10.1,h10.2]
        conv=>whnf
        refine⟨i,zZ ?_,⟨by omega,hi,by omega⟩,by omega⟩;repeat' constructor
       ·refine j9 hn ?_
        have:jL true (s.data.toList.drop i)=jL true (s.data.toList.drop (i+1))+1:=by rw[hd2];simp[jL,hn]
        conv=>whnf
        refine⟨jH (by omega),?_⟩;conv=>whnf
        refine⟨i+1,zZ ?_,⟨by omega,by omega,by omega,fun e=>by omega⟩,by omega⟩;repeat' constructor
  ·refine jW (by simp;omega) ?_
   obtain rfl:j=s.size:=by omega
   have:jL false (s.data.toList.drop s.size)=0:=by rw[List.drop_of_length_le (by omega)];simp[jL]
   rw[this] at hinv;conv=>whnf
   rw[<- hinv];rfl
theorem jjb(s:ByteArray)(hs:s.size<=1000000000)(hd:∀c∈s.data.toList,wG c=true):Spec Tryz.prog 64 [] [.v (.string s)] fun _ r=>r=intA (xK 0 s.data.toList):=by
 have hsl:=zR s;refine eN jR qB 0 Tryz.func64 rfl ?_;intro _;conv=>whnf
 refine jC [0,2] ?_;conv=>whnf
 refine jI (fun x:Nat×Int=>[(3,.v (.int .i64 x.2)),(4,.v (.int .i64 x.1))]) (fun _=>[]) (fun _=>[]) (fun x=>x.1<=s.size/\0<=x.2/\x.2<=2147483647/\xK x.2 (s.data.toList.drop x.1)=xK 0 s.data.toList) (fun x=>s.size-x.1) (0,0) ?_ ⟨Nat.zero_le _,by simp,by simp,by simp⟩ ?_
 ·repeat' constructor
 ·rintro⟨j,v⟩ ⟨hj,hv0,hv1,hinv⟩
  simp only at hj hv0 hv1 hinv
  conv=>whnf
  by_cases hlt:j<s.size
  ·refine j9 (by simp;omega) ?_;have hdj:=hd _ (List.getElem_mem (l:=s.data.toList) (n:=j) (by omega));have hdr:=yC s.data.toList j (by omega);have hgb:=dE s j (by omega);generalize hc:s.data.toList[j]'(by omega)=c at *;have hr:=jjN hdj;conv=>whnf
   refine⟨jH (by omega),?_⟩;conv=>whnf
   refine⟨⟨by omega,by omega⟩,?_⟩;rw[show s.data.toList.getD (Int.toNat (j:Int)) 0=c from hgb];conv=>whnf
   refine⟨jH (by omega),?_⟩;conv=>whnf
   refine⟨jH (by omega),?_⟩;conv=>whnf
   refine⟨jH (by omega),?_⟩;conv=>whnf
   have hst:xK v (s.data.toList.drop j)=if 2147483647<10*v+(c.toNat:Int)-48 then -1 else xK (10*v+(c.toNat:Int)-48) (s.data.toList.drop (j+1)):=by rw[hdr];rfl
   by_cases hbig:2147483647<10*v+(c.toNat:Int)-48
   ·refine j9 (by simpa using hbig) ?_;conv=>whnf
    rw[if_pos hbig] at hst;rw[<- hinv,hst];rfl
   ·refine jW (by simpa using hbig) ?_;conv=>whnf
    rw[if_neg hbig] at hst;refine⟨jH (by omega),?_⟩;conv=>whnf
    refine⟨(j+1,10*v+(c.toNat:Int)-48),zZ ?_,⟨by simp only;omega,by simp only;omega,by simp only;omega,by simp only;rw[<- hst,hinv]⟩,by simp only;omega⟩;repeat' constructor
  ·refine jW (by simp;omega) ?_;conv=>whnf
   rw[List.drop_of_length_le (by omega)] at hinv;rw[<- hinv];rfl
theorem jj6(s:ByteArray)(k:Nat)(hs:s.size<=1000000000)(hk:k<s.size):Spec Tryz.prog 40 [] [.v (.string s),.v (.int .i64 k)] fun _ r=>r=jor s k:=by
 have hsl:=zR s;have hd0:=yC s.data.toList k (by omega);have hg0:=dE s k (by omega)
 obtain⟨r,hr⟩:∃r,r=s.data.toList.drop (k+1):=⟨_,rfl⟩
 have hrl:r.length=s.size-(k+1):=by rw[hr,List.length_drop,hsl]
 rw[<- hr] at hd0;generalize hc:s.data.toList[k]'(by omega)=c at *;refine eN jR qB 0 Tryz.func40 rfl ?_;intro _;conv=>whnf
 refine⟨jH (by omega),?_⟩;conv=>whnf
 refine⟨⟨by omega,by omega⟩,?_⟩;rw[show s.data.toList.getD (Int.toNat (k:Int)) 0=c from hg0];conv=>whnf
 refine kL [] (uD c) ?_;rintro x rfl;conv=>whnf
 have span:∀(p:UInt8->Bool) (j:Nat),k+1<=j->j<s.size->jE p (s.data.toList.drop j)=match p (s.data.toList.getD j 0) with|true=>jE p (s.data.toList.drop (j+1))+1|false=>0:=fun p j h1 h2=>by
  rw[dE s j (by omega),yC s.data.toList j (by omega)];rfl
 cases hL:isL c
 ·conv=>whnf
  refine⟨⟨by omega,by omega⟩,?_⟩;rw[show s.data.toList.getD (Int.toNat (k:Int)) 0=c from hg0];conv=>whnf
  refine kL [] (oZ c) ?_;rintro x rfl;conv=>whnf
  cases hD:wG c
  ·conv=>whnf
   refine⟨jH (by omega),?_⟩;conv=>whnf
   refine⟨⟨by omega,by omega,by omega⟩,?_⟩;rw[show s.extract (Int.toNat (k:Int)) (Int.toNat (min ((k:Int)+2) (s.size:Int)))=bs ((c::r).take 2) from by rw[<- hd0];exact yB s k _ 2 (by omega) (by omega)];conv=>whnf
   refine kL [0] (jg6 pQ (bs ((c::r).take 2)) (by decide)) ?_;rintro x rfl;cases hb:qD pQ (bs ((c::r).take 2))
   ·conv=>whnf
    refine⟨⟨by omega,by omega,by omega⟩,?_⟩
    rw[show s.extract (Int.toNat (k:Int)) (Int.toNat ((k:Int)+1))=bs [c] from by
     have:=yB s k (k+1) 1 (by omega) (by omega);rw[hd0] at this
     exact this]
    conv=>whnf
    refine kL [1] (jg6 tB (bs [c]) (by decide)) ?_;rintro x rfl;cases hb2:qD tB (bs [c])
    ·conv=>whnf
     rw[d9 (e:=10) (by rw[hd0];simp only[qE,hL,hD,hb,hb2])];rfl
    ·conv=>whnf
     rw[bP (kd:=3) (len:=1) (n:=0) (by rw[hd0];simp only[qE,hL,hD,hb,hb2]),hd0];rfl
   ·conv=>whnf
    rw[bP (kd:=3) (len:=2) (n:=0) (by rw[hd0];simp only[qE,hL,hD,hb]),hd0];rfl
  ·have htok:qE (s.data.toList.drop k)=if xK 0 (c::r.take (jE wG r))<0 then .bad 6 else .tok 2 (jE wG r+1) (xK 0 (c::r.take (jE wG r))):=by rw[hd0];simp only[qE,hL,hD]
   have hvd:∀x∈(bs (c::r.take (jE wG r))).data.toList,wG x=true:=fun x hx=>by
    rw[yL] at hx;rcases List.mem_cons.1 hx with rfl|hx
    ·exact hD
    ·exact mT wG r x hx
   have hsn:=xJ wG r;have hval:=jjb (bs (c::r.take (jE wG r))) (by rw[eH];simp;omega) hvd;rw[yL] at hval;conv=>whnf
   refine jC [0,1,4,5] ?_;conv=>whnf
   refine jI (fun j:Nat=>[(6,.v (.int .i64 j))]) (fun _=>[jpu]) (fun _=>[]) (fun j=>k+1<=j/\j<=s.size/\(j-(k+1))+jE wG (s.data.toList.drop j)=jE wG r) (fun j=>s.size-j) (k+1) ?_ ⟨Nat.le_refl _,by omega,by rw[hr];omega⟩ ?_
   ·repeat' constructor
   ·rintro j ⟨hkj,hj,hinv⟩;conv=>whnf
    cases hlt:decide ((j:Int)<(s.size:Int))
    ·have hge:=of_decide_eq_false hlt
     have h0:jE wG (s.data.toList.drop j)=0:=by rw[List.drop_of_length_le (by omega)];simp[jE]
     conv=>whnf
     refine⟨⟨by omega,by omega,by omega⟩,?_⟩
     rw[show s.extract (Int.toNat (k:Int)) (Int.toNat (j:Int))=bs (c::r.take (jE wG r)) from by
      have:=yB s k j (jE wG r+1) (by omega) (by omega);rw[hd0] at this
      exact this]
     conv=>whnf
     refine kL [] hval ?_;rintro x rfl;generalize xK 0 (c::r.take (jE wG r))=v at *;conv=>whnf
     by_cases hneg:v<0
     ·refine j9 (by simpa using hneg) ?_;conv=>whnf
      rw[if_pos hneg] at htok;rw[d9 htok];rfl
     ·refine jW (by simpa using hneg) ?_;conv=>whnf
      refine⟨⟨by omega,by omega,by omega⟩,?_⟩
      rw[show s.extract (Int.toNat (k:Int)) (Int.toNat (j:Int))=bs (c::r.take (jE wG r)) from by
       have:=yB s k j (jE wG r+1) (by omega) (by omega);rw[hd0] at this
       exact this]
      conv=>whnf
      rw[if_neg hneg] at htok;rw[bP htok,hd0];rfl
    ·have hlt2:=of_decide_eq_true hlt;have hsp:=span wG j hkj (by omega);conv=>whnf
     refine⟨⟨by omega,by omega⟩,?_⟩;rw[show s.data.toList.getD (Int.toNat (j:Int)) 0=s.data.toList.getD j 0 from rfl];generalize s.data.toList.getD j 0=q at *;conv=>whnf
     refine kL [] (oZ q) ?_;rintro x rfl;conv=>whnf
     cases hq:wG q
     ·have h0:jE wG (s.data.toList.drop j)=0:=by rw[hsp,hq]
      conv=>whnf
      refine⟨⟨by omega,by omega,by omega⟩,?_⟩
      rw[show s.extract (Int.toNat (k:Int)) (Int.toNat (j:Int))=bs (c::r.take (jE wG r)) from by
       have:=yB s k j (jE wG r+1) (by omega) (by omega);rw[hd0] at this
       exact this]
      conv=>whnf
      refine kL [] hval ?_;rintro x rfl;generalize xK 0 (c::r.take (jE wG r))=v at *;conv=>whnf
      by_cases hneg:v<0
      ·refine j9 (by simpa using hneg) ?_;conv=>whnf
       rw[if_pos hneg] at htok;rw[d9 htok];rfl
      ·refine jW (by simpa using hneg) ?_;conv=>whnf
       refine⟨⟨by omega,by omega,by omega⟩,?_⟩
       rw[show s.extract (Int.toNat (k:Int)) (Int.toNat (j:Int))=bs (c::r.take (jE wG r)) from by
        have:=yB s k j (jE wG r+1) (by omega) (by omega);rw[hd0] at this
        exact this]
       conv=>whnf
       rw[if_neg hneg] at htok;rw[bP htok,hd0];rfl
     ·rw[hq] at hsp;conv=>whnf
      refine⟨jH (by omega),?_⟩;conv=>whnf
      refine⟨j+1,zZ ?_,⟨by omega,by omega,by simp only at hsp;omega⟩,by omega⟩;repeat' constructor
 ·have htok:qE (s.data.toList.drop k)=if 10<jE wD r+1 then .bad 2 else .tok 1 (jE wD r+1) 0:=by rw[hd0];simp only[qE,hL]
  conv=>whnf
  refine jC [0,1,4,5] ?_;conv=>whnf
  refine jI (fun j:Nat=>[(6,.v (.int .i64 j))]) (fun _=>[jpu]) (fun _=>[]) (fun j=>k+1<=j/\j<=s.size/\(j-(k+1))+jE wD (s.data.toList.drop j)=jE wD r) (fun j=>s.size-j) (k+1) ?_ ⟨Nat.le_refl _,by omega,by rw[hr];omega⟩ ?_
  ·repeat' constructor
  ·rintro j ⟨hkj,hj,hinv⟩;conv=>whnf
   cases hlt:decide ((j:Int)<(s.size:Int))
   ·have hge:=of_decide_eq_false hlt
    have h0:jE wD (s.data.toList.drop j)=0:=by rw[List.drop_of_length_le (by omega)];simp[jE]
    conv=>whnf
    refine⟨jH (by omega),?_⟩;conv=>whnf
    by_cases hbig:10<jE wD r+1
    ·refine j9 (by simp;omega) ?_;conv=>whnf
     rw[if_pos hbig] at htok;rw[d9 htok];rfl
    ·refine jW (by simp;omega) ?_;conv=>whnf
     refine⟨⟨by omega,by omega,by omega⟩,?_⟩;rw[show s.extract (Int.toNat (k:Int)) (Int.toNat (j:Int))=bs ((s.data.toList.drop k).take (jE wD r+1)) from yB s k j _ (by omega) (by omega)];conv=>whnf
     rw[if_neg hbig] at htok;rw[bP htok];rfl
   ·have hlt2:=of_decide_eq_true hlt;have hsp:=span wD j hkj (by omega);conv=>whnf
    refine⟨⟨by omega,by omega⟩,?_⟩;rw[show s.data.toList.getD (Int.toNat (j:Int)) 0=s.data.toList.getD j 0 from rfl]
    obtain⟨q,hqe⟩:∃q,q=s.data.toList.getD j 0:=⟨_,rfl⟩
    rw[<- hqe] at hsp ⊢;conv=>whnf
    refine kL [] (uD q) ?_;rintro x rfl;conv=>whnf
    cases hq:isL q
    ·conv=>whnf
     refine⟨⟨by omega,by omega⟩,?_⟩;rw[show s.data.toList.getD (Int.toNat (j:Int)) 0=q from hqe.symm];conv=>whnf
     refine kL [] (oZ q) ?_;rintro x rfl;conv=>whnf
     cases hq2:wG q
     ·have h0:jE wD (s.data.toList.drop j)=0:=by rw[hsp,show wD q=false from by simp[wD,hq,hq2]]
      conv=>whnf
      refine⟨jH (by omega),?_⟩;conv=>whnf
      by_cases hbig:10<jE wD r+1
      ·refine j9 (by simp;omega) ?_;conv=>whnf
       rw[if_pos hbig] at htok;rw[d9 htok];rfl
      ·refine jW (by simp;omega) ?_;conv=>whnf
       refine⟨⟨by omega,by omega,by omega⟩,?_⟩;rw[show s.extract (Int.toNat (k:Int)) (Int.toNat (j:Int))=bs ((s.data.toList.drop k).take (jE wD r+1)) from yB s k j _ (by omega) (by omega)];conv=>whnf
       rw[if_neg hbig] at htok;rw[bP htok];rfl
     ·rw[show wD q=true from by simp[wD,hq2]] at hsp;conv=>whnf
      refine⟨jH (by omega),?_⟩;conv=>whnf
      refine⟨j+1,zZ ?_,⟨by omega,by omega,by simp only at hsp;omega⟩,by omega⟩;repeat' constructor
    ·rw[show wD q=true from by simp[wD,hq]] at hsp;conv=>whnf
     refine⟨jH (by omega),?_⟩;conv=>whnf
     refine⟨j+1,zZ ?_,⟨by omega,by omega,by simp only at hsp;omega⟩,by omega⟩;repeat' constructor
theorem jf6(s:ByteArray)(hs:s.size<=1000000000):Spec Tryz.prog 14 [] [.v (.string s)] fun _ r=>r=s7 s:=by
 have hsl:=zR s;refine eN jR qB 0 Tryz.func14 rfl ?_;intro _;conv=>whnf
 refine jcH [] rfl (fun _=>jdM s 0 hs (Nat.zero_le _)) ?_;rintro r rfl;have hk0:=dY false s.data.toList;rw[List.drop_zero,Nat.zero_add];conv=>whnf
 refine qU 64 4 [5] [] ?_;conv=>whnf
 refine⟨trivial,?_⟩;conv=>whnf
 refine jC [0,5] ?_;conv=>whnf
 refine jI (fun x:Nat×List Tk=>[(6,.v (.int .i64 x.1))]) (fun _=>[]) (fun x=>[.live 64 4 x.2.length (z8 x.2)]) (fun x=>x.1<=s.size/\x.2.length<=x.1/\jmg (s.data.toList.drop x.1)/\Lx.app x.2 (bJ x.1 (s.data.toList.drop x.1))=qM s) (fun x=>s.size-x.1)
  (jL false s.data.toList,[]) ?_ ⟨by simp only;omega,by simp,by have:=gV false s.data.toList;simpa using this,by
   have:=jdd 0 s.data.toList;rw[Nat.zero_add] at this;simp only[Lx.app,List.nil_append,qM]
   rw[this]⟩ ?_
 ·repeat' constructor
 ·rintro⟨p,ts⟩ ⟨hp,hts,hcl,hinv⟩
  simp only at hp hts hcl hinv
  conv=>whnf
  by_cases hlt:p<s.size
  ·refine j9 (by simp;omega) ?_;conv=>whnf
   refine kL [] (jj6 s p hs hlt) ?_;rintro r rfl;have hd:=yC s.data.toList p (by omega);generalize s.data.toList[p]'(by omega)=c at *;generalize s.data.toList.drop (p+1)=r at *;rw[hd] at hcl hinv
   cases ht:qE (c::r) with
   |bad e =>
    rw[d9 (e:=e) (by rw[hd];exact ht)];rw[jb4 hcl.1 hcl.2 ht] at hinv;have hne:=jhr ht;conv=>whnf
    refine j9 (by simpa using hne) ?_;conv=>whnf
    rw[jn8 (ts:=ts++[]) (p:=p) (e:=e) hinv.symm];rfl
   |tok k len n =>
    have hl:=bO ht
    have hrl:(c::r).length=s.size-p:=by rw[<- hd,List.length_drop,hsl]
    have htx:=aZ (c::r) len hl.2;rw[bP (k:=p) (kd:=k) (len:=len) (n:=n) (by rw[hd];exact ht),hd];rw[jb7 hcl.1 hcl.2 ht,jak] at hinv;conv=>whnf
    refine⟨⟨by unfold maxLen;simp only;omega,by simp only;omega⟩,?_⟩;conv=>whnf
    rw[htx];refine⟨jH (by omega),?_⟩;conv=>whnf
    refine kL [] (jdM s (p+len) hs (by omega)) ?_;rintro x rfl;have hk2:=dY false (s.data.toList.drop (p+len));rw[List.length_drop,hsl] at hk2;have hcl2:=gV false (s.data.toList.drop (p+len));have hsk:=jdd (p+len) (s.data.toList.drop (p+len));rw[List.drop_drop] at hcl2 hsk
    have hdl:(c::r).drop len=s.data.toList.drop (p+len):=by rw[<- hd,List.drop_drop]
    rw[hdl,hsk] at hinv;generalize jL false (s.data.toList.drop (p+len))=q at *;conv=>whnf
    refine⟨(p+len+q,ts++[⟨k,p,bs ((c::r).take len),n⟩]),zZ ?_,⟨by simp only;omega,by simp;omega,hcl2,hinv⟩,by simp only;omega⟩;repeat' constructor
    ·simp only[List.length_append,List.length_cons,List.length_nil,jlu];rfl
  ·refine jW (by simp;omega) ?_
   obtain rfl:p=s.size:=by omega
   rw[List.drop_of_length_le (by omega),jb5] at hinv;conv=>whnf
   refine⟨⟨by unfold maxLen;simp only;omega,by simp only;omega⟩,?_⟩;conv=>whnf
   have hl:qM s=⟨ts,none⟩:=by rw[<- hinv];simp[Lx.app]
   rw[jpn hl];rfl
end Go.Proofs.YtdnnmiemgmgffaaGreatDoor.Vm
namespace Go.Proofs.YtdnnmiemgmgffaaGreatDoor.Vm
open Go.RowKit Go.Shelf
theorem jg8{T:List Tk}{i:Nat}(h:i<T.length):hd (T.drop i)=T[i]:=by
 rw[List.drop_eq_getElem_cons h];rfl
theorem jbR(T:List Tk)(i:Nat):(T.drop i).tail=T.drop (i+1):=by rw[List.tail_drop]
theorem jdX:∀{T:List Tk} {i:Nat},TkW T->i<T.length->TkW (T.drop i)
 |[],i,_,h=>by simp at h
 |t::T,0,h,_=>h
 |t::T,i+1,h,hi=>by
  rcases h.2 with ⟨rfl,_⟩|⟨_,hw⟩
  ·simp at hi
  ·exact jdX (T:=T) hw (by simpa using hi)
structure Ks(T:List Tk):Prop where
 t:∀t∈T,K6 t
 n:T.length<=1000000
 w:TkW T
theorem Ks.p{T:List Tk}(h:Ks T){i:Nat}(hi:i<T.length):TkP (T.drop i) :=
 ⟨⟨jdX h.w hi,by rw[List.length_drop];have:=h.n;omega⟩,fun t ht=>jn5 (h.t t (List.mem_of_mem_drop ht))⟩
theorem Ks.hd{T:List Tk}(h:Ks T){i:Nat}(hi:i<T.length):K6 (Vm.hd (T.drop i)):=by rw[jg8 hi];exact h.t _ (List.getElem_mem hi)
theorem Ks.next{T:List Tk}(h:Ks T){i:Nat}(hi:i<T.length)(hk:(Vm.hd (T.drop i)).kind≠0):i+1<T.length:=by
 obtain⟨q1,q2⟩:=(h.p hi).tail hk;have:=q1.pos;rw[jbR,List.length_drop] at this;omega
theorem xV(T:List Tk)(i:Nat)(h:i<T.length):jD 4 i (z8 T)=cR (hd (T.drop i)):=by
 rw[jg8 h];exact xU cR (fun _=>rfl) T i h
structure S6 where
 i:Nat
 a:Int
 e:Int
def wP(T:List Tk)(s:S6):List A:=[.sl 4 T.length (z8 T),.v (.int .i64 s.i),intA s.a,intA s.e]
def qG(T:List Tk)(s:S6):Tk:=hd (T.drop s.i)
def SpecU(f:Nat)(cs args:List A)(post:List A->A->Prop):Prop:=∀y:Value,fD y->Spec Tryz.prog f [cs++[.v y]] args fun o r=>∃c,o=[c++[.v y]]/\post c r
theorem SpecU.v{f:Nat}{cs args:List A}{post:List A->A->Prop}(h:SpecU f cs args post):SpecV Tryz.prog f cs args post fun _=>False:=fun y hy=>(h y hy).toP
theorem SpecU.weaken{f:Nat}{cs args:List A}{post post':List A->A->Prop}(h:SpecU f cs args post')(k:∀c r,post' c r->∃c' r',post c' r'/\c=c'/\Wk r r'):SpecU f cs args post:=fun y hy =>
 Spec.weaken (h y hy) fun o r ⟨c,h1,h2⟩=>by
  obtain⟨c',r',k1,rfl,k3⟩:=k c r h2;exact⟨o,r',⟨c,h1,k1⟩,.refl _,k3⟩
theorem xZ(l:List ByteArray)(s:ByteArray)(hl:l.length<=1000000):Spec Tryz.prog 44 [] [.sl 1 l.length (yV l),.v (.string s)] fun _ r=>r=zK (qD l s):=by
 refine eN jR qB 0 Tryz.func44 rfl ?_;intro _;conv=>whnf
 refine jC [0,1,4] ?_;conv=>whnf
 refine jI (fun k:Nat=>[(5,.v (.int .i64 k))]) (fun _=>[]) (fun _=>[]) (fun k=>k<=l.length/\qD (l.take k) s=false) (fun k=>l.length-k) 0 ?_ ⟨Nat.zero_le _,by simp[qD]⟩ ?_
 ·repeat' constructor
 ·rintro k ⟨hk,hn⟩;conv=>whnf
  by_cases hlt:k<l.length
  ·have hrow:=fL l k hlt;have htk:=sX l s k hlt
   have hin:decide (l[k]=s)=true->qD l s=true:=fun hq=>List.any_eq_true.2 ⟨l[k],List.getElem_mem hlt,hq⟩
   generalize l[k]=x at *
   (refine iA ?_;try with_reducible exact trivial)
   (generalize hrq:jD _ _ (yV l)=rq;obtain rfl:rq=[jX x]:=hrq.symm.trans (hrow);clear hrq;conv=>whnf)
   cases hq:decide (x=s)
   ·conv=>whnf
    refine⟨jH (by omega),?_⟩;conv=>whnf
    refine⟨k+1,zZ ?_,⟨hlt,by rw[htk,hn,hq];rfl⟩,by omega⟩;repeat' constructor
   ·conv=>whnf
    rw[hin hq];rfl
  ·obtain rfl:k=l.length:=by omega
   rw[List.take_length] at hn
   (refine iA ?_;try with_reducible exact trivial)
   rw[hn];rfl
theorem cL:Spec Tryz.prog 87 [] [] fun _ r=>r=.sl 1 builtL.length (yV builtL):=by
 refine eN jR qB 0 Tryz.func87 rfl ?_;intro _;conv=>whnf
 rfl
theorem je9(l:List ByteArray)(t:ByteArray):(l.any fun s=>decide (t=s))=qD l t:=by
 unfold qD
 congr 1
 funext s;by_cases h:t=s
 ·rw[jJ h,jJ h.symm]
 ·rw[jG h,jG (fun e=>h e.symm)]
theorem jcn(s:ByteArray):Spec Tryz.prog 66 [] [.v (.string s)] fun _ r=>r=zK ((keyL++builtL).any fun x=>decide (s=x)):=by
 have h1:=xZ builtL s (by decide);have h2:=xZ keyL s (by decide)
 have e:((keyL++builtL).any fun x=>decide (s=x))=(qD builtL s||qD keyL s):=by
  rw[je9];unfold qD;rw[List.any_append,Bool.or_comm]
 rw[e];refine eN jR qB 0 Tryz.func66 rfl ?_;intro _;conv=>whnf
 (refine kL [] cL ?_;rintro r rfl;conv=>whnf)
 (refine kL [] h1 ?_;rintro r rfl;conv=>whnf)
 cases qD builtL s
 ·conv=>whnf
  refine kL [0] h2 ?_;rintro r rfl;conv=>whnf
  rfl
 ·conv=>whnf
  rfl
theorem xT{T:List Tk}{s:S6}(hi:s.i<T.length):SpecU 15 (wP T s) [.box 0 0] fun c r=>c=wP T s/\r=jX (qG T s).text:=fun y hy=>by
 have hr:=xV T s.i hi;unfold qG;refine eN jtX qB 1 Tryz.func15 rfl ?_;intro _;generalize hd (T.drop s.i)=t at *;conv=>whnf
 (refine iA ?_;try with_reducible exact trivial)
 (generalize hrq:jD _ _ (z8 T)=rq;obtain rfl:rq=cR t:=hrq.symm.trans (hr);clear hrq;conv=>whnf)
 exact⟨_,rfl,rfl,rfl⟩
def jue(id:Nat):Tr:=match Nat.beq id 1 with|true=>.q 0 3 (.q 1 3 (.q 2 3 (.q 3 0 (.q 4 3 (.q 5 3 (.q 6 3 (.q 7 0 (.q 8 3 (.q 9 3 (.q 10 0 (.q 11 3 (.q 12 3 (.q 13 3 (.q 14 3 (.q 15 3 (.q 16 0 (.q 17 3 (.q 18 3 (.q 19 3 (.q 20 0 (.q 21 3 (.q 22 3 (.q 23 0 (.alt 24 1 (.q 25 3 (.q 26 3 (.q 27 3 (.nil)))) (.nil)))))))))))))))))))))))))|false=>.nil
theorem jbw{T:List Tk}{s:S6}(hi:s.i<T.length):SpecU 42 (wP T s) [.box 0 0] fun c r=>c=wP T s/\r=zK (wQ (T.drop s.i)):=fun y hy=>by
 have hr:=xV T s.i hi;unfold wQ;generalize hd (T.drop s.i)=t at *;have hrs:=jcn t.text;generalize ((keyL++builtL).any fun x=>decide (t.text=x))=q at *;refine eN jue qB 1 Tryz.func42 rfl ?_;intro _;conv=>whnf
 (refine iA ?_;try with_reducible exact trivial)
 (generalize hrq:jD _ _ (z8 T)=rq;obtain rfl:rq=cR t:=hrq.symm.trans (hr);clear hrq;conv=>whnf)
 by_cases hk:t.kind=1
 ·rw[jJ hk];conv=>whnf
  (refine iA ?_;try with_reducible exact trivial)
  (generalize hrq:jD _ _ (z8 T)=rq;obtain rfl:rq=cR t:=hrq.symm.trans (hr);clear hrq;conv=>whnf)
  refine kL [] hrs ?_;rintro r rfl;conv=>whnf
  exact⟨_,rfl,rfl,rfl⟩
 ·rw[jG hk];conv=>whnf
  exact⟨_,rfl,rfl,rfl⟩
def stF(T:List Tk)(s:S6)(x:Int)(k:Nat):S6:=if s.e=0 then ⟨s.i,(hd (T.drop k)).pos,x⟩ else s
theorem nY{T:List Tk}{s:S6}(k:Nat)(hk:k<T.length)(x:Int):SpecU 43 (wP T s) [.box 0 0,intA x,.v (.int .i64 k)] fun c r=>c=wP T (stF T s x k)/\r=.tup []:=fun y hy=>by
 have hr:=xV T k hk;unfold stF;generalize hd (T.drop k)=t at *;refine eN jR qB 1 Tryz.func43 rfl ?_;intro _;conv=>whnf
 by_cases h0:s.e=0
 ·rw[jJ h0,if_pos h0];conv=>whnf
  (refine iA ?_;try with_reducible exact trivial)
  (generalize hrq:jD _ _ (z8 T)=rq;obtain rfl:rq=cR t:=hrq.symm.trans (hr);clear hrq;conv=>whnf)
  exact⟨_,rfl,rfl,rfl⟩
 ·rw[jG h0,if_neg h0];conv=>whnf
  exact⟨_,rfl,rfl,rfl⟩
def xC(T:List Tk)(s:S6):S6:=if s.i+1<T.length then ⟨s.i+1,s.a,s.e⟩ else s
theorem n8{T:List Tk}(hT:Ks T){s:S6}(hi:s.i<T.length):SpecU 41 (wP T s) [.box 0 0] fun c r=>c=wP T (xC T s)/\r=.tup []:=fun y hy=>by
 have hn:=hT.n;unfold xC;refine eN ju3 qB 1 Tryz.func41 rfl ?_;intro _;conv=>whnf
 by_cases h:s.i+1<T.length
 ·rw[if_pos h]
  (refine iA ?_;try with_reducible exact trivial)
  exact⟨_,rfl,rfl,rfl⟩
 ·rw[if_neg h]
  (refine iA ?_;try with_reducible exact trivial)
  exact⟨_,rfl,rfl,rfl⟩
def bW(T:List Tk)(s:S6)(w:ByteArray):S6:=if s.e=0 then(if (qG T s).text=w then xC T s else ⟨s.i,(qG T s).pos,10⟩) else s
theorem qO{T:List Tk}(hT:Ks T){s:S6}(hi:s.i<T.length)(w:ByteArray):SpecU 17 (wP T s) [.box 0 0,jX w] fun c r=>c=wP T (bW T s w)/\r=.tup []:=fun y hy=>by
 have hnx:=xT hi y hy;have hfl:=nY s.i hi 10 (s:=s) y hy;have htk:=n8 hT hi y hy;unfold bW;refine eN jR qB 1 Tryz.func17 rfl ?_;intro _;conv=>whnf
 by_cases h0:s.e=0
 ·rw[jJ h0,if_pos h0];conv=>whnf
  refine jT 0 [] hnx ?_;rintro o r ⟨c,ho,rfl,rfl⟩;cases ho;by_cases hw:(qG T s).text=w
  ·rw[if_pos hw];conv=>whnf
   rw[jJ hw];conv=>whnf
   rw[jJ h0];conv=>whnf
   refine jT 0 [] htk ?_;rintro o r ⟨c,ho,rfl,rfl⟩;cases ho;conv=>whnf
   exact⟨_,rfl,rfl,rfl⟩
  ·rw[if_neg hw];unfold stF at hfl;rw[if_pos h0] at hfl;conv=>whnf
   rw[jG hw];conv=>whnf
   refine jT 0 [] hfl ?_;rintro o r ⟨c,ho,rfl,rfl⟩;cases ho;conv=>whnf
   exact⟨_,rfl,rfl,rfl⟩
 ·rw[jG h0,if_neg h0];conv=>whnf
  rw[jG h0];conv=>whnf
  exact⟨_,rfl,rfl,rfl⟩
def sA(T:List Tk)(s:S6)(w:ByteArray)(lv:Int):S6:=if s.e=0/\(qG T s).text=w/\20<lv then ⟨s.i,(qG T s).pos,2⟩ else bW T s w
theorem jf4{T:List Tk}(hT:Ks T){s:S6}(hi:s.i<T.length)(w:ByteArray)(lv:Int):SpecU 46 (wP T s) [.box 0 0,jX w,intA lv] fun c r=>c=wP T (sA T s w lv)/\r=.tup []:=fun y hy=>by
 have hnx:=xT hi y hy;have hfl:=nY s.i hi 2 (s:=s) y hy;have hxp:=qO hT hi w y hy
 have hxq:s.e=0->Spec Tryz.prog 17 [wP T ⟨s.i,(qG T s).pos,2⟩++[.v y]] [.box 0 0,jX w] fun o r=>∃c,o=[c++[.v y]]/\c=wP T ⟨s.i,(qG T s).pos,2⟩/\r=.tup []:=fun h0=>by
  have:=qO hT (s:=⟨s.i,(qG T s).pos,2⟩) hi w y hy;rw[show bW T ⟨s.i,(qG T s).pos,2⟩ w=⟨s.i,(qG T s).pos,2⟩ from if_neg (show ¬(2:Int)=0 by decide)] at this;exact this
 unfold sA;refine eN jR qB 1 Tryz.func46 rfl ?_;intro _;conv=>whnf
 by_cases h0:s.e=0
 ·rw[jJ h0];conv=>whnf
  refine jT 0 [] hnx ?_;rintro o r ⟨c,ho,rfl,rfl⟩;cases ho;by_cases hw:(qG T s).text=w
  ·conv=>whnf
   rw[jJ hw];conv=>whnf
   by_cases hl:20<lv
   ·rw[if_pos ⟨h0,hw,hl⟩];unfold stF at hfl;rw[if_pos h0] at hfl;rw[jJ hl];conv=>whnf
    refine jT 0 [] hfl ?_;rintro o r ⟨c,ho,rfl,rfl⟩;cases ho;conv=>whnf
    refine jT 0 [] (hxq h0) ?_;rintro o r ⟨c,ho,rfl,rfl⟩;cases ho;conv=>whnf
    exact⟨_,rfl,rfl,rfl⟩
   ·rw[if_neg (fun h=>hl h.2.2)];rw[jG hl];conv=>whnf
    refine jT 0 [] hxp ?_;rintro o r ⟨c,ho,rfl,rfl⟩;cases ho;conv=>whnf
    exact⟨_,rfl,rfl,rfl⟩
  ·rw[if_neg (fun h=>hw h.2.1)];conv=>whnf
   rw[jG hw];conv=>whnf
   refine jT 0 [] hxp ?_;rintro o r ⟨c,ho,rfl,rfl⟩;cases ho;conv=>whnf
   exact⟨_,rfl,rfl,rfl⟩
 ·rw[jG h0,if_neg (fun h=>h0 h.1)];conv=>whnf
  refine jT 0 [] hxp ?_;rintro o r ⟨c,ho,rfl,rfl⟩;cases ho;conv=>whnf
  exact⟨_,rfl,rfl,rfl⟩
def mU(T:List Tk)(s:S6)(m:Int):S6:=if s.e=0 then(if (qG T s).kind≠2 then ⟨s.i,(qG T s).pos,10⟩ else if m<(qG T s).n then ⟨s.i,(qG T s).pos,6⟩ else xC T s) else s
def vaN(T:List Tk)(s:S6)(m:Int):Int:=if s.e=0/\(qG T s).kind=2/\(qG T s).n<=m then(qG T s).n else 0
theorem jgX{T:List Tk}(hT:Ks T){s:S6}(hi:s.i<T.length)(m:Int):SpecU 45 (wP T s) [.box 0 0,intA m] fun c r=>c=wP T (mU T s m)/\r=intA (vaN T s m):=fun y hy=>by
 have hr:=xV T s.i hi;have hf1:=nY s.i hi 10 (s:=s) y hy;have hf2:=nY s.i hi 6 (s:=s) y hy;have htk:=n8 hT hi y hy;have hgd:=(hT.p hi).good;unfold stF at hf1 hf2;unfold mU vaN
 change jD 4 s.i (z8 T)=cR (qG T s) at hr
 change tN (qG T s) at hgd
 change Spec _ _ _ _ (fun o r=>∃c,o=[c++[.v y]]/\c=wP T (if s.e=0 then ⟨s.i,(qG T s).pos,10⟩ else s)/\r=.tup []) at hf1
 change Spec _ _ _ _ (fun o r=>∃c,o=[c++[.v y]]/\c=wP T (if s.e=0 then ⟨s.i,(qG T s).pos,6⟩ else s)/\r=.tup []) at hf2
 generalize qG T s=t at *;refine eN ju4 qB 1 Tryz.func45 rfl ?_;intro _;conv=>whnf
 (refine iA ?_;try with_reducible exact trivial)
 (generalize hrq:jD _ _ (z8 T)=rq;obtain rfl:rq=cR t:=hrq.symm.trans (hr);clear hrq;conv=>whnf)
 by_cases hk:t.kind=2
 ·rw[jJ hk];conv=>whnf
  by_cases hm:m<t.n
  ·rw[jJ hm];conv=>whnf
   refine jT 0 [] hf2 ?_;rintro o r ⟨c,ho,rfl,rfl⟩;cases ho;by_cases h0:s.e=0
   ·rw[if_pos h0,if_pos h0,if_neg (by rw[hk];simp),if_pos hm,if_neg (fun h=>by omega)];conv=>whnf
    exact⟨_,rfl,rfl,rfl⟩
   ·rw[if_neg h0,if_neg h0,if_neg (fun h=>h0 h.1)];conv=>whnf
    rw[jG h0];conv=>whnf
    exact⟨_,rfl,rfl,rfl⟩
  ·rw[jG hm];conv=>whnf
   by_cases h0:s.e=0
   ·rw[jJ h0,if_pos h0,if_neg (by rw[hk];simp),if_neg hm,if_pos ⟨h0,hk,by omega⟩];conv=>whnf
    refine jT 0 [] htk ?_;rintro o r ⟨c,ho,rfl,rfl⟩;cases ho;conv=>whnf
    exact⟨_,rfl,rfl,rfl⟩
   ·rw[jG h0,if_neg h0,if_neg (fun h=>h0 h.1)];conv=>whnf
    exact⟨_,rfl,rfl,rfl⟩
 ·rw[jG hk];conv=>whnf
  refine jT 0 [] hf1 ?_;rintro o r ⟨c,ho,rfl,rfl⟩;cases ho;by_cases h0:s.e=0
  ·rw[if_pos h0,if_pos h0,if_pos hk,if_neg (fun h=>hk h.2.1)];conv=>whnf
   exact⟨_,rfl,rfl,rfl⟩
  ·rw[if_neg h0,if_neg h0,if_neg (fun h=>h0 h.1)];conv=>whnf
   rw[jG h0];conv=>whnf
   exact⟨_,rfl,rfl,rfl⟩
section
def Ws6(s:ByteArray):Prop:=∃c r,s.data.toList=c::r/\wG c=false
theorem xQ{c:UInt8}{r:List UInt8}(h:wG c=false):Ws6 ⟨(c::r).toArray⟩:=⟨c,r,rfl,h⟩
theorem js1{s:ByteArray}{ts:List Tk}(hs:Ws6 s)(ht:K6 (hd ts)):q8 s ts=decide ((hd ts).text=s):=by
 obtain⟨c,r,hs,hc⟩:=hs;unfold q8;by_cases h:(hd ts).text=s
 ·rw[jJ h];rcases ht with ⟨h1,_⟩|⟨h1,_⟩|⟨_,h1⟩|⟨_,d,r',h2,h3⟩
  ·rw[jJ h1];rfl
  ·rw[jJ h1];simp
  ·rw[h,hs] at h1;exact absurd h1 (by simp)
  ·rw[h,hs] at h2;cases h2;rw[hc] at h3;cases h3
 ·rw[jG h];rfl
theorem zF{T:List Tk}(hT:Ks T){s:S6}(hi:s.i<T.length){w:ByteArray}(hw:Ws6 w):q8 w (T.drop s.i)=decide ((qG T s).text=w):=js1 hw (hT.hd hi)
theorem jjq{T:List Tk}(hT:Ks T){s:S6}(hi:s.i<T.length):∀{l:List ByteArray},(∀w∈l,Ws6 w)->bU l (T.drop s.i)=qD l (qG T s).text
 |[],_=>rfl
 |w::l,h=>by
  unfold bU qD;rw[List.any_cons,List.any_cons,zF hT hi (h w List.mem_cons_self)]
  have ih:=jjq hT hi (l:=l) fun x hx=>h x (List.mem_cons_of_mem _ hx)
  unfold bU qD at ih;rw[ih]
  congr 1
  by_cases e:(qG T s).text=w
  ·rw[jJ e,jJ e.symm]
  ·rw[jG e,jG (fun h=>e h.symm)]
def Dq(T:List Tk)(s s':S6)(P:Pn)(f:Nt):Prop:=s'.i<T.length/\(s.e≠0->s'.a=s.a/\s'.e=s.e)/\(s.e=0->match P with
 |.ok g r=>s'.e=0/\s'.a=s.a/\f=g/\T.drop s'.i=r
 |.bad x e=>e≠0/\s'.e=e/\s'.a=x)
variable{T:List Tk}
theorem zM{s s1 s2:S6}{P1:Pn}{K:Nt->List Tk->Pn}{f1 f2:Nt}(h1:Dq T s s1 P1 f1)(h2:Dq T s1 s2 (K f1 (T.drop s1.i)) f2):Dq T s s2 (P1.andThen K) f2:=by
 obtain⟨a1,a2,a3⟩:=h1;obtain⟨b1,b2,b3⟩:=h2;refine⟨b1,fun h=>?_,fun h=>?_⟩
 ·obtain⟨q1,q2⟩:=a2 h;obtain⟨q3,q4⟩:=b2 (by rw[q2];exact h);exact⟨q3.trans q1,q4.trans q2⟩
 ·have a3:=a3 h
  cases P1 with
  |ok g r =>
   obtain⟨q1,q2,rfl,rfl⟩:=a3;have b3:=b3 q1
   show match K f1 (T.drop s1.i) with|.ok g r=>_|.bad x e=>_
   cases hK:K f1 (T.drop s1.i) with
   |ok g2 r2 =>
    rw[hK] at b3;exact⟨b3.1,b3.2.1.trans q2,b3.2.2.1,b3.2.2.2⟩
   |bad x e=>rw[hK] at b3;exact b3
  |bad x e =>
   obtain⟨q1,q2,q3⟩:=a3;obtain⟨q4,q5⟩:=b2 (by rw[q2];exact q1);exact⟨q1,q5.trans q2,q4.trans q3⟩
theorem yE{s:S6}(hi:s.i<T.length)(f:Nt):Dq T s s (.ok f (T.drop s.i)) f:=⟨hi,fun _=>⟨rfl,rfl⟩,fun h=>⟨h,rfl,rfl,rfl⟩⟩
theorem sQ{s s':S6}(hi:s'.i<T.length)(h:s.e≠0)(ha:s'.a=s.a)(he:s'.e=s.e)(P:Pn)(f:Nt):Dq T s s' P f:=⟨hi,fun _=>⟨ha,he⟩,fun h0=>absurd h0 h⟩
theorem jmw{s s':S6}(hi:s'.i<T.length)(h:s.e=0){x e:Int}(he:e≠0)(h1:s'.e=e)(h2:s'.a=x)(f:Nt):Dq T s s' (.bad x e) f:=⟨hi,fun h0=>absurd h h0,fun _=>⟨he,h1,h2⟩⟩
theorem jex{s s1 s2:S6}{P P1:Pn}{f:Nt}(h2:Dq T s1 s2 P1 f)(hn:s.e≠0->s1=s)(ho:s.e=0->(s1.e=0/\s1.a=s.a/\P=P1)∨(s1.e≠0/\P=.bad s1.a s1.e)):Dq T s s2 P f:=by
 obtain⟨b1,b2,b3⟩:=h2;refine⟨b1,fun h=>?_,fun h=>?_⟩
 ·have:=hn h;subst this;exact b2 h
 ·rcases ho h with ⟨q1,q2,rfl⟩|⟨q1,rfl⟩
  ·have b3:=b3 q1
   cases P with
   |ok g r=>exact⟨b3.1,b3.2.1.trans q2,b3.2.2.1,b3.2.2.2⟩
   |bad x e=>exact b3
  ·obtain⟨q4,q5⟩:=b2 q1;exact⟨q1,q5,q4⟩
theorem bN(hT:Ks T){s:S6}(hi:s.i<T.length)(hk:(qG T s).kind≠0):xC T s=⟨s.i+1,s.a,s.e⟩:=by
 unfold xC;rw[if_pos (hT.next hi hk)]
theorem nT{s:S6}(hi:s.i<T.length):(xC T s).i<T.length:=by
 unfold xC;split
 ·assumption
 ·exact hi
theorem vB(s:S6):(xC T s).e=s.e/\(xC T s).a=s.a:=by
 unfold xC
 split <;> exact⟨rfl,rfl⟩
theorem vU{s:S6}(hi:s.i<T.length)(w:ByteArray):(bW T s w).i<T.length:=by
 unfold bW;split
 ·split
  ·exact nT hi
  ·exact hi
 ·exact hi
theorem jhj{s:S6}(hi:s.i<T.length)(w:ByteArray)(lv:Int):(sA T s w lv).i<T.length:=by
 unfold sA;split
 ·exact hi
 ·exact vU hi w
theorem oJ{s:S6}(hi:s.i<T.length)(m:Int):(mU T s m).i<T.length:=by
 unfold mU;split
 ·split
  ·exact hi
  ·split
   ·exact hi
   ·exact nT hi
 ·exact hi
theorem vC(hT:Ks T){s:S6}(hi:s.i<T.length){w:ByteArray}(hw:Ws6 w)(h:(qG T s).text=w):(qG T s).kind≠0 :=
 yS (ts:=T.drop s.i) (s:=w) (by rw[zF hT hi hw,h];simp)
theorem zH(hT:Ks T){s:S6}(hi:s.i<T.length)(hk:(qG T s).kind≠0):T.drop (xC T s).i=(T.drop s.i).tail:=by
 rw[bN hT hi hk,jbR]
theorem yF(hT:Ks T){s s2:S6}(hi:s.i<T.length){w:ByteArray}(hw:Ws6 w){K:List Tk->Pn}{f:Nt}(h2:Dq T (bW T s w) s2 (K (T.drop (bW T s w).i)) f):Dq T s s2 (xpt w (T.drop s.i) K) f:=by
 refine jex h2 (fun h=>by unfold bW;rw[if_neg h]) fun h=>?_
 unfold xpt;rw[zF hT hi hw];unfold bW;rw[if_pos h];by_cases e:(qG T s).text=w
 ·left;rw[if_pos e,if_pos (jJ e),zH hT hi (vC hT hi hw e)];exact⟨by rw[(vB s).1];exact h,(vB s).2,rfl⟩
 ·right;rw[if_neg e,if_neg (by rw[jG e];simp)];exact⟨show(10:Int)≠0 by decide,rfl⟩
theorem jmx(hT:Ks T){s s2:S6}(hi:s.i<T.length){m:Int}{K:Int->List Tk->Pn}{f:Nt}(h2:Dq T (mU T s m) s2 (K (vaN T s m) (T.drop (mU T s m).i)) f):Dq T s s2 (nX (m+1) (T.drop s.i) K) f:=by
 refine jex h2 (fun h=>by unfold mU;rw[if_neg h]) fun h=>?_
 have hX:nX (m+1) (T.drop s.i) K=(if (qG T s).kind≠2 then Pn.bad (qG T s).pos 10 else if m+1<=(qG T s).n then .bad (qG T s).pos 6 else K (qG T s).n (T.drop s.i).tail):=rfl;rw[hX];by_cases hk:(qG T s).kind=2
 ·have hk':¬(qG T s).kind≠2:=fun h=>h hk
  by_cases hm:m<(qG T s).n
  ·right
   have e1:mU T s m=⟨s.i,(qG T s).pos,6⟩:=by unfold mU;rw[if_pos h,if_neg hk',if_pos hm]
   rw[e1,if_neg hk',if_pos (by omega)];exact⟨show(6:Int)≠0 by decide,rfl⟩
  ·left
   have e1:mU T s m=xC T s:=by unfold mU;rw[if_pos h,if_neg hk',if_neg hm]
   have e2:vaN T s m=(qG T s).n:=by unfold vaN;rw[if_pos ⟨h,hk,by omega⟩]
   rw[e1,e2,if_neg hk',if_neg (by omega),zH hT hi (by rw[hk];decide)];exact⟨by rw[(vB s).1];exact h,(vB s).2,rfl⟩
 ·right
  have e1:mU T s m=⟨s.i,(qG T s).pos,10⟩:=by unfold mU;rw[if_pos h,if_pos hk]
  rw[e1,if_pos hk];exact⟨show(10:Int)≠0 by decide,rfl⟩
def RU(T:List Tk)(s:S6)(op:List Tk->Pn)(c:List A)(r:A):Prop:=∃s' f,Dq T s s' (op (T.drop s.i)) f/\c=wP T s'/\r=.agg (ntA f)
def RW(T:List Tk)(s:S6)(op:List Tk->Pn)(c:List A)(r:A):Prop:=∃s' f l,Dq T s s' (op (T.drop s.i)) f/\c=wP T s'/\r=.agg l/\WkL l (ntA f)
theorem jkh{g:Nat}{cs args:List A}{s:S6}{op:List Tk->Pn}(h:SpecU g cs args (RW T s op)):SpecU g cs args (RU T s op) :=
 h.weaken fun c r ⟨s',f,l,h1,h2,h3,h4⟩=>⟨c,.agg (ntA f),⟨s',f,h1,h2,rfl⟩,rfl,by rw[h3];exact .agg h4⟩
def aD(T:List Tk)(lv prec:Int)(op:List Tk->Pn):Prop:=∀s:S6,s.i<T.length->SpecU 67 (wP T s) [.box 0 0,intA lv,intA prec] (RU T s op)
def tR(T:List Tk)(g:Nat)(lv:Int)(op:List Tk->Pn):Prop:=∀s:S6,s.i<T.length->SpecU g (wP T s) [.box 0 0,intA lv] (RU T s op)
theorem jqi{lv prec:Int}{s:S6}(hi:s.i<T.length)(he:s.e≠0)(op:List Tk->Pn):SpecU 67 (wP T s) [.box 0 0,intA lv,intA prec] (RU T s op):=jkh fun y hy=>by
 refine eN jR qB 1 Tryz.func67 rfl ?_;intro _;conv=>whnf
 rw[jG he];conv=>whnf
 exact⟨_,rfl,s,.mk 0 0 eB [],_,sQ hi he rfl rfl _ _,rfl,rfl,qC (f:=.mk 0 0 eB []) rfl⟩
end
section
def opx(sel:Pa->List Tk->Pn):Option Pa->List Tk->Pn
 |none=>fun _=>.bad 0 1
 |some p=>sel p
def LowR6(T:List Tk)(lv:Int)(low:Option Pa):Prop:=0<=lv/\((low=none/\lv=20)∨∃p,low=some p/\lv+1<=20 ∧
 aD T (lv+1) 3 p.no/\aD T (lv+1) 7 p.un/\aD T (lv+1) 1 p.ex/\tR T 19 (lv+1) p.bl)
theorem LowR6.le{T:List Tk}{lv:Int}{low:Option Pa}(h:LowR6 T lv low):0<=lv/\lv<=20:=by
 obtain⟨h0,⟨_,rfl⟩|⟨_,_,h,_⟩⟩:=h
 ·omega
 ·omega
variable{T:List Tk}
theorem jj4{s:S6}{w:ByteArray}{lv:Int}(h:lv<=20):sA T s w lv=bW T s w:=by
 unfold sA;rw[if_neg (fun k=>by omega)]
theorem jbK(s:S6)(w:ByteArray):(sA T s w 21).e≠0:=by
 unfold sA;by_cases h:s.e=0/\(qG T s).text=w/\(20:Int)<21
 ·rw[if_pos h];exact show(2:Int)≠0 by decide
 ·rw[if_neg h];unfold bW;by_cases h0:s.e=0
  ·rw[if_pos h0,if_neg (fun e=>h ⟨h0,e,by decide⟩)]
   exact show(10:Int)≠0 by decide
  ·rw[if_neg h0];exact h0
theorem jqK{lv prec:Int}{low:Option Pa}{sel:Pa->List Tk->Pn}(hlo:LowR6 T lv low)(hsel:∀p,low=some p->aD T (lv+1) prec (sel p))(s:S6)(hi:s.i<T.length)(w:ByteArray) :
  SpecU 67 (wP T (sA T s w (lv+1))) [.box 0 0,intA (lv+1),intA prec] (RU T (sA T s w (lv+1)) (opx sel low)):=by
 obtain⟨h0,⟨rfl,rfl⟩|⟨p,rfl,hle,_⟩⟩:=hlo
 ·exact jqi (jhj hi w _) (jbK s w) _
 ·exact hsel p rfl _ (jhj hi w _)
theorem mV{s:S6}(h:s.e≠0)(w:ByteArray):bW T s w=s:=by unfold bW;rw[if_neg h]
theorem jer(hT:Ks T){s s2 s3:S6}(hi:s.i<T.length){w:ByteArray}(hw:Ws6 w){P:Pn}{f:Nt}(h2:Dq T (sA T s w 21) s2 P f)(hs:s3.i<T.length/\(s2.e≠0->s3.a=s2.a/\s3.e=s2.e))(g:Nt) :
  Dq T s s3 (if q8 w (T.drop s.i)=true then .bad (hd (T.drop s.i)).pos 2 else synE (T.drop s.i)) g:=by
 have hd:=jbK (T:=T) s w;obtain⟨q1,q2⟩:=h2.2.1 hd;obtain⟨q3,q4⟩:=hs.2 (by rw[q2];exact hd);refine⟨hs.1,fun h=>?_,fun h=>?_⟩
 ·have:sA T s w 21=s:=by
   unfold sA;rw[if_neg (fun k=>h k.1),mV h]
  rw[this] at q1 q2;exact⟨q3.trans q1,q4.trans q2⟩
 ·rw[zF hT hi hw];by_cases e:(qG T s).text=w
  ·rw[if_pos (jJ e)]
   have:sA T s w 21=⟨s.i,(qG T s).pos,2⟩:=by unfold sA;rw[if_pos ⟨h,e,by decide⟩]
   rw[this] at q1 q2;exact⟨by decide,q4.trans q2,q3.trans q1⟩
  ·rw[if_neg (by rw[jG e];simp)]
   have:sA T s w 21=⟨s.i,(qG T s).pos,10⟩:=by
    unfold sA bW;rw[if_neg (fun k=>e k.2.1),if_pos h,if_neg e]
   rw[this] at q1 q2;exact⟨by decide,q4.trans q2,q3.trans q1⟩
theorem jps(hT:Ks T){lv:Int}{low:Option Pa}(hlo:LowR6 T lv low){s s2:S6}(hi:s.i<T.length){f:Nt}(h2:Dq T (sA T s pLp (lv+1)) s2 (opx (·.ex) low (T.drop (sA T s pLp (lv+1)).i)) f) :
  Dq T s (bW T s2 pRp) (cD low (T.drop s.i)) f:=by
 have hi2:=h2.1;obtain⟨h0,⟨rfl,rfl⟩|⟨p,rfl,hle,_⟩⟩:=hlo
 ·exact jer hT hi (xQ (by decide)) h2 ⟨vU hi2 _,fun h=>by rw[mV h];exact⟨rfl,rfl⟩⟩ f
 ·rw[jj4 (by omega)] at h2;exact yF hT hi (xQ (by decide)) (K:=fun r=>(p.ex r).andThen fun n r=>xpt pRp r fun r'=>.ok n r') (zM h2 (yF hT hi2 (xQ (by decide)) (yE (vU hi2 _) f)))
theorem jsu(hT:Ks T){lv:Int}{low:Option Pa}(hlo:LowR6 T lv low){sel:Pa->List Tk->Pn}{s s2:S6}(hi:s.i<T.length){w:ByteArray}(hw:Ws6 w)(htx:s.e=0->(qG T s).text=w){f:Nt}(h2:Dq T (sA T s w (lv+1)) s2 (opx sel low (T.drop (sA T s w (lv+1)).i)) f) :
  Dq T s s2 (tE w (low.map sel) (T.drop s.i)) (.mk 17 0 w [f]):=by
 by_cases he:s.e=0
 ·have hp:q8 w (T.drop s.i)=true:=by rw[zF hT hi hw];exact jJ (htx he)
  obtain⟨h0,⟨rfl,rfl⟩|⟨p,rfl,hle,_⟩⟩:=hlo
  ·have:=jer hT hi hw h2 ⟨h2.1,fun _=>⟨rfl,rfl⟩⟩ (.mk 17 0 w [f]);rw[if_pos hp] at this;exact this
  ·rw[jj4 (by omega)] at h2;have:=yF hT hi hw (K:=fun r=>(sel p r).andThen fun n r=>.ok (.mk 17 0 w [n]) r) (zM h2 (yE h2.1 (.mk 17 0 w [f])));unfold xpt at this;rw[if_pos hp] at this;exact this
 ·have hs:sA T s w (lv+1)=s:=by
   unfold sA;rw[if_neg (fun k=>he k.1),mV he]
  rw[hs] at h2;obtain⟨q1,q2⟩:=h2.2.1 he;exact sQ h2.1 he q1 q2 _ _
theorem jpN{lv:Int}{low:Option Pa}(hT:Ks T)(hlo:LowR6 T lv low):tR T 104 lv (cD low):=fun s hi y hy=>by
 have hle:=hlo.le;have hop:=jf4 hT hi pLp (lv+1) y hy
 have hx:=jqK hlo (sel:=(·.ex)) (prec:=1) (fun p hp=>by
  obtain⟨_,⟨h,_⟩|⟨q,hq,_,_,_,h,_⟩⟩:=hlo
  ·rw[h] at hp;cases hp
  ·rw[hq] at hp;cases hp;exact h) s hi pLp y hy
 have hdq:=fun s2 f=>jps hT hlo (s:=s) (s2:=s2) (f:=f) hi
 have hi1:=jhj hi pLp (lv+1);generalize sA T s pLp (lv+1)=s1 at *;refine eN jR qB 1 Tryz.func104 rfl ?_;intro _;conv=>whnf
 refine⟨jH (by omega),?_⟩;conv=>whnf
 refine jT 0 [] hop ?_;rintro o r ⟨c,ho,rfl,rfl⟩;cases ho;conv=>whnf
 refine⟨jH (by omega),?_⟩;conv=>whnf
 refine jT 0 [] hx ?_;rintro o r ⟨c,ho,s2,f,hq,rfl,rfl⟩;cases ho;have hxp:=qO hT hq.1 pRp y hy;conv=>whnf
 refine jT 0 [] hxp ?_;rintro o r ⟨c,ho,rfl,rfl⟩;cases ho;conv=>whnf
 exact⟨_,rfl,_,f,hdq _ _ hq,rfl,rfl⟩
theorem jnO{lv prec:Int}{low:Option Pa}(hT:Ks T)(hlo:LowR6 T lv low){sel:Pa->List Tk->Pn}(hsel:∀p,low=some p->aD T (lv+1) prec (sel p)){w:ByteArray}(hw:Ws6 w)(s:S6)(hi:s.i<T.length)(htx:s.e=0->(qG T s).text=w) :
  SpecU 88 (wP T s) [.box 0 0,jX w,intA lv,intA prec] (RU T s (tE w (low.map sel))):=fun y hy=>by
 have hle:=hlo.le;have hop:=jf4 hT hi w (lv+1) y hy;have hx:=jqK hlo hsel s hi w y hy
 have hdq:=fun s2 f=>jsu hT hlo (sel:=sel) (s:=s) (s2:=s2) (f:=f) hi hw htx
 have hi1:=jhj hi w (lv+1);generalize sA T s w (lv+1)=s1 at *;refine eN jR qB 1 Tryz.func88 rfl ?_;intro _;conv=>whnf
 refine⟨jH (by omega),?_⟩;conv=>whnf
 refine jT 0 [] hop ?_;rintro o r ⟨c,ho,rfl,rfl⟩;cases ho;conv=>whnf
 refine⟨jH (by omega),?_⟩;conv=>whnf
 refine jT 0 [] hx ?_;rintro o r ⟨c,ho,s2,f,hq,rfl,rfl⟩;cases ho;conv=>whnf
 exact⟨_,rfl,_,.mk 17 0 w [f],hdq _ _ hq,rfl,by rw[wH];rfl⟩
end
section
variable{T:List Tk}
theorem rH(hT:Ks T){s s2:S6}(hi:s.i<T.length)(h0:s.e=0)(hk:(qG T s).kind≠0){P:List Tk->Pn}{f:Nt}(h2:Dq T (xC T s) s2 (P (T.drop (xC T s).i)) f):Dq T s s2 (P (T.drop s.i).tail) f :=
 jex h2 (fun h=>absurd h0 h) fun _=>.inl ⟨by rw[(vB s).1];exact h0,(vB s).2,by rw[zH hT hi hk]⟩
theorem jp7(hT:Ks T){s:S6}(hi:s.i<T.length)(h0:s.e=0)(hk:(qG T s).kind≠0)(f:Nt):Dq T s (xC T s) (.ok f (T.drop s.i).tail) f :=
 rH hT hi h0 hk (P:=fun r=>.ok f r) (yE (nT hi) f)
def jhU(k:Nat)(op:List Tk->Pn)(signs:List ByteArray)(ts:List Tk):Pn:=(op ts).andThen fun f r=>wZ op signs (if k=4 then 1 else r.length) f r
def opsA:List A:=[.v (.slice none 0 0),.sl 1 1 [jX pOr],.sl 1 1 [jX k9],.v (.slice none 0 0),.sl 1 6 [jX pLt,jX pLe,jX pGt,jX pGe,jX jnu,jX pNe],.sl 1 2 [jX dQ,jX pMinus],.sl 1 2 [jX vZ,jX yG]]
def jlC(T:List Tk)(lv:Int)(k:Nat)(op:List Tk->Pn):Prop:=∀s:S6,s.i<T.length->SpecU 89 (wP T s) [.box 0 0,intA lv,.v (.int .i64 k)] (RU T s op)
theorem jmd{op:List Tk->Pn}{signs:List ByteArray}{n:Nat}{l:Nt}{ts:List Tk}(h:bU signs ts=false):wZ op signs n l ts=.ok l ts:=by
 cases n with
 |zero=>rfl
 |succ m=>rw[wZ,if_neg (by rw[h];simp)]
def juc(id:Nat):Tr:=match Nat.beq id 3 with
 |true=>.q 0 3 (.q 1 3 (.q 2 3 (.q 3 0 (.q 4 3 (.q 5 3 (.q 6 3 (.q 7 3 (.q 8 3 (.q 10 3 (.alt 9 2 (.alt 11 2 (.alt 12 2 (.q 13 3 .nil) .nil) .nil) (.alt 11 2 (.alt 9 2 (.alt 12 2 (.q 13 3 .nil) .nil) .nil) .nil)))))))))))
 |false=>.nil
theorem rY{lv:Int}(hT:Ks T)(k:Nat)(hk6:k<=6){signs:List ByteArray}{op:List Tk->Pn}(hlen:signs.length<=10)(hrow:jD 1 k opsA=[.sl 1 signs.length (yV signs)])(hsg:∀w∈signs,Ws6 w)(hx:aD T lv (k+1) op)(hgo:qZ op):jlC T lv k (jhU k op signs):=fun s0 hi0 y hy=>by
 obtain⟨P,hP⟩:∃P,jhU k op signs (T.drop s0.i)=P:=⟨_,rfl⟩
 unfold RU;rw[hP];unfold jhU at hP;have hx0:=hx s0 hi0 y hy
 obtain⟨oA,hoA⟩:∃oA,opsA=oA:=⟨_,rfl⟩
 rw[hoA] at hrow;unfold opsA at hoA
 have hol:oA.length=7:=by rw[<- hoA];rfl
 refine eN juc qB 1 Tryz.func89 rfl ?_;intro _;conv=>whnf
 refine⟨jH (by omega),?_⟩;conv=>whnf
 refine jT 0 [] hx0 ?_;rintro o r ⟨c,ho,s1,f1,hq1,rfl,rfl⟩;cases ho;conv=>whnf
 refine nL [5] ?_;conv=>whnf
 refine jC [0,1,2,6,8] ?_;conv=>whnf
 refine jI (fun _:Nat×Nt×S6=>[(7,.sl 1 7 oA)]) (fun x=>[wP T x.2.2++[.v y],jc7,ntA x.2.1]) (fun _=>[]) (fun x=>x.2.2.i<T.length/\(k=4->x.1=1)/\(k≠4->x.2.2.e=0->(T.drop x.2.2.i).length<=x.1)/\∀s' f',Dq T x.2.2 s' (wZ op signs x.1 x.2.1 (T.drop x.2.2.i)) f'->Dq T s0 s' P f') (fun x=>if x.2.2.e=0 then T.length-x.2.2.i+1 else 0) (if k=4 then 1 else(T.drop s1.i).length,f1,s1) ?_ ⟨hq1.1,fun h=>if_pos h,fun h _=>by simp only;rw[if_neg h];exact Nat.le_refl _,fun s' f' h=>by rw[<- hP];exact zM hq1 h⟩ ?_
 ·rw[<- hoA];repeat' constructor
 rintro⟨n,left,s⟩ ⟨hi,hn4,hn,hinv⟩
 simp only at hi hn4 hn hinv
 have hnx:=xT hi y hy;have htk:=n8 hT hi y hy;have hhs:=xZ signs (qG T s).text (by omega);have hat:=jjq hT hi hsg;conv=>whnf
 by_cases h0:s.e=0
 ·apply cB
  ·conv=>whnf
   rw[jJ h0];conv=>whnf
   refine⟨by omega,?_⟩;conv=>whnf
   refine⟨?_,?_⟩
   ·conv=>whnf
    (generalize hrq:jD _ _ (oA)=rq;obtain rfl:rq=[.sl 1 signs.length (yV signs)]:=hrq.symm.trans (hrow);clear hrq;conv=>whnf)
    refine jT 0 [] hnx ?_;rintro o r ⟨c,ho,rfl,rfl⟩;cases ho;conv=>whnf
    (refine kL [] hhs ?_;rintro r rfl;conv=>whnf)
   ·conv=>whnf
    refine jT 0 [] hnx ?_;rintro o r ⟨c,ho,rfl,rfl⟩;cases ho;conv=>whnf
    (generalize hrq:jD _ _ (oA)=rq;obtain rfl:rq=[.sl 1 signs.length (yV signs)]:=hrq.symm.trans (hrow);clear hrq;conv=>whnf)
    (refine kL [] hhs ?_;rintro r rfl;conv=>whnf)
  conv=>whnf
  cases hq:qD signs (qG T s).text with
  |true =>
   rw[hq] at hat
   obtain⟨n1,rfl⟩:∃n1,n=n1+1:=by
    by_cases h4:k=4
    ·exact⟨0,hn4 h4⟩
    ·have:=hn h4 h0;rw[List.length_drop] at this;exact⟨n-1,by omega⟩
   have hkd:(qG T s).kind≠0:=by
    obtain⟨w,hw⟩:=eE hat;exact yS hw
   have hst:=bN hT hi hkd;have hin:=hT.next hi hkd;rw[wZ,if_pos hat] at hinv;have hx1:=hx (xC T s) (nT hi) y hy;have hdt:T.drop (xC T s).i=(T.drop s.i).tail:=zH hT hi hkd
   have hgo1:=fun f r (e:op (T.drop (xC T s).i)=.ok f r)=>hgo _ _ _ (hT.p (nT hi)) e
   conv=>whnf
   refine jT 0 [] hnx ?_;rintro o r ⟨c,ho,rfl,rfl⟩;cases ho;conv=>whnf
   refine jT 0 [] htk ?_;rintro o r ⟨c,ho,rfl,rfl⟩;cases ho;conv=>whnf
   refine⟨jH (by omega),?_⟩;conv=>whnf
   refine jT 0 [] hx1 ?_;rintro o r ⟨c,ho,s2,f2,hq2,rfl,rfl⟩;cases ho
   have hstep:∀s' f',Dq T s2 s' (wZ op signs n1 (.mk 18 0 (qG T s).text [left,f2]) (T.drop s2.i)) f'->Dq T s0 s' P f':=fun s' f' h=>by
    refine hinv s' f' (rH hT hi h0 hkd (P:=fun r=>(op r).andThen fun f r=>wZ op signs n1 (.mk 18 0 (hd (T.drop s.i)).text [left,f]) r) (zM hq2 h))
   conv=>whnf
   by_cases h4:k=4
   ·rw[jJ (show(k:Int)=4 by omega)]
    have hn1:n1=0:=by have:=hn4 h4;omega
    subst hn1;conv=>whnf
    refine⟨_,rfl,s2,.mk 18 0 (qG T s).text [left,f2],hstep _ _ (yE hq2.1 _),rfl,by rw[yZ];rfl⟩
   ·rw[jG (show ¬(k:Int)=4 by omega)];conv=>whnf
    have hlt:s2.e=0->(T.drop s2.i).length+1<=(T.drop s.i).length:=fun e2=>by
     have h5:=hq2.2.2 (by rw[(vB s).1];exact h0)
     cases hop:op (T.drop (xC T s).i) with
     |ok g r =>
      rw[hop] at h5;have h6:=(hgo1 g r hop).2;rw[h5.2.2.2];rw[hdt,List.length_tail,List.length_drop] at h6;rw[List.length_drop];omega
     |bad x e =>
      rw[hop] at h5;exact absurd (h5.2.1.symm.trans e2) h5.1
    refine⟨(n1,.mk 18 0 (qG T s).text [left,f2],s2),jjU [0] [] ?_,⟨hq2.1,fun h=>absurd h h4,fun _ e2=>?_,hstep⟩,?_⟩
    ·conv=>whnf
     repeat' constructor
     show A.sl 4 2 _=A.sl 4 2 (qW [left,f2]);rw[zT,zT,kY];rfl
    ·have h5:=hn h4 h0;have h6:=hlt e2
     simp only
     omega
    ·simp only
     rw[if_pos h0];by_cases e2:s2.e=0
     ·have h6:=hlt e2;rw[List.length_drop,List.length_drop] at h6;rw[if_pos e2];omega
     ·rw[if_neg e2];omega
  |false =>
   rw[hq] at hat;conv=>whnf
   exact⟨_,rfl,s,left,hinv _ _ (by rw[jmd hat];exact yE hi _),rfl,rfl⟩
 ·apply cB
  ·conv=>whnf
   rw[jG h0];conv=>whnf
   refine⟨?_,?_⟩ <;> (conv=>whnf)
  conv=>whnf
  exact⟨_,rfl,s,left,hinv _ _ (sQ hi h0 rfl rfl _ _),rfl,rfl⟩
end
section
variable{T:List Tk}
theorem jp0:∀w∈builtL,∃c r,w.data.toList=c::r/\isL c=true:=by
 intro w hw;simp only[builtL,List.mem_cons,List.not_mem_nil,or_false] at hw
 rcases hw with rfl|rfl|rfl|rfl|rfl|rfl|rfl|rfl|rfl <;> exact⟨_,_,rfl,by decide⟩
theorem jcY{t:Tk}(h:K6 t)(hb:qD builtL t.text=true):t.kind=1:=by
 obtain⟨w,hw,e⟩:=List.any_eq_true.1 hb;have e:=of_decide_eq_true e;obtain⟨c,r,h1,h2⟩:=jp0 w hw;rw[e] at h1;rcases h with ⟨hk,_⟩|⟨_,d,r',h3,h4⟩|⟨_,h3⟩|⟨_,d,r',h3,h4⟩
 ·exact hk
 ·rw[h1] at h3;cases h3;unfold wD at h4;rw[h2] at h4;cases h4
 ·rw[h1] at h3;cases h3
 ·rw[h1] at h3;cases h3;rw[jqH h2] at h4;cases h4
theorem jpl{ts:List Tk}(h:K6 (hd ts)):jgk ts=qD builtL (hd ts).text:=by
 unfold jgk;rw[je9];cases hb:qD builtL (hd ts).text
 ·rw[Bool.and_false]
 ·rw[jcY h hb];rfl
theorem jij{ts:List Tk}(h:qD builtL (hd ts).text=true):wQ ts=false:=by
 have h2:(keyL++builtL).any (fun s=>decide ((hd ts).text=s))=true:=by
  rw[List.any_append,je9 builtL,h,Bool.or_true]
 have:wQ ts=(decide ((hd ts).kind=1) && !(keyL++builtL).any fun s=>decide ((hd ts).text=s)):=rfl;rw[this,h2,Bool.not_true,Bool.and_false]
theorem jnJ{lv:Int}{low:Option Pa}(hT:Ks T)(hlo:LowR6 T lv low)(s:S6)(hi:s.i<T.length)(h0:s.e=0):SpecU 90 (wP T s) [.box 0 0,intA lv] (RU T s (dS low)):=jkh fun y hy=>by
 obtain⟨P,hP⟩:∃P,dS low (T.drop s.i)=P:=⟨_,rfl⟩
 unfold RW;rw[hP];have hr:=xV T s.i hi;have hne:=jpN hT hlo;have hk6:=hT.hd hi;have hnm:=jbw hi y hy;have hfl:=nY s.i hi 10 (s:=s) y hy;have hbi:=jpl hk6;have hnb:=jij (ts:=T.drop s.i)
 have htk:=fun(w:ByteArray) (hw:Ws6 w) (h:(qG T s).text=w)=>vC hT hi hw h
 have hkk:=fun(f:Nt) (h:(qG T s).kind≠0)=>jp7 hT hi h0 h f
 have hnk:=fun h=>yW (ts:=T.drop s.i) h
 have hhs:=xZ builtL (qG T s).text (by decide);have hsy:synE (T.drop s.i)=.bad (qG T s).pos 10:=rfl;unfold stF at hfl;rw[if_pos h0] at hfl;unfold dS at hP;rw[zF hT hi (w:=pLp) (xQ (by decide)),zF hT hi (w:=uO) (xQ (by decide)),zF hT hi (w:=uP) (xQ (by decide)),zF hT hi (w:=lT) (xQ (by decide)),hbi,hsy] at hP
 change jD 4 s.i (z8 T)=cR (qG T s) at hr
 obtain⟨t,ht⟩:∃t,qG T s=t:=⟨_,rfl⟩
 have hht:hd (T.drop s.i)=t:=ht;have hta:=n8 hT hi y hy;rw[ht] at hr hP hkk hhs;simp only[ht] at htk;rw[hht] at hP hnb hnk hfl;refine eN jub qB 1 Tryz.func90 rfl ?_;intro _;conv=>whnf
 (refine iA ?_;try with_reducible exact trivial)
 (generalize hrq:jD _ _ (z8 T)=rq;obtain rfl:rq=cR t:=hrq.symm.trans (hr);clear hrq;conv=>whnf)
 conv=>whnf
 by_cases h1:t.text=pLp
 ·rw[jJ (p:=t.text=⟨_⟩) h1];rw[if_pos (jJ h1)] at hP;have hn:=hne s hi y hy;unfold RU at hn;rw[hP] at hn;conv=>whnf
  refine jT 0 [] hn ?_;rintro o r ⟨c,ho,s2,f,hq,rfl,rfl⟩;cases ho;conv=>whnf
  exact⟨_,rfl,s2,f,_,hq,rfl,rfl,qQ _⟩
 rw[jG (p:=t.text=⟨_⟩) h1];rw[if_neg (by rw[jG h1];simp)] at hP;conv=>whnf
 by_cases h2:t.text=uO
 ·rw[jJ (p:=t.text=⟨_⟩) h2];rw[if_pos (jJ h2)] at hP;have hkd:=htk _ (xQ (by decide)) h2;have hn:=hne (xC T s) (nT hi) y hy;conv=>whnf
  refine jT 0 [] hta ?_;rintro o r ⟨c,ho,rfl,rfl⟩;cases ho;conv=>whnf
  refine jT 0 [] hn ?_;rintro o r ⟨c,ho,s2,f,hq,rfl,rfl⟩;cases ho;conv=>whnf
  refine⟨_,rfl,s2,.mk 16 0 eB [f],_,?_,rfl,rfl,?_⟩
  ·rw[<- hP];exact rH hT hi h0 (by rw[ht];exact hkd) (P:=fun r=>(cD low r).andThen fun n r=>.ok (.mk 16 0 eB [n]) r) (zM hq (yE hq.1 _))
  ·rw[wH];exact qQ _
 rw[jG (p:=t.text=⟨_⟩) h2];rw[if_neg (by rw[jG h2];simp)] at hP;conv=>whnf
 by_cases h3:t.kind=2
 ·rw[jJ h3];rw[if_pos h3] at hP;conv=>whnf
  refine jT 0 [] hta ?_;rintro o r ⟨c,ho,rfl,rfl⟩;cases ho;subst hP;conv=>whnf
  exact⟨_,rfl,_,(.mk 12 t.n eB []),_,hkk _ (by rw[h3];decide),rfl,rfl,qC (f:=(.mk 12 t.n eB [])) rfl⟩
 rw[jG h3];rw[if_neg h3] at hP;conv=>whnf
 by_cases h4:t.text=uP
 ·rw[jJ (p:=t.text=⟨_⟩) h4];rw[if_pos (jJ h4)] at hP;conv=>whnf
  refine jT 0 [] hta ?_;rintro o r ⟨c,ho,rfl,rfl⟩;cases ho;subst hP;conv=>whnf
  exact⟨_,rfl,_,(.mk 13 1 eB []),_,hkk _ (htk _ (xQ (by decide)) h4),rfl,rfl,qC (f:=(.mk 13 1 eB [])) rfl⟩
 rw[jG (p:=t.text=⟨_⟩) h4];rw[if_neg (by rw[jG h4];simp)] at hP;conv=>whnf
 by_cases h5:t.text=lT
 ·rw[jJ (p:=t.text=⟨_⟩) h5];rw[if_pos (jJ h5)] at hP;conv=>whnf
  refine jT 0 [] hta ?_;rintro o r ⟨c,ho,rfl,rfl⟩;cases ho;subst hP;conv=>whnf
  exact⟨_,rfl,_,(.mk 13 0 eB []),_,hkk _ (htk _ (xQ (by decide)) h5),rfl,rfl,qC (f:=(.mk 13 0 eB [])) rfl⟩
 rw[jG (p:=t.text=⟨_⟩) h5];rw[if_neg (by rw[jG h5];simp)] at hP;conv=>whnf
 (refine kL [] cL ?_;rintro r rfl;conv=>whnf)
 (refine kL [] hhs ?_;rintro r rfl;conv=>whnf)
 cases hb:qD builtL t.text with
 |true =>
  rw[hnb hb,if_neg (by simp),if_pos hb] at hP;conv=>whnf
  refine jT 0 [] hta ?_;rintro o r ⟨c,ho,rfl,rfl⟩;cases ho;subst hP;conv=>whnf
  exact⟨_,rfl,_,(.mk 15 0 t.text []),_,hkk _ (by rw[<- hht];rw[jcY hk6 (by rw[hht];exact hb)];decide),rfl,rfl,qC (f:=(.mk 15 0 t.text [])) rfl⟩
 |false =>
  rw[hb] at hP;conv=>whnf
  refine jT 0 [] hnm ?_;rintro o r ⟨c,ho,rfl,rfl⟩;cases ho;conv=>whnf
  cases hn:wQ (T.drop s.i) with
  |true =>
   rw[if_pos hn] at hP;conv=>whnf
   refine jT 0 [] hta ?_;rintro o r ⟨c,ho,rfl,rfl⟩;cases ho;subst hP;conv=>whnf
   exact⟨_,rfl,_,(.mk 14 0 t.text []),_,hkk _ (by rw[hnk hn];decide),rfl,rfl,qC (f:=(.mk 14 0 t.text [])) rfl⟩
  |false =>
   rw[if_neg (by rw[hn];simp),if_neg (by simp)] at hP;conv=>whnf
   refine jT 0 [] hfl ?_;rintro o r ⟨c,ho,rfl,rfl⟩;cases ho;subst hP;conv=>whnf
   exact⟨_,rfl,_,.mk 0 0 eB [],_,jmw (s':=⟨s.i,t.pos,10⟩) hi h0 (show(10:Int)≠0 by decide) rfl rfl _,rfl,rfl,qC (f:=.mk 0 0 eB []) rfl⟩
end
section
variable{T:List Tk}
theorem mN{lv:Int}{op:List Tk->Pn}(k:Nat)(h3:k≠3)(h7:k≠7)(hb:jlC T lv k op):aD T lv k op:=fun s hi y hy=>by
 by_cases h0:s.e=0
 rotate_left
 ·exact jqi hi h0 _ y hy
 have hnx:=xT hi y hy;have hbn:=hb s hi y hy;have q3:decide ((k:Int)=3)=false:=jG (by omega);have q7:decide ((k:Int)=7)=false:=jG (by omega);refine eN jR qB 1 Tryz.func67 rfl ?_;intro _;conv=>whnf
 rw[jJ h0];conv=>whnf
 refine jT 0 [] hnx ?_;rintro o r ⟨c,ho,rfl,rfl⟩;cases ho;conv=>whnf
 rw[q3];conv=>whnf
 rw[q3];conv=>whnf
 rw[q7];conv=>whnf
 rw[q7];conv=>whnf
 refine jT 0 [] hbn ?_;rintro o r ⟨c,ho,s2,f,hq,rfl,rfl⟩;cases ho;conv=>whnf
 exact⟨_,rfl,s2,f,hq,rfl,rfl⟩
theorem jsA{lv:Int}{low:Option Pa}(hT:Ks T)(hlo:LowR6 T lv low)(hb:jlC T lv 4 (jhU 4 (jbP low) cmpL)):aD T lv 3 (uR low):=fun s hi y hy=>by
 by_cases h0:s.e=0
 rotate_left
 ·exact jqi hi h0 _ y hy
 have hnx:=xT hi y hy;have hbn:=hb s hi y hy
 have hun:=fun h=>jnO hT hlo (sel:=(·.no)) (prec:=3) (fun p hp=>by
  obtain⟨_,⟨h,_⟩|⟨q,hq,_,h,_⟩⟩:=hlo
  ·rw[h] at hp;cases hp
  ·rw[hq] at hp;cases hp;exact h) (w:=pNot) (xQ (by decide)) s hi h y hy
 obtain⟨P,hP⟩:∃P,uR low (T.drop s.i)=P:=⟨_,rfl⟩
 unfold RU;rw[hP];unfold uR at hP;rw[zF hT hi (w:=pNot) (xQ (by decide))] at hP;unfold RU at hbn hun;refine eN jR qB 1 Tryz.func67 rfl ?_;intro _;conv=>whnf
 rw[jJ h0];conv=>whnf
 refine jT 0 [] hnx ?_;rintro o r ⟨c,ho,rfl,rfl⟩;cases ho;conv=>whnf
 by_cases h1:(qG T s).text=pNot
 ·rw[jJ (p:=(qG T s).text=⟨_⟩) h1];rw[if_pos (jJ h1)] at hP
  have hun:=hun fun _=>h1
  rw[hP] at hun;rw[h1];conv=>whnf
  refine jT 0 [] hun ?_;rintro o r ⟨c,ho,s2,f,hq,rfl,rfl⟩;cases ho;conv=>whnf
  exact⟨_,rfl,s2,f,hq,rfl,rfl⟩
 ·rw[jG (p:=(qG T s).text=⟨_⟩) h1];rw[if_neg (by rw[jG h1];simp)] at hP;have hP2:jhU 4 (jbP low) cmpL (T.drop s.i)=P:=hP;rw[hP2] at hbn;conv=>whnf
  refine jT 0 [] hbn ?_;rintro o r ⟨c,ho,s2,f,hq,rfl,rfl⟩;cases ho;conv=>whnf
  exact⟨_,rfl,s2,f,hq,rfl,rfl⟩
theorem jsB{lv:Int}{low:Option Pa}(hT:Ks T)(hlo:LowR6 T lv low):aD T lv 7 (aA low):=fun s hi y hy=>by
 by_cases h0:s.e=0
 rotate_left
 ·exact jqi hi h0 _ y hy
 have hnx:=xT hi y hy;have hpr:=jnJ hT hlo s hi h0 y hy
 have hun:=fun h=>jnO hT hlo (sel:=(·.un)) (prec:=7) (fun p hp=>by
  obtain⟨_,⟨h,_⟩|⟨q,hq,_,_,h,_⟩⟩:=hlo
  ·rw[h] at hp;cases hp
  ·rw[hq] at hp;cases hp;exact h) (w:=pMinus) (xQ (by decide)) s hi h y hy
 obtain⟨P,hP⟩:∃P,aA low (T.drop s.i)=P:=⟨_,rfl⟩
 unfold RU;rw[hP];unfold aA at hP;rw[zF hT hi (w:=pMinus) (xQ (by decide))] at hP;unfold RU at hpr hun;refine eN jR qB 1 Tryz.func67 rfl ?_;intro _;conv=>whnf
 rw[jJ h0];conv=>whnf
 refine jT 0 [] hnx ?_;rintro o r ⟨c,ho,rfl,rfl⟩;cases ho;conv=>whnf
 by_cases h1:(qG T s).text=pMinus
 ·rw[jJ (p:=(qG T s).text=⟨_⟩) h1];rw[if_pos (jJ h1)] at hP
  have hun:=hun fun _=>h1
  rw[hP] at hun;rw[h1];conv=>whnf
  refine jT 0 [] hun ?_;rintro o r ⟨c,ho,s2,f,hq,rfl,rfl⟩;cases ho;conv=>whnf
  exact⟨_,rfl,s2,f,hq,rfl,rfl⟩
 ·rw[jG (p:=(qG T s).text=⟨_⟩) h1];rw[if_neg (by rw[jG h1];simp)] at hP;rw[hP] at hpr;conv=>whnf
  refine jT 0 [] hpr ?_;rintro o r ⟨c,ho,s2,f,hq,rfl,rfl⟩;cases ho;conv=>whnf
  exact⟨_,rfl,s2,f,hq,rfl,rfl⟩
theorem jrD:∀w∈cmpL,Ws6 w:=by
 intro w hw;simp only[cmpL,List.mem_cons,List.not_mem_nil,or_false] at hw
 rcases hw with rfl|rfl|rfl|rfl|rfl|rfl <;> exact xQ (by decide)
theorem joO{a b:ByteArray}(ha:Ws6 a)(hb:Ws6 b):∀w∈[a,b],Ws6 w:=by
 intro w hw;simp only[List.mem_cons,List.not_mem_nil,or_false] at hw;rcases hw with rfl|rfl
 ·exact ha
 ·exact hb
theorem joN{a:ByteArray}(ha:Ws6 a):∀w∈[a],Ws6 w:=by
 intro w hw;rw[List.mem_singleton.1 hw];exact ha
theorem rA{k:Nat}(hk:k≠4)(op:List Tk->Pn)(signs:List ByteArray):jhU k op signs=wF op signs:=by
 funext ts;unfold jhU wF
 congr 1
 funext f r;rw[if_neg hk]
theorem jsC{lv:Int}{low:Option Pa}(hT:Ks T)(hg:cT low)(hlo:LowR6 T lv low):aD T lv 7 (aA low)/\aD T lv 3 (uR low)/\aD T lv 1 (jfT low):=by
 have x7:=jsB hT hlo;have b6:=rY hT 6 (by decide) (signs:=[vZ,yG]) (by decide) (by simp[jD,opsA,yV]) (joO (xQ (by decide)) (xQ (by decide))) x7 (nH hg);rw[rA (by decide)] at b6;have x6:=mN 6 (by decide) (by decide) b6;have b5:=rY hT 5 (by decide) (signs:=[dQ,pMinus]) (by decide) (by simp[jD,opsA,yV]) (joO (xQ (by decide)) (xQ (by decide))) x6 (xH (nH hg) _);rw[rA (by decide)] at b5;have x5:aD T lv 5 (jbP low):=mN 5 (by decide) (by decide) b5;have b4:=rY hT 4 (by decide) (signs:=cmpL) (by decide) (by simp[jD,opsA,yV,cmpL]) jrD x5 (iT hg);have x3:=jsA hT hlo b4;have b2:=rY hT 2 (by decide) (signs:=[k9]) (by decide) (by simp[jD,opsA,yV]) (joN (xQ (by decide))) x3 (nG hg);rw[rA (by decide)] at b2;have x2:=mN 2 (by decide) (by decide) b2;have b1:=rY hT 1 (by decide) (signs:=[pOr]) (by decide) (by simp[jD,opsA,yV]) (joN (xQ (by decide))) x2 (xH (nG hg) _);rw[rA (by decide)] at b1;exact⟨x7,x3,mN 1 (by decide) (by decide) b1⟩
end
end Go.Proofs.YtdnnmiemgmgffaaGreatDoor.Vm
