/- Part 6 of the proof. -/
import Derived.Test.YtfbifdccmabdbaaGreatDoorZ5
set_option maxRecDepth 100000
set_option linter.unusedSimpArgs false
set_option linter.unusedVariables false
set_option maxHeartbeats 4000000
namespace Go.Proofs.YtfbifdccmabdbaaGreatDoor.Vm
open Go.RowKit Go.Shelf
mutual
def ocN (x:ByteArray):Nt->Prop
 | .mk k _ s kids=>(k=1 ∨ k=14)/\x=s ∨ gG x kids
def gG (x:ByteArray):List Nt->Prop
 | []=>False
 | f :: l=>ocN x f ∨ gG x l
end
theorem rU (x:ByteArray):∀ l:List Nt,gG x l ↔ ∃ f ∈ l,ocN x f
 | []=>by unfold gG;simp
 | f :: l=>by unfold gG;rw[rU x l];simp
theorem oI (x:ByteArray) (l:List Nt) (j:Nat) (hj:j<l.length):gG x (l.take (j+1)) ↔ gG x (l.take j) ∨ ocN x l[j]:=by
 rw[rU,rU,List.take_succ_eq_append_getElem hj];simp only[List.mem_append,List.mem_singleton]
 constructor
 ·rintro⟨f,h1 | rfl,h2⟩
  ·exact .inl ⟨f,h1,h2⟩
  ·exact .inr h2
 ·rintro (⟨f,h1,h2⟩ | h)
  ·exact⟨f,.inl h1,h2⟩
  ·exact⟨_,.inr rfl,h⟩
def NmP (l out:List ByteArray) (P:ByteArray->Prop) (z:Nat):Prop:=(∀ x,x ∈ out ↔ x ∈ l ∨ P x)/\out.length<=l.length+z
def NmC (f:Nt):Prop := ∀ l:List ByteArray,l.length+qU f<=1000000->Spec Tryz.prog 66 [] [.agg (ntA f),.sl 1 l.length (vE l)] fun _ r => ∃ out,r = .sl 1 out.length (vE out)/\NmP l out (ocN · f) (qU f)
theorem NmP.step {l c d:List ByteArray} {P Q:ByteArray->Prop} {y z:Nat} (h1:NmP l c P y) (h2:NmP c d Q z):NmP l d (fun x=>P x ∨ Q x) (y+z):=⟨fun x=>by rw[h2.1,h1.1,or_assoc],by have:=h1.2;have:=h2.2;omega⟩
theorem NmP.ext {l c:List ByteArray} {P Q:ByteArray->Prop} {y z:Nat} (h1:NmP l c P y) (h:∀ x,P x ↔ Q x) (hz:y<=z):NmP l c Q z:=⟨fun x=>by rw[h1.1,h],by have:=h1.2;omega⟩
theorem bT:∀ (l:List Nt) (j:Nat) (h:j<l.length),zD (l.take j)+qU l[j]=zD (l.take (j+1))
 | f :: l,0,h=>by show 0+qU f=qU f+0;omega
 | f :: l,j+1,h=>by
  have hj:j<l.length:=by simpa using h
  have:=bT l j hj
  show qU f+zD (l.take j)+qU (l[j]'hj)=qU f+zD (l.take (j+1))
  omega
theorem jhD {l:List ByteArray} {P:ByteArray->Prop} (h:∀ x,P x->x ∈ l):NmP l l (fun y=>P y ∨ gG y ([]:List Nt)) (1+0):=⟨fun x=>⟨.inl,fun h2=>h2.elim id fun h2=>h2.elim (h x) fun h=>h.elim⟩,by omega⟩
theorem joB {l:List ByteArray} {P:ByteArray->Prop} {s:ByteArray} (h:∀ x,P x ↔ x=s):NmP l (l++[s]) (fun y=>P y ∨ gG y ([]:List Nt)) (1+0):=⟨fun x=>by
 show _ ↔ x ∈ l ∨ P x ∨ gG x []
 rw[List.mem_append,List.mem_singleton,h]
 exact⟨fun h=>h.elim .inl fun h => .inr (.inl h),fun h=>h.elim .inl fun h=>h.elim .inr fun h=>h.elim⟩,by rw[List.length_append,List.length_singleton];omega⟩
theorem jms (k n:Int) (s:ByteArray) (kids:List Nt) (hm:kids.length<=3002) (ih:∀ x ∈ kids,NmC x):NmC (.mk k n s kids):=by
 intro l hl
 have hz:qU (.mk k n s kids)=3+zD kids:=rfl
 have hin:=oU l s (by omega)
 rw[hz] at hl
 show Spec _ _ _ [.agg [intA k,intA n,jR s,.sl 4 kids.length (j4 kids)],_] fun _ r => ∃ out,r = .sl 1 out.length (vE out)/\NmP l out (fun y=>(k=1 ∨ k=14)/\y=s ∨ gG y kids) (3+zD kids)
 by_cases hk:k=1 ∨ k=14
 ·cases hb:inB l s
  ·have h0:NmP l (l++[s]) (fun y=>(k=1 ∨ k=14)/\y=s ∨ gG y ([]:List Nt)) (1+0):=joB fun x=>⟨fun h=>h.2,fun h=>⟨hk,h⟩⟩
   rw[hb] at hin
   rcases hk with hk1 | hk1
   all_goals
    refine eN jM qD 0 Tryz.func66 rfl ?_;intro _;conv=>whnf
    first
     | rw[jP hk1]
     | (rw[jH (show ¬ k=1 by omega)];(conv=>whnf);rw[jP hk1])
    conv=>whnf
    refine kS [] hin ?_;rintro r rfl;conv=>whnf
    refine⟨⟨by unfold maxLen;omega,by omega⟩,?_⟩;conv=>whnf
    refine⟨⟨by unfold maxLen;omega,by omega⟩,?_⟩;conv=>whnf
    refine dE [1] ?_;conv=>whnf
    refine jB [2] ?_;conv=>whnf
    refine jE (fun x:Nat × List ByteArray=>[(1,.sl 1 x.2.length (vE x.2)),(6,.v (.int .i64 x.1))]) (fun _=>[[intA k,intA n,jR s,.sl 4 kids.length (j4 kids)]]) (fun _=>[]) (fun x=>x.1<=kids.length/\NmP l x.2 (fun y=>(k=1 ∨ k=14)/\y=s ∨ gG y (kids.take x.1)) (1+zD (kids.take x.1))) (fun x=>kids.length-x.1) (0,(l++[s])) ?_ ⟨Nat.zero_le _,h0⟩ ?_
    ·repeat' constructor
     all_goals (show A.sl _ _ _=A.sl _ _ _;unfold vE;simp;try rfl)
    rintro⟨j,c⟩ ⟨hj,hc⟩
    simp only at hj hc
    conv=>whnf
    rcases Nat.lt_or_ge j kids.length with hlt | hge
    ·have hrow:=jX kids j hlt
     have hz1:=aC kids j hlt
     have hsp:=ih kids[j] (List.getElem_mem hlt) c (by have:=hc.2;omega)
     rw[jP (show (j:Int)<(kids.length:Int) by omega)];conv=>whnf
     refine⟨show (0:Int)<=(j:Int)/\(j:Int)<(kids.length:Nat) from ⟨by omega,by omega⟩,?_⟩;conv=>whnf
     (generalize hrq:jC _ _ (j4 kids)=rq;obtain rfl:rq=ntA kids[j]:=hrq.symm.trans (hrow);clear hrq;conv=>whnf)
     refine kS [] hsp ?_;rintro r ⟨out,rfl,ho⟩;conv=>whnf
     refine jN j (by omega) ?_;conv=>whnf
     refine⟨(j+1,out),jD [] ?_,⟨show j+1<=kids.length by omega,(hc.step ho).ext (fun y => ?_) ?_⟩,show kids.length-(j+1)<kids.length-j by omega⟩
     ·conv=>whnf
      repeat' constructor
     ·show _ ↔ _ ∨ gG y (kids.take (j+1))
      rw[oI y kids j hlt,or_assoc]
     ·show _<=1+zD (kids.take (j+1))
      have:=bT kids j hlt
      omega
    obtain rfl:j=kids.length:=by omega
    rw[List.take_length] at hc;rw[jH (show ¬ ((kids.length:Nat):Int)<(kids.length:Int) by omega)];conv=>whnf
    exact⟨c,rfl,hc.ext (fun y=>Iff.rfl) (by omega)⟩
  ·have h0:NmP l l (fun y=>(k=1 ∨ k=14)/\y=s ∨ gG y ([]:List Nt)) (1+0):=jhD fun x h=>by rw[h.2];exact inB_mem.1 hb
   rw[hb] at hin
   rcases hk with hk1 | hk1
   all_goals
    refine eN jM qD 0 Tryz.func66 rfl ?_;intro _;conv=>whnf
    first
     | rw[jP hk1]
     | (rw[jH (show ¬ k=1 by omega)];(conv=>whnf);rw[jP hk1])
    conv=>whnf
    refine kS [] hin ?_;rintro r rfl;conv=>whnf
    refine jB [2] ?_;conv=>whnf
    refine jE (fun x:Nat × List ByteArray=>[(1,.sl 1 x.2.length (vE x.2)),(6,.v (.int .i64 x.1))]) (fun _=>[[intA k,intA n,jR s,.sl 4 kids.length (j4 kids)]]) (fun _=>[]) (fun x=>x.1<=kids.length/\NmP l x.2 (fun y=>(k=1 ∨ k=14)/\y=s ∨ gG y (kids.take x.1)) (1+zD (kids.take x.1))) (fun x=>kids.length-x.1) (0,l) ?_ ⟨Nat.zero_le _,h0⟩ ?_
    ·repeat' constructor
     all_goals (show A.sl _ _ _=A.sl _ _ _;unfold vE;simp;try rfl)
    rintro⟨j,c⟩ ⟨hj,hc⟩
    simp only at hj hc
    conv=>whnf
    rcases Nat.lt_or_ge j kids.length with hlt | hge
    ·have hrow:=jX kids j hlt
     have hz1:=aC kids j hlt
     have hsp:=ih kids[j] (List.getElem_mem hlt) c (by have:=hc.2;omega)
     rw[jP (show (j:Int)<(kids.length:Int) by omega)];conv=>whnf
     refine⟨show (0:Int)<=(j:Int)/\(j:Int)<(kids.length:Nat) from ⟨by omega,by omega⟩,?_⟩;conv=>whnf
     (generalize hrq:jC _ _ (j4 kids)=rq;obtain rfl:rq=ntA kids[j]:=hrq.symm.trans (hrow);clear hrq;conv=>whnf)
     refine kS [] hsp ?_;rintro r ⟨out,rfl,ho⟩;conv=>whnf
     refine jN j (by omega) ?_;conv=>whnf
     refine⟨(j+1,out),jD [] ?_,⟨show j+1<=kids.length by omega,(hc.step ho).ext (fun y => ?_) ?_⟩,show kids.length-(j+1)<kids.length-j by omega⟩
     ·conv=>whnf
      repeat' constructor
     ·show _ ↔ _ ∨ gG y (kids.take (j+1))
      rw[oI y kids j hlt,or_assoc]
     ·show _<=1+zD (kids.take (j+1))
      have:=bT kids j hlt
      omega
    obtain rfl:j=kids.length:=by omega
    rw[List.take_length] at hc;rw[jH (show ¬ ((kids.length:Nat):Int)<(kids.length:Int) by omega)];conv=>whnf
    exact⟨c,rfl,hc.ext (fun y=>Iff.rfl) (by omega)⟩
 ·have h0:NmP l l (fun y=>(k=1 ∨ k=14)/\y=s ∨ gG y ([]:List Nt)) (1+0):=jhD fun x h=>absurd h.1 hk
  refine eN jM qD 0 Tryz.func66 rfl ?_;intro _;conv=>whnf
  rw[jH (show ¬ k=1 by omega)];conv=>whnf
  rw[jH (show ¬ k=14 by omega)];conv=>whnf
  refine jB [2] ?_;conv=>whnf
  refine jE (fun x:Nat × List ByteArray=>[(1,.sl 1 x.2.length (vE x.2)),(6,.v (.int .i64 x.1))]) (fun _=>[[intA k,intA n,jR s,.sl 4 kids.length (j4 kids)]]) (fun _=>[]) (fun x=>x.1<=kids.length/\NmP l x.2 (fun y=>(k=1 ∨ k=14)/\y=s ∨ gG y (kids.take x.1)) (1+zD (kids.take x.1))) (fun x=>kids.length-x.1) (0,l) ?_ ⟨Nat.zero_le _,h0⟩ ?_
  ·repeat' constructor
   all_goals (show A.sl _ _ _=A.sl _ _ _;unfold vE;simp;try rfl)
  rintro⟨j,c⟩ ⟨hj,hc⟩
  simp only at hj hc
  conv=>whnf
  rcases Nat.lt_or_ge j kids.length with hlt | hge
  ·have hrow:=jX kids j hlt
   have hz1:=aC kids j hlt
   have hsp:=ih kids[j] (List.getElem_mem hlt) c (by have:=hc.2;omega)
   rw[jP (show (j:Int)<(kids.length:Int) by omega)];conv=>whnf
   refine⟨show (0:Int)<=(j:Int)/\(j:Int)<(kids.length:Nat) from ⟨by omega,by omega⟩,?_⟩;conv=>whnf
   (generalize hrq:jC _ _ (j4 kids)=rq;obtain rfl:rq=ntA kids[j]:=hrq.symm.trans (hrow);clear hrq;conv=>whnf)
   refine kS [] hsp ?_;rintro r ⟨out,rfl,ho⟩;conv=>whnf
   refine jN j (by omega) ?_;conv=>whnf
   refine⟨(j+1,out),jD [] ?_,⟨show j+1<=kids.length by omega,(hc.step ho).ext (fun y => ?_) ?_⟩,show kids.length-(j+1)<kids.length-j by omega⟩
   ·conv=>whnf
    repeat' constructor
   ·show _ ↔ _ ∨ gG y (kids.take (j+1))
    rw[oI y kids j hlt,or_assoc]
   ·show _<=1+zD (kids.take (j+1))
    have:=bT kids j hlt
    omega
  obtain rfl:j=kids.length:=by omega
  rw[List.take_length] at hc;rw[jH (show ¬ ((kids.length:Nat):Int)<(kids.length:Int) by omega)];conv=>whnf
  exact⟨c,rfl,hc.ext (fun y=>Iff.rfl) (by omega)⟩
theorem jkp:∀ f:Nt,aL f->NmC f
 | .mk k n s kids,hw=>by
  unfold aL at hw
  exact jms k n s kids (sP hw.1) fun x hx=>jkp x (y7 hw.2.1 hx)
theorem joC (f:Nt) (hw:aL f) (hz:qU f<=1000000):Spec Tryz.prog 66 [] [.agg (ntA f),.v (.slice none 0 0)] fun _ r => ∃ out,r = .sl 1 out.length (vE out)/\NmP [] out (ocN · f) (qU f):=by
 refine jj0 (args:=[.agg (ntA f),.sl 1 0 []]) (fun E us h => ?_) (jkp f hw [] (by simpa using hz));unfold A.repL at h ⊢
 obtain⟨u,us',rfl,h1,h2⟩ := h
 refine⟨u,us',rfl,h1,?_⟩;unfold A.repL at h2 ⊢
 obtain⟨u2,us2,rfl,h3,h4⟩ := h2
 exact⟨u2,us2,rfl,jko h3,h4⟩
def weN (f:Nt):Bool:=kI (toD f)
theorem jdd:∀ l:List Nt,vS (aF l)=l.all weN
 | []=>by rw[aF,vS];rfl
 | f :: l=>by rw[aF,vS,jdd l,List.all_cons];rfl
theorem jpp (n:Int) (s:ByteArray) (l:List Nt):weN (.mk 11 n s l)=l.all weN:=by
 show kI (toD (.mk 11 n s l))=_
 rw[toD,kI,if_pos rfl,jdd]
theorem jqu (k n:Int) (s:ByteArray) (c:Nt) (l:List Nt) (hk:k=2 ∨ k=3):weN (.mk k n s (c :: l))=(decide (fY c=2) && l.all weN):=by
 show kI (toD (.mk k n s (c :: l)))=_
 rw[toD,kI,if_neg (by omega),if_pos hk,aF,ji3,jdd]
 show (fY c == 2 && _)=_
 congr 1
theorem jn7 (k n:Int) (s:ByteArray) (l:List Nt) (hk:k ≠ 11/\k ≠ 2/\k ≠ 3):weN (.mk k n s l)=l.all fun f=>decide (fY f=1):=by
 unfold weN toD kI;rw[if_neg hk.1,if_neg (fun h=>h.elim hk.2.1 hk.2.2),jlB]
 induction l with
 | nil=>rfl
 | cons f l ih=>rw[List.any_cons,List.all_cons,Bool.not_or,ih];congr 1;by_cases h:fY f=1 <;> simp[h]
theorem jnR {l:List Nt} {p:Nt->Bool} (h:∀ i (hi:i<l.length),p l[i]=true):l.all p=true:=List.all_eq_true.2 fun x hx=>by
 obtain⟨i,hi,rfl⟩ := List.mem_iff_getElem.1 hx
 exact h i hi
theorem jnS {l:List Nt} {p:Nt->Bool} {i:Nat} (hi:i<l.length) (h:p l[i]=false):l.all p=false:=by
 rw[List.all_eq_false];exact⟨l[i],List.getElem_mem hi,by simp[h]⟩
def WeC (f:Nt):Prop:=Spec Tryz.prog 65 [] [.agg (ntA f)] fun _ r=>r=qR (weN f)
theorem jn8 (k n:Int) (s:ByteArray) (kids:List Nt) (hw:aL (.mk k n s kids)) (hx:k<12) (ih:∀ x ∈ kids,isX x=false->WeC x):WeC (.mk k n s kids):=by
 unfold aL at hw
 obtain⟨ha,hws,hc⟩ := hw
 have hm:=sP ha
 show Spec Tryz.prog 65 [] [.agg [intA k,intA n,jR s,.sl 4 kids.length (j4 kids)]] fun _ r=>r=qR (weN (.mk k n s kids))
 by_cases h11:k=11
 ·subst h11
  have hs:∀ f ∈ kids,isX f=false:=fun f hf=>by
   unfold clN at hc;rw[if_pos rfl,List.all_eq_true] at hc
   simpa using hc f hf
  rw[jpp];clear ha hc
  obtain⟨R,hR⟩ : ∃ R,kids.all weN=R:=⟨_,rfl⟩
  rw[hR];refine eN jM qD 0 Tryz.func65 rfl ?_;intro _;conv=>whnf
  refine jB [1] ?_;conv=>whnf
  refine jE (fun j:Nat=>[(3,.v (.int .i64 j))]) (fun _=>[[intA 11,intA n,jR s,.sl 4 kids.length (j4 kids)]]) (fun _=>[]) (fun j=>j<=kids.length/\0<=j /\ ∀ i (h:i<kids.length),0<=i->i<j->weN kids[i]=true) (fun j=>kids.length-j) 0 ?_ ⟨by omega,Nat.le_refl _,fun i h h1 h2=>by omega⟩ ?_
  ·repeat' constructor
  rintro j ⟨hj,hj0,hn⟩;conv=>whnf
  rcases Nat.lt_or_ge j kids.length with hlt | hge
  ·have hrow:=jX kids j hlt
   have hsp:=ih kids[j] (List.getElem_mem hlt) (hs _ (List.getElem_mem hlt))
   rw[jP (show (j:Int)<(kids.length:Int) by omega)];conv=>whnf
   refine⟨show (0:Int)<=(j:Int)/\(j:Int)<(kids.length:Nat) from ⟨by omega,by omega⟩,?_⟩;conv=>whnf
   (generalize hrq:jC _ _ (j4 kids)=rq;obtain rfl:rq=ntA kids[j]:=hrq.symm.trans (hrow);clear hrq;conv=>whnf)
   refine kS [] hsp ?_;rintro r rfl
   cases he:weN kids[j]
   ·rw[jnS hlt he] at hR;subst hR;unfold WeC at hsp;conv=>whnf
    rfl
   ·conv=>whnf
    refine jN j (by omega) ?_;conv=>whnf
    refine⟨j+1,jD [] ?_,⟨show j+1<=kids.length by omega,show 0<=j+1 by omega,fun i h h1 h2 => ?_⟩,show kids.length-(j+1)<kids.length-j by omega⟩
    ·conv=>whnf
     repeat' constructor
    ·by_cases q:i=j
     ·subst q;exact he
     ·exact hn i h h1 (by omega)
  rw[jnR fun i h=>hn i h (by omega) (by omega)] at hR;subst hR;rw[jH (show ¬ (j:Int)<(kids.length:Int) by omega)];conv=>whnf
  rfl
 by_cases h23:k=2 ∨ k=3
 ·obtain⟨c,l,rfl⟩ : ∃ c l,kids=c :: l:=by
   cases kids with
   | nil =>
    unfold arN at ha
    rcases h23 with rfl | rfl <;> cases ha
   | cons c l=>exact⟨c,l,rfl⟩
  have hcl:isX c=true /\ ∀ f ∈ l,isX f=false:=by
   unfold clN at hc;rw[if_neg h11,if_pos h23] at hc
   simpa using hc
  have hty:=jd9 c (y7 hws List.mem_cons_self) hcl.1
  have hs:∀ j (h:j<(c :: l).length),1<=j->isX (c :: l)[j]=false:=fun j h h1=>by
   cases j with
   | zero=>omega
   | succ j=>exact hcl.2 _ (List.getElem_mem _)
  have hrow0:=jX (c :: l) 0 (by simp)
  have hap:(∀ i (h:i<(c :: l).length),1<=i->weN (c :: l)[i]=true)->l.all weN=true:=fun h=>jnR fun i hi=>h (i+1) (by simpa using hi) (by omega)
  have han:∀ j (h:j<(c :: l).length),1<=j->weN (c :: l)[j]=false->l.all weN=false:=fun j h h1 h2=>by
   cases j with
   | zero=>omega
   | succ j=>exact jnS (by simpa using h) h2
  rw[jqu k n s c l h23];clear ha hc hcl hws;unfold TyC at hty
  obtain⟨ty,hty2⟩ : ∃ ty,fY c=ty:=⟨_,rfl⟩
  rw[hty2] at hty ⊢
  obtain⟨R,hR⟩ : ∃ R,(decide (ty=2) && l.all weN)=R:=⟨_,rfl⟩
  rw[hR]
  have hlen:1<=(c :: l).length:=by simp
  simp only[List.getElem_cons_zero] at hrow0;generalize hkd:c :: l=kids at *
  rcases h23 with rfl | rfl
  ·refine eN jM qD 0 Tryz.func65 rfl ?_;intro _;conv=>whnf
   refine⟨show (0:Int)<=0/\(0:Int)<(kids.length:Nat) from ⟨by omega,by omega⟩,?_⟩;conv=>whnf
   (generalize hrq:jC _ _ (j4 kids)=rq;obtain rfl:rq=ntA c:=hrq.symm.trans (hrow0);clear hrq;conv=>whnf)
   refine kS [] hty ?_;rintro r rfl;conv=>whnf
   refine jB [1,5] ?_;conv=>whnf
   refine jE (fun j:Nat=>[(6,.v (.int .i64 j))]) (fun _=>[[intA 2,intA n,jR s,.sl 4 kids.length (j4 kids)]]) (fun _=>[]) (fun j=>j<=kids.length/\1<=j /\ ∀ i (h:i<kids.length),1<=i->i<j->weN kids[i]=true) (fun j=>kids.length-j) 1 ?_ ⟨by omega,Nat.le_refl _,fun i h h1 h2=>by omega⟩ ?_
   ·repeat' constructor
   rintro j ⟨hj,hj0,hn⟩;conv=>whnf
   rcases Nat.lt_or_ge j kids.length with hlt | hge
   ·have hrow:=jX kids j hlt
    have hsp:=ih kids[j] (List.getElem_mem hlt) (hs j hlt hj0)
    rw[jP (show (j:Int)<(kids.length:Int) by omega)];conv=>whnf
    refine⟨show (0:Int)<=(j:Int)/\(j:Int)<(kids.length:Nat) from ⟨by omega,by omega⟩,?_⟩;conv=>whnf
    (generalize hrq:jC _ _ (j4 kids)=rq;obtain rfl:rq=ntA kids[j]:=hrq.symm.trans (hrow);clear hrq;conv=>whnf)
    refine kS [] hsp ?_;rintro r rfl
    cases he:weN kids[j]
    ·rw[han j hlt hj0 he,Bool.and_false] at hR;subst hR;conv=>whnf
     rfl
    ·conv=>whnf
     refine jN j (by omega) ?_;conv=>whnf
     refine⟨j+1,jD [] ?_,⟨show j+1<=kids.length by omega,show 1<=j+1 by omega,fun i h h1 h2 => ?_⟩,show kids.length-(j+1)<kids.length-j by omega⟩
     ·conv=>whnf
      repeat' constructor
     ·by_cases q:i=j
      ·subst q;exact he
      ·exact hn i h h1 (by omega)
   rw[hap fun i h h1=>hn i h h1 (by omega),Bool.and_true] at hR;subst hR;rw[jH (show ¬ (j:Int)<(kids.length:Int) by omega)];conv=>whnf
   rfl
  ·refine eN jM qD 0 Tryz.func65 rfl ?_;intro _;conv=>whnf
   refine⟨show (0:Int)<=0/\(0:Int)<(kids.length:Nat) from ⟨by omega,by omega⟩,?_⟩;conv=>whnf
   (generalize hrq:jC _ _ (j4 kids)=rq;obtain rfl:rq=ntA c:=hrq.symm.trans (hrow0);clear hrq;conv=>whnf)
   refine kS [] hty ?_;rintro r rfl;conv=>whnf
   refine jB [1,5] ?_;conv=>whnf
   refine jE (fun j:Nat=>[(6,.v (.int .i64 j))]) (fun _=>[[intA 3,intA n,jR s,.sl 4 kids.length (j4 kids)]]) (fun _=>[]) (fun j=>j<=kids.length/\1<=j /\ ∀ i (h:i<kids.length),1<=i->i<j->weN kids[i]=true) (fun j=>kids.length-j) 1 ?_ ⟨by omega,Nat.le_refl _,fun i h h1 h2=>by omega⟩ ?_
   ·repeat' constructor
   rintro j ⟨hj,hj0,hn⟩;conv=>whnf
   rcases Nat.lt_or_ge j kids.length with hlt | hge
   ·have hrow:=jX kids j hlt
    have hsp:=ih kids[j] (List.getElem_mem hlt) (hs j hlt hj0)
    rw[jP (show (j:Int)<(kids.length:Int) by omega)];conv=>whnf
    refine⟨show (0:Int)<=(j:Int)/\(j:Int)<(kids.length:Nat) from ⟨by omega,by omega⟩,?_⟩;conv=>whnf
    (generalize hrq:jC _ _ (j4 kids)=rq;obtain rfl:rq=ntA kids[j]:=hrq.symm.trans (hrow);clear hrq;conv=>whnf)
    refine kS [] hsp ?_;rintro r rfl
    cases he:weN kids[j]
    ·rw[han j hlt hj0 he,Bool.and_false] at hR;subst hR;conv=>whnf
     rfl
    ·conv=>whnf
     refine jN j (by omega) ?_;conv=>whnf
     refine⟨j+1,jD [] ?_,⟨show j+1<=kids.length by omega,show 1<=j+1 by omega,fun i h h1 h2 => ?_⟩,show kids.length-(j+1)<kids.length-j by omega⟩
     ·conv=>whnf
      repeat' constructor
     ·by_cases q:i=j
      ·subst q;exact he
      ·exact hn i h h1 (by omega)
   rw[hap fun i h h1=>hn i h h1 (by omega),Bool.and_true] at hR;subst hR;rw[jH (show ¬ (j:Int)<(kids.length:Int) by omega)];conv=>whnf
   rfl
 ·have hx2:∀ f ∈ kids,isX f=true:=fun f hf=>jnu hc (by omega) hf
  rw[jn7 k n s kids (by omega)];clear ha hc
  obtain⟨R,hR⟩ : ∃ R,(kids.all fun f=>decide (fY f=1))=R:=⟨_,rfl⟩
  rw[hR];refine eN jM qD 0 Tryz.func65 rfl ?_;intro _;conv=>whnf
  rw[jH h11];conv=>whnf
  rw[jH (show ¬ k=2 by omega)];conv=>whnf
  rw[jH (show ¬ k=3 by omega)];conv=>whnf
  refine jB [1] ?_;conv=>whnf
  refine jE (fun j:Nat=>[(8,.v (.int .i64 j))]) (fun _=>[[intA k,intA n,jR s,.sl 4 kids.length (j4 kids)]]) (fun _=>[]) (fun j=>j<=kids.length/\0<=j /\ ∀ i (h:i<kids.length),0<=i->i<j->(fun f=>decide (fY f=1)) kids[i]=true) (fun j=>kids.length-j) 0 ?_ ⟨by omega,Nat.le_refl _,fun i h h1 h2=>by omega⟩ ?_
  ·repeat' constructor
  rintro j ⟨hj,hj0,hn⟩;conv=>whnf
  rcases Nat.lt_or_ge j kids.length with hlt | hge
  ·have hrow:=jX kids j hlt
   have hsp:=jd9 kids[j] (y7 hws (List.getElem_mem hlt)) (hx2 _ (List.getElem_mem hlt))
   rw[jP (show (j:Int)<(kids.length:Int) by omega)];conv=>whnf
   refine⟨show (0:Int)<=(j:Int)/\(j:Int)<(kids.length:Nat) from ⟨by omega,by omega⟩,?_⟩;conv=>whnf
   (generalize hrq:jC _ _ (j4 kids)=rq;obtain rfl:rq=ntA kids[j]:=hrq.symm.trans (hrow);clear hrq;conv=>whnf)
   refine kS [] hsp ?_;rintro r rfl
   cases he:(fun f=>decide (fY f=1)) kids[j]
   ·rw[jnS (p:=fun f=>decide (fY f=1)) hlt he] at hR;subst hR;simp only[] at he;conv=>whnf
    rw[he];conv=>whnf
    rfl
   ·simp only[] at he;conv=>whnf
    rw[he];conv=>whnf
    refine jN j (by omega) ?_;conv=>whnf
    refine⟨j+1,jD [] ?_,⟨show j+1<=kids.length by omega,show 0<=j+1 by omega,fun i h h1 h2 => ?_⟩,show kids.length-(j+1)<kids.length-j by omega⟩
    ·conv=>whnf
     repeat' constructor
    ·by_cases q:i=j
     ·subst q;exact he
     ·exact hn i h h1 (by omega)
  rw[jnR (p:=fun f=>decide (fY f=1)) fun i h=>hn i h (by omega) (by omega)] at hR;subst hR;rw[jH (show ¬ (j:Int)<(kids.length:Int) by omega)];conv=>whnf
  rfl
theorem jlH:∀ f:Nt,aL f->isX f=false->WeC f
 | .mk k n s kids,hw,hx=>by
  have hx':k<12:=Int.not_le.1 (of_decide_eq_false hx)
  have h2:=hw
  unfold aL at h2
  exact jn8 k n s kids hw hx' fun x hx2 hx3=>jlH x (y7 h2.2.1 hx2) hx3
section
end
section
end
theorem jd1 (u:Ut) (hu:WfU u) (s:ByteArray):Spec Tryz.prog 67 [] [.agg (o9 u),jR s] fun _ r=>r=intA (qI u s):=by
 have hdv:=hu.du
 obtain⟨R,hR⟩ : ∃ R,qI u s=R:=⟨_,rfl⟩
 rw[hR];unfold qI yB at hR;refine eN jM qD 0 Tryz.func67 rfl ?_;intro _;conv=>whnf
 refine jB [1,2] ?_;conv=>whnf
 refine jE (fun j:Nat=>[(5,.v (.int .i64 j))]) (fun _=>[o9 u]) (fun _=>[]) (fun j=>j<=u.du.length /\ ∀ i (h:i<u.du.length),i<j->(u.du[i] == s)=false) (fun j=>u.du.length-j) 0 ?_ ⟨Nat.zero_le _,fun i h h2=>by omega⟩ ?_
 ·repeat' constructor
 rintro j ⟨hj,hn⟩;conv=>whnf
 rcases Nat.lt_or_ge j u.du.length with hlt | hge
 ·have hrow:=mO u.du j hlt
  rw[jP (show (j:Int)<(u.du.length:Int) by omega)];conv=>whnf
  refine⟨show (0:Int)<=(j:Int)/\(j:Int)<(u.du.length:Nat) from ⟨by omega,by omega⟩,?_⟩;conv=>whnf
  (generalize hrq:jC _ _ (vE u.du)=rq;obtain rfl:rq=[jR u.du[j]]:=hrq.symm.trans (hrow);clear hrq;conv=>whnf)
  by_cases he:u.du[j]=s
  ·rw[jP he]
   have hp:=uO hlt (fun i h h2=>hn i h h2) (show (u.du[j] == s)=true by rw[jcm,he,jP rfl])
   rw[hp,if_pos (by omega)] at hR;conv=>whnf
   rw[<- hR];rfl
  rw[jH he];conv=>whnf
  refine jN j (by omega) ?_;conv=>whnf
  refine⟨j+1,jD [] ?_,⟨show j+1<=u.du.length by omega,fun i h h2 => ?_⟩,show u.du.length-(j+1)<u.du.length-j by omega⟩
  ·conv=>whnf
   repeat' constructor
  ·by_cases q:i=j
   ·subst q;rw[jcm,jH he]
   ·exact hn i h (by omega)
 have m1:=oO (l:=u.du) (s:=s) fun i h=>hn i h (by omega)
 rw[jH (show ¬ (j:Int)<(u.du.length:Int) by omega)];clear hn hj hge;conv=>whnf
 rw[m1,if_neg (by omega)] at hR;refine jB [1,2] ?_;conv=>whnf
 refine jE (fun j:Nat=>[(6,.v (.int .i64 j))]) (fun _=>[o9 u]) (fun _=>[]) (fun j=>j<=u.vo.length /\ ∀ i (h:i<u.vo.length),i<j->(u.vo[i] == s)=false) (fun j=>u.vo.length-j) 0 ?_ ⟨Nat.zero_le _,fun i h h2=>by omega⟩ ?_
 ·repeat' constructor
 rintro j ⟨hj,hn⟩;conv=>whnf
 rcases Nat.lt_or_ge j u.vo.length with hlt | hge
 ·have hrow:=mO u.vo j hlt
  rw[jP (show (j:Int)<(u.vo.length:Int) by omega)];conv=>whnf
  refine⟨show (0:Int)<=(j:Int)/\(j:Int)<(u.vo.length:Nat) from ⟨by omega,by omega⟩,?_⟩;conv=>whnf
  (generalize hrq:jC _ _ (vE u.vo)=rq;obtain rfl:rq=[jR u.vo[j]]:=hrq.symm.trans (hrow);clear hrq;conv=>whnf)
  by_cases he:u.vo[j]=s
  ·rw[jP he]
   have hp:=uO hlt (fun i h h2=>hn i h h2) (show (u.vo[j] == s)=true by rw[jcm,he,jP rfl])
   rw[hp,if_pos (by omega)] at hR;conv=>whnf
   refine⟨jU (by omega),?_⟩;conv=>whnf
   rw[<- hR];rfl
  rw[jH he];conv=>whnf
  refine jN j (by omega) ?_;conv=>whnf
  refine⟨j+1,jD [] ?_,⟨show j+1<=u.vo.length by omega,fun i h h2 => ?_⟩,show u.vo.length-(j+1)<u.vo.length-j by omega⟩
  ·conv=>whnf
   repeat' constructor
  ·by_cases q:i=j
   ·subst q;rw[jcm,jH he]
   ·exact hn i h (by omega)
 have m2:=oO (l:=u.vo) (s:=s) fun i h=>hn i h (by omega)
 rw[jH (show ¬ (j:Int)<(u.vo.length:Int) by omega)];clear hn hj hge;conv=>whnf
 rw[m2,if_neg (by omega)] at hR;rw[<- hR];rfl
mutual
theorem jdb (ix:ByteArray->Int):∀ f:Nt,o8 ix (toD f)=true ↔ ∃ x,ocN x f/\ix x<0
 | .mk k n s kids=>by
  unfold toD o8 ocN;rw[Bool.or_eq_true,ji2 ix kids,Bool.and_eq_true,Bool.or_eq_true,decide_eq_true_eq,beq_iff_eq,beq_iff_eq]
  constructor
  ·rintro (⟨h1,h2⟩ | ⟨x,h1,h2⟩)
   ·exact⟨s,.inl ⟨h1,rfl⟩,h2⟩
   ·exact⟨x,.inr h1,h2⟩
  ·rintro⟨x,⟨h1,rfl⟩ | h1,h2⟩
   ·exact .inl ⟨h1,h2⟩
   ·exact .inr ⟨x,h1,h2⟩
theorem ji2 (ix:ByteArray->Int):∀ l:List Nt,dY ix (aF l)=true ↔ ∃ x,gG x l/\ix x<0
 | []=>by
  unfold aF dY gG
  simp
 | f :: l=>by
  unfold aF dY gG;rw[Bool.or_eq_true,jdb ix f,ji2 ix l]
  constructor
  ·rintro (⟨x,h1,h2⟩ | ⟨x,h1,h2⟩)
   ·exact⟨x,.inl h1,h2⟩
   ·exact⟨x,.inr h1,h2⟩
  ·rintro⟨x,h1 | h1,h2⟩
   ·exact .inl ⟨x,h1,h2⟩
   ·exact .inr ⟨x,h1,h2⟩
end
def bdN (u:Ut) (f:Nt):Bool := !weN f || o8 (qI u) (toD f)
theorem jco (u:Ut):z8 (toU u)=if u.on.any (fun h=>bdN u h.2) then 11 else 0:=by
 unfold z8 toU;rw[List.any_map];rfl
theorem jlZ {u:Ut} {k:Nat} (hk:k<u.on.length) (h:bdN u u.on[k].2=true):z8 (toU u)=11:=by
 rw[jco,if_pos];exact List.any_eq_true.2 ⟨_,List.getElem_mem hk,h⟩
theorem jjF {u:Ut} (h:∀ j (hj:j<u.on.length),bdN u u.on[j].2=false):z8 (toU u)=0:=by
 rw[jco,if_neg];rw[List.any_eq_true];rintro⟨x,hx,hq⟩
 obtain⟨j,hj,rfl⟩ := List.mem_iff_getElem.1 hx
 rw[h j hj] at hq;cases hq
theorem jmT {l:List (Int × Nt)} {x:Int × Nt} (h:x ∈ l):qU x.2<=oY l:=by
 induction l with
 | nil=>cases h
 | cons y l ih =>
  show _<=qU y.2+1+oY l
  rcases List.mem_cons.1 h with rfl | h
  ·omega
  ·have:=ih h;omega
theorem jeQ (u:Ut) (hu:WfU u) (hz:oY u.on<=900000):Spec Tryz.prog 29 [] [.agg (o9 u)] fun _ r=>r=intA (z8 (toU u)):=by
 have hix:=jd1 u hu
 have hol:=hu.ol
 refine eN jqi qD 0 Tryz.func29 rfl ?_;intro _;conv=>whnf
 refine jB [1] ?_;conv=>whnf
 refine jE (fun j:Nat=>[(3,.v (.int .i64 j))]) (fun _=>[o9 u]) (fun _=>[]) (fun j=>j<=u.on.length /\ ∀ i (h:i<u.on.length),i<j->bdN u u.on[i].2=false) (fun j=>u.on.length-j) 0 ?_ ⟨Nat.zero_le _,fun i h h2=>by omega⟩ ?_
 ·repeat' constructor
 rintro j ⟨hj,hn⟩;conv=>whnf
 rcases Nat.lt_or_ge j u.on.length with hlt | hge
 ·have hrow:jC 5 j (aV u.on)=hnA u.on[j]:=jbH u.on j hlt
  have hon:=hu.on _ (List.getElem_mem hlt)
  have hst:=hu.st _ (List.getElem_mem hlt)
  have hsz:=jmT (List.getElem_mem hlt)
  have hbd:∀ b,bdN u u.on[j].2=b->bdN u u.on[j].2=b:=fun _ h=>h
  have hhit:bdN u u.on[j].2=true->z8 (toU u)=11:=jlZ hlt
  have hnew:bdN u u.on[j].2=false -> ∀ i (h:i<u.on.length),i<j+1->bdN u u.on[i].2=false:=fun hb i h h2=>by
   by_cases q:i=j
   ·subst q;exact hb
   ·exact hn i h (by omega)
  generalize u.on[j]=hb at hrow hon hst hsz hhit hnew;clear hbd hn
  obtain⟨h,b⟩ := hb
  obtain⟨-,-,o3⟩ := hon
  unfold hnA at hrow
  simp only at hrow o3 hst hsz hhit hnew
  have hwe:=jlH b o3 hst
  have hnm:=joC b o3 (by omega)
  unfold WeC at hwe;rw[jP (show (j:Int)<(u.on.length:Int) by omega)];conv=>whnf
  refine⟨show (0:Int)<=(j:Int)/\(j:Int)<(u.on.length:Nat) from ⟨by omega,by omega⟩,?_⟩;conv=>whnf
  (generalize hrq:jC _ _ (aV u.on)=rq;obtain rfl:rq=intA h :: ntA b:=hrq.symm.trans (hrow);clear hrq;conv=>whnf)
  refine kS [] hwe ?_;rintro r rfl
  cases hw:weN b
  ·have hc:=hhit (by unfold bdN;rw[hw];rfl)
   rw[hc];conv=>whnf
   rfl
  conv=>whnf
  refine⟨show (0:Int)<=(j:Int)/\(j:Int)<(u.on.length:Nat) from ⟨by omega,by omega⟩,?_⟩;conv=>whnf
  (generalize hrq:jC _ _ (aV u.on)=rq;obtain rfl:rq=intA h :: ntA b:=hrq.symm.trans (hrow);clear hrq;conv=>whnf)
  refine kS [] hnm ?_;rintro r ⟨out,rfl,ho⟩
  have hol2:out.length<=1000000:=by have:=ho.2;rw[List.length_nil] at this;omega
  conv=>whnf
  refine jB [1,3,5] ?_;conv=>whnf
  refine jE (fun i:Nat=>[(6,.v (.int .i64 i))]) (fun _=>[o9 u]) (fun _=>[]) (fun i=>i<=out.length /\ ∀ m (h:m<out.length),m<i->0<=qI u out[m]) (fun i=>out.length-i) 0 ?_ ⟨Nat.zero_le _,fun i h h2=>by omega⟩ ?_
  ·repeat' constructor
  rintro i ⟨hi9,hni⟩;conv=>whnf
  rcases Nat.lt_or_ge i out.length with hilt | hige
  ·have hrow2:=mO out i hilt
   have hixi:=hix out[i]
   obtain⟨X,hX⟩ : ∃ X,qI u out[i]=X:=⟨_,rfl⟩
   rw[hX] at hixi;rw[jP (show (i:Int)<(out.length:Int) by omega)];conv=>whnf
   refine⟨show (0:Int)<=(i:Int)/\(i:Int)<(out.length:Nat) from ⟨by omega,by omega⟩,?_⟩;conv=>whnf
   (generalize hrq:jC _ _ (vE out)=rq;obtain rfl:rq=[jR out[i]]:=hrq.symm.trans (hrow2);clear hrq;conv=>whnf)
   refine kS [] hixi ?_;rintro r rfl;conv=>whnf
   by_cases hneg:X<0
   ·rw[jP hneg]
    have hc:=hhit (by
     unfold bdN;rw[Bool.or_eq_true];refine .inr ((jdb _ _).2 ⟨out[i],?_,by rw[hX];exact hneg⟩)
     exact ((ho.1 _).1 (List.getElem_mem hilt)).resolve_left (by simp))
    rw[hc];conv=>whnf
    rfl
   rw[jH hneg];conv=>whnf
   refine jN i (by omega) ?_;conv=>whnf
   refine⟨i+1,jD [] ?_,⟨show i+1<=out.length by omega,fun m h h2 => ?_⟩,show out.length-(i+1)<out.length-i by omega⟩
   ·conv=>whnf
    repeat' constructor
   ·by_cases q:m=i
    ·subst q;omega
    ·exact hni m h (by omega)
  rw[jH (show ¬ (i:Int)<(out.length:Int) by omega)];conv=>whnf
  refine jN j (by omega) ?_;conv=>whnf
  refine⟨j+1,jD [] ?_,⟨show j+1<=u.on.length by omega,hnew ?_⟩,show u.on.length-(j+1)<u.on.length-j by omega⟩
  ·conv=>whnf
   repeat' constructor
  ·unfold bdN;rw[hw,Bool.or_eq_false_iff];refine⟨rfl,?_⟩;rw[Bool.eq_false_iff];intro hun
   obtain⟨x,h1,h2⟩ := (jdb _ _).1 hun
   obtain⟨m,hm,rfl⟩ := List.mem_iff_getElem.1 ((ho.1 x).2 (.inr h1))
   have:=hni m hm (by omega)
   omega
 have hc:=jjF (u:=u) fun i h=>hn i h (by omega)
 rw[hc];rw[jH (show ¬ (j:Int)<(u.on.length:Int) by omega)];conv=>whnf
 rfl
mutual
def rE (ix:ByteArray->Int) (v:Int):Nt->Prop
 | .mk k n s kids=>(k=12 ∨ k=13 -> -2147483647<=n/\n<=2147483647)/\(k=1 ∨ k=14->0<=ix s/\ix s<=v)/\(k=4->0<=n/\n<=29)/\(k=5 ∨ k=6->0<=n/\n<=7)/\jgb ix v kids
def jgb (ix:ByteArray->Int) (v:Int):List Nt->Prop
 | []=>True
 | f :: l=>rE ix v f/\jgb ix v l
end
theorem jeu {ix:ByteArray->Int} {v:Int} : ∀ {l:List Nt} {f:Nt},jgb ix v l->f ∈ l->rE ix v f
 | x :: r,f,h,hf=>by
  unfold jgb at h
  rcases List.mem_cons.1 hf with rfl | hf
  ·exact h.1
  ·exact jeu h.2 hf
def OpK (v:Int) (i:Ic):Prop:=(i.1=15 ∨ i.1=16) ∨ ∀ l,okI v l i=true
def GK (v:Int) (g:Int->List Ic):Prop := ∀ a,∀ i ∈ g a,OpK v i
theorem GK.one {v:Int} {i:Ic} (h:OpK v i):GK v fun _=>[i]:=fun _ j hj=>by rw[List.mem_singleton.1 hj];exact h
theorem GK.app {v:Int} {g h:Int->List Ic} (hg:GK v g) (hh:GK v h):GK v fun a=>g a++h (a+(g a).length):=fun a i hi=>by
 rcases List.mem_append.1 hi with hi | hi
 ·exact hg _ i hi
 ·exact hh _ i hi
theorem GK.seq {v:Int} : ∀ {l:List (Int->List Ic)},(∀ g ∈ l,GK v g)->GK v (wO l)
 | [],_=>fun _ i hi=>by cases hi
 | g :: r,h=>GK.app (h g List.mem_cons_self) (GK.seq fun x hx=>h x (List.mem_cons_of_mem _ hx))
theorem GK.br {v:Int} {c y n:Int->List Ic} (hc:GK v c) (hy:GK v y) (hn:GK v n):GK v (mW c y n):=fun a i hi=>by
 unfold mW at hi;simp only[List.mem_append,List.mem_cons] at hi
 rcases hi with hi | rfl | hi | rfl | hi
 ·exact hc _ i hi
 ·exact .inl (.inr rfl)
 ·exact hy _ i hi
 ·exact .inl (.inl rfl)
 ·exact hn _ i hi
theorem GK.wh {v:Int} {c b:Int->List Ic} (hc:GK v c) (hb:GK v b):GK v fun at' => c at'++(16,at'+(c at').length+(b (at'+(c at').length+1)).length+2) :: (b (at'+(c at').length+1)++[(15,at')]):=fun a i hi=>by
 simp only[List.mem_append,List.mem_cons,List.not_mem_nil,or_false] at hi
 rcases hi with hi | rfl | hi | rfl
 ·exact hc _ i hi
 ·exact .inl (.inr rfl)
 ·exact hb _ i hi
 ·exact .inl (.inl rfl)
theorem jcM {v o:Int} (h:(o=5 ∨ 6<=o/\o<=14 ∨ 20<=o/\o<=23)):OpK v (o,0) := .inr fun l=>by
 have:o=5 ∨ o=6 ∨ o=7 ∨ o=8 ∨ o=9 ∨ o=10 ∨ o=11 ∨ o=12 ∨ o=13 ∨ o=14 ∨ o=20 ∨ o=21 ∨ o=22 ∨ o=23:=by omega
 rcases this with rfl | rfl | rfl | rfl | rfl | rfl | rfl | rfl | rfl | rfl | rfl | rfl | rfl | rfl
 all_goals rfl
theorem mM {v o n lo hi:Int} (h:o=1/\lo = -2147483647/\hi=2147483647 ∨ (o=2 ∨ o=3)/\lo=0/\hi=v ∨ o=4/\lo=0/\hi=8 ∨ o=17/\lo=0/\hi=29 ∨ (o=18 ∨ o=19)/\lo=0/\hi=7) (h1:lo<=n/\n<=hi):OpK v (o,n) := .inr fun l=>by
 have h2:(decide (lo<=n) && decide (n<=hi))=true:=by rw[jP h1.1,jP h1.2];rfl
 rcases h with ⟨rfl,rfl,rfl⟩ | ⟨rfl | rfl,rfl,rfl⟩ | ⟨rfl,rfl,rfl⟩ | ⟨rfl,rfl,rfl⟩ | ⟨rfl | rfl,rfl,rfl⟩
 all_goals exact h2
theorem jqe (v:Int) (s:ByteArray):GK v fun _=>opC s:=fun _ i hi=>by
 have hi:i ∈ opC s:=hi
 unfold opC at hi
 repeat' split at hi
 all_goals simp only[List.mem_cons,List.not_mem_nil,or_false] at hi
 all_goals first
  | (rcases hi with rfl | rfl <;> exact jcM (by decide))
  | (subst hi;exact jcM (by decide))
theorem jlV {s:ByteArray} (h:(builtL.any fun x=>decide (s=x))=true):0<=biF s/\biF s<=8:=by
 have h:=jcd h
 unfold builtL at h;simp only[List.mem_cons,List.not_mem_nil,or_false] at h
 rcases h with rfl | rfl | rfl | rfl | rfl | rfl | rfl | rfl | rfl
 all_goals decide
theorem jk0 (ix:ByteArray->Int) (v:Int):∀ f:Nt,aL f->rE ix v f->GK v (jK ix f)
 | .mk k n s kids,hw,hb=>by
  unfold aL at hw
  obtain⟨ha,hwk,-⟩ := hw
  unfold rE at hb
  obtain⟨b1,b2,b3,b4,b5⟩ := hb
  have hk:∀ f ∈ kids,GK v (jK ix f):=fun f hf=>jk0 ix v f (y7 hwk hf) (jeu b5 hf)
  rw[show jK ix (.mk k n s kids)=qV ix k n s (jI ix kids) by funext at';rw[jK]]
  have hg:∀ g ∈ jI ix kids,GK v g:=fun g hg=>by
   rw[kM] at hg
   obtain⟨f,hf,rfl⟩ := List.mem_map.1 hg
   exact hk f hf
  have hsq:=GK.seq hg
  clear b5 hwk;unfold arN at ha
  by_cases h11:k=11
  ·subst h11
   exact GK.app hsq (h:=fun _=>[]) fun _ i hi=>by cases hi
  rw[if_neg h11] at ha
  by_cases h0:k=12 ∨ k=13 ∨ k=14 ∨ k=5 ∨ k=6 ∨ k=7 ∨ k=10
  ·rcases h0 with rfl | rfl | rfl | rfl | rfl | rfl | rfl
   ·exact GK.one (mM (.inl ⟨rfl,rfl,rfl⟩) (b1 (.inl rfl)))
   ·exact GK.one (mM (.inl ⟨rfl,rfl,rfl⟩) (b1 (.inr rfl)))
   ·exact GK.one (mM (.inr (.inl ⟨.inl rfl,rfl,rfl⟩)) (b2 (.inr rfl)))
   ·exact GK.one (mM (.inr (.inr (.inr (.inr ⟨.inl rfl,rfl,rfl⟩)))) (b4 (.inl rfl)))
   ·exact GK.one (mM (.inr (.inr (.inr (.inr ⟨.inr rfl,rfl,rfl⟩)))) (b4 (.inr rfl)))
   ·exact GK.one (jcM (by decide))
   ·exact GK.one (jcM (by decide))
  rw[if_neg h0] at ha
  by_cases h15:k=15
  ·rw[if_pos h15,Bool.and_eq_true] at ha;subst h15;exact GK.one (mM (.inr (.inr (.inl ⟨rfl,rfl,rfl⟩))) (jlV ha.2))
  rw[if_neg h15] at ha
  by_cases h1:k=16 ∨ k=1 ∨ k=9
  ·rcases h1 with rfl | rfl | rfl
   ·exact GK.app hsq (GK.one (jcM (by decide)))
   ·exact GK.app hsq (GK.one (mM (.inr (.inl ⟨.inr rfl,rfl,rfl⟩)) (b2 (.inl rfl))))
   ·exact GK.app hsq (GK.one (jcM (by decide)))
  rw[if_neg h1] at ha
  by_cases h17:k=17
  ·subst h17
   have ht:GK v fun _=>(if s=pMinus then [((10,0):Ic)] else [(14,0)]):=by
    split <;> exact GK.one (jcM (by decide))
   exact GK.app hsq ht
  rw[if_neg h17] at ha
  by_cases h18:k=18
  ·rw[if_pos h18,Bool.and_eq_true,decide_eq_true_eq] at ha;subst h18
   obtain⟨ha,-⟩ := ha
   match kids,ha with
   | [c,d],_ =>
    have hc1:=hk c (by simp)
    have hd1:=hk d (by simp)
    have k1:∀ x:Int,0<=x->x<=1->OpK v (1,x):=fun x h1 h2=>mM (.inl ⟨rfl,rfl,rfl⟩) ⟨by omega,by omega⟩
    by_cases hA:s=yC
    ·have he:qV ix 18 n s (jI ix [c,d])=mW (jK ix c) (jK ix d) (fun _=>[(1,0)]):=by
      funext at';simp[qV,hA,jI]
     rw[he];exact GK.br hc1 hd1 (GK.one (k1 _ (by decide) (by decide)))
    by_cases hO:s=rG
    ·have he:qV ix 18 n s (jI ix [c,d])=mW (jK ix c) (fun _=>[(1,1)]) (jK ix d):=by
      funext at';simp[qV,hA,hO,jI]
      exact fun h=>absurd h (by decide)
     rw[he];exact GK.br hc1 (GK.one (k1 _ (by decide) (by decide))) hd1
    have he:qV ix 18 n s (jI ix [c,d])=fun a=>wO (jI ix [c,d]) a++opC s:=by
     funext at';simp[qV,hA,hO]
    rw[he];exact GK.app hsq (jqe v s)
  rw[if_neg h18] at ha
  by_cases h8:k=8 ∨ k=3
  ·rw[if_pos h8,decide_eq_true_eq] at ha
   rcases h8 with rfl | rfl
   ·exact GK.app hsq (GK.one (jcM (by decide)))
   ·match kids,ha with
    | [c,d],_=>exact GK.wh (hk c (by simp)) (hk d (by simp))
  rw[if_neg h8] at ha
  by_cases h2:k=2 ∨ k=4
  ·rw[if_pos h2,decide_eq_true_eq] at ha
   rcases h2 with rfl | rfl
   ·match kids,ha with
    | [c,d,e],_=>exact GK.br (hk c (by simp)) (hk d (by simp)) (hk e (by simp))
   ·exact GK.app hsq (GK.one (mM (.inr (.inr (.inr (.inl ⟨rfl,rfl,rfl⟩)))) (b3 rfl)))
  rw[if_neg h2] at ha
  cases ha
theorem jnr (ix:ByteArray->Int) (v:Int):∀ (l:List (Int × Nt)) (c:List Ic) (e:Nat->Int),(∀ h ∈ l,aL h.2/\rE ix v h.2)->(∀ i ∈ c,OpK v i/\(i.1=15 ∨ i.1=16->0<=i.2/\i.2<c.length)) -> ∀ i ∈ (lM ix l c e).1,OpK v i/\(i.1=15 ∨ i.1=16->0<=i.2/\i.2<(lM ix l c e).1.length)
 | [],c,e,_,hc=>hc
 | (h,b) :: r,c,e,hl,hc=>by
  unfold lM
  have hb:=hl _ List.mem_cons_self
  refine jnr ix v r _ _ (fun x hx=>hl x (List.mem_cons_of_mem _ hx)) fun i hi => ?_
  simp only[List.length_append,List.length_singleton]
  rcases List.mem_append.1 hi with hi | hi
  ·rcases List.mem_append.1 hi with hi | hi
   ·refine⟨(hc i hi).1,fun h => ?_⟩
    have:=(hc i hi).2 h
    omega
   ·refine⟨jk0 ix v b hb.1 hb.2 _ i hi,fun h => ?_⟩
    have:=jdL ix b _ i hi h
    omega
  ·rw[List.mem_singleton.1 hi];exact⟨jcM (by decide),fun h=>by simp at h⟩
theorem jlD (code:List Ic) (e:Nat->Int):∀ (m j:Nat),(∀ i,j<=i->i<j+m->qO code (e i)=0)->jj4 code e j m 0=0
 | 0,j,h=>rfl
 | m+1,j,h=>by
  unfold jj4
  have h0:=h j (Nat.le_refl _) (by omega)
  rw[h0,if_neg (by decide),if_neg (by decide)]
  exact jlD code e m (j+1) fun i h1 h2=>h i (by omega) (by omega)
theorem jh2 {p:Int->Bool} {e:Nat->Int} (h:∀ i,p (e i)=true):∀ (m j:Nat),fI p e j m=true
 | 0,j=>rfl
 | m+1,j=>by
  unfold fI;rw[h j,jh2 h m (j+1)];rfl
theorem jpb {u:Ut} (hu:WfU u) (hb:∀ h ∈ u.on,rE (qI u) ((u.du.length:Int)+u.vo.length-1) h.2) (he:iH u=0):jj5 (zV u).1 (zV u).2 u.du.length u.vo.length=0:=by
 have hdv:=hu.du
 have h400 : ¬ 400<(zV u).1.length:=fun h=>by
  unfold iH at he;rw[if_pos h] at he;cases he
 have hk:=jnr (qI u) ((u.du.length:Int)+u.vo.length-1) u.on [] noE (fun h hh=>⟨(hu.on h hh).2.2,hb h hh⟩) (fun i hi=>by cases hi)
 change ∀ i ∈ (zV u).1,OpK _ i/\(_->0<=i.2/\i.2<((zV u).1.length:Int)) at hk
 unfold jj5;rw[if_neg h400,if_neg (by omega),if_neg,if_neg]
 ·refine jlD _ _ 40 0 fun i h1 h2 => ?_
  unfold iH at he;rw[if_neg h400] at he;exact jb7 _ _ 40 0 he i h1 h2
 ·rw[jh2 fun i => ?_]
  ·decide
  ·unfold dH;rw[Bool.and_eq_true,decide_eq_true_eq,decide_eq_true_eq]
   rcases lX hu i with ⟨h,-⟩ | ⟨h,-⟩
   ·rw[h];omega
   ·exact⟨by have:=h.1;omega,h.2.1⟩
 ·rw[Bool.not_eq_false,List.all_eq_true];intro i hi
  obtain⟨h1,h2⟩ := hk i hi
  rcases h1 with h1 | h1
  ·have:=h2 h1
   obtain⟨o,n⟩ := i
   simp only at h1 this
   have h3:(decide (0<=n) && decide (n<=((zV u).1.length:Int)-1))=true:=by rw[jP this.1,jP (by omega)];rfl
   rcases h1 with rfl | rfl
   all_goals exact h3
  ·exact h1 _
end Go.Proofs.YtfbifdccmabdbaaGreatDoor.Vm
namespace Go.Proofs.YtfbifdccmabdbaaGreatDoor.Vm
open Go.RowKit
section
end
section
end
section
end
end Go.Proofs.YtfbifdccmabdbaaGreatDoor.Vm
namespace Go.Proofs.YtfbifdccmabdbaaGreatDoor.Vm
open Go.RowKit Go.Shelf
structure Ks (T:List Tk):Prop where
 t:∀ t ∈ T,K6 t
 n:T.length<=1000000
 w:TkW T
structure S6 where
 i:Nat
 a:Int
 e:Int
theorem jax:Spec Tryz.prog 142 [] [] fun _ r=>r = .sl 1 builtL.length (dU builtL):=by
 refine eN jM qD 0 Tryz.func142 rfl ?_;intro _;conv=>whnf
 rfl
section
variable {T:List Tk}
end
section
variable {T:List Tk}
end
section
variable {T:List Tk}
def opsA:List A:=[.v (.slice none 0 0),.sl 1 1 [jR rG],.sl 1 1 [jR yC],.v (.slice none 0 0),.sl 1 6 [jR pLt,jR pLe,jR pGt,jR pGe,jR jkE,jR pNe],.sl 1 2 [jR cA,jR pMinus],.sl 1 2 [jR xY,jR wH]]
end
section
variable {T:List Tk}
end
section
variable {T:List Tk}
end
section
variable {T:List Tk}
end
section
variable {T:List Tk}
theorem jqx (f b:Nt):WkL [intA 2,intA 0,jR eB,.sl 4 3 (ntA f++(ntA b++jmE (wQ [])))] [intA 2,intA 0,jR eB,.sl 4 3 (ntA f++(ntA b++ntA (wQ [])))] :=
 .cons (.refl _) (.cons (.refl _) (.cons (.refl _) (.cons (.sl 4 3 (WkL.app (WkL.refl (ntA f)) (WkL.app (WkL.refl (ntA b)) (zO (f:=wQ []) rfl)))) .nil)))
end
section
variable {T:List Tk}
end
section
variable {T:List Tk}
end
section
variable {T:List Tk}
end
section
end
section
end
section
end
section
end
section
end
section
end
end Go.Proofs.YtfbifdccmabdbaaGreatDoor.Vm
namespace Go.Proofs.YtfbifdccmabdbaaGreatDoor.Vm
open Go.RowKit
def jc9 (n:Int):Int:=if n<0 then -(n+1) else n
def lR (n m:Int):Int:=(jc9 n).tmod m
theorem jdl {n:Int} (hn : -9223372036854775808<=n/\n<=9223372036854775807):0<=jc9 n/\jc9 n<=9223372036854775807:=by unfold jc9;split <;> omega
theorem jdr {n m:Int} (hn : -9223372036854775808<=n/\n<=9223372036854775807) (hm:1<=m):0<=lR n m/\lR n m<m:=by
 have h:=jdl hn
 unfold lR;rw[Int.tmod_eq_emod_of_nonneg h.1];exact⟨Int.emod_nonneg _ (by omega),Int.emod_lt_of_pos _ (by omega)⟩
theorem jds (n m:Int) (hm:1<=m/\m<=9223372036854775807):Spec Tryz.prog 27 [] [intA n,intA m] fun _ r=>(-9223372036854775808<=n/\n<=9223372036854775807)/\r=intA (lR n m):=by
 refine eN jM qD 0 Tryz.func27 rfl ?_;intro hok
 have hn : -9223372036854775808<=n/\n<=9223372036854775807:=okA_int.1 hok.1
 have hab:=jdl hn
 conv=>whnf
 by_cases h:n<0
 ·refine zG (b:=decide (n<0)) (jP h) ?_;conv=>whnf
  refine⟨jU (by omega),?_⟩;conv=>whnf
  refine⟨jU (by omega),?_⟩;conv=>whnf
  refine⟨by omega,?_⟩;conv=>whnf
  refine⟨hn,?_⟩
  have:0-(n+1)=jc9 n:=by unfold jc9;rw[if_pos h];omega
  rw[this];rfl
 ·refine j5 (b:=decide (n<0)) (jH h) ?_;conv=>whnf
  refine⟨by omega,?_⟩;conv=>whnf
  refine⟨hn,?_⟩
  have:n=jc9 n:=by unfold jc9;rw[if_neg h]
  show A.v (.int .i64 (n.tmod m))=intA ((jc9 n).tmod m)
  rw[<- this];rfl
end Go.Proofs.YtfbifdccmabdbaaGreatDoor.Vm
namespace Go.Proofs.YtfbifdccmabdbaaGreatDoor.Vm
open Go.RowKit Go.Shelf
def phA (κ i:Nat):Nat:=if i<70 then (4*κ+12)*i else (4*κ+12)*70
def mU (κ i:Nat):Nat:=if i<70 then (4*κ+12)*i else (4*κ+12)*70+6*κ+18
theorem iV (κ i:Nat):phA κ i<=phA κ (i+1)/\(i<70->phA κ i+(4*κ+12)<=phA κ (i+1)):=by
 unfold phA;generalize 4*κ+12=c
 have e:c*(i+1)=c*i+c:=Nat.mul_succ c i
 by_cases h:i<70
 ·rw[if_pos h]
  by_cases h2:i+1<70
  ·rw[if_pos h2];omega
  ·rw[if_neg h2]
   obtain rfl:i=69:=by omega
   omega
 ·rw[if_neg h,if_neg (by omega)];omega
theorem jbz (κ i:Nat):(i<70->mU κ i=phA κ i)/\(70<=i->mU κ i=phA κ i+6*κ+18):=by
 unfold mU phA
 by_cases h:i<70
 ·rw[if_pos h,if_pos h];omega
 ·rw[if_neg h,if_neg h];omega
theorem xG (κ i:Nat):mU κ i<=mU κ (i+1)/\(i<70->mU κ i+(4*κ+12)<=mU κ (i+1)):=by
 have h1:=jbz κ i
 have h2:=jbz κ (i+1)
 have h3:=iV κ i
 omega
theorem bE {κ w b i j:Nat} (hij:i<=j) (h:w+phA κ i<=b+phA κ j):w+mU κ i<=b+mU κ j:=by
 have h1:=jbz κ i
 have h2:=jbz κ j
 omega
theorem jcS (κ i:Nat):mU κ i<=(4*κ+12)*70+6*κ+18/\(67<=i->i<70->mU κ i+(4*κ+12)<=(4*κ+12)*70)/\(70<=i->mU κ i=(4*κ+12)*70+6*κ+18):=by
 unfold mU;generalize 4*κ+12=c
 by_cases h:i<70
 ·rw[if_pos h]
  have e:c*(i+1)=c*i+c:=Nat.mul_succ c i
  have e2:c*(i+1)<=c*70:=Nat.mul_le_mul_left c (by omega)
  omega
 ·rw[if_neg h];omega
def dgN (n:Int):Nat:=if n<10 then 1 else if n<100 then 2 else if n<1000 then 3 else 10
mutual
def wN (κ:Nat):Nt->Nat
 | .mk k n s kids=>(if k=12 then κ+dgN n else if k=13 then 5+κ else if k=14 then κ+s.size else if k=15 then κ+s.size else if k=16 then 6+3*κ else s.size+(2+3*κ))+wNs κ kids
def wNs (κ:Nat):List Nt->Nat
 | []=>0
 | f :: l=>wN κ f+wNs κ l
end
theorem jpd (κ:Nat) (n:Int):wN κ (.mk 12 n eB [])=κ+dgN n:=rfl
theorem jn6 (κ:Nat) (n:Int):wN κ (.mk 13 n eB [])=5+κ:=rfl
theorem jpf (κ:Nat) (s:ByteArray):wN κ (.mk 14 0 s [])=κ+s.size:=rfl
theorem jpe (κ:Nat) (s:ByteArray):wN κ (.mk 15 0 s [])=κ+s.size:=rfl
theorem jpc (κ:Nat) (f:Nt):wN κ (.mk 16 0 eB [f])=6+3*κ+wN κ f:=rfl
theorem jlE (κ:Nat) (s:ByteArray) (f:Nt):wN κ (.mk 17 0 s [f])=s.size+(2+3*κ)+wN κ f:=by
 rw[wN,wNs,wNs];simp
theorem jgR (κ:Nat) (s:ByteArray) (f g:Nt):wN κ (.mk 18 0 s [f,g])=s.size+(2+3*κ)+(wN κ f+wN κ g):=by
 rw[wN,wNs,wNs,wNs];simp
def jov (l:List Nt) (i:Nat):Nt:=l.getD i (.mk 0 0 eB [])
mutual
def wS (κ:Nat):Nt->Nat
 | .mk k n s kids=>if k=1 then s.size+2+3*κ+wNs κ kids else if k=4 then 9+6*κ+wNs κ kids else if k=5 then 7+3*κ else if k=6 then 8+3*κ else if k=7 then 5+2*κ else if k=10 then 5+2*κ else if k=8 then 7+3*κ+wNs κ kids else if k=9 then 5+2*κ+wNs κ kids else if k=3 then 5+κ+wN κ (jov kids 0)+(wBs κ kids).getD 1 0 else 2+κ+wN κ (jov kids 0)+(wBs κ kids).getD 1 0+(if 0<(jov kids 2).kids.length then 4+κ+(wBs κ kids).getD 2 0 else 0)
def wB (κ:Nat):Nt->Nat
 | .mk _ _ _ kids=>2+2*κ+wSs κ kids
def wSs (κ:Nat):List Nt->Nat
 | []=>0
 | f :: l=>wS κ f+wSs κ l
def wBs (κ:Nat):List Nt->List Nat
 | []=>[]
 | f :: l=>wB κ f :: wBs κ l
end
theorem jdc (κ:Nat) (l:List Nt):wB κ (wQ l)=2+2*κ+wSs κ l:=by unfold wQ;rw[wB]
theorem jlF (κ:Nat) (s:ByteArray) (f:Nt):wS κ (.mk 1 0 s [f])=s.size+2+3*κ+wN κ f:=rfl
theorem jpk (κ:Nat) (n:Int) (f g h:Nt):wS κ (.mk 4 n eB [f,g,h])=9+6*κ+(wN κ f+(wN κ g+wN κ h)):=rfl
theorem jpn (κ:Nat) (n:Int):wS κ (.mk 5 n eB [])=7+3*κ:=rfl
theorem jpg (κ:Nat) (n:Int):wS κ (.mk 6 n eB [])=8+3*κ:=rfl
theorem jpm (κ:Nat):wS κ (.mk 7 0 eB [])=5+2*κ:=rfl
theorem jpl (κ:Nat):wS κ (.mk 10 0 eB [])=5+2*κ:=rfl
theorem jpj (κ:Nat) (f g:Nt):wS κ (.mk 8 0 eB [f,g])=7+3*κ+(wN κ f+wN κ g):=rfl
theorem jph (κ:Nat) (f:Nt):wS κ (.mk 9 0 eB [f])=5+2*κ+wN κ f:=rfl
theorem jpo (κ:Nat) (c b:Nt):wS κ (.mk 3 0 eB [c,b])=5+κ+wN κ c+wB κ b:=rfl
theorem jpi (κ:Nat) (c b d:Nt):wS κ (.mk 2 0 eB [c,b,d])=2+κ+wN κ c+wB κ b+(if 0<d.kids.length then 4+κ+wB κ d else 0):=rfl
theorem jlG (κ:Nat) (c:Nt) (l m:List Nt):wS κ (.mk 2 0 eB [c,wQ l,wQ m])<=4+3*κ+wN κ c+wSs κ l+(6+3*κ+wSs κ m)/\(m.length=0->wS κ (.mk 2 0 eB [c,wQ l,wQ m])=4+3*κ+wN κ c+wSs κ l):=by
 rw[jpi,jdc,jdc];refine⟨by split <;> omega,fun h => ?_⟩;rw[if_neg (by show ¬ 0<m.length;omega)];omega
def wHs (κ:Nat):List (Int × Nt)->Nat
 | []=>0
 | x :: l=>11+3*κ+wB κ x.2+wHs κ l
def pkF (l:List Int) (i:Nat):Int:=if i<l.length then lR (l.getD i 0) 1000000 else 0
theorem jqp (l:List Int) (i:Nat):Spec Tryz.prog 56 [] [.sl 1 l.length (jQ l),intA i,intA 1000000] fun _ r=>(0<=pkF l i/\pkF l i<1000000)/\r=intA (pkF l i):=by
 unfold pkF;refine eN jM qD 0 Tryz.func56 rfl ?_;intro hok;conv=>whnf
 rw[jH (show ¬ (i:Int)<0 by omega)];conv=>whnf
 by_cases hi:i<l.length
 ·have hr:=bM l i hi
  have e:l.getD i 0=l[i]:=by rw[List.getD_eq_getElem?_getD,List.getElem?_eq_getElem hi];rfl
  rw[<- e] at hr;rw[if_pos hi,jH (show ¬ (l.length:Int)<=i by omega)];generalize l.getD i 0=x at *
  have ha:=jds x 1000000 (by omega)
  conv=>whnf
  (refine rN ?_;try with_reducible exact trivial)
  (generalize hrq:jC _ _ (jQ l)=rq;obtain rfl:rq=[intA x]:=hrq.symm.trans (hr);clear hrq;conv=>whnf)
  refine kS [] ha ?_;rintro r ⟨hx,rfl⟩;conv=>whnf
  exact⟨jdr hx (by omega),rfl⟩
 ·rw[if_neg hi,jP (show (l.length:Int)<=i by omega)];conv=>whnf
  exact⟨by omega,rfl⟩
def bxG (l:List Int) (i:Nat):List A:=[.sl 1 l.length (jQ l),.v (.int .i64 i)]
def pk (l:List Int) (i m:Nat):Nat:=(pkF l i).toNat % m
theorem yT (l:List Int) (i:Nat) {m:Nat} (h:0<m):pk l i m<m:=Nat.mod_lt _ h
theorem yP (l:List Int) (i m:Nat) (hi:i<=1000000000) (hm:1<=m/\m<=1000):Spec Tryz.prog 37 [bxG l i] [.box 0 0,.v (.int .i64 m)] fun o r=>o=[bxG l (i+1)]/\r = .v (.int .i64 (pk l i m)):=by
 unfold pk;refine eN jqj qD 1 Tryz.func37 rfl ?_;intro hok;conv=>whnf
 refine kS [] (jqp l i) ?_;rintro r ⟨hr,rfl⟩
 obtain⟨k,hk⟩ : ∃ k:Nat,pkF l i=(k:Int):=⟨(pkF l i).toNat,by omega⟩
 rw[hk] at hr ⊢;conv=>whnf
 (refine rN ?_;try with_reducible exact trivial)
 have e:((k:Int)).tmod (m:Int)=((k % m:Nat):Int):=by rw[Int.tmod_eq_emod_of_nonneg (by omega)];omega
 exact⟨rfl,by rw[e];rfl⟩
theorem nN {α:Type} (f:α->A) (l:List α) (i:Nat) (h:i<l.length):(l.map f).drop (i*1)=f l[i] :: (l.map f).drop (i+1):=by
 rw[Nat.mul_one,List.drop_eq_getElem_cons (by simpa using h),List.getElem_map]
theorem iW (l:List Int) (i m:Nat) (h:l.length<=70):70<=i->pk l i m=0:=fun hi=>by
 unfold pk pkF;rw[if_neg (by omega)];exact Nat.zero_mod m
def varL:List ByteArray:=[⟨#[100]⟩,⟨#[100,100,49]⟩,⟨#[118]⟩,⟨#[119,50]⟩]
theorem jok (l:List Int) (i:Nat) (hi:i<=1000000000):∃ s ∈ varL,(s.size<=3/\(l.length<=70->70<=i->s.size=1))/\Spec Tryz.prog 112 [bxG l i] [.box 0 0] fun o r=>o=[bxG l (i+1)]/\r=jR s:=by
 have hp:=yP l i 4 hi (by decide)
 have hlt:=yT l i (m:=4) (by decide)
 have ho:=iW l i 4
 generalize pk l i 4=k at *;refine⟨varL[k]'hlt,List.getElem_mem _,?_,?_⟩
 ·have h4:∀ (k:Nat) (h:k<varL.length),(varL[k]'h).size<=3/\(k=0->(varL[k]'h).size=1):=by decide
  exact⟨(h4 k hlt).1,fun a b=>(h4 k hlt).2 (ho a b)⟩
 have hr:=nN jR varL k hlt
 generalize varL[k]'hlt=s at *;refine eN jM qD 1 Tryz.func112 rfl ?_;intro hok;conv=>whnf
 refine qN 0 [] hp ?_;rintro o r ⟨ho,rfl⟩;cases ho;conv=>whnf
 refine⟨⟨by omega,by omega⟩,?_⟩;conv=>whnf
 generalize hrq:List.drop (Int.toNat (k:Int)*_) _=rq
 obtain rfl:rq=_ :: _:=hrq.symm.trans hr
 clear hrq;conv=>whnf
 exact⟨rfl,rfl⟩
def litL:List Int:=[0,1,2,3,7,100,2147483647,30]
def opL:List ByteArray:=[cA,pMinus,xY,wH]
inductive EI:Nat->Nt->Prop
 | lit (d:Nat) (n:Int) (h:n ∈ litL):EI d (.mk 12 n eB [])
 | var (d:Nat) (s:ByteArray) (h:s ∈ varL):EI d (.mk 14 0 s [])
 | nam (d:Nat) (s:ByteArray) (h:s ∈ builtL):EI d (.mk 15 0 s [])
 | drw (d:Nat) (f:Nt) (h:EI d f):EI (d+1) (.mk 16 0 eB [f])
 | neg (d:Nat) (f:Nt) (h:EI d f):EI (d+1) (.mk 17 0 pMinus [f])
 | bin (d:Nat) (s:ByteArray) (f g:Nt) (hs:s ∈ opL) (h1:EI d f) (h2:EI d g):EI (d+1) (.mk 18 0 s [f,g])
def bI:Nat->Nat
 | 0=>2
 | d+1=>2+2*bI d
theorem jni:∀ d,2<=bI d
 | 0=>Nat.le_refl _
 | d+1=>by unfold bI;omega
def jnG (l:List Int) (d:Nat):Prop:=l.length<=70 -> ∀ (i:Nat) (z:Int),z.toNat=d -> -5<=z->z<=10->i+bI d<=1000000000 -> ∃ f i',EI d f/\i<=i'/\i'<=i+bI d/\(∀ κ,1<=κ->κ<=7->wN κ f+phA κ i<=1+κ+phA κ i')/\Spec Tryz.prog 113 [bxG l i] [.box 0 0,.v (.int .i64 z)] fun o r=>o=[bxG l i']/\r = .agg (ntA f)
theorem gw {P:Program} {f:Nat} {cs args:List A} {X:List (List A)} {t:Nt} (h:Spec P f [cs] args fun o r=>o=X /\ ∃ l,r = .agg l/\WkL l (ntA t)):Spec P f [cs] args fun o r=>o=X/\r = .agg (ntA t) :=
 Spec.weaken h fun o r ⟨h1,l,h2,h3⟩=>⟨o,.agg (ntA t),⟨h1,rfl⟩,.refl _,by rw[h2];exact .agg h3⟩
theorem jpQ (l:List Int) (d:Nat) (ih:∀ e,d=e+1->jnG l e):jnG l d:=fun hl i z hz h1 h2 hi=>by
 have hge:=jni d
 have hp:=yP l i 12 (by omega) (by decide)
 have hlt:=yT l i (m:=12) (by decide)
 have ho:=iW l i 12 hl
 have p0:=fun κ=>iV κ i
 have p1:=fun κ=>iV κ (i+1)
 have pe2:∀ κ,phA κ (i+2)=phA κ (i+1+1):=fun _=>rfl
 generalize pk l i 12=n0 at *
 obtain⟨n,hn⟩ : ∃ n,(if z<=0 then n0 % 6 else n0)=n:=⟨_,rfl⟩
 have hn12:n<12:=by split at hn <;> omega
 have hn6:z<=0->n<6:=fun h=>by rw[if_pos h] at hn;omega
 have hlo:n ≠ 0->i<70:=fun h=>by
  by_cases h70:70<=i
  ·have:=ho h70
   split at hn <;> omega
  ·omega
 by_cases hA:n<=1
 ·have hp2:=yP l (i+1) 8 (by omega) (by decide)
  have hlt2:=yT l (i+1) (m:=8) (by decide)
  have ho2:=iW l (i+1) 8 hl
  generalize pk l (i+1) 8=k8 at *
  have hlw:∀ (k:Nat) (h:k<litL.length),dgN (litL[k]'h)<=10/\(k=0->dgN (litL[k]'h)=1):=by decide
  have hlk:=hlw k8 hlt2
  refine⟨.mk 12 (litL[k8]'hlt2) eB [],i+2,.lit _ _ (List.getElem_mem _),by omega,by omega,fun κ ka kb=>by have p0:=p0 κ;have p1:=p1 κ;have pe2:=pe2 κ;rw[jpd];omega,?_⟩;clear hlw hlk
  have hr:=nN intA litL k8 hlt2
  generalize litL[k8]'hlt2=x at *
  rcases (by omega:n=0 ∨ n=1) with rfl | rfl
  all_goals
   refine gw ?_;refine eN oN (fun _=>[0]) 1 Tryz.func113 rfl ?_;intro hok;conv=>whnf
   refine qN 0 [] hp ?_;rintro o r ⟨ho,rfl⟩;cases ho;conv=>whnf
   by_cases hz0:z<=0
   all_goals
    first
    | (rw[if_pos hz0] at hn;rw[jP hz0];(conv=>whnf);refine⟨by decide,?_⟩;rw[Int.tmod_eq_emod_of_nonneg (by omega),show (n0:Int) % 6=((n0 % 6:Nat):Int) by omega,hn])
    | (rw[if_neg hz0] at hn;rw[jH hz0];(conv=>whnf);rw[hn])
    conv=>whnf
   all_goals
    refine qN 0 [] hp2 ?_;rintro o r ⟨ho,rfl⟩;cases ho;conv=>whnf
    refine⟨⟨by omega,by omega⟩,?_⟩;conv=>whnf
    generalize hrq:List.drop (Int.toNat (k8:Int)*_) _=rq
    obtain rfl:rq=_ :: _:=hrq.symm.trans hr
    clear hrq;conv=>whnf
    exact⟨rfl,_,rfl,zO (f := .mk 12 x eB []) rfl⟩
 by_cases hB:n<=3
 ·obtain⟨s,hs1,hs2,hp2⟩ := jok l (i+1) (by omega)
  refine⟨.mk 14 0 s [],i+2,.var _ _ hs1,by omega,by omega,fun κ ka kb=>by have p0:=p0 κ;have p1:=p1 κ;have pe2:=pe2 κ;rw[jpf];omega,?_⟩
  rcases (by omega:n=2 ∨ n=3) with rfl | rfl
  all_goals
   refine gw ?_;refine eN oN (fun _=>[0]) 1 Tryz.func113 rfl ?_;intro hok;conv=>whnf
   refine qN 0 [] hp ?_;rintro o r ⟨ho,rfl⟩;cases ho;conv=>whnf
   by_cases hz0:z<=0
   all_goals
    first
    | (rw[if_pos hz0] at hn;rw[jP hz0];(conv=>whnf);refine⟨by decide,?_⟩;rw[Int.tmod_eq_emod_of_nonneg (by omega),show (n0:Int) % 6=((n0 % 6:Nat):Int) by omega,hn])
    | (rw[if_neg hz0] at hn;rw[jH hz0];(conv=>whnf);rw[hn])
    conv=>whnf
   all_goals
    refine qN 0 [] hp2 ?_;rintro o r ⟨ho,rfl⟩;cases ho;conv=>whnf
    exact⟨rfl,_,rfl,zO (f := .mk 14 0 s []) rfl⟩
 by_cases hC:n<=5
 ·have hp2:=yP l (i+1) 9 (by omega) (by decide)
  have hlt2:=yT l (i+1) (m:=9) (by decide)
  generalize pk l (i+1) 9=k8 at *
  have hlw:∀ (k:Nat) (h:k<builtL.length),(builtL[k]'h).size<=5:=by decide
  have hlk:=hlw k8 hlt2
  refine⟨.mk 15 0 (builtL[k8]'hlt2) [],i+2,.nam _ _ (List.getElem_mem _),by omega,by omega,fun κ ka kb=>by have p0:=p0 κ;have p1:=p1 κ;have pe2:=pe2 κ;rw[jpe];omega,?_⟩;clear hlw hlk
  have hr:jC 1 k8 (dU builtL)=[jR (builtL[k8]'hlt2)]:=wM jR builtL k8 hlt2
  have hbu:=jax
  generalize builtL[k8]'hlt2=s at *
  rcases (by omega:n=4 ∨ n=5) with rfl | rfl
  all_goals
   refine gw ?_;refine eN oN (fun _=>[0]) 1 Tryz.func113 rfl ?_;intro hok;conv=>whnf
   refine qN 0 [] hp ?_;rintro o r ⟨ho,rfl⟩;cases ho;conv=>whnf
   by_cases hz0:z<=0
   all_goals
    first
    | (rw[if_pos hz0] at hn;rw[jP hz0];(conv=>whnf);refine⟨by decide,?_⟩;rw[Int.tmod_eq_emod_of_nonneg (by omega),show (n0:Int) % 6=((n0 % 6:Nat):Int) by omega,hn])
    | (rw[if_neg hz0] at hn;rw[jH hz0];(conv=>whnf);rw[hn])
    conv=>whnf
   all_goals
    (refine kS [] hbu ?_;rintro r rfl;conv=>whnf)
    refine qN 0 [] hp2 ?_;rintro o r ⟨ho,rfl⟩;cases ho;conv=>whnf
    refine⟨⟨by omega,by show (k8:Int)<9;omega⟩,?_⟩;conv=>whnf
    (generalize hrq:jC _ _ (dU builtL)=rq;obtain rfl:rq=[jR s]:=hrq.symm.trans (hr);clear hrq;conv=>whnf)
    exact⟨rfl,_,rfl,zO (f := .mk 15 0 s []) rfl⟩
 have hzp:0<z:=by
  by_cases h:0<z
  ·exact h
  ·have:=hn6 (by omega);omega
 obtain⟨e,rfl⟩ : ∃ e,d=e+1:=⟨d-1,by omega⟩
 have ihe:=ih e rfl
 unfold bI at hi
 by_cases hD:n<=7
 ·obtain⟨f,i2,hf,g1,g2,w1,hs⟩ := ihe hl (i+1) (z-1) (by omega) (by omega) (by omega) (by omega)
  rcases (by omega:n=6 ∨ n=7) with rfl | rfl
  ·refine⟨.mk 16 0 eB [f],i2,.drw _ _ hf,by omega,by unfold bI;omega,fun κ ka kb=>by have p0:=p0 κ;have p1:=p1 κ;have pe2:=pe2 κ;have w1:=w1 κ ka kb;rw[jpc];omega,?_⟩;refine gw ?_;refine eN oN (fun _=>[0]) 1 Tryz.func113 rfl ?_;intro hok;conv=>whnf
   refine qN 0 [] hp ?_;rintro o r ⟨ho,rfl⟩;cases ho;conv=>whnf
   by_cases hz0:z<=0
   all_goals
    first
    | (rw[if_pos hz0] at hn;rw[jP hz0];(conv=>whnf);refine⟨by decide,?_⟩;rw[Int.tmod_eq_emod_of_nonneg (by omega),show (n0:Int) % 6=((n0 % 6:Nat):Int) by omega,hn])
    | (rw[if_neg hz0] at hn;rw[jH hz0];(conv=>whnf);rw[hn])
    conv=>whnf
   ·exact absurd hz0 (by omega)
   refine⟨jU (by omega),?_⟩;conv=>whnf
   refine qN 0 [] hs ?_;rintro o r ⟨ho,rfl⟩;cases ho;conv=>whnf
   exact⟨rfl,_,rfl,by rw[wZ];exact zN _⟩
  ·have hsz:pMinus.size=1:=rfl
   refine⟨.mk 17 0 pMinus [f],i2,.neg _ _ hf,by omega,by unfold bI;omega,fun κ ka kb=>by have p0:=p0 κ;have p1:=p1 κ;have pe2:=pe2 κ;have w1:=w1 κ ka kb;rw[jlE];omega,?_⟩;refine gw ?_;refine eN oN (fun _=>[0]) 1 Tryz.func113 rfl ?_;intro hok;conv=>whnf
   refine qN 0 [] hp ?_;rintro o r ⟨ho,rfl⟩;cases ho;conv=>whnf
   by_cases hz0:z<=0
   all_goals
    first
    | (rw[if_pos hz0] at hn;rw[jP hz0];(conv=>whnf);refine⟨by decide,?_⟩;rw[Int.tmod_eq_emod_of_nonneg (by omega),show (n0:Int) % 6=((n0 % 6:Nat):Int) by omega,hn])
    | (rw[if_neg hz0] at hn;rw[jH hz0];(conv=>whnf);rw[hn])
    conv=>whnf
   ·exact absurd hz0 (by omega)
   refine⟨jU (by omega),?_⟩;conv=>whnf
   refine qN 0 [] hs ?_;rintro o r ⟨ho,rfl⟩;cases ho;conv=>whnf
   exact⟨rfl,_,rfl,by rw[wZ];exact zN _⟩
 have hp2:=yP l (i+1) 4 (by omega) (by decide)
 have hlt2:=yT l (i+1) (m:=4) (by decide)
 generalize pk l (i+1) 4=k8 at *
 obtain⟨f,i2,hf,g1,g2,w1,hs⟩ := ihe hl (i+1+1) (z-1) (by omega) (by omega) (by omega) (by omega)
 obtain⟨g,i3,hg,g3,g4,w2,hs2⟩ := ihe hl i2 (z-1) (by omega) (by omega) (by omega) (by omega)
 have hlw:∀ (k:Nat) (h:k<opL.length),(opL[k]'h).size=1:=by decide
 have hlk:=hlw k8 hlt2
 refine⟨.mk 18 0 (opL[k8]'hlt2) [f,g],i3,.bin _ _ _ _ (List.getElem_mem _) hf hg,by omega,by unfold bI;omega,fun κ ka kb=>by have p0:=p0 κ;have p1:=p1 κ;have pe2:=pe2 κ;have w1:=w1 κ ka kb;have w2:=w2 κ ka kb;rw[jgR];omega,?_⟩;clear hlw hlk
 have hr:=nN jR opL k8 hlt2
 generalize opL[k8]'hlt2=s at *
 rcases (by omega:n=8 ∨ n=9 ∨ n=10 ∨ n=11) with rfl | rfl | rfl | rfl
 all_goals
  refine gw ?_;refine eN oN (fun _=>[0]) 1 Tryz.func113 rfl ?_;intro hok;conv=>whnf
  refine qN 0 [] hp ?_;rintro o r ⟨ho,rfl⟩;cases ho;conv=>whnf
  by_cases hz0:z<=0
  all_goals
   first
   | (rw[if_pos hz0] at hn;rw[jP hz0];(conv=>whnf);refine⟨by decide,?_⟩;rw[Int.tmod_eq_emod_of_nonneg (by omega),show (n0:Int) % 6=((n0 % 6:Nat):Int) by omega,hn])
   | (rw[if_neg hz0] at hn;rw[jH hz0];(conv=>whnf);rw[hn])
   conv=>whnf
  ·exact absurd hz0 (by omega)
  refine qN 0 [] hp2 ?_;rintro o r ⟨ho,rfl⟩;cases ho;conv=>whnf
  refine⟨⟨by omega,by omega⟩,?_⟩;conv=>whnf
  generalize hrq:List.drop (Int.toNat (k8:Int)*_) _=rq
  obtain rfl:rq=_ :: _:=hrq.symm.trans hr
  clear hrq;conv=>whnf
  refine⟨jU (by omega),?_⟩;conv=>whnf
  refine qN 0 [] hs ?_;rintro o r ⟨ho,rfl⟩;cases ho;conv=>whnf
  refine⟨jU (by omega),?_⟩;conv=>whnf
  refine qN 0 [] hs2 ?_;rintro o r ⟨ho,rfl⟩;cases ho;conv=>whnf
  exact⟨rfl,_,rfl,by rw[xQ];exact zN _⟩
theorem cV (l:List Int):∀ d,jnG l d
 | 0=>jpQ l 0 fun e h=>by omega
 | d+1=>jpQ l (d+1) fun e h=>by
  obtain rfl:d=e:=by omega
  exact cV l d
def bolL:List ByteArray:=[yC,rG]
inductive EB:Nat->Nt->Prop
 | lit (d n:Nat) (h:n<2):EB d (.mk 13 n eB [])
 | nt (d:Nat) (f:Nt) (h:EB d f):EB (d+1) (.mk 17 0 pNot [f])
 | bin (d:Nat) (s:ByteArray) (f g:Nt) (hs:s ∈ bolL) (h1:EB d f) (h2:EB d g):EB (d+1) (.mk 18 0 s [f,g])
 | cmp (d:Nat) (s:ByteArray) (f g:Nt) (hs:s ∈ cmpL) (h1:EI (d-1) f) (h2:EI (d-1) g):EB d (.mk 18 0 s [f,g])
def bB:Nat->Nat
 | 0=>6
 | d+1=>2+2*bB d+2*bI d
theorem jpE:∀ d,2+2*bI (d-1)<=bB d
 | 0=>by decide
 | d+1=>by unfold bB;rw[Nat.add_sub_cancel];omega
def jnF (l:List Int) (d:Nat):Prop:=l.length<=70 -> ∀ (i:Nat) (z:Int),z.toNat=d -> -3<=z->z<=10->i+bB d<=1000000000 -> ∃ f i',EB d f/\i<=i'/\i'<=i+bB d/\(∀ κ,1<=κ->κ<=7->wN κ f+phA κ i<=5+κ+phA κ i')/\Spec Tryz.prog 114 [bxG l i] [.box 0 0,.v (.int .i64 z)] fun o r=>o=[bxG l i']/\r = .agg (ntA f)
theorem jnp (l:List Int) (d:Nat) (ih:∀ e,d=e+1->jnF l e):jnF l d:=fun hl i z hz h1 h2 hi=>by
 have hge:=jpE d
 have hge2:=jni (d-1)
 have hp:=yP l i 8 (by omega) (by decide)
 have hlt:=yT l i (m:=8) (by decide)
 have ho:=iW l i 8 hl
 have p0:=fun κ=>iV κ i
 have p1:=fun κ=>iV κ (i+1)
 have pe2:∀ κ,phA κ (i+2)=phA κ (i+1+1):=fun _=>rfl
 generalize pk l i 8=n0 at *
 obtain⟨n,hn⟩ : ∃ n,(if z<=0 then n0 % 4 else n0)=n:=⟨_,rfl⟩
 have hn12:n<8:=by split at hn <;> omega
 have hn6:z<=0->n<4:=fun h=>by rw[if_pos h] at hn;omega
 have hlo:n ≠ 0->i<70:=fun h=>by
  by_cases h70:70<=i
  ·have:=ho h70
   split at hn <;> omega
  ·omega
 by_cases hA:n=0
 ·have hp2:=yP l (i+1) 2 (by omega) (by decide)
  have hlt2:=yT l (i+1) (m:=2) (by decide)
  generalize pk l (i+1) 2=k8 at *;refine⟨.mk 13 k8 eB [],i+2,.lit _ _ hlt2,by omega,by omega,fun κ ka kb=>by have p0:=p0 κ;have p1:=p1 κ;have pe2:=pe2 κ;rw[jn6];omega,?_⟩;subst hA;refine gw ?_;refine eN jcO (fun _=>[0]) 1 Tryz.func114 rfl ?_;intro hok;conv=>whnf
  refine qN 0 [] hp ?_;rintro o r ⟨ho,rfl⟩;cases ho;conv=>whnf
  by_cases hz0:z<=0
  all_goals
   first
   | (rw[if_pos hz0] at hn;rw[jP hz0];(conv=>whnf);refine⟨by decide,?_⟩;rw[Int.tmod_eq_emod_of_nonneg (by omega),show (n0:Int) % 4=((n0 % 4:Nat):Int) by omega,hn])
   | (rw[if_neg hz0] at hn;rw[jH hz0];(conv=>whnf);rw[hn])
   conv=>whnf
  all_goals
   refine qN 0 [] hp2 ?_;rintro o r ⟨ho,rfl⟩;cases ho;conv=>whnf
   exact⟨rfl,_,rfl,zO (f := .mk 13 k8 eB []) rfl⟩
 by_cases hB:n<=4
 ·have hp2:=yP l (i+1) 6 (by omega) (by decide)
  have hlt2:=yT l (i+1) (m:=6) (by decide)
  generalize pk l (i+1) 6=k8 at *
  obtain⟨f,i2,hf,g1,g2,w1,hs⟩ := cV l (d-1) hl (i+1+1) (z-1) (by omega) (by omega) (by omega) (by omega)
  obtain⟨g,i3,hg,g3,g4,w2,hs2⟩ := cV l (d-1) hl i2 (z-1) (by omega) (by omega) (by omega) (by omega)
  have hlw:∀ (k:Nat) (h:k<cmpL.length),(cmpL[k]'h).size<=2:=by decide
  have hlk:=hlw k8 hlt2
  refine⟨.mk 18 0 (cmpL[k8]'hlt2) [f,g],i3,.cmp _ _ _ _ (List.getElem_mem _) hf hg,by omega,by omega,fun κ ka kb=>by have p0:=p0 κ;have p1:=p1 κ;have pe2:=pe2 κ;have w1:=w1 κ ka kb;have w2:=w2 κ ka kb;rw[jgR];omega,?_⟩;clear hlw hlk
  have hr:=nN jR cmpL k8 hlt2
  generalize cmpL[k8]'hlt2=s at *
  rcases (by omega:n=1 ∨ n=2 ∨ n=3 ∨ n=4) with rfl | rfl | rfl | rfl
  all_goals
   refine gw ?_;refine eN jcO (fun _=>[0]) 1 Tryz.func114 rfl ?_;intro hok;conv=>whnf
   refine qN 0 [] hp ?_;rintro o r ⟨ho,rfl⟩;cases ho;conv=>whnf
   by_cases hz0:z<=0
   all_goals
    first
    | (rw[if_pos hz0] at hn;rw[jP hz0];(conv=>whnf);refine⟨by decide,?_⟩;rw[Int.tmod_eq_emod_of_nonneg (by omega),show (n0:Int) % 4=((n0 % 4:Nat):Int) by omega,hn])
    | (rw[if_neg hz0] at hn;rw[jH hz0];(conv=>whnf);rw[hn])
    conv=>whnf
   all_goals
    refine qN 0 [] hp2 ?_;rintro o r ⟨ho,rfl⟩;cases ho;conv=>whnf
    refine⟨⟨by omega,by omega⟩,?_⟩;conv=>whnf
    generalize hrq:List.drop (Int.toNat (k8:Int)*_) _=rq
    obtain rfl:rq=_ :: _:=hrq.symm.trans hr
    clear hrq;conv=>whnf
    refine⟨jU (by omega),?_⟩;conv=>whnf
    refine qN 0 [] hs ?_;rintro o r ⟨ho,rfl⟩;cases ho;conv=>whnf
    refine⟨jU (by omega),?_⟩;conv=>whnf
    refine qN 0 [] hs2 ?_;rintro o r ⟨ho,rfl⟩;cases ho;conv=>whnf
    exact⟨rfl,_,rfl,by rw[xQ];exact zN _⟩
 have hzp:0<z:=by
  by_cases h:0<z
  ·exact h
  ·have:=hn6 (by omega);omega
 obtain⟨e,rfl⟩ : ∃ e,d=e+1:=⟨d-1,by omega⟩
 have ihe:=ih e rfl
 unfold bB at hi
 by_cases hD:n=5
 ·obtain⟨f,i2,hf,g1,g2,w1,hs⟩ := ihe hl (i+1) (z-1) (by omega) (by omega) (by omega) (by omega)
  subst hD
  have hsz:pNot.size=1:=rfl
  refine⟨.mk 17 0 pNot [f],i2,.nt _ _ hf,by omega,by unfold bB;omega,fun κ ka kb=>by have p0:=p0 κ;have p1:=p1 κ;have pe2:=pe2 κ;have w1:=w1 κ ka kb;rw[jlE];omega,?_⟩;refine gw ?_;refine eN jcO (fun _=>[0]) 1 Tryz.func114 rfl ?_;intro hok;conv=>whnf
  refine qN 0 [] hp ?_;rintro o r ⟨ho,rfl⟩;cases ho;conv=>whnf
  by_cases hz0:z<=0
  all_goals
   first
   | (rw[if_pos hz0] at hn;rw[jP hz0];(conv=>whnf);refine⟨by decide,?_⟩;rw[Int.tmod_eq_emod_of_nonneg (by omega),show (n0:Int) % 4=((n0 % 4:Nat):Int) by omega,hn])
   | (rw[if_neg hz0] at hn;rw[jH hz0];(conv=>whnf);rw[hn])
   conv=>whnf
  ·exact absurd hz0 (by omega)
  refine⟨jU (by omega),?_⟩;conv=>whnf
  refine qN 0 [] hs ?_;rintro o r ⟨ho,rfl⟩;cases ho;conv=>whnf
  exact⟨rfl,_,rfl,by rw[wZ];exact zN _⟩
 have hp2:=yP l (i+1) 2 (by omega) (by decide)
 have hlt2:=yT l (i+1) (m:=2) (by decide)
 generalize pk l (i+1) 2=k8 at *
 obtain⟨f,i2,hf,g1,g2,w1,hs⟩ := ihe hl (i+1+1) (z-1) (by omega) (by omega) (by omega) (by omega)
 obtain⟨g,i3,hg,g3,g4,w2,hs2⟩ := ihe hl i2 (z-1) (by omega) (by omega) (by omega) (by omega)
 have hlw:∀ (k:Nat) (h:k<bolL.length),(bolL[k]'h).size=2:=by decide
 have hlk:=hlw k8 hlt2
 refine⟨.mk 18 0 (bolL[k8]'hlt2) [f,g],i3,.bin _ _ _ _ (List.getElem_mem _) hf hg,by omega,by unfold bB;omega,fun κ ka kb=>by have p0:=p0 κ;have p1:=p1 κ;have pe2:=pe2 κ;have w1:=w1 κ ka kb;have w2:=w2 κ ka kb;rw[jgR];omega,?_⟩;clear hlw hlk
 have hr:=nN jR bolL k8 hlt2
 generalize bolL[k8]'hlt2=s at *
 rcases (by omega:n=6 ∨ n=7) with rfl | rfl
 all_goals
  refine gw ?_;refine eN jcO (fun _=>[0]) 1 Tryz.func114 rfl ?_;intro hok;conv=>whnf
  refine qN 0 [] hp ?_;rintro o r ⟨ho,rfl⟩;cases ho;conv=>whnf
  by_cases hz0:z<=0
  all_goals
   first
   | (rw[if_pos hz0] at hn;rw[jP hz0];(conv=>whnf);refine⟨by decide,?_⟩;rw[Int.tmod_eq_emod_of_nonneg (by omega),show (n0:Int) % 4=((n0 % 4:Nat):Int) by omega,hn])
   | (rw[if_neg hz0] at hn;rw[jH hz0];(conv=>whnf);rw[hn])
   conv=>whnf
  ·exact absurd hz0 (by omega)
  refine qN 0 [] hp2 ?_;rintro o r ⟨ho,rfl⟩;cases ho;conv=>whnf
  refine⟨⟨by omega,by omega⟩,?_⟩;conv=>whnf
  generalize hrq:List.drop (Int.toNat (k8:Int)*_) _=rq
  obtain rfl:rq=_ :: _:=hrq.symm.trans hr
  clear hrq;conv=>whnf
  refine⟨jU (by omega),?_⟩;conv=>whnf
  refine qN 0 [] hs ?_;rintro o r ⟨ho,rfl⟩;cases ho;conv=>whnf
  refine⟨jU (by omega),?_⟩;conv=>whnf
  refine qN 0 [] hs2 ?_;rintro o r ⟨ho,rfl⟩;cases ho;conv=>whnf
  exact⟨rfl,_,rfl,by rw[xQ];exact zN _⟩
theorem jfX (l:List Int):∀ d,jnF l d
 | 0=>jnp l 0 fun e h=>by omega
 | d+1=>jnp l (d+1) fun e h=>by
  obtain rfl:d=e:=by omega
  exact jfX l d
inductive ES:Nat->Nt->Prop
 | asg (d e:Nat) (s:ByteArray) (f:Nt) (hs:s ∈ varL) (h:EI e f) (he:e<=2):ES d (.mk 1 0 s [f])
 | snd (d n:Nat) (f g h:Nt) (hn:n<4) (h1:EI 0 f) (h2:EI 1 g) (h3:EI 1 h):ES d (.mk 4 n eB [f,g,h])
 | tim (d n:Nat) (hn:n<3):ES d (.mk 5 n eB [])
 | can (d n:Nat) (hn:n<3):ES d (.mk 6 n eB [])
 | syn (d:Nat):ES d (.mk 7 0 eB [])
 | rep (d:Nat) (f g:Nt) (h1:EI 0 f) (h2:EI 1 g):ES d (.mk 8 0 eB [f,g])
 | fai (d:Nat) (f:Nt) (h1:EI 1 f):ES d (.mk 9 0 eB [f])
 | stp (d:Nat):ES d (.mk 10 0 eB [])
 | whi (d:Nat) (c:Nt) (l:List Nt) (h1:EB 1 c) (h2:l.length<=2) (h3:∀ s ∈ l,ES d s):ES (d+1) (.mk 3 0 eB [c,wQ l])
 | iff (d:Nat) (c:Nt) (l m:List Nt) (h1:EB 2 c) (h2:l.length<=2) (h3:∀ s ∈ l,ES d s) (h4:m.length<=2) (h5:∀ s ∈ m,ES d s):ES (d+1) (.mk 2 0 eB [c,wQ l,wQ m])
theorem jmp (c:Nat) {n:Nat} (h:n<=2):(n=0/\c*n=0) ∨ (n=1/\c*n=c) ∨ (n=2/\c*n=2*c):=by
 rcases (by omega:n=0 ∨ n=1 ∨ n=2) with rfl | rfl | rfl <;> omega
def bS:Nat->Nat
 | 0=>60
 | d+1=>62+4*bS d
theorem jpF:∀ d,60<=bS d
 | 0=>Nat.le_refl _
 | d+1=>by unfold bS;omega
def jja (l:List Int) (d:Nat):Prop:=l.length<=70 -> ∀ (i:Nat) (z:Int),z.toNat=d->0<=z->z<=5->i+bS d<=1000000000 -> ∃ f i',ES d f/\i<=i'/\i'<=i+bS d/\(∀ κ,1<=κ->κ<=7->wS κ f+mU κ i<=4+4*κ+mU κ i')/\Spec Tryz.prog 75 [bxG l i] [.box 0 0,.v (.int .i64 z)] fun o r=>o=[bxG l i']/\r = .agg (ntA f)
def jnH (l:List Int) (d:Nat):Prop:=l.length<=70 -> ∀ (i m:Nat) (z:Int),z.toNat=d->0<=z->z<=5->m<=3->i+(1+m*bS d)<=1000000000 -> ∃ k i',k.length<=m/\(∀ s ∈ k,ES d s)/\i<=i'/\i'<=i+(1+m*bS d)/\((∀ κ,1<=κ->κ<=7->wSs κ k+mU κ (i+1)<=(4+4*κ)*k.length+mU κ i')/\(70<=i->k.length=0))/\Spec Tryz.prog 38 [bxG l i] [.box 0 0,.v (.int .i64 z),.v (.int .i64 m)] fun o r=>o=[bxG l i']/\r = .agg (ntA (wQ k))
theorem joj (l:List Int) (d:Nat) (ih:∀ e,d=e+1->jnH l e):jja l d:=fun hl i z hz h1 h2 hi=>by
 have hge:=jpF d
 have b0:bI 0=2:=rfl
 have b1:bI 1=6:=rfl
 have b2:bI 2=14:=rfl
 have c1:bB 1=18:=rfl
 have c2:bB 2=50:=rfl
 have hp:=yP l i 14 (by omega) (by decide)
 have hlt:=yT l i (m:=14) (by decide)
 have ho:=iW l i 14 hl
 have p0:=fun κ=>xG κ i
 have p1:=fun κ=>xG κ (i+1)
 have pe2:∀ κ,mU κ (i+2)=mU κ (i+1+1):=fun _=>rfl
 have p2:=fun κ=>xG κ (i+1+1)
 generalize pk l i 14=n0 at *
 obtain⟨n,hn⟩ : ∃ n,(if z<=0 then n0 % 11 else n0)=n:=⟨_,rfl⟩
 have hn12:n<14:=by split at hn <;> omega
 have hn6:z<=0->n<11:=fun h=>by rw[if_pos h] at hn;omega
 have hlo:n ≠ 0->i<70:=fun h=>by
  by_cases h70:70<=i
  ·have:=ho h70
   split at hn <;> omega
  ·omega
 by_cases hA:n<=2
 ·obtain⟨s,hs1,⟨hz3,hz1⟩,hp2⟩ := jok l (i+1) (by omega)
  have hz1:=hz1 hl
  obtain⟨f,i2,hf,g1,g2,w1,hs⟩ := cV l 2 hl (i+1+1) 2 (by omega) (by omega) (by omega) (by omega)
  have w1:=fun κ ka kb=>bE (by omega) (w1 κ ka kb)
  refine⟨.mk 1 0 s [f],i2,.asg _ _ _ _ hs1 hf (Nat.le_refl _),by omega,by omega,fun κ ka kb=>by have p0:=p0 κ;have p1:=p1 κ;have pe2:=pe2 κ;have p2:=p2 κ;have w1:=w1 κ ka kb;rw[jlF];omega,?_⟩
  rcases (by omega:n=0 ∨ n=1 ∨ n=2) with rfl | rfl | rfl
  all_goals
   refine gw ?_;refine eN bZ (fun _=>[0]) 1 Tryz.func75 rfl ?_;intro hok;conv=>whnf
   refine qN 0 [] hp ?_;rintro o r ⟨ho,rfl⟩;cases ho;conv=>whnf
   by_cases hz0:z<=0
   all_goals
    first
    | (rw[if_pos hz0] at hn;rw[jP hz0];(conv=>whnf);refine⟨by decide,?_⟩;rw[Int.tmod_eq_emod_of_nonneg (by omega),show (n0:Int) % 11=((n0 % 11:Nat):Int) by omega,hn])
    | (rw[if_neg hz0] at hn;rw[jH hz0];(conv=>whnf);rw[hn])
    conv=>whnf
   all_goals
    refine qN 0 [] hp2 ?_;rintro o r ⟨ho,rfl⟩;cases ho;conv=>whnf
    refine qN 0 [] hs ?_;rintro o r ⟨ho,rfl⟩;cases ho;conv=>whnf
    exact⟨rfl,_,rfl,by rw[wZ];exact zN _⟩
 by_cases hB:n<=4
 ·obtain⟨f,i2,hf,g1,g2,w1,hs1⟩ := cV l 0 hl (i+1) 0 (by omega) (by omega) (by omega) (by omega)
  have hp2:=yP l i2 4 (by omega) (by decide)
  have hlt2:=yT l i2 (m:=4) (by decide)
  generalize pk l i2 4=k8 at *
  have p3:=fun κ=>iV κ i2
  have q0:=fun κ=>iV κ i
  have qi:=fun κ=>jbz κ i
  obtain⟨g,i3,hg,g3,g4,w2,hs2⟩ := cV l 1 hl (i2+1) 1 (by omega) (by omega) (by omega) (by omega)
  obtain⟨h,i4,hh,g5,g6,w3,hs3⟩ := cV l 1 hl i3 1 (by omega) (by omega) (by omega) (by omega)
  refine⟨.mk 4 k8 eB [f,g,h],i4,.snd _ _ _ _ _ hlt2 hf hg hh,by omega,by omega,fun κ ka kb=>by have qj:=jbz κ i4;have p3:=p3 κ;have q0:=q0 κ;have qi:=qi κ;have w1:=w1 κ ka kb;have w2:=w2 κ ka kb;have w3:=w3 κ ka kb;rw[jpk];omega,?_⟩
  rcases (by omega:n=3 ∨ n=4) with rfl | rfl
  all_goals
   refine gw ?_;refine eN bZ (fun _=>[0]) 1 Tryz.func75 rfl ?_;intro hok;conv=>whnf
   refine qN 0 [] hp ?_;rintro o r ⟨ho,rfl⟩;cases ho;conv=>whnf
   by_cases hz0:z<=0
   all_goals
    first
    | (rw[if_pos hz0] at hn;rw[jP hz0];(conv=>whnf);refine⟨by decide,?_⟩;rw[Int.tmod_eq_emod_of_nonneg (by omega),show (n0:Int) % 11=((n0 % 11:Nat):Int) by omega,hn])
    | (rw[if_neg hz0] at hn;rw[jH hz0];(conv=>whnf);rw[hn])
    conv=>whnf
   all_goals
    refine qN 0 [] hs1 ?_;rintro o r ⟨ho,rfl⟩;cases ho;conv=>whnf
    refine qN 0 [] hp2 ?_;rintro o r ⟨ho,rfl⟩;cases ho;conv=>whnf
    refine qN 0 [] hs2 ?_;rintro o r ⟨ho,rfl⟩;cases ho;conv=>whnf
    refine qN 0 [] hs3 ?_;rintro o r ⟨ho,rfl⟩;cases ho;conv=>whnf
    exact⟨rfl,_,rfl,by rw[nT];exact zN _⟩
 by_cases hC:n<=6
 ·have hp2:=yP l (i+1) 3 (by omega) (by decide)
  have hlt2:=yT l (i+1) (m:=3) (by decide)
  generalize pk l (i+1) 3=k8 at *
  rcases (by omega:n=5 ∨ n=6) with rfl | rfl
  ·refine⟨.mk 5 k8 eB [],i+2,.tim _ _ hlt2,by omega,by omega,fun κ ka kb=>by have p0:=p0 κ;have p1:=p1 κ;have pe2:=pe2 κ;have p2:=p2 κ;rw[jpn];omega,?_⟩;refine gw ?_;refine eN bZ (fun _=>[0]) 1 Tryz.func75 rfl ?_;intro hok;conv=>whnf
   refine qN 0 [] hp ?_;rintro o r ⟨ho,rfl⟩;cases ho;conv=>whnf
   by_cases hz0:z<=0
   all_goals
    first
    | (rw[if_pos hz0] at hn;rw[jP hz0];(conv=>whnf);refine⟨by decide,?_⟩;rw[Int.tmod_eq_emod_of_nonneg (by omega),show (n0:Int) % 11=((n0 % 11:Nat):Int) by omega,hn])
    | (rw[if_neg hz0] at hn;rw[jH hz0];(conv=>whnf);rw[hn])
    conv=>whnf
   all_goals
    refine qN 0 [] hp2 ?_;rintro o r ⟨ho,rfl⟩;cases ho;conv=>whnf
    exact⟨rfl,_,rfl,zO (f := .mk 5 k8 eB []) rfl⟩
  ·refine⟨.mk 6 k8 eB [],i+2,.can _ _ hlt2,by omega,by omega,fun κ ka kb=>by have p0:=p0 κ;have p1:=p1 κ;have pe2:=pe2 κ;have p2:=p2 κ;rw[jpg];omega,?_⟩;refine gw ?_;refine eN bZ (fun _=>[0]) 1 Tryz.func75 rfl ?_;intro hok;conv=>whnf
   refine qN 0 [] hp ?_;rintro o r ⟨ho,rfl⟩;cases ho;conv=>whnf
   by_cases hz0:z<=0
   all_goals
    first
    | (rw[if_pos hz0] at hn;rw[jP hz0];(conv=>whnf);refine⟨by decide,?_⟩;rw[Int.tmod_eq_emod_of_nonneg (by omega),show (n0:Int) % 11=((n0 % 11:Nat):Int) by omega,hn])
    | (rw[if_neg hz0] at hn;rw[jH hz0];(conv=>whnf);rw[hn])
    conv=>whnf
   all_goals
    refine qN 0 [] hp2 ?_;rintro o r ⟨ho,rfl⟩;cases ho;conv=>whnf
    exact⟨rfl,_,rfl,zO (f := .mk 6 k8 eB []) rfl⟩
 by_cases hD:n=7
 ·subst hD;refine⟨.mk 7 0 eB [],i+1,.syn _,by omega,by omega,fun κ ka kb=>by have p0:=p0 κ;have p1:=p1 κ;have pe2:=pe2 κ;have p2:=p2 κ;rw[jpm];omega,?_⟩;refine gw ?_;refine eN bZ (fun _=>[0]) 1 Tryz.func75 rfl ?_;intro hok;conv=>whnf
  refine qN 0 [] hp ?_;rintro o r ⟨ho,rfl⟩;cases ho;conv=>whnf
  by_cases hz0:z<=0
  all_goals
   first
   | (rw[if_pos hz0] at hn;rw[jP hz0];(conv=>whnf);refine⟨by decide,?_⟩;rw[Int.tmod_eq_emod_of_nonneg (by omega),show (n0:Int) % 11=((n0 % 11:Nat):Int) by omega,hn])
   | (rw[if_neg hz0] at hn;rw[jH hz0];(conv=>whnf);rw[hn])
   conv=>whnf
  all_goals
   exact⟨rfl,_,rfl,zO (f := .mk 7 0 eB []) rfl⟩
 by_cases hE:n=8
 ·subst hE
  obtain⟨f,i2,hf,g1,g2,w1,hs1⟩ := cV l 0 hl (i+1) 0 (by omega) (by omega) (by omega) (by omega)
  have w1:=fun κ ka kb=>bE (by omega) (w1 κ ka kb)
  obtain⟨g,i3,hg,g3,g4,w2,hs2⟩ := cV l 1 hl i2 1 (by omega) (by omega) (by omega) (by omega)
  have w2:=fun κ ka kb=>bE (by omega) (w2 κ ka kb)
  refine⟨.mk 8 0 eB [f,g],i3,.rep _ _ _ hf hg,by omega,by omega,fun κ ka kb=>by have p0:=p0 κ;have p1:=p1 κ;have pe2:=pe2 κ;have p2:=p2 κ;have w1:=w1 κ ka kb;have w2:=w2 κ ka kb;rw[jpj];omega,?_⟩;refine gw ?_;refine eN bZ (fun _=>[0]) 1 Tryz.func75 rfl ?_;intro hok;conv=>whnf
  refine qN 0 [] hp ?_;rintro o r ⟨ho,rfl⟩;cases ho;conv=>whnf
  by_cases hz0:z<=0
  all_goals
   first
   | (rw[if_pos hz0] at hn;rw[jP hz0];(conv=>whnf);refine⟨by decide,?_⟩;rw[Int.tmod_eq_emod_of_nonneg (by omega),show (n0:Int) % 11=((n0 % 11:Nat):Int) by omega,hn])
   | (rw[if_neg hz0] at hn;rw[jH hz0];(conv=>whnf);rw[hn])
   conv=>whnf
  all_goals
   refine qN 0 [] hs1 ?_;rintro o r ⟨ho,rfl⟩;cases ho;conv=>whnf
   refine qN 0 [] hs2 ?_;rintro o r ⟨ho,rfl⟩;cases ho;conv=>whnf
   exact⟨rfl,_,rfl,by rw[xQ];exact zN _⟩
 by_cases hF:n=9
 ·subst hF
  obtain⟨f,i2,hf,g1,g2,w1,hs1⟩ := cV l 1 hl (i+1) 1 (by omega) (by omega) (by omega) (by omega)
  have w1:=fun κ ka kb=>bE (by omega) (w1 κ ka kb)
  refine⟨.mk 9 0 eB [f],i2,.fai _ _ hf,by omega,by omega,fun κ ka kb=>by have p0:=p0 κ;have p1:=p1 κ;have pe2:=pe2 κ;have p2:=p2 κ;have w1:=w1 κ ka kb;rw[jph];omega,?_⟩;refine gw ?_;refine eN bZ (fun _=>[0]) 1 Tryz.func75 rfl ?_;intro hok;conv=>whnf
  refine qN 0 [] hp ?_;rintro o r ⟨ho,rfl⟩;cases ho;conv=>whnf
  by_cases hz0:z<=0
  all_goals
   first
   | (rw[if_pos hz0] at hn;rw[jP hz0];(conv=>whnf);refine⟨by decide,?_⟩;rw[Int.tmod_eq_emod_of_nonneg (by omega),show (n0:Int) % 11=((n0 % 11:Nat):Int) by omega,hn])
   | (rw[if_neg hz0] at hn;rw[jH hz0];(conv=>whnf);rw[hn])
   conv=>whnf
  all_goals
   refine qN 0 [] hs1 ?_;rintro o r ⟨ho,rfl⟩;cases ho;conv=>whnf
   exact⟨rfl,_,rfl,by rw[wZ];exact zN _⟩
 by_cases hG:n=10
 ·subst hG
  have hp2:=yP l (i+1) 3 (by omega) (by decide)
  have hlt2:=yT l (i+1) (m:=3) (by decide)
  generalize pk l (i+1) 3=k8 at *
  by_cases hk:0<k8
  ·obtain⟨s,hs1,⟨hz3,_⟩,hp3⟩ := jok l (i+1+1) (by omega)
   obtain⟨f,i2,hf,g1,g2,w1,hs⟩ := cV l 1 hl (i+1+1+1) 1 (by omega) (by omega) (by omega) (by omega)
   have w1:=fun κ ka kb=>bE (by omega) (w1 κ ka kb)
   refine⟨.mk 1 0 s [f],i2,.asg _ _ _ _ hs1 hf (by decide),by omega,by omega,fun κ ka kb=>by have p0:=p0 κ;have p1:=p1 κ;have pe2:=pe2 κ;have p2:=p2 κ;have w1:=w1 κ ka kb;rw[jlF];omega,?_⟩;refine gw ?_;refine eN bZ (fun _=>[0]) 1 Tryz.func75 rfl ?_;intro hok;conv=>whnf
   refine qN 0 [] hp ?_;rintro o r ⟨ho,rfl⟩;cases ho;conv=>whnf
   by_cases hz0:z<=0
   all_goals
    first
    | (rw[if_pos hz0] at hn;rw[jP hz0];(conv=>whnf);refine⟨by decide,?_⟩;rw[Int.tmod_eq_emod_of_nonneg (by omega),show (n0:Int) % 11=((n0 % 11:Nat):Int) by omega,hn])
    | (rw[if_neg hz0] at hn;rw[jH hz0];(conv=>whnf);rw[hn])
    conv=>whnf
   all_goals
    refine qN 0 [] hp2 ?_;rintro o r ⟨ho,rfl⟩;cases ho;conv=>whnf
    rw[jP (show 0<(k8:Int) by omega)];conv=>whnf
    refine qN 0 [] hp3 ?_;rintro o r ⟨ho,rfl⟩;cases ho;conv=>whnf
    refine qN 0 [] hs ?_;rintro o r ⟨ho,rfl⟩;cases ho;conv=>whnf
    exact⟨rfl,_,rfl,by rw[wZ];exact zN _⟩
  ·refine⟨.mk 10 0 eB [],i+2,.stp _,by omega,by omega,fun κ ka kb=>by have p0:=p0 κ;have p1:=p1 κ;have pe2:=pe2 κ;have p2:=p2 κ;rw[jpl];omega,?_⟩;refine gw ?_;refine eN bZ (fun _=>[0]) 1 Tryz.func75 rfl ?_;intro hok;conv=>whnf
   refine qN 0 [] hp ?_;rintro o r ⟨ho,rfl⟩;cases ho;conv=>whnf
   by_cases hz0:z<=0
   all_goals
    first
    | (rw[if_pos hz0] at hn;rw[jP hz0];(conv=>whnf);refine⟨by decide,?_⟩;rw[Int.tmod_eq_emod_of_nonneg (by omega),show (n0:Int) % 11=((n0 % 11:Nat):Int) by omega,hn])
    | (rw[if_neg hz0] at hn;rw[jH hz0];(conv=>whnf);rw[hn])
    conv=>whnf
   all_goals
    refine qN 0 [] hp2 ?_;rintro o r ⟨ho,rfl⟩;cases ho;conv=>whnf
    rw[jH (show ¬ 0<(k8:Int) by omega)];conv=>whnf
    exact⟨rfl,_,rfl,zO (f := .mk 10 0 eB []) rfl⟩
 have hzp:0<z:=by
  by_cases h:0<z
  ·exact h
  ·have:=hn6 (by omega);omega
 obtain⟨e,rfl⟩ : ∃ e,d=e+1:=⟨d-1,by omega⟩
 have ihe:=ih e rfl
 unfold bS at hi
 by_cases hH:n=11
 ·subst hH
  obtain⟨f,i2,hf,g1,g2,w1,hs1⟩ := jfX l 1 hl (i+1) 1 (by omega) (by omega) (by omega) (by omega)
  have w1:=fun κ ka kb=>bE (by omega) (w1 κ ka kb)
  have p3:=fun κ=>xG κ i2
  obtain⟨k,i3,q1,q2,g3,g4,⟨w2,w3⟩,hs2⟩ := ihe hl i2 2 (z-1) (by omega) (by omega) (by omega) (by omega) (by omega)
  refine⟨.mk 3 0 eB [f,wQ k],i3,.whi _ _ _ hf q1 q2,by omega,by unfold bS;omega,fun κ ka kb=>by have p0:=p0 κ;have p1:=p1 κ;have pe2:=pe2 κ;have p2:=p2 κ;have w1:=w1 κ ka kb;have w2:=w2 κ ka kb;have p3:=p3 κ;have hm2:=jmp (4+4*κ) q1;rw[jpo,jdc];omega,?_⟩;refine gw ?_;refine eN bZ (fun _=>[0]) 1 Tryz.func75 rfl ?_;intro hok;conv=>whnf
  refine qN 0 [] hp ?_;rintro o r ⟨ho,rfl⟩;cases ho;conv=>whnf
  by_cases hz0:z<=0
  all_goals
   first
   | (rw[if_pos hz0] at hn;rw[jP hz0];(conv=>whnf);refine⟨by decide,?_⟩;rw[Int.tmod_eq_emod_of_nonneg (by omega),show (n0:Int) % 11=((n0 % 11:Nat):Int) by omega,hn])
   | (rw[if_neg hz0] at hn;rw[jH hz0];(conv=>whnf);rw[hn])
   conv=>whnf
  ·exact absurd hz0 (by omega)
  refine qN 0 [] hs1 ?_;rintro o r ⟨ho,rfl⟩;cases ho;conv=>whnf
  refine⟨jU (by omega),?_⟩;conv=>whnf
  refine qN 0 [] hs2 ?_;rintro o r ⟨ho,rfl⟩;cases ho;conv=>whnf
  exact⟨rfl,_,rfl,by rw[xQ];exact zN _⟩
 obtain⟨f,i2,hf,g1,g2,w1,hs1⟩ := jfX l 2 hl (i+1) 2 (by omega) (by omega) (by omega) (by omega)
 have w1:=fun κ ka kb=>bE (by omega) (w1 κ ka kb)
 have p3:=fun κ=>xG κ i2
 obtain⟨k,i3,q1,q2,g3,g4,⟨w2,w3⟩,hs2⟩ := ihe hl i2 2 (z-1) (by omega) (by omega) (by omega) (by omega) (by omega)
 have hp2:=yP l i3 2 (by omega) (by decide)
 have hlt2:=yT l i3 (m:=2) (by decide)
 generalize pk l i3 2=k8 at *
 by_cases hk:k8=1
 ·have p4:=fun κ=>xG κ i3
  have p5:=fun κ=>xG κ (i3+1)
  obtain⟨m,i4,q3,q4,g5,g6,⟨w4,w5⟩,hs3⟩ := ihe hl (i3+1) 2 (z-1) (by omega) (by omega) (by omega) (by omega) (by omega)
  refine⟨.mk 2 0 eB [f,wQ k,wQ m],i4,.iff _ _ _ _ hf q1 q2 q3 q4,by omega,by unfold bS;omega,fun κ ka kb=>by have p0:=p0 κ;have p1:=p1 κ;have pe2:=pe2 κ;have p2:=p2 κ;have p3:=p3 κ;have p4:=p4 κ;have p5:=p5 κ;have w1:=w1 κ ka kb;have w2:=w2 κ ka kb;have w4:=w4 κ ka kb;have hif:=jlG κ f k m;have hm2:=jmp (4+4*κ) q1;have hm3:=jmp (4+4*κ) q3;omega,?_⟩
  rcases (by omega:n=12 ∨ n=13) with rfl | rfl
  all_goals
   refine gw ?_;refine eN bZ (fun _=>[0]) 1 Tryz.func75 rfl ?_;intro hok;conv=>whnf
   refine qN 0 [] hp ?_;rintro o r ⟨ho,rfl⟩;cases ho;conv=>whnf
   by_cases hz0:z<=0
   all_goals
    first
    | (rw[if_pos hz0] at hn;rw[jP hz0];(conv=>whnf);refine⟨by decide,?_⟩;rw[Int.tmod_eq_emod_of_nonneg (by omega),show (n0:Int) % 11=((n0 % 11:Nat):Int) by omega,hn])
    | (rw[if_neg hz0] at hn;rw[jH hz0];(conv=>whnf);rw[hn])
    conv=>whnf
   ·exact absurd hz0 (by omega)
   refine qN 0 [] hs1 ?_;rintro o r ⟨ho,rfl⟩;cases ho;conv=>whnf
   refine⟨jU (by omega),?_⟩;conv=>whnf
   refine qN 0 [] hs2 ?_;rintro o r ⟨ho,rfl⟩;cases ho;conv=>whnf
   refine qN 0 [] hp2 ?_;rintro o r ⟨ho,rfl⟩;cases ho;conv=>whnf
   rw[jP (show (k8:Int)=1 by omega)];conv=>whnf
   refine⟨jU (by omega),?_⟩;conv=>whnf
   refine qN 0 [] hs3 ?_;rintro o r ⟨ho,rfl⟩;cases ho;conv=>whnf
   exact⟨rfl,_,rfl,by rw[nT];exact zN _⟩
 ·have p4:=fun κ=>xG κ i3
  refine⟨.mk 2 0 eB [f,wQ k,wQ []],i3+1,.iff _ _ _ _ hf q1 q2 (by decide) (by simp),by omega,by unfold bS;omega,fun κ ka kb=>by have p0:=p0 κ;have p1:=p1 κ;have pe2:=pe2 κ;have p2:=p2 κ;have p3:=p3 κ;have p4:=p4 κ;have w1:=w1 κ ka kb;have w2:=w2 κ ka kb;have hif:=(jlG κ f k []).2 rfl;have hm2:=jmp (4+4*κ) q1;omega,?_⟩
  rcases (by omega:n=12 ∨ n=13) with rfl | rfl
  all_goals
   refine gw ?_;refine eN bZ (fun _=>[0]) 1 Tryz.func75 rfl ?_;intro hok;conv=>whnf
   refine qN 0 [] hp ?_;rintro o r ⟨ho,rfl⟩;cases ho;conv=>whnf
   by_cases hz0:z<=0
   all_goals
    first
    | (rw[if_pos hz0] at hn;rw[jP hz0];(conv=>whnf);refine⟨by decide,?_⟩;rw[Int.tmod_eq_emod_of_nonneg (by omega),show (n0:Int) % 11=((n0 % 11:Nat):Int) by omega,hn])
    | (rw[if_neg hz0] at hn;rw[jH hz0];(conv=>whnf);rw[hn])
    conv=>whnf
   ·exact absurd hz0 (by omega)
   refine qN 0 [] hs1 ?_;rintro o r ⟨ho,rfl⟩;cases ho;conv=>whnf
   refine⟨jU (by omega),?_⟩;conv=>whnf
   refine qN 0 [] hs2 ?_;rintro o r ⟨ho,rfl⟩;cases ho;conv=>whnf
   refine qN 0 [] hp2 ?_;rintro o r ⟨ho,rfl⟩;cases ho;conv=>whnf
   rw[jH (show ¬ (k8:Int)=1 by omega)];conv=>whnf
   exact⟨rfl,_,rfl,by rw[nT];exact jqx f (wQ k)⟩
inductive Chn (l:List Int) (z:Int):Nat->List Nt->Nat->Prop
 | nil (i:Nat):Chn l z i [] i
 | cons (i i1 i2:Nat) (f:Nt) (ss:List Nt) (h:Spec Tryz.prog 75 [bxG l i] [.box 0 0,.v (.int .i64 z)] fun o r=>o=[bxG l i1]/\r = .agg (ntA f)) (k:Chn l z i1 ss i2):Chn l z i (f :: ss) i2
theorem jjG {l:List Int} {d:Nat} (hS:jja l d) (hl:l.length<=70) {z:Int} (hz:z.toNat=d) (h1:0<=z) (h2:z<=5):∀ (k i:Nat),i+k*bS d<=1000000000 -> ∃ ss i',ss.length=k/\(∀ s ∈ ss,ES d s)/\i<=i'/\i'<=i+k*bS d/\(∀ κ,1<=κ->κ<=7->wSs κ ss+mU κ i<=(4+4*κ)*k+mU κ i')/\Chn l z i ss i'
 | 0,i,_=>⟨[],i,rfl,by simp,Nat.le_refl _,by omega,fun κ ka kb=>by show 0+mU κ i<=_;omega,.nil i⟩
 | k+1,i,hb=>by
  rw[Nat.succ_mul] at hb
  obtain⟨f,i1,hf,g1,g2,w1,hs⟩ := hS hl i z hz h1 h2 (by omega)
  obtain⟨ss,i2,e1,e2,g3,g4,w2,hc⟩ := jjG hS hl hz h1 h2 k i1 (by omega)
  refine⟨f :: ss,i2,by rw[List.length_cons,e1],fun s hs => ?_,by omega,by rw[Nat.succ_mul];omega,fun κ ka kb=>by have w1:=w1 κ ka kb;have w2:=w2 κ ka kb;rw[wSs,Nat.mul_succ];omega,.cons _ _ _ _ _ hs hc⟩
  rcases List.mem_cons.1 hs with rfl | hs
  ·exact hf
  ·exact e2 s hs
theorem jpP (l:List Int) (d:Nat) (hS:jja l d):jnH l d:=fun hl i m z hz h1 h2 hm hi=>by
 have hp:=yP l i (m+1) (by omega) (by omega)
 have hlt:=yT l i (m:=m+1) (by omega)
 have ho:=iW l i (m+1) hl
 generalize pk l i (m+1)=k at *
 have hkm:k*bS d<=m*bS d:=Nat.mul_le_mul_right _ (by omega)
 obtain⟨ss,i2,e1,e2,g3,g4,w2,hc⟩ := jjG hS hl hz h1 h2 k (i+1) (by omega)
 refine⟨ss,i2,by omega,e2,by omega,by omega,⟨fun κ ka kb=>by rw[e1];exact w2 κ ka kb,by omega⟩,?_⟩;refine eN jqk (fun _=>[0]) 1 Tryz.func38 rfl ?_;intro hok;conv=>whnf
 refine⟨jU (by omega),?_⟩;conv=>whnf
 refine qN 0 [] hp ?_;rintro o r ⟨ho,rfl⟩;cases ho;conv=>whnf
 refine yS 65 4 [] [(2,3)] ?_;conv=>whnf
 refine⟨trivial,?_⟩;conv=>whnf
 refine jB [0,1,6,7] ?_;conv=>whnf
 refine jE (fun x:List Nt × List Nt × Nat=>[(8,.v (.int .i64 x.2.1.length))]) (fun x=>[bxG l x.2.2,ji6,[intA 11,intA 0,jR ⟨#[]⟩,.own 0]]) (fun x=>[.live 65 4 x.1.length (j4 x.1)]) (fun x=>x.1++x.2.1=ss/\Chn l z x.2.2 x.2.1 i2) (fun x=>x.2.1.length) ([],ss,i+1) ?_ ⟨rfl,hc⟩ ?_
 ·rw[<- e1]
  repeat' constructor
  show Row.live _ _ _ _=Row.live _ 4 0 (j4 [])
  rw[wG]
 rintro⟨acc,rem,j⟩ ⟨hacc,hch⟩
 simp only at hacc hch
 conv=>whnf
 cases hch with
 | nil =>
  rw[List.append_nil] at hacc;conv=>whnf
  rw[<- hacc];exact⟨rfl,rfl⟩
 | cons _ i1 _ f rem hs hch =>
  have hln:acc.length+(rem.length+1)=ss.length:=by rw[<- hacc,List.length_append,List.length_cons]
  rw[show ((f :: rem).length:Int)=(rem.length:Int)+1 by simp];rw[jP (show 0<(rem.length:Int)+1 by omega)];conv=>whnf
  refine qN 0 [] hs ?_;rintro o r ⟨ho,rfl⟩;cases ho;conv=>whnf
  refine⟨⟨by simp only;unfold maxLen;omega,by simp only;omega⟩,?_⟩;conv=>whnf
  refine⟨jU (by omega),?_⟩;rw[show (rem.length:Int)+1-1=rem.length by omega];conv=>whnf
  refine⟨(acc++[f],rem,i1),jD [0] ?_,⟨by simp only;rw[List.append_assoc];exact hacc,hch⟩,by simp only[List.length_cons];omega⟩;conv=>whnf
  simp only[List.length_append,List.length_cons,List.length_nil];rw[oH]
  repeat' constructor
theorem jqo (l:List Int) (most:Nat) (hm:most<=1000):Spec Tryz.prog 36 [] [.sl 1 l.length (jQ l),.v (.int .i64 most)] fun _ r=>r = .sl 1 (l.take most).length (jQ (l.take most)):=by
 refine eN jM qD 0 Tryz.func36 rfl ?_;intro hok
 have e1:(min (l.length:Int) (most:Int)).toNat-Int.toNat 0=(l.take most).length:=by rw[List.length_take];omega
 have e2:List.take ((l.take most).length*1) (List.drop (Int.toNat 0*1) (jQ l))=jQ (l.take most):=by
  rw[Nat.mul_one,List.length_take];simp only[jQ,Int.toNat_zero,Nat.zero_mul,List.drop_zero];rw[<- List.map_take]
  congr 1
  rcases Nat.le_total most l.length with h | h
  ·rw[Nat.min_eq_left h]
  ·rw[Nat.min_eq_right h,List.take_of_length_le h,List.take_of_length_le (Nat.le_refl _)]
 have e3:(l.take most).length<=most:=by rw[List.length_take];omega
 conv=>whnf
 (refine rN ?_;try with_reducible exact trivial)
 rw[e1,e2];generalize l.take most=L at *;refine⟨⟨by unfold maxLen;omega,by omega⟩,?_⟩;conv=>whnf
 rfl
theorem jpO (l:List Int):∀ d,jja l d/\jnH l d
 | 0=>⟨joj l 0 fun e h=>by omega,jpP l 0 (joj l 0 fun e h=>by omega)⟩
 | d+1=>by
  have h1:jja l (d+1):=joj l (d+1) fun e h=>by
   obtain rfl:d=e:=by omega
   exact (jpO l d).2
  exact⟨h1,jpP l (d+1) h1⟩
def hnG (l:List Int) (j i:Nat):Int:=match j with
 | 0=>0
 | 1=>1
 | 2=>2+pk l (i+1) 8
 | _=>10+pk l (i+1+1) 30
inductive PCh (l:List Int):Nat->Nat->List (Int × Nt)->Prop
 | nil (i:Nat):PCh l 4 i []
 | skip (j i:Nat) (hs:List (Int × Nt)) (hj:j<4) (hi:i<=900000000) (hp:pk l i 5=0) (k:PCh l (j+1) (i+1) hs):PCh l j i hs
 | take (j i i2:Nat) (b:Nt) (hs:List (Int × Nt)) (hj:j<4) (hi:i<=900000000) (hp:0<pk l i 5) (h:Spec Tryz.prog 38 [bxG l (i+1+1+1)] [.box 0 0,.v (.int .i64 2),.v (.int .i64 3)] fun o r=>o=[bxG l i2]/\r = .agg (ntA b)) (k:PCh l (j+1) i2 hs):PCh l j i ((hnG l j i,b) :: hs)
def EK (b:Nt):Prop := ∃ k,b=wQ k/\k.length<=3 /\ ∀ s ∈ k,ES 2 s
def loG:Nat->Int
 | 0=>0
 | 1=>1
 | 2=>2
 | 3=>10
 | _=>40
def EHs (j:Nat) (hs:List (Int × Nt)):Prop:=(∀ h ∈ hs,loG j<=h.1/\h.1<40/\EK h.2)/\hs.Pairwise (fun a b=>a.1<b.1)/\hs.length+j<=4
theorem jqK (c:Nat) {n:Nat} (h:n<=3):(n=0/\c*n=0) ∨ (n ≠ 0/\c*n<=3*c):=by
 rcases (by omega:n=0 ∨ n=1 ∨ n=2 ∨ n=3) with rfl | rfl | rfl | rfl <;> omega
theorem jgq (l:List Int) (hl:l.length<=70):∀ (k j i:Nat),j+k=4->i+k*5000<=800000000 -> ∃ hs,EHs j hs/\(∀ κ,1<=κ->κ<=7->wHs κ hs+mU κ i<=(4*κ+12)*70+6*κ+18)/\PCh l j i hs
 | 0,j,i,hj,hb=>by
  obtain rfl:j=4:=by omega
  exact⟨[],⟨by simp,.nil,by decide⟩,fun κ ka kb=>by have:=(jcS κ i).1;show 0+mU κ i<=_;omega,.nil i⟩
 | k+1,j,i,hj,hb=>by
  rw[Nat.succ_mul] at hb
  have hjs:j=0 ∨ j=1 ∨ j=2 ∨ j=3:=by omega
  have hlo:loG j<=loG (j+1):=by rcases hjs with rfl | rfl | rfl | rfl <;> decide
  by_cases hp:pk l i 5=0
  ·obtain⟨hs,⟨e1,e2,e3⟩,w1,hc⟩ := jgq l hl k (j+1) (i+1) (by omega) (by omega)
   exact⟨hs,⟨fun h hh=>⟨by have:=(e1 h hh).1;omega,(e1 h hh).2⟩,e2,by omega⟩,fun κ ka kb=>by have:=(xG κ i).1;have w1:=w1 κ ka kb;omega,.skip _ _ _ (by omega) (by omega) hp hc⟩
  ·have hS:bS 2=1270:=rfl
   have ho:=iW l i 5 hl
   obtain⟨b,i2,q1,q2,g1,g2,⟨w2,w3⟩,hs⟩ := (jpO l 2).2 hl (i+1+1+1) 3 2 rfl (by decide) (by decide) (by decide) (by omega)
   obtain⟨hs2,⟨e1,e2,e3⟩,w1,hc⟩ := jgq l hl k (j+1) i2 (by omega) (by omega)
   have hn:loG j<=hnG l j i/\hnG l j i<loG (j+1):=by
    have p8:=yT l (i+1) (m:=8) (by decide)
    have p30:=yT l (i+1+1) (m:=30) (by decide)
    rcases hjs with rfl | rfl | rfl | rfl <;> simp only[loG,hnG] <;> omega
   have hl4:loG (j+1)<=40:=by rcases hjs with rfl | rfl | rfl | rfl <;> decide
   refine⟨_,⟨fun h hh => ?_,List.pairwise_cons.2 ⟨fun b hb => ?_,e2⟩,by rw[List.length_cons];omega⟩,fun κ ka kb=>by have p0:=xG κ i;have p1:=xG κ (i+1);have p2:=xG κ (i+1+1);have p3:=xG κ (i+1+1+1);have p4:=jcS κ i;have p5:=jcS κ (i+1+1+1+1);have w1:=w1 κ ka kb;have w2:=w2 κ ka kb;have hm:=jqK (4+4*κ) q1;rw[wHs,jdc];omega,.take j i i2 (wQ b) hs2 (by omega) (by omega) (by omega) hs hc⟩
   ·rcases List.mem_cons.1 hh with rfl | hh
    ·exact⟨hn.1,by simp only;omega,b,rfl,q1,q2⟩
    ·exact⟨by have:=(e1 h hh).1;omega,(e1 h hh).2⟩
   ·have:=(e1 b hb).1
    simp only;omega
def duL:List ByteArray:=[⟨#[100]⟩,⟨#[100,100,49]⟩]
def voL:List ByteArray:=[⟨#[118]⟩,⟨#[119,50]⟩]
def GU (u:Ut):Prop:=u.du=duL/\u.vo=voL/\EHs 0 u.on
def GW (u:Ut):Prop:=GU u /\ ∀ κ,1<=κ->κ<=7->wHs κ u.on<=(4*κ+12)*70+6*κ+18
theorem joi (l:List Int):∃ u,GW u/\Spec Tryz.prog 11 [] [.sl 1 l.length (jQ l)] fun _ r=>r = .agg (o9 u):=by
 have hin:=jqo l 70 (by decide)
 obtain⟨hs,hE,hW,hc⟩ := jgq (l.take 70) (by rw[List.length_take];omega) 4 0 0 rfl (by decide)
 refine⟨⟨duL,voL,hs⟩,⟨⟨rfl,rfl,hE⟩,fun κ ka kb=>by have:=hW κ ka kb;show wHs κ hs<=_;omega⟩,?_⟩;clear hW
 have hlen:=hE.2.2
 generalize l.take 70=L at *;refine eN jqf (fun _=>[1]) 0 Tryz.func11 rfl ?_;intro hok;conv=>whnf
 refine kS [] hin ?_;rintro r rfl;conv=>whnf
 refine yS 67 5 [] [(2,2)] ?_;conv=>whnf
 refine⟨trivial,?_⟩;conv=>whnf
 refine jB [2,3,4] ?_;conv=>whnf
 refine jE (fun x:Nat × Nat × List (Int × Nt) × List (Int × Nt)=>[(5,.v (.int .i64 x.1))]) (fun x=>[mT,bxG L x.2.1,[.own 0,.own 1,.own 2]]) (fun x=>[.live 9 1 2 (vE duL),.live 9 1 2 (vE voL),.live 67 5 x.2.2.1.length (aV x.2.2.1)]) (fun x=>x.2.2.1++x.2.2.2=hs/\PCh L x.1 x.2.1 x.2.2.2) (fun x=>4-x.1) (0,0,[],hs) ?_ ⟨rfl,hc⟩ ?_
 ·repeat' constructor
  show Row.live _ _ _ _=Row.live _ 5 0 (aV [])
  rw[je2]
 rintro⟨j,i,acc,rem⟩ ⟨hacc,hch⟩
 simp only at hacc hch
 have hal:acc.length<=4:=by
  have:=congrArg List.length hacc
  rw[List.length_append] at this;omega
 clear hin hc;conv=>whnf
 cases hch with
 | nil =>
  conv=>whnf
  rw[List.append_nil] at hacc;rw[<- hacc];rfl
 | skip _ _ _ hj hi hp hch =>
  have hpk:=yP L i 5 (by omega) (by decide)
  rw[hp] at hpk;rw[jP (show (j:Int)<4 by omega)];conv=>whnf
  refine qN 1 [] hpk ?_;rintro o r ⟨ho,rfl⟩;cases ho;conv=>whnf
  refine⟨jU (by omega),?_⟩;conv=>whnf
  refine⟨(j+1,i+1,acc,rem),jD [0,1,2] ?_,⟨hacc,hch⟩,by simp only;omega⟩;conv=>whnf
  repeat' constructor
 | take _ _ i2 b rem hj hi hp hs hch =>
  have hpk:=yP L i 5 (by omega) (by decide)
  have hp8:=yP L (i+1) 8 (by omega) (by decide)
  have hp30:=yP L (i+1+1) 30 (by omega) (by decide)
  have l8:=yT L (i+1) (m:=8) (by decide)
  have l30:=yT L (i+1+1) (m:=30) (by decide)
  obtain⟨nn,hnn⟩ : ∃ nn,hnG L j i=nn:=⟨_,rfl⟩
  rw[hnn] at hacc;unfold hnG at hnn;generalize pk L i 5=k5 at *;generalize pk L (i+1) 8=k8 at *;generalize pk L (i+1+1) 30=k30 at *;rw[jP (show (j:Int)<4 by omega)];conv=>whnf
  refine qN 1 [] hpk ?_;rintro o r ⟨ho,rfl⟩;cases ho;conv=>whnf
  rw[jP (show 0<(k5:Int) by omega)];conv=>whnf
  refine qN 1 [] hp8 ?_;rintro o r ⟨ho,rfl⟩;cases ho;conv=>whnf
  refine⟨jU (by omega),?_⟩;conv=>whnf
  refine qN 1 [] hp30 ?_;rintro o r ⟨ho,rfl⟩;cases ho;conv=>whnf
  refine⟨jU (by omega),?_⟩;conv=>whnf
  refine⟨⟨by omega,by omega⟩,?_⟩
  rcases (by omega:j=0 ∨ j=1 ∨ j=2 ∨ j=3) with rfl | rfl | rfl | rfl
  all_goals
   simp only at hnn
   conv=>whnf
   refine qN 1 [] hs ?_;rintro o r ⟨ho,rfl⟩;cases ho;conv=>whnf
   refine⟨⟨by simp only;unfold maxLen;omega,by simp only;omega⟩,?_⟩;conv=>whnf
   refine⟨jU (by simp only;omega),?_⟩;conv=>whnf
   subst hnn;refine⟨(_,i2,acc++[(_,b)],rem),jD [0,1,2] ?_,⟨by simp only;rw[List.append_assoc];exact hacc,hch⟩,by simp only;omega⟩;conv=>whnf
   repeat' constructor
   rw[List.length_append,jbb];rfl
theorem jhy {l:List ByteArray} {s:ByteArray} (h:s ∈ l):(l.any fun x=>decide (s=x))=true:=List.any_eq_true.2 ⟨s,h,jP rfl⟩
theorem jgl {s:ByteArray} (h:s ∈ opL ∨ s ∈ bolL ∨ s ∈ cmpL):(opAll.any fun x=>decide (s=x))=true:=by
 apply jhy
 unfold opAll
 rcases h with h | h | h
 ·unfold opL at h;simp only[List.mem_cons,List.not_mem_nil,or_false] at h ⊢
  rcases h with h | h | h | h <;> simp[h]
 ·unfold bolL at h;simp only[List.mem_cons,List.not_mem_nil,or_false] at h ⊢
  rcases h with h | h <;> simp[h]
 ·unfold cmpL at h;simp only[List.mem_cons,List.not_mem_nil,or_false] at h ⊢
  rcases h with h | h | h | h | h | h <;> simp[h]
theorem sz1 (k n:Int) (s:ByteArray) (f:Nt):qU (.mk k n s [f])=3+qU f:=rfl
theorem sz2 (k n:Int) (s:ByteArray) (f g:Nt):qU (.mk k n s [f,g])=3+(qU f+qU g):=rfl
theorem sz3 (k n:Int) (s:ByteArray) (f g h:Nt):qU (.mk k n s [f,g,h])=3+(qU f+(qU g+qU h)):=rfl
theorem sz0 (k n:Int) (s:ByteArray):qU (.mk k n s [])=3:=rfl
theorem jeL (d:Nat):2 ^ (d+1)=2*2 ^ d:=by rw[Nat.pow_succ,Nat.mul_comm]
theorem mS {d:Nat} {f:Nt} (h:EI d f):Wc true f/\qU f+3<=12*2 ^ d:=by
 have hp:=fun d:Nat=>Nat.one_le_two_pow (n:=d)
 induction h with
 | lit d n h=>exact⟨⟨wx0 rfl,rfl⟩,by rw[sz0];have:=hp d;omega⟩
 | var d s h=>exact⟨⟨wx0 rfl,rfl⟩,by rw[sz0];have:=hp d;omega⟩
 | nam d s h =>
  refine⟨⟨wx0 ?_,rfl⟩,by rw[sz0];have:=hp d;omega⟩
  show (decide (0=0) && _)=true
  rw[jhy h];rfl
 | drw d f h ih=>exact⟨⟨wx1 rfl (by decide) ih.1,rfl⟩,by rw[sz1,jeL];have:=hp d;omega⟩
 | neg d f h ih=>exact⟨⟨wx1 (jjq (.inl rfl)) (by decide) ih.1,rfl⟩,by rw[sz1,jeL];have:=hp d;omega⟩
 | bin d s f g hs h1 h2 i1 i2=>exact⟨⟨wx2 (sO (jgl (.inl hs))) (by decide) i1.1 i2.1,rfl⟩,by rw[sz2,jeL];have:=hp d;omega⟩
theorem jnE {d:Nat} {f:Nt} (h:EB d f):Wc true f/\qU f+3<=24*2 ^ d:=by
 have hp:=fun d:Nat=>Nat.one_le_two_pow (n:=d)
 induction h with
 | lit d n h=>exact⟨⟨wx0 rfl,rfl⟩,by rw[sz0];have:=hp d;omega⟩
 | nt d f h ih=>exact⟨⟨wx1 (jjq (.inr rfl)) (by decide) ih.1,rfl⟩,by rw[sz1,jeL];have:=hp d;omega⟩
 | bin d s f g hs h1 h2 i1 i2=>exact⟨⟨wx2 (sO (jgl (.inr (.inl hs)))) (by decide) i1.1 i2.1,rfl⟩,by rw[sz2,jeL];have:=hp d;omega⟩
 | cmp d s f g hs h1 h2 =>
  obtain⟨w1,s1⟩ := mS h1
  obtain⟨w2,s2⟩ := mS h2
  have hle:2 ^ (d-1)<=2 ^ d:=Nat.pow_le_pow_right (by decide) (by omega)
  exact⟨⟨wx2 (sO (jgl (.inr (.inr hs)))) (by decide) w1 w2,rfl⟩,by rw[sz2];omega⟩
theorem jhY (B:Nat):∀ l:List Nt,(∀ f ∈ l,qU f<=B)->zD l<=l.length*B
 | [],_=>Nat.zero_le _
 | f :: l,h=>by
  have h1:=h f List.mem_cons_self
  have h2:=jhY B l fun g hg=>h g (List.mem_cons_of_mem _ hg)
  show qU f+zD l<=(l.length+1)*B
  rw[Nat.succ_mul];omega
def sB:Nat->Nat
 | 0=>54
 | d+1=>102+4*sB d
theorem pV:∀ d,54<=sB d
 | 0=>Nat.le_refl _
 | d+1=>by unfold sB;omega
theorem jdf {l:List Nt} {m B:Nat} (hm:l.length<=m) (h3:m<=3000) (h:∀ s ∈ l,Wc false s/\qU s<=B):Wc false (wQ l)/\qU (wQ l)<=3+m*B:=by
 refine⟨wbk (by omega) fun f hf=>(h f hf).1,?_⟩
 ·have h1:=jhY B l fun f hf=>(h f hf).2
  have h2:l.length*B<=m*B:=Nat.mul_le_mul_right _ hm
  show 3+zD l<=_
  omega
theorem jqv {d:Nat} {f:Nt} (h:ES d f):Wc false f/\qU f<=sB d:=by
 induction h with
 | asg d e s f hs h he =>
  obtain⟨w,z⟩ := mS h
  have hle:2 ^ e<=2 ^ 2:=Nat.pow_le_pow_right (by decide) he
  have:=pV d
  exact⟨⟨wx1 rfl (by decide) w,rfl⟩,by rw[sz1];omega⟩
 | snd d n f g h hn h1 h2 h3 =>
  obtain⟨w1,z1⟩ := mS h1
  obtain⟨w2,z2⟩ := mS h2
  obtain⟨w3,z3⟩ := mS h3
  have:=pV d
  exact⟨⟨wx3 rfl (by decide) w1 w2 w3,rfl⟩,by rw[sz3];omega⟩
 | tim d n hn=>exact⟨⟨wx0 rfl,rfl⟩,by rw[sz0];have:=pV d;omega⟩
 | can d n hn=>exact⟨⟨wx0 rfl,rfl⟩,by rw[sz0];have:=pV d;omega⟩
 | syn d=>exact⟨⟨wx0 rfl,rfl⟩,by rw[sz0];have:=pV d;omega⟩
 | rep d f g h1 h2 =>
  obtain⟨w1,z1⟩ := mS h1
  obtain⟨w2,z2⟩ := mS h2
  have:=pV d
  exact⟨⟨wx2 rfl (by decide) w1 w2,rfl⟩,by rw[sz2];omega⟩
 | fai d f h1 =>
  obtain⟨w1,z1⟩ := mS h1
  have:=pV d
  exact⟨⟨wx1 rfl (by decide) w1,rfl⟩,by rw[sz1];omega⟩
 | stp d=>exact⟨⟨wx0 rfl,rfl⟩,by rw[sz0];have:=pV d;omega⟩
 | whi d c l h1 h2 h3 ih =>
  obtain⟨w1,z1⟩ := jnE h1
  obtain⟨w2,z2⟩ := jdf h2 (by decide) ih
  have e:sB (d+1)=102+4*sB d:=rfl
  exact⟨wi2 w1 w2,by rw[sz2,e];omega⟩
 | iff d c l m h1 h2 h3 h4 h5 ih1 ih2 =>
  obtain⟨w1,z1⟩ := jnE h1
  obtain⟨w2,z2⟩ := jdf h2 (by decide) ih1
  obtain⟨w3,z3⟩ := jdf h4 (by decide) ih2
  have e:sB (d+1)=102+4*sB d:=rfl
  exact⟨wi3 w1 w2 w3,by rw[sz3,e];omega⟩
theorem jll (B:Nat):∀ l:List (Int × Nt),(∀ h ∈ l,qU h.2<=B)->oY l<=l.length*(B+1)
 | [],_=>Nat.zero_le _
 | x :: l,h=>by
  have h1:=h x List.mem_cons_self
  have h2:=jll B l fun g hg=>h g (List.mem_cons_of_mem _ hg)
  show qU x.2+1+oY l<=(l.length+1)*(B+1)
  rw[Nat.succ_mul];omega
theorem jpR {u:Ut} (h:GU u):WfU u/\oY u.on<=900000 /\ ∀ x ∈ u.on,qU x.2<=5000:=by
 obtain⟨h1,h2,h3,h4,h5⟩ := h
 have hb:∀ x ∈ u.on,Wc false x.2/\qU x.2<=5000:=fun x hx=>by
  obtain⟨_,_,k,hk,hl,hs⟩ := h3 x hx
  rw[hk]
  have:=jdf (B:=sB 2) hl (by decide) fun s hs' => jqv (hs s hs')
  exact⟨this.1,by have:=this.2;have e:sB 2=1374:=rfl;omega⟩
 refine⟨⟨by rw[h1,h2];decide,fun x hx=>⟨(h3 x hx).1,(h3 x hx).2.1,(hb x hx).1.1⟩,fun x hx=>(hb x hx).1.2,h4.imp fun h=>by omega,by omega⟩,?_,fun x hx=>(hb x hx).2⟩
 have:=jll 5000 u.on fun x hx=>(hb x hx).2
 have h6:u.on.length*(5000+1)<=4*(5000+1):=Nat.mul_le_mul_right _ (by omega)
 omega
section
end
section
end
section
end
theorem jeF (k:Int):(k=1 ∨ k=2 ∨ k=3 ∨ k=4 ∨ k=5 ∨ k=6 ∨ k=7 ∨ k=8 ∨ k=9 ∨ k=10 ∨ k=11 ∨ k=12 ∨ k=13 ∨ k=14 ∨ k=15 ∨ k=16 ∨ k=17 ∨ k=18 ∨ k=19 ∨ k=20 ∨ k=21 ∨ k=22 ∨ k=23) ∨ (k<1 ∨ 23<k):=by omega
def joU (k:Int):Int:=if 1<=k/\k<=23 then qC k else -1
theorem jiI (k:Int):Spec Tryz.prog 68 [] [intA k] fun _ r=>r=intA (joU k):=by
 rcases jeF k with h | h
 ·rcases h with rfl | rfl | rfl | rfl | rfl | rfl | rfl | rfl | rfl | rfl | rfl | rfl | rfl | rfl | rfl | rfl | rfl | rfl | rfl | rfl | rfl | rfl | rfl
  all_goals
   refine eN jM qD 0 Tryz.func68 rfl ?_;intro _;conv=>whnf
   rfl
 unfold joU;rw[if_neg (by omega)];refine eN jM qD 0 Tryz.func68 rfl ?_;intro _;conv=>whnf
 rw[jH (show ¬ k=1 by omega)];conv=>whnf
 rw[jH (show ¬ k=2 by omega)];conv=>whnf
 rw[jH (show ¬ k=4 by omega)];conv=>whnf
 rw[jH (show ¬ k=15 by omega)];conv=>whnf
 rw[jH (show ¬ k=18 by omega)];conv=>whnf
 rw[jH (show ¬ k=19 by omega)];conv=>whnf
 rw[jH (show ¬ k=20 by omega)];conv=>whnf
 rw[jH (show ¬ k=23 by omega)];conv=>whnf
 rw[jH (show ¬ k=5 by omega)];conv=>whnf
 rw[jH (show ¬ k=10 by omega)];conv=>whnf
 rw[jH (show ¬ k=14 by omega)];conv=>whnf
 rw[jH (show ¬ k=3 by omega)];conv=>whnf
 rw[jH (show ¬ k=16 by omega)];conv=>whnf
 rw[jH (show ¬ k=22 by omega)];conv=>whnf
 rw[jH (show ¬ k=6 by omega)];conv=>whnf
 rw[jH (show ¬ k=7 by omega)];conv=>whnf
 rw[jH (show ¬ k=8 by omega)];conv=>whnf
 rw[jH (show ¬ k=9 by omega)];conv=>whnf
 rw[jH (show ¬ k=11 by omega)];conv=>whnf
 rw[jH (show ¬ k=12 by omega)];conv=>whnf
 rw[jH (show ¬ k=13 by omega)];conv=>whnf
 rw[jH (show ¬ k=21 by omega)];conv=>whnf
 rw[jH (show ¬ k=17 by omega)];conv=>whnf
 rfl
theorem jeN (k:Int):Spec Tryz.prog 69 [] [intA k] fun _ r=>r=intA (j8 k):=by
 rcases jeF k with h | h
 ·rcases h with rfl | rfl | rfl | rfl | rfl | rfl | rfl | rfl | rfl | rfl | rfl | rfl | rfl | rfl | rfl | rfl | rfl | rfl | rfl | rfl | rfl | rfl | rfl
  all_goals
   refine eN jM qD 0 Tryz.func69 rfl ?_;intro _;conv=>whnf
   rfl
 have hp:j8 k=0:=by unfold j8;rw[if_neg (by omega)]
 rw[hp];refine eN jM qD 0 Tryz.func69 rfl ?_;intro _;conv=>whnf
 rw[jH (show ¬ k=1 by omega)];conv=>whnf
 rw[jH (show ¬ k=2 by omega)];conv=>whnf
 rw[jH (show ¬ k=4 by omega)];conv=>whnf
 rw[jH (show ¬ k=5 by omega)];conv=>whnf
 rw[jH (show ¬ k=10 by omega)];conv=>whnf
 rw[jH (show ¬ k=14 by omega)];conv=>whnf
 rw[jH (show ¬ k=6 by omega)];conv=>whnf
 rw[jH (show ¬ k=7 by omega)];conv=>whnf
 rw[jH (show ¬ k=8 by omega)];conv=>whnf
 rw[jH (show ¬ k=9 by omega)];conv=>whnf
 rw[jH (show ¬ k=11 by omega)];conv=>whnf
 rw[jH (show ¬ k=12 by omega)];conv=>whnf
 rw[jH (show ¬ k=13 by omega)];conv=>whnf
 rfl
theorem jiD (code:List Ic) (e:Nat->Int) (du vo:Int) (hl:code.length<=1000000) (i:Nat) (hi:i<code.length):Spec Tryz.prog 60 [] [pgA code e du vo,.v (.int .i64 i)] fun _ r=>r = .sl 1 (sc code i).length (jQ (sc code i)):=by
 have hrow:jC 2 i (qT code)=icA code[i]:=xL code i hi
 have hsc:sc code i=nxI i code[i]:=by
  unfold sc;rw[Int.toNat_natCast,List.getD_eq_getElem?_getD,List.getElem?_eq_getElem hi];rfl
 rw[hsc];generalize code[i]=p at hrow
 obtain⟨op,n⟩ := p
 unfold icA at hrow
 simp only at hrow
 unfold nxI
 simp only
 by_cases h1:op=23
 ·rw[if_pos h1];subst h1
  suffices h:Spec Tryz.prog 60 [] [pgA code e du vo,.v (.int .i64 i)] fun _ r=>r = .v (.slice none 0 0) by
   refine h.weaken fun o r hr=>⟨o,.sl 1 0 [],rfl,WkB.refl o,?_⟩
   rw[hr];exact .nil 1
  refine eN jM qD 0 Tryz.func60 rfl ?_;intro _;conv=>whnf
  refine⟨show (0:Int)<=(i:Int)/\(i:Int)<(code.length:Nat) from ⟨by omega,by omega⟩,?_⟩;conv=>whnf
  (generalize hrq:jC _ _ (qT code)=rq;obtain rfl:rq=[intA 23,intA n]:=hrq.symm.trans (hrow);clear hrq;conv=>whnf)
  try rfl
 rw[if_neg h1]
 by_cases h2:op=15
 ·rw[if_pos h2];subst h2;refine eN jM qD 0 Tryz.func60 rfl ?_;intro _;conv=>whnf
  refine⟨show (0:Int)<=(i:Int)/\(i:Int)<(code.length:Nat) from ⟨by omega,by omega⟩,?_⟩;conv=>whnf
  (generalize hrq:jC _ _ (qT code)=rq;obtain rfl:rq=[intA 15,intA n]:=hrq.symm.trans (hrow);clear hrq;conv=>whnf)
  refine⟨show (0:Int)<=(i:Int)/\(i:Int)<(code.length:Nat) from ⟨by omega,by omega⟩,?_⟩;conv=>whnf
  (generalize hrq:jC _ _ (qT code)=rq;obtain rfl:rq=[intA 15,intA n]:=hrq.symm.trans (hrow);clear hrq;conv=>whnf)
  try rfl
 rw[if_neg h2]
 by_cases h3:op=16
 ·rw[if_pos h3];subst h3;refine eN jM qD 0 Tryz.func60 rfl ?_;intro _;conv=>whnf
  refine⟨show (0:Int)<=(i:Int)/\(i:Int)<(code.length:Nat) from ⟨by omega,by omega⟩,?_⟩;conv=>whnf
  (generalize hrq:jC _ _ (qT code)=rq;obtain rfl:rq=[intA 16,intA n]:=hrq.symm.trans (hrow);clear hrq;conv=>whnf)
  refine⟨jU (by omega),?_⟩;conv=>whnf
  refine⟨show (0:Int)<=(i:Int)/\(i:Int)<(code.length:Nat) from ⟨by omega,by omega⟩,?_⟩;conv=>whnf
  (generalize hrq:jC _ _ (qT code)=rq;obtain rfl:rq=[intA 16,intA n]:=hrq.symm.trans (hrow);clear hrq;conv=>whnf)
  try rfl
 rw[if_neg h3];refine eN jM qD 0 Tryz.func60 rfl ?_;intro _;conv=>whnf
 refine⟨show (0:Int)<=(i:Int)/\(i:Int)<(code.length:Nat) from ⟨by omega,by omega⟩,?_⟩;conv=>whnf
 (generalize hrq:jC _ _ (qT code)=rq;obtain rfl:rq=[intA op,intA n]:=hrq.symm.trans (hrow);clear hrq;conv=>whnf)
 rw[jH h1];conv=>whnf
 rw[jH h2];conv=>whnf
 rw[jH h3];conv=>whnf
 refine⟨jU (by omega),?_⟩;conv=>whnf
 rfl
section
end
structure DqC (code:List Ic) (x:Int) (c0:Nat) (i:Int) (out:List Int) (ok ch:Bool):Prop where
 di:Di code x out ok
 ct:c0+(if ch=true then 1 else 0)<=cN out
 pd:ch=false -> ∀ j,0<=j->j<i->0<=og out j->Pds code out ok j (sc code j)
structure Dr (code:List Ic) (x:Int) (c0:Nat) (i:Int) (v d:Int) (t:Nat) (out:List Int) (ok ch:Bool):Prop where
 dq:DqC code x c0 i out ok ch
 iv:og out i=v
 dd:0<=d/\d<=cN out
 dl:ok=true->qC (oK code i)<=v/\d=lv code i v
 dc:∀ D,sD code x D->d=lv code i v
 pr:ch=false->Pds code out ok i ((sc code i).take t)
theorem jeC {out:List Int} {i:Nat} (hi:i<out.length):jC 1 i (jQ out)=[intA (og out i)]:=by
 rw[bM out i hi];unfold og;rw[Int.toNat_natCast,List.getD_eq_getElem?_getD,List.getElem?_eq_getElem hi]
 try rfl
theorem jir (l:List Int) (k:Nat) (v:Int):(jQ l).set k (intA v)=jQ (l.set k v):=by
 unfold jQ;rw[List.map_set]
 try rfl
theorem Dr.skip {code:List Ic} {x:Int} {c0:Nat} {i v d:Int} {t:Nat} {out:List Int} {ok ch:Bool} (h:Dr code x c0 i v d t out ok ch) (ht:t<(sc code i).length) (hk : ¬ (0<=(sc code i)[t]/\(sc code i)[t]<code.length)):Dr code x c0 i v d (t+1) out ok ch:=by
 refine⟨h.dq,h.iv,h.dd,h.dl,h.dc,fun hc=>⟨(h.pr hc).1,fun k hk' h1 h2 => ?_⟩⟩;rw[List.take_succ_eq_append_getElem ht,List.mem_append,List.mem_singleton] at hk'
 rcases hk' with hk' | rfl
 ·exact (h.pr hc).2 k hk' h1 h2
 ·exact absurd ⟨h1,h2⟩ hk
theorem Dr.put {code:List Ic} {x:Int} {c0:Nat} {i v d:Int} {t:Nat} {out:List Int} {ok ch:Bool} (h:Dr code x c0 i v d t out ok ch) (hi:0<=i/\i<code.length) (hv:0<=v) (ht:t<(sc code i).length) (hk:0<=(sc code i)[t]/\(sc code i)[t]<code.length) (hlt:og out (sc code i)[t]<0):Dr code x c0 i v d (t+1) (out.set ((sc code i)[t]).toNat d) ok true:=by
 have hm:=List.getElem_mem ht
 have hin:=fun D (hD:sD code x D)=>(h.dq.di.uq D hD).2 i hi.1 hi.2 (by rw[h.iv];exact hv)
 have hr:Rch code x i:=h.dq.di.re i hi.1 hi.2 (by rw[h.iv];exact hv)
 obtain⟨q1,q2⟩ := h.dq.di.put hi (by rw[h.iv];exact hv) hm hk hlt h.dd fun D hD=>by
  rw[h.dc D hD,<- h.iv,hin D hD];exact (hD.nx i hr _ hm hk.2).symm
 have hct:=h.dq.ct
 have hcc:(if ch=true then 1 else 0)<=1:=by split <;> omega
 refine⟨⟨q1,by rw[q2,if_pos rfl];omega,fun hc=>by cases hc⟩,?_,⟨h.dd.1,by rw[q2];have:=h.dd.2;omega⟩,h.dl,h.dc,fun hc=>by cases hc⟩;rw[uJ (by rw[h.dq.di.ln];exact hk) hi.1,if_neg ?_]
 ·exact h.iv
 ·intro e;rw[<- e,h.iv] at hlt;omega
theorem Dr.same {code:List Ic} {x:Int} {c0:Nat} {i v d:Int} {t:Nat} {out:List Int} {ok ch:Bool} (h:Dr code x c0 i v d t out ok ch) (hi:0<=i/\i<code.length) (ht:t<(sc code i).length) (hlt : ¬ og out (sc code i)[t]<0) (he:og out (sc code i)[t]=d):Dr code x c0 i v d (t+1) out ok ch:=by
 refine⟨h.dq,h.iv,h.dd,h.dl,h.dc,fun hc=>⟨(h.pr hc).1,fun k hk' h1 h2 => ?_⟩⟩;rw[List.take_succ_eq_append_getElem ht,List.mem_append,List.mem_singleton] at hk'
 rcases hk' with hk' | rfl
 ·exact (h.pr hc).2 k hk' h1 h2
 ·refine⟨by omega,fun hok => ?_⟩;rw[he,h.iv];exact (h.dl hok).2
theorem Di.bad {code:List Ic} {x:Int} {c0:Nat} {i v d:Int} {t:Nat} {out:List Int} {ok ch:Bool} (h:Dr code x c0 i v d t out ok ch) (hD:∀ D,¬ sD code x D):Dr code x c0 i v d t out false ch :=
 ⟨⟨h.dq.di.no hD,h.dq.ct,fun hc j h1 h2 h3=>⟨(fun e=>by cases e),fun k hk q1 q2=>⟨((h.dq.pd hc j h1 h2 h3).2 k hk q1 q2).1,fun e=>by cases e⟩⟩⟩,h.iv,h.dd,(fun e=>by cases e),h.dc,fun hc=>⟨(fun e=>by cases e),fun k hk q1 q2=>⟨((h.pr hc).2 k hk q1 q2).1,fun e=>by cases e⟩⟩⟩
theorem Dr.conf {code:List Ic} {x:Int} {c0:Nat} {i v d:Int} {t:Nat} {out:List Int} {ok ch:Bool} (h:Dr code x c0 i v d t out ok ch) (hi:0<=i/\i<code.length) (hv:0<=v) (ht:t<(sc code i).length) (hk:0<=(sc code i)[t]/\(sc code i)[t]<code.length) (hlt : ¬ og out (sc code i)[t]<0) (he:og out (sc code i)[t] ≠ d):Dr code x c0 i v d (t+1) out false ch:=by
 have hm:=List.getElem_mem ht
 have hr:Rch code x i:=h.dq.di.re i hi.1 hi.2 (by rw[h.iv];exact hv)
 have h':Dr code x c0 i v d t out false ch:=Di.bad h fun D hD=>by
  have e1:=(h.dq.di.uq D hD).2 i hi.1 hi.2 (by rw[h.iv];exact hv)
  have e2:=(h.dq.di.uq D hD).2 _ hk.1 hk.2 (by omega)
  apply he
  rw[e2,hD.nx i hr _ hm hk.2,<- e1,h.iv,h.dc D hD]
 refine⟨h'.dq,h'.iv,h'.dd,h'.dl,h'.dc,fun hc=>⟨(fun e=>by cases e),fun k hk' h1 h2 => ?_⟩⟩;rw[List.take_succ_eq_append_getElem ht,List.mem_append,List.mem_singleton] at hk'
 rcases hk' with hk' | rfl
 ·exact (h'.pr hc).2 k hk' h1 h2
 ·exact⟨by omega,fun e=>by cases e⟩
theorem Dr.done {code:List Ic} {x:Int} {c0:Nat} {i v d:Int} {out:List Int} {ok ch:Bool} (h:Dr code x c0 i v d (sc code i).length out ok ch) (hi:0<=i):DqC code x c0 (i+1) out ok ch:=by
 refine⟨h.dq.di,h.dq.ct,fun hc j h1 h2 h3 => ?_⟩
 by_cases e:j=i
 ·subst e
  have:=h.pr hc
  rw[List.take_length] at this;exact this
 ·exact h.dq.pd hc j h1 (by omega) h3
theorem DqC.jump {code:List Ic} {x:Int} {c0:Nat} {i:Int} {out:List Int} {ok ch:Bool} (h:DqC code x c0 i out ok ch) (hv:og out i<0):DqC code x c0 (i+1) out ok ch:=by
 refine⟨h.di,h.ct,fun hc j h1 h2 h3 => ?_⟩
 by_cases e:j=i
 ·subst e;omega
 ·exact h.pd hc j h1 (by omega) h3
theorem DqC.take {code:List Ic} {x:Int} {c0:Nat} {i:Int} {out:List Int} {ok ch:Bool} (h:DqC code x c0 i out ok ch) (hi:0<=i/\i<code.length) (hv:0<=og out i) (hl:qC (oK code i)<=og out i):Dr code x c0 i (og out i) (og out i-qC (oK code i)+j8 (oK code i)) 0 out ok ch:=by
 have hb:=h.di.bnd hi
 have p1:=rX (oK code i)
 have p2:=dL (oK code i)
 exact⟨h,rfl,⟨by omega,by omega⟩,fun _=>⟨hl,rfl⟩,fun D hD=>rfl,fun hc=>⟨fun _=>hl,fun k hk=>by rw[List.take_zero] at hk;cases hk⟩⟩
theorem DqC.under {code:List Ic} {x:Int} {c0:Nat} {i:Int} {out:List Int} {ok ch:Bool} (h:DqC code x c0 i out ok ch) (hi:0<=i/\i<code.length) (hv:0<=og out i) (hl:og out i<qC (oK code i)):Dr code x c0 i (og out i) (j8 (oK code i)) 0 out false ch:=by
 have hr:Rch code x i:=h.di.re i hi.1 hi.2 hv
 have hb:=h.di.bnd hi
 have p2:=dL (oK code i)
 have hno:∀ D,¬ sD code x D:=fun D hD=>by
  have e1:=(h.di.uq D hD).2 i hi.1 hi.2 hv
  have e2:=hD.po i hr
  omega
 exact⟨⟨h.di.no hno,h.ct,fun hc j h1 h2 h3=>⟨(fun e=>by cases e),fun k hk q1 q2=>⟨((h.pd hc j h1 h2 h3).2 k hk q1 q2).1,fun e=>by cases e⟩⟩⟩,rfl,⟨by omega,by omega⟩,(fun e=>by cases e),fun D hD=>absurd hD (hno D),fun hc=>⟨(fun e=>by cases e),fun k hk=>by rw[List.take_zero] at hk;cases hk⟩⟩
theorem jeT (n:Nat):jiQ n [Value.int .i64 0]=jQ (List.replicate n 0):=by
 rw[jhL,List.map_singleton,List.flatten_replicate_singleton];unfold jQ;rw[List.map_replicate];rfl
theorem jkY (code:List Ic) (a:Int):(sc code a).length<=2:=by
 unfold sc nxI
 repeat' split
 all_goals simp
theorem tW (l:List Int):(jQ l).length=l.length:=by unfold jQ;rw[List.length_map]
theorem aB {l:List Int} {k:Nat} {v:Int} {K:List A->Prop} (hk:k<l.length) (h:K (jQ (l.set k v))):gL (jQ l) (k*1) (intA v) K:=by
 rw[Nat.mul_one];refine fE (by rw[tW];exact hk) ?_;rw[jir];exact h
theorem aU {out:List Int} {i:Int} (h:0<=i/\i<out.length):(jQ out).drop (i.toNat*1)=intA (og out i) :: (jQ out).drop (i.toNat+1):=by
 obtain⟨h2,e⟩ := jgj h.1 h.2
 rw[Nat.mul_one,List.drop_eq_getElem_cons (by rw[tW];exact h2),e]
 congr 1
 unfold jQ;rw[List.getElem_map]
 try rfl
def ini (n j:Nat):List Int:=List.replicate j (-1)++List.replicate (n-j) 0
theorem jhr (n j:Nat) (h:j<=n):(ini n j).length=n:=by unfold ini;rw[List.length_append,List.length_replicate,List.length_replicate];omega
theorem jhs (n j:Nat) (h:j<n):(ini n j).set j (-1)=ini n (j+1):=by
 unfold ini;rw[List.set_append_right _ _ (by rw[List.length_replicate];exact Nat.le_refl _),List.length_replicate,Nat.sub_self,show n-j=(n-(j+1))+1 by omega,List.replicate_succ,List.set_cons_zero,List.replicate_succ',List.append_assoc];rfl
theorem jhq (n:Nat):ini n n=List.replicate n (-1):=by unfold ini;rw[Nat.sub_self];exact List.append_nil _
def jnB (id:Nat):Tr:=match Nat.beq id 17 with
 | true => .q 0 3 (.q 1 3 (.q 2 3 (.q 4 3 (.q 5 0 (.q 6 3 (.q 7 3 (.q 8 3 (.q 9 0 (.alt 3 1 (.alt 10 1 (.q 11 3 (.q 12 3 .nil)) .nil) (.alt 10 1 (.alt 3 1 (.q 11 3 (.q 12 3 .nil)) .nil) .nil))))))))))
 | false => .nil
theorem jdP (code:List Ic) (e:Nat->Int) (du vo x:Int) (hl:code.length<=1000000) (hj:cJ code) (ho:∀ i ∈ code,1<=i.1/\i.1<=23) (hx:0<=x/\x<code.length):Spec Tryz.prog 30 [] [pgA code e du vo,intA x] fun _ r => ∃ out ok,r = .tup [.sl 1 out.length (jQ out),qR ok]/\Dp code x out ok:=by
 refine eN jnB qD 0 Tryz.func30 rfl ?_;intro _;conv=>whnf
 refine⟨⟨by omega,rfl,by omega,by omega⟩,?_⟩;conv=>whnf
 refine jB [1,2,6] ?_;conv=>whnf
 refine jE (fun j:Nat=>[(7,.v (.int .i64 j))]) (fun _=>[uL code e du vo]) (fun j=>[.live 3 1 code.length (jQ (ini code.length j))]) (fun j=>j<=code.length) (fun j=>code.length-j) 0 ?_ (Nat.zero_le _) ?_
 ·repeat' constructor
  show Row.live _ 1 code.length (jiQ code.length [Value.int .i64 0])=_
  rw[jeT];rfl
 intro j hjn;conv=>whnf
 rcases Nat.lt_or_ge j code.length with hlt | hge
 ·rw[jP (show (j:Int)<(code.length:Int) by omega)];conv=>whnf
  refine⟨show (0:Int)<=(j:Int)/\(j:Int)<(code.length:Nat) from ⟨by omega,by omega⟩,?_⟩;conv=>whnf
  refine aB (l:=ini code.length j) (k:=j) (v := -1) (by rw[jhr _ _ hjn];exact hlt) ?_;rw[jhs _ _ hlt];conv=>whnf
  refine jN j (by omega) ?_;conv=>whnf
  refine⟨j+1,jD [0] ?_,show j+1<=code.length by omega,show code.length-(j+1)<code.length-j by omega⟩;conv=>whnf
  repeat' constructor
 obtain rfl:j=code.length:=by omega
 rw[jH (show ¬ (code.length:Int)<(code.length:Int) by omega)];rw[jhq];conv=>whnf
 rw[jH (show ¬ x<0 by omega)];conv=>whnf
 rw[jH (show ¬ (code.length:Int)<=x by omega)];conv=>whnf
 refine⟨show (0:Int)<=x/\x<(code.length:Nat) from hx,?_⟩;conv=>whnf
 refine aB (l:=List.replicate code.length (-1)) (k:=x.toNat) (v:=0) (by rw[List.length_replicate];omega) ?_
 have hini:=Di.init hx
 generalize (List.replicate code.length (-1:Int)).set x.toNat 0=outI at hini;conv=>whnf
 refine jB [2,6] ?_;conv=>whnf
 refine jE (fun y:List Int × Bool × Bool=>[(8,qR y.2.1),(9,qR y.2.2)]) (fun _=>[uL code e du vo]) (fun y=>[.live 3 1 code.length (jQ y.1)]) (fun y=>Di code x y.1 y.2.1/\(y.2.2=false -> ∀ j:Int,0<=j->j<code.length->0<=og y.1 j->Pds code y.1 y.2.1 j (sc code j))) (fun y=>code.length-cN y.1+(if y.2.2=true then 1 else 0)) (outI,true,true) ?_ ⟨hini,fun h=>by cases h⟩ ?_
 ·repeat' constructor
 rintro⟨out0,ok0,ch0⟩ ⟨g1,g2⟩
 simp only at g1 g2
 cases ch0 with
 | false =>
  conv=>whnf
  refine⟨out0,ok0,?_,Dp.of hj hx g1 (g2 rfl)⟩;rw[g1.ln]
  try rfl
 | true =>
  conv=>whnf
  refine jB [2,6] ?_;conv=>whnf
  refine jE (fun y:Nat × List Int × Bool × Bool=>[(8,qR y.2.2.1),(9,qR y.2.2.2),(10,.v (.int .i64 y.1))]) (fun _=>[uL code e du vo]) (fun y=>[.live 3 1 code.length (jQ y.2.1)]) (fun y=>y.1<=code.length/\DqC code x (cN out0) y.1 y.2.1 y.2.2.1 y.2.2.2) (fun y=>code.length-y.1) (0,out0,ok0,false) ?_ ⟨Nat.zero_le _,g1,Nat.le_refl _,fun _ j h1 h2=>by omega⟩ ?_
  ·repeat' constructor
  rintro⟨i,out,ok,ch⟩ ⟨q1,q2⟩
  simp only at q1 q2
  have hln:=q2.di.ln
  conv=>whnf
  rcases Nat.lt_or_ge i code.length with hil | hig
  ·have hir:(0:Int)<=(i:Int)/\(i:Int)<code.length:=⟨by omega,by omega⟩
   have hbd:=q2.di.bnd hir
   rw[jP (show (i:Int)<(code.length:Int) by omega)];conv=>whnf
   refine⟨show (0:Int)<=(i:Int)/\(i:Int)<(code.length:Nat) from hir,?_⟩;conv=>whnf
   rw[aU (by rw[hln];exact hir)];conv=>whnf
   by_cases hv:og out i<0
   ·rw[jP hv];conv=>whnf
    refine jN i (by omega) ?_;conv=>whnf
    refine⟨(i+1,out,ok,ch),jD [0] ?_,⟨show i+1<=code.length by omega,q2.jump hv⟩,show code.length-(i+1)<code.length-i by omega⟩;conv=>whnf
    repeat' constructor
   rw[jH hv]
   have hv:0<=og out i:=by omega
   have hrow:jC 2 i (qT code)=icA code[i]:=xL code i hil
   have hopi:oK code i=(code[i]).1:=by unfold oK;rw[Int.toNat_natCast,List.getD_eq_getElem?_getD,List.getElem?_eq_getElem hil];rfl
   have hoi:=ho _ (List.getElem_mem hil)
   have hnx:=jiD code e du vo hl i hil
   have htake:=q2.take hir hv
   have hund:=q2.under hir hv
   rw[hopi] at htake hund;generalize code[i]=ci at hrow htake hund hoi
   obtain⟨op,n⟩ := ci
   unfold icA at hrow
   simp only at hrow htake hund hoi
   have hps:=jiI op
   have hpu:=jeN op
   unfold joU at hps;rw[if_pos hoi] at hps
   have p1:=rX op
   have p2:=dL op
   have hcn:=jaX out
   rw[hln] at hcn;conv=>whnf
   apply jht
   ·conv=>whnf
    refine⟨hir,?_⟩;conv=>whnf
    refine⟨hir,?_⟩;conv=>whnf
    (generalize hrq:jC _ _ (qT code)=rq;obtain rfl:rq=[intA op,intA n]:=hrq.symm.trans (hrow);clear hrq;conv=>whnf)
    refine⟨?_,?_⟩
    ·conv=>whnf
     rw[aU (by rw[hln];exact hir)];conv=>whnf
     refine kS [] hps ?_;rintro r rfl;conv=>whnf
     refine⟨show lo .i64<=og out i-qC op/\og out i-qC op<=hi .i64 from jU (by omega),?_⟩;conv=>whnf
    ·conv=>whnf
     refine kS [] hps ?_;rintro r rfl;conv=>whnf
     rw[aU (by rw[hln];exact hir)];conv=>whnf
     refine⟨show lo .i64<=og out i-qC op/\og out i-qC op<=hi .i64 from jU (by omega),?_⟩;conv=>whnf
   conv=>whnf
   by_cases hu:og out i-qC op<0
   ·rw[jP hu];conv=>whnf
    refine⟨show (0:Int)<=(i:Int)/\(i:Int)<(code.length:Nat) from hir,?_⟩;conv=>whnf
    (generalize hrq:jC _ _ (qT code)=rq;obtain rfl:rq=[intA op,intA n]:=hrq.symm.trans (hrow);clear hrq;conv=>whnf)
    refine kS [] hpu ?_;rintro r rfl;conv=>whnf
    refine⟨jU (by omega),?_⟩;conv=>whnf
    refine kS [] hnx ?_;rintro r rfl;rw[Int.zero_add]
    have hdr0:=(hund (by omega))
    have hscl:=jkY code i
    have hdb:=hdr0.dd
    have hcn:=jaX out
    rw[hln] at hcn
    obtain⟨d,hd⟩ : ∃ d,j8 op=d:=⟨_,rfl⟩
    rw[hd] at hdr0 hdb ⊢;conv=>whnf
    refine jB [2,6,10,11,12] ?_;conv=>whnf
    refine jE (fun y:Nat × List Int × Bool × Bool=>[(8,qR y.2.2.1),(9,qR y.2.2.2),(13,.v (.int .i64 y.1))]) (fun _=>[uL code e du vo]) (fun y=>[.live 3 1 code.length (jQ y.2.1)]) (fun y=>y.1<=(sc code i).length/\Dr code x (cN out0) i (og out i) d y.1 y.2.1 y.2.2.1 y.2.2.2) (fun y=>(sc code i).length-y.1) (0,out,false,ch) ?_ ⟨Nat.zero_le _,hdr0⟩ ?_
    ·repeat' constructor
    clear hdr0 hdb;rintro⟨t,out1,ok1,ch1⟩ ⟨f1,f2⟩
    simp only at f1 f2
    have hln1:=f2.dq.di.ln
    conv=>whnf
    rcases Nat.lt_or_ge t (sc code i).length with htl | htg
    ·have hrw:=bM (sc code i) t htl
     obtain⟨k,hk⟩ : ∃ k,(sc code i)[t]=k:=⟨_,rfl⟩
     have hskip:=f2.skip htl
     have hput:=f2.put hir hv htl
     have hsame:=f2.same hir htl
     have hconf:=f2.conf hir hv htl
     rw[hk] at hrw hskip hput hsame hconf;rw[jP (show (t:Int)<((sc code i).length:Int) by omega)];conv=>whnf
     refine⟨show (0:Int)<=(t:Int)/\(t:Int)<((sc code i).length:Nat) from ⟨by omega,by omega⟩,?_⟩;conv=>whnf
     (generalize hrq:jC _ _ (jQ (sc code i))=rq;obtain rfl:rq=[intA k]:=hrq.symm.trans (hrw);clear hrq;conv=>whnf)
     by_cases hk1:k<0
     ·rw[jP hk1];conv=>whnf
      refine jN t (by omega) ?_;conv=>whnf
      refine⟨(t+1,out1,ok1,ch1),jD [0] ?_,⟨show t+1<=(sc code i).length by omega,hskip (by omega)⟩,show (sc code i).length-(t+1)<(sc code i).length-t by omega⟩;conv=>whnf
      repeat' constructor
     rw[jH hk1];conv=>whnf
     refine⟨show (0:Int)<=(t:Int)/\(t:Int)<((sc code i).length:Nat) from ⟨by omega,by omega⟩,?_⟩;conv=>whnf
     (generalize hrq:jC _ _ (jQ (sc code i))=rq;obtain rfl:rq=[intA k]:=hrq.symm.trans (hrw);clear hrq;conv=>whnf)
     by_cases hk2:(code.length:Int)<=k
     ·rw[jP hk2];conv=>whnf
      refine jN t (by omega) ?_;conv=>whnf
      refine⟨(t+1,out1,ok1,ch1),jD [0] ?_,⟨show t+1<=(sc code i).length by omega,hskip (by omega)⟩,show (sc code i).length-(t+1)<(sc code i).length-t by omega⟩;conv=>whnf
      repeat' constructor
     rw[jH hk2]
     have hkr:0<=k/\k<code.length:=⟨by omega,by omega⟩
     conv=>whnf
     refine⟨show (0:Int)<=(t:Int)/\(t:Int)<((sc code i).length:Nat) from ⟨by omega,by omega⟩,?_⟩;conv=>whnf
     (generalize hrq:jC _ _ (jQ (sc code i))=rq;obtain rfl:rq=[intA k]:=hrq.symm.trans (hrw);clear hrq;conv=>whnf)
     refine⟨show (0:Int)<=k/\k<(code.length:Nat) from hkr,?_⟩;conv=>whnf
     rw[aU (by rw[hln1];exact hkr)];conv=>whnf
     by_cases hneg:og out1 k<0
     ·rw[jP hneg];conv=>whnf
      refine⟨show (0:Int)<=(t:Int)/\(t:Int)<((sc code i).length:Nat) from ⟨by omega,by omega⟩,?_⟩;conv=>whnf
      (generalize hrq:jC _ _ (jQ (sc code i))=rq;obtain rfl:rq=[intA k]:=hrq.symm.trans (hrw);clear hrq;conv=>whnf)
      refine⟨show (0:Int)<=k/\k<(code.length:Nat) from hkr,?_⟩;conv=>whnf
      refine aB (l:=out1) (k:=k.toNat) (v:=d) (by rw[hln1];omega) ?_;conv=>whnf
      refine jN t (by omega) ?_;conv=>whnf
      refine⟨(t+1,out1.set k.toNat d,ok1,true),jD [0] ?_,⟨show t+1<=(sc code i).length by omega,hput hkr hneg⟩,show (sc code i).length-(t+1)<(sc code i).length-t by omega⟩;conv=>whnf
      repeat' constructor
     rw[jH hneg];conv=>whnf
     refine⟨show (0:Int)<=(t:Int)/\(t:Int)<((sc code i).length:Nat) from ⟨by omega,by omega⟩,?_⟩;conv=>whnf
     (generalize hrq:jC _ _ (jQ (sc code i))=rq;obtain rfl:rq=[intA k]:=hrq.symm.trans (hrw);clear hrq;conv=>whnf)
     refine⟨show (0:Int)<=k/\k<(code.length:Nat) from hkr,?_⟩;conv=>whnf
     rw[aU (by rw[hln1];exact hkr)];conv=>whnf
     by_cases heq:og out1 k=d
     ·rw[jP heq];conv=>whnf
      refine jN t (by omega) ?_;conv=>whnf
      refine⟨(t+1,out1,ok1,ch1),jD [0] ?_,⟨show t+1<=(sc code i).length by omega,hsame hneg heq⟩,show (sc code i).length-(t+1)<(sc code i).length-t by omega⟩;conv=>whnf
      repeat' constructor
     ·rw[jH heq];conv=>whnf
      refine jN t (by omega) ?_;conv=>whnf
      refine⟨(t+1,out1,false,ch1),jD [0] ?_,⟨show t+1<=(sc code i).length by omega,hconf hkr hneg heq⟩,show (sc code i).length-(t+1)<(sc code i).length-t by omega⟩;conv=>whnf
      repeat' constructor
    rw[jH (show ¬ (t:Int)<((sc code i).length:Int) by omega)]
    have htt:t=(sc code i).length:=by omega
    conv=>whnf
    refine jN i (by omega) ?_;conv=>whnf
    refine⟨(i+1,out1,ok1,ch1),jD [0] ?_,⟨show i+1<=code.length by omega,?_⟩,show code.length-(i+1)<code.length-i by omega⟩
    ·conv=>whnf
     repeat' constructor
    ·have f3:=f2
     rw[htt] at f3;exact f3.done (by omega)
   ·rw[jH hu];conv=>whnf
    refine⟨show (0:Int)<=(i:Int)/\(i:Int)<(code.length:Nat) from hir,?_⟩;conv=>whnf
    (generalize hrq:jC _ _ (qT code)=rq;obtain rfl:rq=[intA op,intA n]:=hrq.symm.trans (hrow);clear hrq;conv=>whnf)
    refine kS [] hpu ?_;rintro r rfl;conv=>whnf
    refine⟨show lo .i64<=og out i-qC op+j8 op/\og out i-qC op+j8 op<=hi .i64 from jU (by omega),?_⟩;conv=>whnf
    refine kS [] hnx ?_;rintro r rfl
    have hdr0:=(htake (by omega))
    have hscl:=jkY code i
    have hdb:=hdr0.dd
    have hcn:=jaX out
    rw[hln] at hcn
    obtain⟨d,hd⟩ : ∃ d,og out i-qC op+j8 op=d:=⟨_,rfl⟩
    rw[hd] at hdr0 hdb ⊢;conv=>whnf
    refine jB [2,6,10,11,12] ?_;conv=>whnf
    refine jE (fun y:Nat × List Int × Bool × Bool=>[(8,qR y.2.2.1),(9,qR y.2.2.2),(13,.v (.int .i64 y.1))]) (fun _=>[uL code e du vo]) (fun y=>[.live 3 1 code.length (jQ y.2.1)]) (fun y=>y.1<=(sc code i).length/\Dr code x (cN out0) i (og out i) d y.1 y.2.1 y.2.2.1 y.2.2.2) (fun y=>(sc code i).length-y.1) (0,out,ok,ch) ?_ ⟨Nat.zero_le _,hdr0⟩ ?_
    ·repeat' constructor
    clear hdr0 hdb;rintro⟨t,out1,ok1,ch1⟩ ⟨f1,f2⟩
    simp only at f1 f2
    have hln1:=f2.dq.di.ln
    conv=>whnf
    rcases Nat.lt_or_ge t (sc code i).length with htl | htg
    ·have hrw:=bM (sc code i) t htl
     obtain⟨k,hk⟩ : ∃ k,(sc code i)[t]=k:=⟨_,rfl⟩
     have hskip:=f2.skip htl
     have hput:=f2.put hir hv htl
     have hsame:=f2.same hir htl
     have hconf:=f2.conf hir hv htl
     rw[hk] at hrw hskip hput hsame hconf;rw[jP (show (t:Int)<((sc code i).length:Int) by omega)];conv=>whnf
     refine⟨show (0:Int)<=(t:Int)/\(t:Int)<((sc code i).length:Nat) from ⟨by omega,by omega⟩,?_⟩;conv=>whnf
     (generalize hrq:jC _ _ (jQ (sc code i))=rq;obtain rfl:rq=[intA k]:=hrq.symm.trans (hrw);clear hrq;conv=>whnf)
     by_cases hk1:k<0
     ·rw[jP hk1];conv=>whnf
      refine jN t (by omega) ?_;conv=>whnf
      refine⟨(t+1,out1,ok1,ch1),jD [0] ?_,⟨show t+1<=(sc code i).length by omega,hskip (by omega)⟩,show (sc code i).length-(t+1)<(sc code i).length-t by omega⟩;conv=>whnf
      repeat' constructor
     rw[jH hk1];conv=>whnf
     refine⟨show (0:Int)<=(t:Int)/\(t:Int)<((sc code i).length:Nat) from ⟨by omega,by omega⟩,?_⟩;conv=>whnf
     (generalize hrq:jC _ _ (jQ (sc code i))=rq;obtain rfl:rq=[intA k]:=hrq.symm.trans (hrw);clear hrq;conv=>whnf)
     by_cases hk2:(code.length:Int)<=k
     ·rw[jP hk2];conv=>whnf
      refine jN t (by omega) ?_;conv=>whnf
      refine⟨(t+1,out1,ok1,ch1),jD [0] ?_,⟨show t+1<=(sc code i).length by omega,hskip (by omega)⟩,show (sc code i).length-(t+1)<(sc code i).length-t by omega⟩;conv=>whnf
      repeat' constructor
     rw[jH hk2]
     have hkr:0<=k/\k<code.length:=⟨by omega,by omega⟩
     conv=>whnf
     refine⟨show (0:Int)<=(t:Int)/\(t:Int)<((sc code i).length:Nat) from ⟨by omega,by omega⟩,?_⟩;conv=>whnf
     (generalize hrq:jC _ _ (jQ (sc code i))=rq;obtain rfl:rq=[intA k]:=hrq.symm.trans (hrw);clear hrq;conv=>whnf)
     refine⟨show (0:Int)<=k/\k<(code.length:Nat) from hkr,?_⟩;conv=>whnf
     rw[aU (by rw[hln1];exact hkr)];conv=>whnf
     by_cases hneg:og out1 k<0
     ·rw[jP hneg];conv=>whnf
      refine⟨show (0:Int)<=(t:Int)/\(t:Int)<((sc code i).length:Nat) from ⟨by omega,by omega⟩,?_⟩;conv=>whnf
      (generalize hrq:jC _ _ (jQ (sc code i))=rq;obtain rfl:rq=[intA k]:=hrq.symm.trans (hrw);clear hrq;conv=>whnf)
      refine⟨show (0:Int)<=k/\k<(code.length:Nat) from hkr,?_⟩;conv=>whnf
      refine aB (l:=out1) (k:=k.toNat) (v:=d) (by rw[hln1];omega) ?_;conv=>whnf
      refine jN t (by omega) ?_;conv=>whnf
      refine⟨(t+1,out1.set k.toNat d,ok1,true),jD [0] ?_,⟨show t+1<=(sc code i).length by omega,hput hkr hneg⟩,show (sc code i).length-(t+1)<(sc code i).length-t by omega⟩;conv=>whnf
      repeat' constructor
     rw[jH hneg];conv=>whnf
     refine⟨show (0:Int)<=(t:Int)/\(t:Int)<((sc code i).length:Nat) from ⟨by omega,by omega⟩,?_⟩;conv=>whnf
     (generalize hrq:jC _ _ (jQ (sc code i))=rq;obtain rfl:rq=[intA k]:=hrq.symm.trans (hrw);clear hrq;conv=>whnf)
     refine⟨show (0:Int)<=k/\k<(code.length:Nat) from hkr,?_⟩;conv=>whnf
     rw[aU (by rw[hln1];exact hkr)];conv=>whnf
     by_cases heq:og out1 k=d
     ·rw[jP heq];conv=>whnf
      refine jN t (by omega) ?_;conv=>whnf
      refine⟨(t+1,out1,ok1,ch1),jD [0] ?_,⟨show t+1<=(sc code i).length by omega,hsame hneg heq⟩,show (sc code i).length-(t+1)<(sc code i).length-t by omega⟩;conv=>whnf
      repeat' constructor
     ·rw[jH heq];conv=>whnf
      refine jN t (by omega) ?_;conv=>whnf
      refine⟨(t+1,out1,false,ch1),jD [0] ?_,⟨show t+1<=(sc code i).length by omega,hconf hkr hneg heq⟩,show (sc code i).length-(t+1)<(sc code i).length-t by omega⟩;conv=>whnf
      repeat' constructor
    rw[jH (show ¬ (t:Int)<((sc code i).length:Int) by omega)]
    have htt:t=(sc code i).length:=by omega
    conv=>whnf
    refine jN i (by omega) ?_;conv=>whnf
    refine⟨(i+1,out1,ok1,ch1),jD [0] ?_,⟨show i+1<=code.length by omega,?_⟩,show code.length-(i+1)<code.length-i by omega⟩
    ·conv=>whnf
     repeat' constructor
    ·have f3:=f2
     rw[htt] at f3;exact f3.done (by omega)
  rw[jH (show ¬ (i:Int)<(code.length:Int) by omega)]
  obtain rfl:i=code.length:=by omega
  conv=>whnf
  refine⟨(out,ok,ch),jD [0] ?_,⟨q2.di,fun hc j h1 h2 h3=>q2.pd hc j h1 h2 h3⟩,?_⟩
  ·conv=>whnf
   repeat' constructor
  ·have h1:=q2.ct
   have h2:=jaX out
   have h3:=g1.ln
   have h4:=jaX out0
   show code.length-cN out+(if ch=true then 1 else 0)<code.length-cN out0+1
   rw[hln] at h2
   split at h1 <;> simp_all <;> omega
theorem jct (c0:A) (e:Nat->Int) (du vo:Int) (j:Nat) (hj:j<40):(c0 :: pgE e du vo).drop (1+j*1)=intA (e j) :: (c0 :: pgE e du vo).drop (j+2):=by
 have hlen:(enL e).length=40:=by unfold enL;rw[List.length_map,List.length_range]
 have hl:j<(enL e).length:=by rw[hlen];exact hj
 rw[show 1+j*1=j+1 by omega,List.drop_succ_cons,show j+2=(j+1)+1 by omega,List.drop_succ_cons,iU];rw[List.drop_eq_getElem_cons (by rw[List.length_append];omega),List.getElem_append_left hl]
 have h0:=jcu e j hj
 rw[Int.toNat_natCast,Nat.mul_one,List.getElem?_eq_getElem hl] at h0;rw[Option.some.inj h0]
theorem jfN (code:List Ic) (e:Nat->Int) (du vo x:Int) (hl:code.length<=1000000) (hx:x<0):Spec Tryz.prog 30 [] [pgA code e du vo,intA x] fun _ r=>r = .tup [.sl 1 code.length (jQ (List.replicate code.length (-1))),qR true]:=by
 refine eN jnB qD 0 Tryz.func30 rfl ?_;intro _;conv=>whnf
 refine⟨⟨by omega,rfl,by omega,by omega⟩,?_⟩;conv=>whnf
 refine jB [1,2,6] ?_;conv=>whnf
 refine jE (fun j:Nat=>[(7,.v (.int .i64 j))]) (fun _=>[uL code e du vo]) (fun j=>[.live 3 1 code.length (jQ (ini code.length j))]) (fun j=>j<=code.length) (fun j=>code.length-j) 0 ?_ (Nat.zero_le _) ?_
 ·repeat' constructor
  show Row.live _ 1 code.length (jiQ code.length [Value.int .i64 0])=_
  rw[jeT];rfl
 intro j hjn;conv=>whnf
 rcases Nat.lt_or_ge j code.length with hlt | hge
 ·rw[jP (show (j:Int)<(code.length:Int) by omega)];conv=>whnf
  refine⟨show (0:Int)<=(j:Int)/\(j:Int)<(code.length:Nat) from ⟨by omega,by omega⟩,?_⟩;conv=>whnf
  refine aB (l:=ini code.length j) (k:=j) (v := -1) (by rw[jhr _ _ hjn];exact hlt) ?_;rw[jhs _ _ hlt];conv=>whnf
  refine jN j (by omega) ?_;conv=>whnf
  refine⟨j+1,jD [0] ?_,show j+1<=code.length by omega,show code.length-(j+1)<code.length-j by omega⟩;conv=>whnf
  repeat' constructor
 obtain rfl:j=code.length:=by omega
 rw[jH (show ¬ (code.length:Int)<(code.length:Int) by omega)];rw[jhq];conv=>whnf
 rw[jP hx];conv=>whnf
 rfl
section
end
theorem jdX (code:List Ic) (e:Nat->Int):∀ (m j:Nat),(∀ i,qO code (e i)=0 ∨ qO code (e i)=13)->(cU code e j m=0 /\ ∀ i,j<=i->i<j+m->qO code (e i)=0) ∨ (cU code e j m=13 /\ ∃ i,i<j+m/\qO code (e i)=13)
 | 0,j,h => .inl ⟨rfl,fun i h1 h2=>by omega⟩
 | m+1,j,h=>by
  unfold cU
  rcases h j with h0 | h0
  ·rw[if_neg (by simp[h0])]
   rcases jdX code e m (j+1) h with ⟨h1,h2⟩ | ⟨h1,i,h2,h3⟩
   ·refine .inl ⟨h1,fun i h3 h4 => ?_⟩
    by_cases q:i=j
    ·rw[q];exact h0
    ·exact h2 i (by omega) (by omega)
   ·exact .inr ⟨h1,i,by omega,h3⟩
  ·rw[if_pos (by rw[h0];decide)];exact .inr ⟨h0,j,by omega,h0⟩
theorem joa {u:Ut} (hu:WfU u) (j:Nat):qO (zV u).1 ((zV u).2 j)=0 ∨ qO (zV u).1 ((zV u).2 j)=13:=by
 rcases lX hu j with ⟨h,-⟩ | ⟨h,-⟩
 ·rw[h];exact .inl rfl
 ·rcases h.fol (jhb u) with ⟨h,-⟩ | ⟨h,-⟩
  ·exact .inl h
  ·exact .inr h
theorem jhA {ix:ByteArray->Int} {v:Int} : ∀ {l:List Nt},(∀ f ∈ l,rE ix v f)->jgb ix v l
 | [],_=>by unfold jgb;trivial
 | x :: r,h=>by unfold jgb;exact⟨h x List.mem_cons_self,jhA fun f hf=>h f (List.mem_cons_of_mem _ hf)⟩
def OcK (ix:ByteArray->Int) (v:Int) (f:Nt):Prop := ∀ x,ocN x f->0<=ix x/\ix x<=v
theorem OcK.kid {ix:ByteArray->Int} {v k n:Int} {s:ByteArray} {l:List Nt} (h:OcK ix v (.mk k n s l)) {f:Nt} (hf:f ∈ l):OcK ix v f:=fun x hx=>h x (by
 unfold ocN
 exact .inr ((rU x l).2 ⟨f,hf,hx⟩))
theorem bY {ix:ByteArray->Int} {v k n:Int} {s:ByteArray} {l:List Nt} (ho:OcK ix v (.mk k n s l)) (hk:∀ f ∈ l,rE ix v f) (h:(k=12 ∨ k=13 -> -2147483647<=n/\n<=2147483647)/\(k=4->0<=n/\n<=29)/\(k=5 ∨ k=6->0<=n/\n<=7):=by omega):rE ix v (.mk k n s l):=by
 unfold rE;exact⟨h.1,fun hk=>ho s (by unfold ocN;exact .inl ⟨hk,rfl⟩),h.2.1,h.2.2,jhA hk⟩
theorem nb1 {ix:ByteArray->Int} {v k n:Int} {s:ByteArray} {f:Nt} (ho:OcK ix v (.mk k n s [f])) (hf:OcK ix v f->rE ix v f) (h:(k=12 ∨ k=13 -> -2147483647<=n/\n<=2147483647)/\(k=4->0<=n/\n<=29)/\(k=5 ∨ k=6->0<=n/\n<=7):=by omega):rE ix v (.mk k n s [f]) :=
 bY ho (fun g hg=>by rw[List.mem_singleton.1 hg];exact hf (ho.kid (by simp))) h
theorem nb2 {ix:ByteArray->Int} {v k n:Int} {s:ByteArray} {f g:Nt} (ho:OcK ix v (.mk k n s [f,g])) (hf:OcK ix v f->rE ix v f) (hg:OcK ix v g->rE ix v g) (h:(k=12 ∨ k=13 -> -2147483647<=n/\n<=2147483647)/\(k=4->0<=n/\n<=29)/\(k=5 ∨ k=6->0<=n/\n<=7):=by omega):rE ix v (.mk k n s [f,g]) :=
 bY ho (fun x hx=>by
  simp only[List.mem_cons,List.not_mem_nil,or_false] at hx
  rcases hx with rfl | rfl
  ·exact hf (ho.kid (by simp))
  ·exact hg (ho.kid (by simp))) h
theorem nb3 {ix:ByteArray->Int} {v k n:Int} {s:ByteArray} {f g c:Nt} (ho:OcK ix v (.mk k n s [f,g,c])) (hf:OcK ix v f->rE ix v f) (hg:OcK ix v g->rE ix v g) (hc:OcK ix v c->rE ix v c) (h:(k=12 ∨ k=13 -> -2147483647<=n/\n<=2147483647)/\(k=4->0<=n/\n<=29)/\(k=5 ∨ k=6->0<=n/\n<=7):=by omega):rE ix v (.mk k n s [f,g,c]) :=
 bY ho (fun x hx=>by
  simp only[List.mem_cons,List.not_mem_nil,or_false] at hx
  rcases hx with rfl | rfl | rfl
  ·exact hf (ho.kid (by simp))
  ·exact hg (ho.kid (by simp))
  ·exact hc (ho.kid (by simp))) h
theorem mH {ix:ByteArray->Int} {v:Int} {d:Nat} {f:Nt} (h:EI d f):OcK ix v f->rE ix v f:=by
 induction h with
 | lit d n h =>
  intro ho
  have : -2147483647<=n/\n<=2147483647:=by
   unfold litL at h;simp only[List.mem_cons,List.not_mem_nil,or_false] at h;omega
  exact bY ho (by simp)
 | var d s h=>exact fun ho=>bY ho (by simp)
 | nam d s h=>exact fun ho=>bY ho (by simp)
 | drw d f h ih=>exact fun ho=>nb1 ho ih
 | neg d f h ih=>exact fun ho=>nb1 ho ih
 | bin d s f g hs h1 h2 i1 i2=>exact fun ho=>nb2 ho i1 i2
theorem jnw {ix:ByteArray->Int} {v:Int} {d:Nat} {f:Nt} (h:EB d f):OcK ix v f->rE ix v f:=by
 induction h with
 | lit d n h=>exact fun ho=>bY ho (by simp)
 | nt d f h ih=>exact fun ho=>nb1 ho ih
 | bin d s f g hs h1 h2 i1 i2=>exact fun ho=>nb2 ho i1 i2
 | cmp d s f g hs h1 h2=>exact fun ho=>nb2 ho (mH h1) (mH h2)
theorem jcF {ix:ByteArray->Int} {v:Int} {l:List Nt} (h:∀ s ∈ l,OcK ix v s->rE ix v s):OcK ix v (wQ l)->rE ix v (wQ l):=fun ho=>bY ho fun f hf=>h f hf (ho.kid hf)
theorem jqb {ix:ByteArray->Int} {v:Int} {d:Nat} {f:Nt} (h:ES d f):OcK ix v f->rE ix v f:=by
 induction h with
 | asg d e s f hs h he=>exact fun ho=>nb1 ho (mH h)
 | snd d n f g h hn h1 h2 h3=>exact fun ho=>nb3 ho (mH h1) (mH h2) (mH h3)
 | tim d n hn=>exact fun ho=>bY ho (by simp)
 | can d n hn=>exact fun ho=>bY ho (by simp)
 | syn d=>exact fun ho=>bY ho (by simp)
 | rep d f g h1 h2=>exact fun ho=>nb2 ho (mH h1) (mH h2)
 | fai d f h1=>exact fun ho=>nb1 ho (mH h1)
 | stp d=>exact fun ho=>bY ho (by simp)
 | whi d c l h1 h2 h3 ih=>exact fun ho=>nb2 ho (jnw h1) (jcF ih)
 | iff d c l m h1 h2 h3 h4 h5 ih1 ih2=>exact fun ho=>nb3 ho (jnw h1) (jcF ih1) (jcF ih2)
theorem jhJ (l:List ByteArray) (s:ByteArray):gH l s<l.length:=by
 unfold gH
 cases h:l.findIdx? (fun x=>x == s) with
 | none=>simp only;omega
 | some i =>
  have:=(List.findIdx?_eq_some_iff_findIdx_eq.1 h).1
  simp only;omega
theorem jor {u:Ut} {s:ByteArray} (h:0<=qI u s):qI u s<=(u.du.length:Int)+u.vo.length-1:=by
 have h1:=jhJ u.du s
 have h2:=jhJ u.vo s
 unfold qI yB at h ⊢
 split
 ·omega
 ·split
  ·omega
  ·omega
theorem jo5 {u:Ut} (h:z8 (toU u)=0) {p:Int × Nt} (hp:p ∈ u.on):bdN u p.2=false:=by
 rw[jco] at h
 by_cases hc:(u.on.any fun h=>bdN u h.2)=true
 ·rw[if_pos hc] at h;cases h
 ·rw[Bool.not_eq_true,List.any_eq_false] at hc
  simpa using hc p hp
theorem jqc {u:Ut} (hg:GU u) (hc:z8 (toU u)=0):∀ p ∈ u.on,rE (qI u) ((u.du.length:Int)+u.vo.length-1) p.2:=fun p hp=>by
 obtain⟨_,_,k,hk,_,hs⟩ := hg.2.2.1 p hp
 have hb:=jo5 hc hp
 have ho:OcK (qI u) ((u.du.length:Int)+u.vo.length-1) p.2:=fun x hx=>by
  have h0:0<=qI u x:=by
   refine Int.not_lt.1 fun hneg => ?_
   unfold bdN at hb;rw[Bool.or_eq_false_iff] at hb
   have:=(jdb (qI u) p.2).2 ⟨x,hx,hneg⟩
   rw[this] at hb
   cases hb.2
  exact⟨h0,jor h0⟩
 rw[hk] at ho ⊢;exact jcF (fun s hs' => jqb (hs s hs')) ho
def iI (e:Nat->Int) (j:Nat):Nat:=(List.range j).countP fun i=>decide (0<=e i)
theorem jo7 (e:Nat->Int) (j:Nat):iI e (j+1)=iI e j+if 0<=e j then 1 else 0:=by
 unfold iI;rw[List.range_succ,List.countP_append]
 congr 1
 by_cases h:0<=e j <;> simp[h]
theorem jm0 (e:Nat->Int) (j:Nat):iI e j<=j:=by
 unfold iI;exact Nat.le_trans List.countP_le_length (Nat.le_of_eq List.length_range)
theorem jm4 {u:Ut} (hu:WfU u):iI (zV u).2 40=u.on.length:=by
 have hn:(u.on.map fun p=>p.1.toNat).Nodup:=by
  unfold List.Nodup;rw[List.pairwise_map]
  refine hu.nd.imp_of_mem fun {a b} ha hb h => ?_
  have h1:=(hu.on a ha).1
  have h2:=(hu.on b hb).1
  omega
 unfold iI;rw[List.countP_eq_length_filter,show u.on.length=(u.on.map fun p=>p.1.toNat).length from (List.length_map _).symm];refine List.Perm.length_eq ((List.perm_ext_iff_of_nodup (List.nodup_range.filter _) hn).2 fun j => ?_);rw[List.mem_filter,List.mem_range,List.mem_map,decide_eq_true_eq]
 constructor
 ·rintro⟨h1,h2⟩
  rcases lX hu j with ⟨h,-⟩ | ⟨-,p,hp,h⟩
  ·omega
  ·exact⟨p,hp,h⟩
 ·rintro⟨p,hp,h⟩
  have hr:=hu.on p hp
  refine⟨by omega,?_⟩
  rcases lX hu j with ⟨-,h2⟩ | ⟨h2,-⟩
  ·exact absurd h (h2 p hp)
  ·exact h2.1
theorem jjK {u:Ut} (hu:WfU u):iH u=0 ∨ iH u=2 ∨ iH u=13:=by
 unfold iH
 split
 ·exact .inr (.inl rfl)
 ·rcases jdX (zV u).1 (zV u).2 40 0 (joa hu) with ⟨h,-⟩ | ⟨h,-⟩
  ·exact .inl h
  ·exact .inr (.inr h)
theorem jlL:Wk (.agg jc5) (pgA [] zE 0 0):=by
 unfold jc5 pgA uL;rw[je3];exact .agg (.cons (.nil 2) (WkL.refl _))
section
end
theorem joD (n:Nat) (i:Nat) : ¬ 0<og (List.replicate n (-1)) i:=by
 unfold og;rw[List.getD_eq_getElem?_getD,List.getElem?_replicate]
 split <;> simp
theorem jlQ {u:Ut} (hu:WfU u) (hl:(zV u).1.length<=1000000) (j:Nat) (du vo:Int):Spec Tryz.prog 30 [] [pgA (zV u).1 (zV u).2 du vo,intA ((zV u).2 j)] fun _ r => ∃ out:List Int,out.length=(zV u).1.length/\(∀ i:Nat,i<(zV u).1.length->0<og out i->oK (zV u).1 i ≠ 23)/\r = .tup [.sl 1 out.length (jQ out),qR true]:=by
 rcases lX hu j with ⟨h,-⟩ | ⟨h,-⟩
 ·refine Spec.mono (jfN (zV u).1 (zV u).2 du vo _ hl (by omega)) fun o r hr=>⟨List.replicate (zV u).1.length (-1),List.length_replicate,fun i _ h=>absurd h (joD _ i),?_⟩
  rw[hr,List.length_replicate]
 ·refine Spec.mono (jdP (zV u).1 (zV u).2 du vo _ hl (jhb u) (fun i hi=>(jfY (qI u) u.on [] noE (fun i hi=>by cases hi) i hi).1) ⟨h.1,h.2.1⟩) fun o r hr => ?_
  obtain⟨out,ok,rfl,hd⟩ := hr
  obtain⟨h1,h2,D,hD,hs⟩ := h
  obtain⟨rfl,hq⟩ := hd.uq D hD
  refine⟨out,hd.ln,fun i hi h0 h23 => ?_,rfl⟩
  have hr:=(hd.re i (by omega) (by omega)).1 (by omega)
  have:=(hs i hr).1 h23
  rw[hq i hr] at h0;omega
theorem accepted_spec (l:List Int):Spec Tryz.prog 7 [] [.sl 1 l.length (jQ l)] fun _ r=>r=qR true:=by
 obtain⟨u,⟨hgu,-⟩,hprog⟩ := joi l
 obtain⟨hu,hz,-⟩ := jpR hgu
 have hchk:=jlp u hu
 have hrck:=jeQ u hu hz
 have hlv:=jg8
 have hdv:=hu.du
 have hol:=hu.ol
 have hcv:z8 (toU u)=0 ∨ z8 (toU u)=11:=by unfold z8;split;exact .inr rfl;exact .inl rfl
 have hcok:=fun h=>jpb hu (jqc hgu h)
 have hcm:=lV u hu hz
 have hev:=jjK hu
 have hcnt:=jm4 hu
 have hvs:=fun h=>p7 (zV u).1 (zV u).2 u.du.length u.vo.length h
 have hdps:=fun h j=>jlQ hu h j u.du.length u.vo.length
 have hcl:iH u=0->(zV u).1.length<=400:=fun h=>by
  unfold iH at h
  by_cases hb:400<(zV u).1.length
  ·rw[if_pos hb] at h;cases h
  ·omega
 unfold jih at hcm;generalize iH u=E at *;generalize hC:zV u=C at *
 obtain⟨code,e⟩ := C
 simp only at hcm hcnt hvs hdps hcl hcok
 generalize z8 (toU u)=K at *;refine eN jqO qD 0 Tryz.func7 rfl ?_;intro hok;conv=>whnf
 refine kS [] hprog ?_;rintro r rfl;conv=>whnf
 refine kS [] hchk ?_;rintro r rfl
 rcases hcv with rfl | rfl
 ·have hv0:=hcok rfl
  conv=>whnf
  by_cases hE:E=0
  ·subst hE
   have hcl:=hcl rfl
   have hv0:=hv0 rfl
   have hvs:=hvs (by omega)
   rw[hv0] at hvs;rw[if_pos rfl] at hcm;refine kS [] hcm ?_;rintro r rfl;conv=>whnf
   refine kS [] hvs ?_;rintro r rfl;conv=>whnf
   rw[jP (rfl:(u.du.length:Int)=u.du.length)];conv=>whnf
   rw[jP (rfl:(u.vo.length:Int)=u.vo.length)];conv=>whnf
   refine jB [3,4] ?_;conv=>whnf
   refine jE (fun j:Nat=>[(6,intA (iI e j)),(7,.v (.int .i64 j))]) (fun _=>[o9 u,uL code e u.du.length u.vo.length]) (fun _=>[]) (fun j=>j<=40) (fun j=>40-j) 0 ?_ (Nat.zero_le _) ?_
   ·repeat' constructor
   rintro j hj
   have hce:=jm0 e j
   have hcs:=jo7 e j
   conv=>whnf
   rcases Nat.lt_or_ge j 40 with hlt | hge
   ·have hdp:=hdps (by omega) j
    rw[jP (show (j:Int)<40 by omega)];conv=>whnf
    refine⟨show (0:Int)<=(j:Int)/\(j:Int)<((40:Nat):Int) from ⟨by omega,by omega⟩,?_⟩;conv=>whnf
    generalize hrq:List.drop _ _=rq
    obtain rfl:rq=intA (e j) :: (A.sl 2 code.length (qT code) :: pgE e u.du.length u.vo.length).drop (j+2):=hrq.symm.trans (jct _ e u.du.length u.vo.length j hlt)
    clear hrq;conv=>whnf
    by_cases hneg:0<=e j
    ·rw[if_pos hneg] at hcs;rw[jP hneg];conv=>whnf
     refine⟨show lo .i64<=(iI e j:Int)+1/\(iI e j:Int)+1<=hi .i64 from jU (by omega),?_⟩;conv=>whnf
     refine⟨show (0:Int)<=(j:Int)/\(j:Int)<((40:Nat):Int) from ⟨by omega,by omega⟩,?_⟩;conv=>whnf
     generalize hrq:List.drop _ _=rq
     obtain rfl:rq=intA (e j) :: (A.sl 2 code.length (qT code) :: pgE e u.du.length u.vo.length).drop (j+2):=hrq.symm.trans (jct _ e u.du.length u.vo.length j hlt)
     clear hrq;conv=>whnf
     rw[show ((iI e j:Nat):Int)+1=((iI e (j+1):Nat):Int) by omega];refine kS [] hdp ?_;rintro r ⟨out,hln,hst,rfl⟩;conv=>whnf
     refine jB [3,4,6,7,8,9] ?_;conv=>whnf
     refine jE (fun i:Nat=>[(10,.v (.int .i64 i))]) (fun _=>[o9 u,uL code e u.du.length u.vo.length]) (fun _=>[]) (fun i=>i<=code.length) (fun i=>code.length-i) 0 ?_ (Nat.zero_le _) ?_
     ·repeat' constructor
     rintro i hi9;conv=>whnf
     rcases Nat.lt_or_ge i code.length with hil | hig
     ·have hrow:jC 2 i (qT code)=icA code[i]:=xL code i hil
      have hro:=jeC (out:=out) (i:=i) (by rw[hln];exact hil)
      have hopi:oK code i=(code[i]).1:=by unfold oK;rw[Int.toNat_natCast,List.getD_eq_getElem?_getD,List.getElem?_eq_getElem hil];rfl
      have hsi:=hst i hil
      rw[hopi] at hsi;generalize code[i]=ci at hrow hsi
      obtain⟨op,n⟩ := ci
      unfold icA at hrow
      simp only at hrow hsi
      rw[jP (show (i:Int)<(out.length:Int) by rw[hln];omega)];conv=>whnf
      refine⟨show (0:Int)<=(i:Int)/\(i:Int)<(out.length:Nat) from ⟨by omega,by rw[hln];omega⟩,?_⟩;conv=>whnf
      (generalize hrq:jC _ _ (jQ out)=rq;obtain rfl:rq=[intA (og out i)]:=hrq.symm.trans (hro);clear hrq;conv=>whnf)
      by_cases hv:0<og out i
      ·have hop:=hsi hv
       rw[jP hv];conv=>whnf
       refine⟨show (0:Int)<=(i:Int)/\(i:Int)<(code.length:Nat) from ⟨by omega,by omega⟩,?_⟩;conv=>whnf
       (generalize hrq:jC _ _ (qT code)=rq;obtain rfl:rq=[intA op,intA n]:=hrq.symm.trans (hrow);clear hrq;conv=>whnf)
       rw[jH hop];conv=>whnf
       refine jN i (by omega) ?_;conv=>whnf
       refine⟨i+1,jD [] ?_,show i+1<=code.length by omega,show code.length-(i+1)<code.length-i by omega⟩;conv=>whnf
       repeat' constructor
      rw[jH hv];conv=>whnf
      refine jN i (by omega) ?_;conv=>whnf
      refine⟨i+1,jD [] ?_,show i+1<=code.length by omega,show code.length-(i+1)<code.length-i by omega⟩;conv=>whnf
      repeat' constructor
     rw[jH (show ¬ (i:Int)<(out.length:Int) by rw[hln];omega)];conv=>whnf
     refine jN j (by omega) ?_;conv=>whnf
     refine⟨j+1,jD [] ?_,show j+1<=40 by omega,show 40-(j+1)<40-j by omega⟩;conv=>whnf
     repeat' constructor
    ·rw[if_neg hneg] at hcs
     replace hcs:iI e (j+1)=iI e j:=hcs
     rw[jH hneg];conv=>whnf
     refine⟨show (0:Int)<=(j:Int)/\(j:Int)<((40:Nat):Int) from ⟨by omega,by omega⟩,?_⟩;conv=>whnf
     generalize hrq:List.drop _ _=rq
     obtain rfl:rq=intA (e j) :: (A.sl 2 code.length (qT code) :: pgE e u.du.length u.vo.length).drop (j+2):=hrq.symm.trans (jct _ e u.du.length u.vo.length j hlt)
     clear hrq;conv=>whnf
     rw[<- hcs];refine kS [] hdp ?_;rintro r ⟨out,hln,hst,rfl⟩;conv=>whnf
     refine jB [3,4,6,7,8,9] ?_;conv=>whnf
     refine jE (fun i:Nat=>[(10,.v (.int .i64 i))]) (fun _=>[o9 u,uL code e u.du.length u.vo.length]) (fun _=>[]) (fun i=>i<=code.length) (fun i=>code.length-i) 0 ?_ (Nat.zero_le _) ?_
     ·repeat' constructor
     rintro i hi9;conv=>whnf
     rcases Nat.lt_or_ge i code.length with hil | hig
     ·have hrow:jC 2 i (qT code)=icA code[i]:=xL code i hil
      have hro:=jeC (out:=out) (i:=i) (by rw[hln];exact hil)
      have hopi:oK code i=(code[i]).1:=by unfold oK;rw[Int.toNat_natCast,List.getD_eq_getElem?_getD,List.getElem?_eq_getElem hil];rfl
      have hsi:=hst i hil
      rw[hopi] at hsi;generalize code[i]=ci at hrow hsi
      obtain⟨op,n⟩ := ci
      unfold icA at hrow
      simp only at hrow hsi
      rw[jP (show (i:Int)<(out.length:Int) by rw[hln];omega)];conv=>whnf
      refine⟨show (0:Int)<=(i:Int)/\(i:Int)<(out.length:Nat) from ⟨by omega,by rw[hln];omega⟩,?_⟩;conv=>whnf
      (generalize hrq:jC _ _ (jQ out)=rq;obtain rfl:rq=[intA (og out i)]:=hrq.symm.trans (hro);clear hrq;conv=>whnf)
      by_cases hv:0<og out i
      ·have hop:=hsi hv
       rw[jP hv];conv=>whnf
       refine⟨show (0:Int)<=(i:Int)/\(i:Int)<(code.length:Nat) from ⟨by omega,by omega⟩,?_⟩;conv=>whnf
       (generalize hrq:jC _ _ (qT code)=rq;obtain rfl:rq=[intA op,intA n]:=hrq.symm.trans (hrow);clear hrq;conv=>whnf)
       rw[jH hop];conv=>whnf
       refine jN i (by omega) ?_;conv=>whnf
       refine⟨i+1,jD [] ?_,show i+1<=code.length by omega,show code.length-(i+1)<code.length-i by omega⟩;conv=>whnf
       repeat' constructor
      rw[jH hv];conv=>whnf
      refine jN i (by omega) ?_;conv=>whnf
      refine⟨i+1,jD [] ?_,show i+1<=code.length by omega,show code.length-(i+1)<code.length-i by omega⟩;conv=>whnf
      repeat' constructor
     rw[jH (show ¬ (i:Int)<(out.length:Int) by rw[hln];omega)];conv=>whnf
     refine jN j (by omega) ?_;conv=>whnf
     refine⟨j+1,jD [] ?_,show j+1<=40 by omega,show 40-(j+1)<40-j by omega⟩;conv=>whnf
     repeat' constructor
   obtain rfl:j=40:=by omega
   rw[jH (show ¬ ((40:Nat):Int)<40 by omega)];conv=>whnf
   rw[jP (show ((iI e 40:Nat):Int)=u.on.length by rw[hcnt])];conv=>whnf
   (refine kS [] hlv ?_;rintro r rfl;conv=>whnf)
   rfl
  ·rw[if_neg hE] at hcm
   have hcm2:Spec Tryz.prog 12 [] [.agg (o9 u)] fun _ r=>r = .tup [pgA [] zE 0 0,intA E]:=hcm.weaken fun o r hr=>⟨o,_,rfl,WkB.refl o,by rw[hr];exact .tup (.cons jlL (WkL.refl _))⟩
   refine kS [] hcm2 ?_;rintro r rfl
   rcases hev with hev | rfl | rfl
   ·exact absurd hev hE
   all_goals
    conv=>whnf
    (refine kS [] hlv ?_;rintro r rfl;conv=>whnf)
    rfl
 ·conv=>whnf
  refine kS [] hrck ?_;rintro r rfl;conv=>whnf
  (refine kS [] hlv ?_;rintro r rfl;conv=>whnf)
  rfl
end Go.Proofs.YtfbifdccmabdbaaGreatDoor.Vm
