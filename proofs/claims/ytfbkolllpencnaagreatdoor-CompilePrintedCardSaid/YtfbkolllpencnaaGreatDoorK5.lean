/- Part 5 of the proof. -/
import Derived.Test.YtfbkolllpencnaaGreatDoorK4
import Derived.Shelf.Lay
import Derived.Shelf.Strconv.Itoa3
import Derived.Ground.NamesProg
import Derived.Lib.ItoaLen
import Derived.Lib.AppendIntMem
import Derived.Shelf.Strings.OnBuilder
set_option maxRecDepth 100000
set_option linter.unusedSimpArgs false
set_option linter.unusedVariables false
set_option maxHeartbeats 4000000
namespace Go.Proofs.YtfbkolllpencnaaGreatDoor.Vm
open Go.RowKit Go.Shelf
theorem jui (l:List Int) (most:Nat) (hm:most<=1000):Spec Tryz.prog 11 [] [.sl 1 l.length (wO l),.v (.int .i64 most)] fun _ r=>r = .sl 1 (l.take most).length (wO (l.take most)):=by
 refine eN jH jT 0 Tryz.func11 rfl ?_;intro hok
 have e1:(min (l.length:Int) (most:Int)).toNat-Int.toNat 0=(l.take most).length:=by rw[List.length_take];omega
 have e2:List.take ((l.take most).length*1) (List.drop (Int.toNat 0*1) (wO l))=wO (l.take most):=by
  rw[Nat.mul_one,List.length_take];simp only[wO,Int.toNat_zero,Nat.zero_mul,List.drop_zero];rw[<- List.map_take]
  congr 1
  rcases Nat.le_total most l.length with h | h
  ·rw[Nat.min_eq_left h]
  ·rw[Nat.min_eq_right h,List.take_of_length_le h,List.take_of_length_le (Nat.le_refl _)]
 have e3:(l.take most).length<=most:=by rw[List.length_take];omega
 conv=>whnf
 (refine uP ?_;try with_reducible exact trivial)
 rw[e1,e2];generalize l.take most=L at *;refine⟨⟨by unfold maxLen;omega,by omega⟩,?_⟩;conv=>whnf
 rfl
theorem jtv (l:List Int):∀ d,jll l d/\jr3 l d
 | 0=>⟨jrH l 0 fun e h=>by omega,jtw l 0 (jrH l 0 fun e h=>by omega)⟩
 | d+1=>by
  have h1:jll l (d+1):=jrH l (d+1) fun e h=>by
   obtain rfl:d=e:=by omega
   exact (jtv l d).2
  exact⟨h1,jtw l (d+1) h1⟩
def hnG (l:List Int) (j i:Nat):Int:=match j with
 | 0=>0
 | 1=>1
 | 2=>2+pk l (i+1) 8
 | _=>10+pk l (i+1+1) 30
inductive PCh (l:List Int):Nat->Nat->List (Int × Nt)->Prop
 | nil (i:Nat):PCh l 4 i []
 | skip (j i:Nat) (hs:List (Int × Nt)) (hj:j<4) (hi:i<=900000000) (hp:pk l i 5=0) (k:PCh l (j+1) (i+1) hs):PCh l j i hs
 | take (j i i2:Nat) (b:Nt) (hs:List (Int × Nt)) (hj:j<4) (hi:i<=900000000) (hp:0<pk l i 5) (h:Spec Tryz.prog 13 [bxG l (i+1+1+1)] [.box 0 0,.v (.int .i64 2),.v (.int .i64 3)] fun o r=>o=[bxG l i2]/\r = .agg (ntA b)) (k:PCh l (j+1) i2 hs):PCh l j i ((hnG l j i,b) :: hs)
def EK (b:Nt):Prop := ∃ k,b=qD k/\k.length<=3 /\ ∀ s ∈ k,ES 2 s
def loG:Nat->Int
 | 0=>0
 | 1=>1
 | 2=>2
 | 3=>10
 | _=>40
def EHs (j:Nat) (hs:List (Int × Nt)):Prop:=(∀ h ∈ hs,loG j<=h.1/\h.1<40/\EK h.2)/\hs.Pairwise (fun a b=>a.1<b.1)/\hs.length+j<=4
theorem juL (c:Nat) {n:Nat} (h:n<=3):(n=0/\c*n=0) ∨ (n ≠ 0/\c*n<=3*c):=by
 rcases (by omega:n=0 ∨ n=1 ∨ n=2 ∨ n=3) with rfl | rfl | rfl | rfl <;> omega
theorem jip (l:List Int) (hl:l.length<=70):∀ (k j i:Nat),j+k=4->i+k*5000<=800000000 -> ∃ hs,EHs j hs/\(∀ κ,1<=κ->κ<=7->wHs κ hs+rO κ i<=(4*κ+12)*70+6*κ+18)/\PCh l j i hs
 | 0,j,i,hj,hb=>by
  obtain rfl:j=4:=by omega
  exact⟨[],⟨by simp,.nil,by decide⟩,fun κ ka kb=>by have:=(jeB κ i).1;show 0+rO κ i<=_;omega,.nil i⟩
 | k+1,j,i,hj,hb=>by
  rw[Nat.succ_mul] at hb
  have hjs:j=0 ∨ j=1 ∨ j=2 ∨ j=3:=by omega
  have hlo:loG j<=loG (j+1):=by rcases hjs with rfl | rfl | rfl | rfl <;> decide
  by_cases hp:pk l i 5=0
  ·obtain⟨hs,⟨e1,e2,e3⟩,w1,hc⟩ := jip l hl k (j+1) (i+1) (by omega) (by omega)
   exact⟨hs,⟨fun h hh=>⟨by have:=(e1 h hh).1;omega,(e1 h hh).2⟩,e2,by omega⟩,fun κ ka kb=>by have:=(gA κ i).1;have w1:=w1 κ ka kb;omega,.skip _ _ _ (by omega) (by omega) hp hc⟩
  ·have hS:bS 2=1270:=rfl
   have ho:=oF l i 5 hl
   obtain⟨b,i2,q1,q2,g1,g2,⟨w2,w3⟩,hs⟩ := (jtv l 2).2 hl (i+1+1+1) 3 2 rfl (by decide) (by decide) (by decide) (by omega)
   obtain⟨hs2,⟨e1,e2,e3⟩,w1,hc⟩ := jip l hl k (j+1) i2 (by omega) (by omega)
   have hn:loG j<=hnG l j i/\hnG l j i<loG (j+1):=by
    have p8:=vF l (i+1) (m:=8) (by decide)
    have p30:=vF l (i+1+1) (m:=30) (by decide)
    rcases hjs with rfl | rfl | rfl | rfl <;> simp only[loG,hnG] <;> omega
   have hl4:loG (j+1)<=40:=by rcases hjs with rfl | rfl | rfl | rfl <;> decide
   refine⟨_,⟨fun h hh => ?_,List.pairwise_cons.2 ⟨fun b hb => ?_,e2⟩,by rw[List.length_cons];omega⟩,fun κ ka kb=>by have p0:=gA κ i;have p1:=gA κ (i+1);have p2:=gA κ (i+1+1);have p3:=gA κ (i+1+1+1);have p4:=jeB κ i;have p5:=jeB κ (i+1+1+1+1);have w1:=w1 κ ka kb;have w2:=w2 κ ka kb;have hm:=juL (4+4*κ) q1;rw[wHs,jbQ];omega,.take j i i2 (qD b) hs2 (by omega) (by omega) (by omega) hs hc⟩
   ·rcases List.mem_cons.1 hh with rfl | hh
    ·exact⟨hn.1,by simp only;omega,b,rfl,q1,q2⟩
    ·exact⟨by have:=(e1 h hh).1;omega,(e1 h hh).2⟩
   ·have:=(e1 b hb).1
    simp only;omega
def duL:List ByteArray:=[⟨#[100]⟩,⟨#[100,100,49]⟩]
def voL:List ByteArray:=[⟨#[118]⟩,⟨#[119,50]⟩]
def GU (u:Ut):Prop:=u.du=duL/\u.vo=voL/\EHs 0 u.on
def GW (u:Ut):Prop:=GU u /\ ∀ κ,1<=κ->κ<=7->wHs κ u.on<=(4*κ+12)*70+6*κ+18
theorem jrG (l:List Int):∃ u,GW u/\Spec Tryz.prog 4 [] [.sl 1 l.length (wO l)] fun _ r=>r = .agg (utA u):=by
 have hin:=jui l 70 (by decide)
 obtain⟨hs,hE,hW,hc⟩ := jip (l.take 70) (by rw[List.length_take];omega) 4 0 0 rfl (by decide)
 refine⟨⟨duL,voL,hs⟩,⟨⟨rfl,rfl,hE⟩,fun κ ka kb=>by have:=hW κ ka kb;show wHs κ hs<=_;omega⟩,?_⟩;clear hW
 have hlen:=hE.2.2
 generalize l.take 70=L at *;refine eN juO (fun _=>[1]) 0 Tryz.func4 rfl ?_;intro hok;conv=>whnf
 refine xV [] hin ?_;rintro r rfl;conv=>whnf
 refine vE 51 5 [] [(2,2)] ?_;conv=>whnf
 refine⟨trivial,?_⟩;conv=>whnf
 refine jO [2,3,4] ?_;conv=>whnf
 refine qA (fun x:Nat × Nat × List (Int × Nt) × List (Int × Nt)=>[(5,.v (.int .i64 x.1))]) (fun x=>[rM,bxG L x.2.1,[.own 0,.own 1,.own 2]]) (fun x=>[.live 9 1 2 (bA duL),.live 9 1 2 (bA voL),.live 51 5 x.2.2.1.length (dP x.2.2.1)]) (fun x=>x.2.2.1++x.2.2.2=hs/\PCh L x.1 x.2.1 x.2.2.2) (fun x=>4-x.1) (0,0,[],hs) ?_ ⟨rfl,hc⟩ ?_
 ·repeat' constructor
  show Row.live _ _ _ _=Row.live _ 5 0 (dP [])
  rw[jfU]
 rintro⟨j,i,acc,rem⟩ ⟨hacc,hch⟩
 simp only at hacc hch
 have hal:acc.length<=4:=by
  have:=congrArg List.length hacc
  rw[List.length_append] at this;omega
 clear hin hc;conv=>whnf
 cases hch with
 | nil =>
  conv=>whnf
  rw[List.append_nil] at hacc;rw[<- hacc];rfl
 | skip _ _ _ hj hi hp hch =>
  have hpk:=x9 L i 5 (by omega) (by decide)
  rw[hp] at hpk;rw[j8 (show (j:Int)<4 by omega)];conv=>whnf
  refine zC 1 [] hpk ?_;rintro o r ⟨ho,rfl⟩;cases ho;conv=>whnf
  refine⟨jV (by omega),?_⟩;conv=>whnf
  refine⟨(j+1,i+1,acc,rem),jS [0,1,2] ?_,⟨hacc,hch⟩,by simp only;omega⟩;conv=>whnf
  repeat' constructor
 | take _ _ i2 b rem hj hi hp hs hch =>
  have hpk:=x9 L i 5 (by omega) (by decide)
  have hp8:=x9 L (i+1) 8 (by omega) (by decide)
  have hp30:=x9 L (i+1+1) 30 (by omega) (by decide)
  have l8:=vF L (i+1) (m:=8) (by decide)
  have l30:=vF L (i+1+1) (m:=30) (by decide)
  obtain⟨nn,hnn⟩ : ∃ nn,hnG L j i=nn:=⟨_,rfl⟩
  rw[hnn] at hacc;unfold hnG at hnn;generalize pk L i 5=k5 at *;generalize pk L (i+1) 8=k8 at *;generalize pk L (i+1+1) 30=k30 at *;rw[j8 (show (j:Int)<4 by omega)];conv=>whnf
  refine zC 1 [] hpk ?_;rintro o r ⟨ho,rfl⟩;cases ho;conv=>whnf
  rw[j8 (show 0<(k5:Int) by omega)];conv=>whnf
  refine zC 1 [] hp8 ?_;rintro o r ⟨ho,rfl⟩;cases ho;conv=>whnf
  refine⟨jV (by omega),?_⟩;conv=>whnf
  refine zC 1 [] hp30 ?_;rintro o r ⟨ho,rfl⟩;cases ho;conv=>whnf
  refine⟨jV (by omega),?_⟩;conv=>whnf
  refine⟨⟨by omega,by omega⟩,?_⟩
  rcases (by omega:j=0 ∨ j=1 ∨ j=2 ∨ j=3) with rfl | rfl | rfl | rfl
  all_goals
   simp only at hnn
   conv=>whnf
   refine zC 1 [] hs ?_;rintro o r ⟨ho,rfl⟩;cases ho;conv=>whnf
   refine⟨⟨by simp only;unfold maxLen;omega,by simp only;omega⟩,?_⟩;conv=>whnf
   refine⟨jV (by simp only;omega),?_⟩;conv=>whnf
   subst hnn;refine⟨(_,i2,acc++[(_,b)],rem),jS [0,1,2] ?_,⟨by simp only;rw[List.append_assoc];exact hacc,hch⟩,by simp only;omega⟩;conv=>whnf
   repeat' constructor
   rw[List.length_append,jcH];rfl
def jaw (n:Nat):List UInt8:=if h:n=0 then [] else jaw (n / 10)++[UInt8.ofNat (48+n % 10)]
decreasing_by omega
theorem cC:jaw 0=[]:=by unfold jaw;simp
theorem gV {n:Nat} (h:n ≠ 0):jaw n=jaw (n / 10)++[UInt8.ofNat (48+n % 10)]:=by
 rw[jaw];simp[h]
def qG (n:Nat):List UInt8:=if n=0 then [48] else jaw n
theorem jfE:∀ (k n:Nat),n<10 ^ k->(jaw n).length<=k
 | k,0,_=>by rw[cC];simp
 | 0,n+1,h=>by simp at h
 | k+1,n+1,h=>by
  rw[gV (by omega),List.length_append]
  have:=jfE k ((n+1) / 10) (by rw[Nat.pow_succ] at h;omega)
  simp only[List.length_cons,List.length_nil];omega
theorem yF (n:Nat) (hn:n<1000000000000):(bs (qG n)).size<=12:=by
 rw[x6];unfold qG
 split
 ·decide
 ·exact jfE 12 n hn
def gX (a:ByteArray):UInt8:=a.data.toList.getD (a.size-1) 0
def qL (a:ByteArray):UInt8:=a.data.toList.getD 0 0
def jA (a b:ByteArray):ByteArray:=if a = ⟨#[]⟩ then a++b else if b = ⟨#[]⟩ then a++b else if zY (gX a)=false then a++b else if zY (qL b)=false then a++b else a ++ ⟨#[32]⟩ ++ b
theorem wH {a:ByteArray} (h:a ≠ ⟨#[]⟩):0<a.size:=by
 refine Nat.pos_of_ne_zero fun h0=>h ?_
 apply ByteArray.ext
 exact Array.eq_empty_of_size_eq_zero h0
theorem jB (a b:ByteArray):(jA a b).size<=a.size+b.size+1:=by
 have h:(⟨#[32]⟩ : ByteArray).size=1:=rfl
 unfold jA
 repeat' split
 all_goals (simp only[ByteArray.size_append];omega)
def tsz (l:List ByteArray):Nat:=(l.map fun x=>x.size+1).sum
def qR (l:List ByteArray):ByteArray:=l.foldl jA ⟨#[]⟩
theorem wA (x:ByteArray) (l:List ByteArray):tsz (x :: l)=(x.size+1)+tsz l:=by unfold tsz;simp
theorem jhi (l:List ByteArray) (x:ByteArray):tsz (l++[x])=tsz l+(x.size+1):=by unfold tsz;simp
theorem rP (l:List ByteArray) (x:ByteArray):qR (l++[x])=jA (qR l) x:=by unfold qR;rw[List.foldl_append];rfl
theorem jck (l:List ByteArray):∀ j,j<=l.length->(qR (l.take j)).size<=tsz (l.take j)
 | 0,_=>by rw[List.take_zero];exact Nat.zero_le _
 | j+1,h=>by
  have ih:=jck l j (by omega)
  rw[List.take_succ_eq_append_getElem (by omega),rP,jhi]
  have:=jB (qR (l.take j)) (l[j]'(by omega))
  omega
theorem bZ (l:List ByteArray):(qR l).size<=tsz l:=by
 have:=jck l l.length (Nat.le_refl _)
 rwa [List.take_length] at this
def jI (k:Int) (s:ByteArray):Int:=if k=17 then (if s=pNot then 3 else 7) else if k ≠ 18 then 8 else if s=pOr then 1 else if s=kZ then 2 else if s=wP then 5 else if s=pMinus then 5 else if s=zZ then 6 else if s=qM then 6 else 4
theorem lK (k:Int) (s:ByteArray):1<=jI k s/\jI k s<=8:=by
 unfold jI
 repeat' split
 all_goals decide
def bR (p req:Int) (full:Bool) (b:ByteArray):ByteArray:=if p<req then pLp++b++pRp else if full=true then (if p<8 then pLp++b++pRp else b) else b
def noG:Int->ByteArray:=fun _=>eB
def tfB (n:Int):ByteArray:=[eQ,rK].getD (iU n 2).toNat eB
def jtk (k n:Int) (s:ByteArray) (g:List (Int->ByteArray)):ByteArray :=
 if k=12 then bs (qG n.toNat)
 else if k=13 then tfB n
 else if k=16 then qR [wDraw,pLp,(g.getD 0 noG) 1,pRp]
 else if k=17 then qR [s,(g.getD 0 noG) (jI k s)]
 else if k=18 then qR [(g.getD 0 noG) (if jI k s=4 then 5 else jI k s),s,(g.getD 1 noG) (jI k s+1)]
 else s
mutual
def zQ (full:Bool):Nt->Int->ByteArray
 | .mk k n s kids,req=>bR (jI k s) req full (jtk k n s (jun full kids))
def jun (full:Bool):List Nt->List (Int->ByteArray)
 | []=>[]
 | f :: l=>zQ full f :: jun full l
end
theorem jkU (p req:Int) (full:Bool) (b:ByteArray):(bR p req full b).size<=b.size+2:=by
 unfold bR
 have h1:pLp.size=1:=rfl
 have h2:pRp.size=1:=rfl
 repeat' split
 all_goals (try simp only[ByteArray.size_append]);omega
theorem jqS (f:Nt):jJ 4 0 (qE [f])=ntA f:=zK [f] 0 (by simp)
theorem jnp (f g:Nt):jJ 4 0 (qE [f,g])=ntA f:=zK [f,g] 0 (by simp)
theorem jnq (f g:Nt):jJ 4 1 (qE [f,g])=ntA g:=zK [f,g] 1 (by simp)
def cI:Nat->Nat
 | 0=>14
 | d+1=>2*cI d+20
theorem tE:∀ d,14<=cI d
 | 0=>Nat.le_refl _
 | d+1=>by unfold cI;omega
theorem ja2:∀ s ∈ varL,s.size<=12:=by decide
theorem jcr:∀ s ∈ builtL,s.size<=12:=by decide
theorem jjx:∀ n ∈ litL,0<=n/\n<1000000000000:=by decide
theorem jmV:∀ s ∈ opL,s.size<=2:=by decide
theorem jj9:∀ s ∈ bolL,s.size<=2:=by decide
theorem jje:∀ s ∈ cmpL,s.size<=2:=by decide
def cmF (l:List ByteArray):ByteArray:=match l with
 | []=>eB
 | x :: l=>l.foldl (fun a y=>jA (a++pComma) y) (jA eB x)
theorem pE (x:ByteArray) (l:List ByteArray) (y:ByteArray):cmF (x :: l++[y])=jA (cmF (x :: l)++pComma) y:=by
 unfold cmF
 show (l++[y]).foldl _ _=_
 rw[List.foldl_append];rfl
theorem jlZ:∀ (l:List ByteArray),(cmF l).size<=tsz l+l.length:=fun l=>by
 induction h:l.length generalizing l with
 | zero=>rw[List.eq_nil_of_length_eq_zero h];exact Nat.zero_le _
 | succ n ih =>
  obtain⟨m,y,rfl⟩ : ∃ m y,l=m++[y]:=by
   have hne:l ≠ []:=fun e=>by rw[e] at h;cases h
   exact⟨l.dropLast,l.getLast hne,(List.dropLast_concat_getLast hne).symm⟩
  have hm:m.length=n:=by simpa using h
  have:=ih m hm
  rw[jhi]
  cases m with
  | nil =>
   show (jA eB y).size<=_
   have:=jB eB y
   have e0:eB.size=0:=rfl
   omega
  | cons x m =>
   rw[pE]
   have g:=jB (cmF (x :: m)++pComma) y
   have e1:pComma.size=1:=rfl
   rw[ByteArray.size_append] at g;omega
def zN (full:Bool) (l:List Nt):ByteArray:=cmF (l.map fun f=>zQ full f 1)++pSemi
def syncB:ByteArray:=⟨#[115,121,110,99,59]⟩
def stopB:ByteArray:=⟨#[115,116,111,112,59]⟩
def kid (l:List Nt) (i:Nat):Nt:=l.getD i (.mk 0 0 eB [])
def stB (full:Bool) (k n:Int) (s:ByteArray) (kids:List Nt) (bks:List ByteArray):ByteArray :=
 if k=1 then qR [s,pEq,zN full kids]
 else if k=3 then qR [wWhile,zQ full (kid kids 0) 1,bks.getD 1 eB]
 else if k=4 then qR [wSend,zQ full (kid kids 0) 1,pComma,bs (qG n.toNat),pComma,zN full (kids.drop 1)]
 else if k=5 then qR [wTimer,bs (qG n.toNat),pSemi]
 else if k=6 then qR [wCancel,bs (qG n.toNat),pSemi]
 else if k=7 then syncB
 else if k=10 then stopB
 else if k=8 then qR [wReply,zN full kids]
 else if k=9 then qR [wFail,zN full kids]
 else if 0<(kid kids 2).kids.length then qR [qR [wIf,zQ full (kid kids 0) 1,bks.getD 1 eB],wElse,bks.getD 2 eB] else qR [wIf,zQ full (kid kids 0) 1,bks.getD 1 eB]
mutual
def bL (full:Bool):Nt->ByteArray
 | .mk k n s kids=>stB full k n s kids (jtj full kids)
def nP (full:Bool):Nt->ByteArray
 | .mk _ _ _ kids=>(jpY full kids).foldl jA pLb++pRb
def jpY (full:Bool):List Nt->List ByteArray
 | []=>[]
 | f :: l=>bL full f :: jpY full l
def jtj (full:Bool):List Nt->List ByteArray
 | []=>[]
 | f :: l=>nP full f :: jtj full l
end
theorem jqT (f g h:Nt):jJ 4 0 (qE [f,g,h])=ntA f/\jJ 4 1 (qE [f,g,h])=ntA g/\jJ 4 2 (qE [f,g,h])=ntA h:=⟨zK [f,g,h] 0 (by simp),zK [f,g,h] 1 (by simp),zK [f,g,h] 2 (by simp)⟩
theorem jh9 (full:Bool):∀ l:List Nt,jpY full l=l.map (bL full)
 | []=>rfl
 | f :: l=>by rw[jpY,jh9 full l];rfl
def bkL (full:Bool) (l:List Nt):ByteArray:=(l.map (bL full)).foldl jA pLb
theorem jlL (full:Bool) (l:List Nt) (f:Nt):bkL full (l++[f])=jA (bkL full l) (bL full f):=by
 unfold bkL;rw[List.map_append,List.foldl_append];rfl
theorem jhD (full:Bool) (k n:Int) (s:ByteArray) (l:List Nt):nP full (.mk k n s l)=bkL full l++pRb:=by
 rw[nP,jh9];rfl
def cS:Nat->Nat
 | 0=>900
 | d+1=>700+3*(3*cS d+10)
theorem y9:∀ d,900<=cS d
 | 0=>Nat.le_refl _
 | d+1=>by have:=y9 d;unfold cS;omega
def wMsgS:ByteArray:=⟨#[109,101,115,115,97,103,101,32]⟩
def wTimS:ByteArray:=⟨#[116,105,109,101,114,32]⟩
def hdW (n:Int):ByteArray:=if n=1 then wRequest else if 10<=n then wMsgS++bs (qG (n-10).toNat) else if 2<=n then wTimS++bs (qG (n-2).toNat) else wStart
def hdN (full:Bool) (h:Int × Nt):ByteArray:=qR [wOn,hdW h.1,nP full h.2]
def naF (l:List ByteArray):ByteArray:=match l with
 | []=>eB
 | x :: l=>l.foldl (fun a y=>a++pComma++y) (eB++x)
theorem jmI (x:ByteArray) (l:List ByteArray) (y:ByteArray):naF (x :: l++[y])=naF (x :: l)++pComma++y:=by
 unfold naF
 show (l++[y]).foldl _ _=_
 rw[List.foldl_append];rfl
theorem jmJ (l:List ByteArray) (j:Nat) (h:j<l.length):naF (l.take (j+1))=(if 0<j then naF (l.take j)++pComma else naF (l.take j))++l[j]:=by
 rw[List.take_succ_eq_append_getElem h]
 by_cases h0:0<j
 ·rw[if_pos h0]
  cases hq:l.take j with
  | nil =>
   have:=congrArg List.length hq
   rw[List.length_take,List.length_nil] at this;omega
  | cons a b=>exact jmI _ _ _
 ·rw[if_neg h0]
  obtain rfl:j=0:=by omega
  rfl
theorem jgn (l:List ByteArray) (hs:∀ x ∈ l,x.size<=100):∀ j,j<=l.length->(naF (l.take j)).size<=j*101
 | 0,_=>by rw[List.take_zero];exact Nat.zero_le _
 | j+1,h=>by
  have ih:=jgn l hs j (by omega)
  have:=hs _ (List.getElem_mem (show j<l.length by omega))
  have e1:pComma.size=1:=rfl
  rw[jmJ l j (by omega),ByteArray.size_append]
  split
  ·rw[ByteArray.size_append];omega
  ·omega
def spB:ByteArray:=⟨#[32]⟩
def nmF (w:ByteArray) (l:List ByteArray):ByteArray:=if naF l = ⟨#[]⟩ then ⟨#[]⟩ else w++spB++naF l++pSemi
theorem jgr (w:ByteArray) (l:List ByteArray) (hl:l.length<=20) (hs:∀ x ∈ l,x.size<=100) (hw:w.size<=20):(nmF w l).size<=2100:=by
 have h:=jgn l hs l.length (Nat.le_refl _)
 rw[List.take_length] at h
 have a1:spB.size=1:=rfl
 have a2:pSemi.size=1:=rfl
 unfold nmF
 split
 ·exact (by decide:(⟨#[]⟩ : ByteArray).size<=2100)
 ·simp only[ByteArray.size_append];omega
def uE (full:Bool) (a:ByteArray) (l:List (Int × Nt)):ByteArray:=l.foldl (fun a h=>jA a (hdN full h)) a
theorem jkx (full:Bool) (a:ByteArray) (l:List (Int × Nt)) (h:Int × Nt):uE full a (l++[h])=jA (uE full a l) (hdN full h):=by
 unfold uE;rw[List.foldl_append];rfl
theorem jcG (full:Bool) (a:ByteArray) (l:List (Int × Nt)) (hl:∀ h ∈ l,(hdN full h).size<=400000):(uE full a l).size<=a.size+l.length*400001:=by
 induction l generalizing a with
 | nil=>exact Nat.le_add_right _ _
 | cons h l ih =>
  have h1:=ih (jA a (hdN full h)) (fun x hx=>hl x (List.mem_cons_of_mem _ hx))
  have h2:=jB a (hdN full h)
  have h3:=hl h List.mem_cons_self
  have e:uE full a (h :: l)=uE full (jA a (hdN full h)) l:=rfl
  rw[e,List.length_cons,Nat.succ_mul];omega
def prF (u:Ut):ByteArray:=uE false (nmF wDurable u.du++nmF wVolatile u.vo) u.on
section
end
def SHz (full:Bool) (m:Nat) (f:Nt):Prop := ∀ req:Int,0<=req->req<=9->(zQ full f req).size<=m/\True
def STz (full:Bool) (m:Nat) (f:Nt):Prop:=(bL full f).size<=m/\True
def BKz (full:Bool) (m:Nat) (f:Nt):Prop:=(nP full f).size<=m/\True
theorem SHz.mono {full:Bool} {m m':Nat} {f:Nt} (h:SHz full m f) (hm:m<=m'):SHz full m' f:=fun req h1 h2=>⟨Nat.le_trans (h req h1 h2).1 hm,trivial⟩
theorem STz.mono {full:Bool} {m m':Nat} {f:Nt} (h:STz full m f) (hm:m<=m'):STz full m' f:=⟨Nat.le_trans h.1 hm,trivial⟩
theorem BKz.mono {full:Bool} {m m':Nat} {f:Nt} (h:BKz full m f) (hm:m<=m'):BKz full m' f:=⟨Nat.le_trans h.1 hm,trivial⟩
theorem jkV {p req:Int} {full:Bool} {b:ByteArray} {m:Nat} (h:b.size+2<=m):(bR p req full b).size<=m/\True:=⟨Nat.le_trans (jkU p req full b) h,trivial⟩
theorem jjX (full:Bool) (n:Int) (hn:0<=n/\n<1000000000000):SHz full 14 (.mk 12 n eB []):=fun req h1 h2=>by
 have hsz:(bs (qG n.toNat)).size<=12:=yF _ (by omega)
 exact jkV (p:=8) (b:=bs (qG n.toNat)) (by omega)
theorem jeN (full:Bool) (k:Int) (hk:k=14 ∨ k=15) (s:ByteArray) (hs:s.size<=12):SHz full 14 (.mk k 0 s []):=fun req h1 h2=>by
 rcases hk with rfl | rfl
 all_goals exact jkV (p:=8) (b:=s) (by omega)
theorem jh1 (full:Bool) (n:Nat) (hn:n<2):SHz full 14 (.mk 13 n eB []):=fun req h1 h2=>by
 have hsz:(tfB n).size<=12:=by rcases (by omega:n=0 ∨ n=1) with rfl | rfl <;> decide
 exact jkV (p:=8) (b:=tfB n) (by omega)
theorem jjW (full:Bool) (m:Nat) (hm:m<=1000000) (f:Nt) (hf:SHz full m f):SHz full (m+20) (.mk 16 0 eB [f]):=fun req h1 h2=>by
 obtain⟨hs1,-⟩ := hf 1 (by decide) (by decide)
 have hz:=bZ [wDraw,pLp,zQ full f 1,pRp]
 have a1:wDraw.size=4:=rfl
 have a2:pLp.size=1:=rfl
 have a3:pRp.size=1:=rfl
 have a4:tsz []=0:=rfl
 simp only[wA] at hz;exact jkV (p:=8) (b:=qR [wDraw,pLp,zQ full f 1,pRp]) (by omega)
theorem jeO (full:Bool) (m:Nat) (hm:m<=1000000) (s:ByteArray) (hs:s.size<=2) (f:Nt) (hf:SHz full m f):SHz full (m+20) (.mk 17 0 s [f]):=fun req h1 h2=>by
 have hp9:=lK 17 s
 obtain⟨hs1,-⟩ := hf (jI 17 s) (by omega) (by omega)
 have hz:=bZ [s,zQ full f (jI 17 s)]
 have a4:tsz []=0:=rfl
 simp only[wA] at hz;exact jkV (p:=jI 17 s) (b:=qR [s,zQ full f (jI 17 s)]) (by omega)
theorem u7 (full:Bool) (m:Nat) (hm:m<=1000000) (s:ByteArray) (hs:s.size<=2) (f g:Nt) (hf:SHz full m f) (hg:SHz full m g):SHz full (2*m+20) (.mk 18 0 s [f,g]):=fun req h1 h2=>by
 have hp9:=lK 18 s
 have hp8:jI 18 s<=7:=by
  unfold jI
  repeat' split
  all_goals first | decide | (rename_i h1 h2;exact absurd h2 (by decide)) | contradiction
 have hqr:0<=(if jI 18 s=4 then 5 else jI 18 s)/\(if jI 18 s=4 then 5 else jI 18 s)<=9:=by split <;> omega
 obtain⟨hs1,-⟩ := hf (if jI 18 s=4 then 5 else jI 18 s) hqr.1 hqr.2
 obtain⟨hs2,-⟩ := hg (jI 18 s+1) (by omega) (by omega)
 have hz:=bZ [zQ full f (if jI 18 s=4 then 5 else jI 18 s),s,zQ full g (jI 18 s+1)]
 have a4:tsz []=0:=rfl
 simp only[wA] at hz;exact jkV (p:=jI 18 s) (b:=qR [zQ full f (if jI 18 s=4 then 5 else jI 18 s),s,zQ full g (jI 18 s+1)]) (by omega)
theorem jbt (full:Bool) {d:Nat} {f:Nt} (h:EI d f):cI d<=1000000->SHz full (cI d) f:=by
 induction h with
 | lit d n h=>exact fun _=>(jjX full n (jjx n h)).mono (tE d)
 | var d s h=>exact fun _=>(jeN full 14 (.inl rfl) s (ja2 s h)).mono (tE d)
 | nam d s h=>exact fun _=>(jeN full 15 (.inr rfl) s (jcr s h)).mono (tE d)
 | drw d f h ih=>intro hc;unfold cI at hc ⊢;exact (jjW full (cI d) (by omega) f (ih (by omega))).mono (by omega)
 | neg d f h ih=>intro hc;unfold cI at hc ⊢;exact (jeO full (cI d) (by omega) pMinus (by decide) f (ih (by omega))).mono (by omega)
 | bin d s f g hs h1 h2 i1 i2=>intro hc;unfold cI at hc ⊢;exact u7 full (cI d) (by omega) s (jmV s hs) f g (i1 (by omega)) (i2 (by omega))
theorem jnE (full:Bool) {d:Nat} {f:Nt} (h:EB d f):cI (d+1)<=1000000->SHz full (cI (d+1)) f:=by
 induction h with
 | lit d n h=>exact fun _=>(jh1 full n h).mono (tE (d+1))
 | nt d f h ih=>intro hc;have e:cI (d+1+1)=2*cI (d+1)+20:=rfl;rw[e] at hc ⊢;exact (jeO full (cI (d+1)) (by omega) pNot (by decide) f (ih (by omega))).mono (by omega)
 | bin d s f g hs h1 h2 i1 i2=>intro hc;have e:cI (d+1+1)=2*cI (d+1)+20:=rfl;rw[e] at hc ⊢;exact u7 full (cI (d+1)) (by omega) s (jj9 s hs) f g (i1 (by omega)) (i2 (by omega))
 | cmp d s f g hs h1 h2 =>
  intro hc
  have hm:cI (d-1)<=cI d:=by
   cases d with
   | zero=>exact Nat.le_refl _
   | succ d=>rw[Nat.add_sub_cancel];have e:cI (d+1)=2*cI d+20:=rfl;omega
  have e:cI (d+1)=2*cI d+20:=rfl
  rw[e] at hc ⊢;exact u7 full (cI d) (by omega) s (jje s hs) f g ((jbt full h1 (by omega)).mono hm) ((jbt full h2 (by omega)).mono hm)
theorem jqH (full:Bool) (m:Nat) (l:List Nt) (hf:∀ f ∈ l,SHz full m f):(zN full l).size<=l.length*(m+2)+1:=by
 have h1:=jlZ (l.map fun f=>zQ full f 1)
 have h2:∀ l:List Nt,(∀ f ∈ l,SHz full m f)->tsz (l.map fun f=>zQ full f 1)<=l.length*(m+1):=fun l=>by
  induction l with
  | nil=>exact fun _=>Nat.zero_le _
  | cons f l ih =>
   intro hf
   have:=ih fun g hg=>hf g (List.mem_cons_of_mem _ hg)
   have:=(hf f List.mem_cons_self 1 (by decide) (by decide)).1
   rw[List.map_cons,wA,List.length_cons,Nat.succ_mul];omega
 have:=h2 l hf
 have e1:pSemi.size=1:=rfl
 rw[List.length_map] at h1
 have e:l.length*(m+2)=l.length*(m+1)+l.length:=by rw[show m+2=(m+1)+1 by omega,Nat.mul_add,Nat.mul_one]
 unfold zN;rw[ByteArray.size_append];omega
theorem jdS {l:List ByteArray} {m:Nat} (h:tsz l<=m):(qR l).size<=m/\True:=⟨Nat.le_trans (bZ l) h,trivial⟩
theorem u9 (full:Bool) (k:Int) (hk:k=1 ∨ k=8 ∨ k=9) (s:ByteArray) (hs:s.size<=12) (m:Nat) (hm:m<=1000000) (l:List Nt) (hl:l.length<=2) (hf:∀ f ∈ l,SHz full m f):STz full (2*m+40) (.mk k 0 s l):=by
 have hz:=jqH full m l hf
 have hlm:l.length*(m+2)<=2*(m+2):=Nat.mul_le_mul_right _ hl
 have c1:pEq.size=1:=rfl
 have c2:wReply.size=5:=rfl
 have c3:wFail.size=4:=rfl
 have a4:tsz []=0:=rfl
 rcases hk with rfl | rfl | rfl
 ·exact jdS (l:=[s,pEq,zN full l]) (by simp only[wA];omega)
 ·exact jdS (l:=[wReply,zN full l]) (by simp only[wA];omega)
 ·exact jdS (l:=[wFail,zN full l]) (by simp only[wA];omega)
theorem jeT (full:Bool) (k:Int) (hk:k=5 ∨ k=6) (n:Nat) (hn:n<1000):STz full 40 (.mk k n eB []):=by
 have hds:=yF n (by omega)
 have c1:pSemi.size=1:=rfl
 have c2:wTimer.size=5:=rfl
 have c3:wCancel.size=6:=rfl
 have a4:tsz []=0:=rfl
 rcases hk with rfl | rfl
 ·exact jdS (l:=[wTimer,bs (qG n),pSemi]) (by simp only[wA];omega)
 ·exact jdS (l:=[wCancel,bs (qG n),pSemi]) (by simp only[wA];omega)
theorem jeU (full:Bool) (k:Int) (hk:k=7 ∨ k=10):STz full 40 (.mk k 0 eB []):=by
 rcases hk with rfl | rfl
 ·exact⟨show syncB.size<=40 by decide,trivial⟩
 ·exact⟨show stopB.size<=40 by decide,trivial⟩
theorem jk1 (full:Bool) (n:Nat) (hn:n<1000) (m:Nat) (hm:m<=1000000) (f g h:Nt) (hf:SHz full m f) (hg:SHz full m g) (hh:SHz full m h):STz full (3*m+80) (.mk 4 n eB [f,g,h]):=by
 have hz:=jqH full m [g,h] (fun x hx=>by
  simp only[List.mem_cons,List.not_mem_nil,or_false] at hx
  rcases hx with rfl | rfl
  ·exact hg
  ·exact hh)
 obtain⟨hs1,-⟩ := hf 1 (by decide) (by decide)
 have hds:=yF n (by omega)
 have c1:pComma.size=1:=rfl
 have c2:wSend.size=4:=rfl
 have c3:[g,h].length=2:=rfl
 have a4:tsz []=0:=rfl
 rw[c3] at hz;exact jdS (l:=[wSend,zQ full f 1,pComma,bs (qG n),pComma,zN full [g,h]]) (by simp only[wA];omega)
theorem jk2 (full:Bool) (m:Nat) (hm:m<=100000000) (c b:Nt) (hc:SHz full m c) (hb:BKz full m b):STz full (2*m+40) (.mk 3 0 eB [c,b]):=by
 obtain⟨hs1,-⟩ := hc 1 (by decide) (by decide)
 obtain⟨hs2,-⟩ := hb
 have c2:wWhile.size=5:=rfl
 have a4:tsz []=0:=rfl
 exact jdS (l:=[wWhile,zQ full c 1,nP full b]) (by simp only[wA];omega)
theorem jk0 (full:Bool) (m:Nat) (hm:m<=50000000) (c b d:Nt) (hc:SHz full m c) (hb:BKz full m b) (hd:BKz full m d):STz full (3*m+60) (.mk 2 0 eB [c,b,d]):=by
 obtain⟨hs1,-⟩ := hc 1 (by decide) (by decide)
 obtain⟨hs2,-⟩ := hb
 obtain⟨hs3,-⟩ := hd
 have c2:wIf.size=2:=rfl
 have c3:wElse.size=4:=rfl
 have a4:tsz []=0:=rfl
 have e:bL full (.mk 2 0 eB [c,b,d])=if 0<d.kids.length then qR [qR [wIf,zQ full c 1,nP full b],wElse,nP full d] else qR [wIf,zQ full c 1,nP full b]:=rfl
 have h1:=bZ [wIf,zQ full c 1,nP full b]
 simp only[wA] at h1;unfold STz;rw[e]
 split
 ·exact jdS (by simp only[wA];omega)
 ·exact⟨by omega,trivial⟩
theorem bkz (full:Bool) (m:Nat) (hm:m<=1000000) (l:List Nt) (hl:l.length<=3) (hf:∀ f ∈ l,STz full m f):BKz full (3*m+10) (qD l):=by
 have hsz:∀ j,j<=l.length->(bkL full (l.take j)).size<=j*(m+1)+1:=fun j hj=>by
  induction j with
  | zero =>
   have:pLb.size=1:=rfl
   rw[List.take_zero]
   show pLb.size<=_
   omega
  | succ j ih =>
   have:=ih (by omega)
   rw[List.take_succ_eq_append_getElem (by omega),jlL,Nat.succ_mul]
   have h1:=(hf (l[j]'(by omega)) (List.getElem_mem _)).1
   have h2:=jB (bkL full (l.take j)) (bL full (l[j]'(by omega)))
   omega
 have h:=hsz l.length (Nat.le_refl _)
 rw[List.take_length] at h
 have h3:l.length*(m+1)<=3*(m+1):=Nat.mul_le_mul_right _ hl
 have c:pRb.size=1:=rfl
 refine⟨?_,trivial⟩;unfold qD;rw[jhD,ByteArray.size_append];omega
theorem jsN (full:Bool) {d:Nat} {f:Nt} (h:ES d f):cS d<=1000000->STz full (cS d) f:=by
 have i0:cI 0=14:=rfl
 have i1:cI 1=48:=rfl
 have i2:cI 2=116:=rfl
 have i3:cI 3=252:=rfl
 have hI:∀ {e:Nat} {f:Nt},EI e f->e<=2->SHz full 252 f:=fun {e f} h he=>by
  rcases (by omega:e=0 ∨ e=1 ∨ e=2) with rfl | rfl | rfl
  ·exact (jbt full h (by decide)).mono (by decide)
  ·exact (jbt full h (by decide)).mono (by decide)
  ·exact (jbt full h (by decide)).mono (by decide)
 have hB:∀ {e:Nat} {f:Nt},EB e f->e=1 ∨ e=2->SHz full 252 f:=fun {e f} h he=>by
  rcases he with rfl | rfl
  ·exact (jnE full h (by decide)).mono (by decide)
  ·exact (jnE full h (by decide)).mono (by decide)
 have one:∀ {f:Nt},SHz full 252 f -> ∀ x ∈ [f],SHz full 252 x:=fun {f} h x hx=>by rw[List.mem_singleton.1 hx];exact h
 have two:∀ {f g:Nt},SHz full 252 f->SHz full 252 g -> ∀ x ∈ [f,g],SHz full 252 x:=fun {f g} h k x hx=>by
  rcases List.mem_cons.1 hx with rfl | hx
  ·exact h
  ·rw[List.mem_singleton.1 hx];exact k
 induction h with
 | asg d e s f hs h he=>exact fun _=>(u9 full 1 (.inl rfl) s (ja2 s hs) 252 (by decide) [f] (by simp) (one (hI h he))).mono (Nat.le_trans (by decide) (y9 d))
 | snd d n f g h hn h1 h2 h3=>exact fun _=>(jk1 full n (by omega) 252 (by decide) f g h (hI h1 (by decide)) (hI h2 (by decide)) (hI h3 (by decide))).mono (Nat.le_trans (by decide) (y9 d))
 | tim d n hn=>exact fun _=>(jeT full 5 (.inl rfl) n (by omega)).mono (Nat.le_trans (by decide) (y9 d))
 | can d n hn=>exact fun _=>(jeT full 6 (.inr rfl) n (by omega)).mono (Nat.le_trans (by decide) (y9 d))
 | syn d=>exact fun _=>(jeU full 7 (.inl rfl)).mono (Nat.le_trans (by decide) (y9 d))
 | rep d f g h1 h2=>exact fun _=>(u9 full 8 (.inr (.inl rfl)) eB (by decide) 252 (by decide) [f,g] (by simp) (two (hI h1 (by decide)) (hI h2 (by decide)))).mono (Nat.le_trans (by decide) (y9 d))
 | fai d f h1=>exact fun _=>(u9 full 9 (.inr (.inr rfl)) eB (by decide) 252 (by decide) [f] (by simp) (one (hI h1 (by decide)))).mono (Nat.le_trans (by decide) (y9 d))
 | stp d=>exact fun _=>(jeU full 10 (.inr rfl)).mono (Nat.le_trans (by decide) (y9 d))
 | whi d c l h1 h2 h3 ih =>
  intro hc
  have e:cS (d+1)=700+3*(3*cS d+10):=rfl
  rw[e] at hc ⊢
  have hge:=y9 d
  have hb:=bkz full (cS d) (by omega) l (by omega) (fun s hs=>ih s hs (by omega))
  exact (jk2 full (3*cS d+10) (by omega) c (qD l) ((hB h1 (.inl rfl)).mono (by omega)) hb).mono (by omega)
 | iff d c l m h1 h2 h3 h4 h5 ih1 ih2 =>
  intro hc
  have e:cS (d+1)=700+3*(3*cS d+10):=rfl
  rw[e] at hc ⊢
  have hge:=y9 d
  have hb:=bkz full (cS d) (by omega) l (by omega) (fun s hs=>ih1 s hs (by omega))
  have hb2:=bkz full (cS d) (by omega) m (by omega) (fun s hs=>ih2 s hs (by omega))
  exact (jk0 full (3*cS d+10) (by omega) c (qD l) (qD m) ((hB h1 (.inr rfl)).mono (by omega)) hb hb2).mono (by omega)
theorem jrj (full:Bool) {b:Nt} (h:EK b):BKz full 300000 b:=by
 obtain⟨k,rfl,h1,h2⟩ := h
 have e2:cS 2=80200:=rfl
 exact (bkz full (cS 2) (by omega) k h1 (fun s hs=>jsN full (h2 s hs) (by omega))).mono (by omega)
theorem hdz (full:Bool) (h:Int × Nt) (hn:0<=h.1/\h.1<40) (hb:BKz full 300000 h.2):(hdN full h).size<=400000:=by
 obtain⟨hs1,-⟩ := hb
 have hw:(hdW h.1).size<=20:=by
  unfold hdW
  have a1:wRequest.size=7:=rfl
  have a2:wMsgS.size=8:=rfl
  have a3:wTimS.size=6:=rfl
  have a4:wStart.size=5:=rfl
  have d1:=yF (h.1-10).toNat (by omega)
  have d2:=yF (h.1-2).toNat (by omega)
  repeat' split
  all_goals (try simp only[ByteArray.size_append]);omega
 have c:wOn.size=2:=rfl
 have a4:tsz []=0:=rfl
 exact (jdS (l:=[wOn,hdW h.1,nP full h.2]) (by simp only[wA];omega)).1
structure PUz (u:Ut):Prop where
 du:u.du.length<=20 /\ ∀ x ∈ u.du,x.size<=100
 vo:u.vo.length<=20 /\ ∀ x ∈ u.vo,x.size<=100
 on:u.on.length<=4
 hd:∀ full,∀ h ∈ u.on,(hdN full h).size<=400000/\True
theorem GU.puz {u:Ut} (h:GU u):PUz u:=by
 obtain⟨h1,h2,h3,h4,h5⟩ := h
 refine⟨by rw[h1];decide,by rw[h2];decide,by omega,fun full x hx => ?_⟩
 obtain⟨g1,g2,g3⟩ := h3 x hx
 exact⟨hdz full x ⟨g1,g2⟩ (jrj full g3),trivial⟩
theorem jkX {u:Ut} (h:PUz u):(prF u).size<=2000000/\True:=by
 have n1:=jgr wDurable u.du h.du.1 h.du.2 (by decide)
 have n2:=jgr wVolatile u.vo h.vo.1 h.vo.2 (by decide)
 have ho:=h.on
 have hm:u.on.length*400001<=4*400001:=Nat.mul_le_mul_right _ ho
 have s1:=jcG false (nmF wDurable u.du++nmF wVolatile u.vo) u.on (fun x hx=>(h.hd false x hx).1)
 rw[ByteArray.size_append] at s1;unfold prF;exact⟨by omega,trivial⟩
def fE (a b:ByteArray):ByteArray:=if a = ⟨#[]⟩ ∨ b = ⟨#[]⟩ ∨ zY (gX a)=false ∨ zY (qL b)=false then ⟨#[]⟩ else ⟨#[32]⟩
theorem iV {a b:ByteArray} (h:a.data.toList=b.data.toList):a=b:=ByteArray.ext (Array.toList_inj.1 h)
theorem rQ (a b:ByteArray):(a++b).data.toList=a.data.toList++b.data.toList:=by simp
theorem bQ (a:ByteArray):a ++ ⟨#[]⟩ = a:=iV (by simp)
theorem jmL (a:ByteArray) : ⟨#[]⟩ ++ a=a:=iV (by simp)
theorem jlJ {a:ByteArray} : a ≠ ⟨#[]⟩ ↔ a.data.toList ≠ []:=by
 constructor
 ·intro h e;exact h (iV e)
 ·rintro h rfl;exact h rfl
theorem o8 (a b c:ByteArray):a++b++c=a++(b++c):=iV (by simp)
theorem kY (a b:ByteArray):jA a b=a++fE a b++b:=by
 unfold jA fE
 split
 ·rename_i h;rw[if_pos (.inl h),bQ]
 split
 ·rename_i h;rw[if_pos (.inr (.inl h)),bQ]
 split
 ·rename_i h;rw[if_pos (.inr (.inr (.inl h))),bQ]
 split
 ·rename_i h;rw[if_pos (.inr (.inr (.inr h))),bQ]
 ·rename_i h1 h2 h3 h4
  rw[if_neg (by rintro (h | h | h | h) <;> contradiction)]
theorem jlA {a b:ByteArray} (h:b ≠ ⟨#[]⟩):a++b ≠ ⟨#[]⟩ := by
 rw[jlJ] at h ⊢;rw[rQ];intro e;exact h (List.append_eq_nil_iff.1 e).2
theorem jfb {a b:ByteArray} (h:a ≠ ⟨#[]⟩):a++b ≠ ⟨#[]⟩ := by
 rw[jlJ] at h ⊢;rw[rQ];intro e;exact h (List.append_eq_nil_iff.1 e).1
theorem ja0 (a:ByteArray):a.size=a.data.toList.length:=by rw[Array.length_toList];rfl
theorem ji2 (a:ByteArray) {b:ByteArray} (h:b ≠ ⟨#[]⟩):gX (a++b)=gX b:=by
 have hb:=wH h
 unfold gX;rw[ja0] at hb;rw[ja0,ja0,rQ,List.getD_eq_getElem?_getD,List.getD_eq_getElem?_getD,List.length_append,List.getElem?_append_right (by omega)]
 congr 2
 omega
theorem tJ {a:ByteArray} (b:ByteArray) (h:a ≠ ⟨#[]⟩):qL (a++b)=qL a:=by
 have ha:=wH h
 unfold qL;rw[ja0] at ha;rw[rQ,List.getD_eq_getElem?_getD,List.getD_eq_getElem?_getD,List.getElem?_append_left ha]
theorem r8 {a b:ByteArray} (h:b ≠ ⟨#[]⟩):jA a b ≠ ⟨#[]⟩ := by rw[kY];exact jlA h
theorem i7 {a b:ByteArray} (h:a ≠ ⟨#[]⟩):jA a b ≠ ⟨#[]⟩ := by rw[kY,o8];exact jfb h
theorem zG (a b c:ByteArray) (hb:b ≠ ⟨#[]⟩):jA (jA a b) c=jA a (jA b c):=by
 have e1:fE (jA a b) c=fE b c:=by
  have h1:gX (jA a b)=gX b:=by rw[kY];exact ji2 _ hb
  unfold fE;rw[h1];simp only[r8 (a:=a) hb,hb,false_or]
 have e2:fE a (jA b c)=fE a b:=by
  have h1:qL (jA b c)=qL b:=by rw[kY,o8];exact tJ _ hb
  unfold fE;rw[h1];simp only[i7 (b:=c) hb,hb,false_or]
 rw[kY (jA a b) c,e1,kY a (jA b c),e2,kY a b,kY b c];simp only[o8]
theorem yP (a b:ByteArray) (h:zY (qL b)=false):jA a b=a++b:=by
 rw[kY];unfold fE;rw[if_pos (.inr (.inr (.inr h))),bQ]
theorem jaM (a b:ByteArray) (h:zY (gX a)=false):jA a b=a++b:=by
 rw[kY];unfold fE;rw[if_pos (.inr (.inr (.inl h))),bQ]
theorem xB (s b:ByteArray):jA (jA (jA s ⟨#[40]⟩) b) ⟨#[41]⟩ = jA s (⟨#[40]⟩ ++ b ++ ⟨#[41]⟩):=by
 rw[zG s _ b (by decide),zG s _ _ (i7 (by decide)),jaM ⟨#[40]⟩ b (by decide),yP _ ⟨#[41]⟩ (by decide)]
end Go.Proofs.YtfbkolllpencnaaGreatDoor.Vm
namespace Go.Proofs.YtfbkolllpencnaaGreatDoor.Vm
open Go.RowKit
section
structure jdM (P:Program) (f:Nat) (ins:List (List A)) (e k n:Nat) (cs args:List A) (post:List (List A)->Nat->List A->A->Prop):Prop where
 r:fK P f ins e k n cs args post
 d:∀ u,jdN (ClD P f u u) ins e k n cs args post fun _=>False
section
variable {c:Cx} {s:S}
theorem sW {f:Nat} {fn:Func} {x:Code} {ins:List (List A)} {e k n:Nat} {cs args:List A} {post:List (List A)->Nat->List A->A->Prop} (hc:c.ok) (hq:∀ ch s,¬ c.pan ch s) (hf:c.P.funcs[f]? = some fn) (hb:fn.body=some x) (hname:(fn.name == "runtime.NumGoroutine")=false)
  (hn:ins.length=c.np) (hord:kR c.ord x=true) (h:nW args->xP args (fn.ntmps-args.length) fun t=>uB c x ⟨t,ins,[.live e k n cs]⟩ (jp2 c e k fn.results.toList post)):jdM c.P f ins e k n cs args post:=by
 refine⟨jbv hc (fun ch s h=>hq ch s h) hf hb hname hn hord h,fun u w C β vals y xs h0 h1 h2 h3 h4 h5 h6 h7 h8 h9 => ?_⟩;unfold ClD
 refine CallsD.mono (callsD_of_wp hf hb (R:=fun e' w' => (∃ (outs:List (List A)) (n':Nat) (cs':List A) (r:A) (v y':Value) (xs':List Value) (C':Rd),e' = .returned v/\post outs n' cs' r/\Keeps (β++(blk y).toList) w w'/\Sub C C'/\Sub C' (kS w')/\(∀ ad u,C' ad=some u->C ad=some u ∨ w.heap.size<=ad.block ∨ blk y=some ad.block)/\outs.length=β.length ∧
   (∀ (i b:Nat) (cs:List A),β[i]? = some b->outs[i]? = some cs->boxAt w' ⟨C',β,[y']⟩ b cs)/\owR w' e k y' n' xs'/\A.repC cs' ⟨C',[],[]⟩ xs'/\(∀ b,blk y'=some b->(∀ o sp,C' ⟨b,o,sp⟩ = none)/\(w.heap.size<=b ∨ blk y=some b))/\r.rep ⟨C',β,[y']⟩ v) ∨
   ∃ (ch:List PanicEntry) (ns:List Nat),e' = .panicked ch/\False/\Keeps (β++(blk y).toList) w w'/\ns.length=β.length /\ ∀ (i b n:Nat),β[i]? = some b->ns[i]? = some n->boxAt w' ⟨C,β,[]⟩ b (List.replicate n .dead)) ?_) fun e m w' hh=>hh
 have hinit:=initK_iff.1 (h (wU _ h9))
 have hinit:=kI hc hord hinit
 have hinv:=mZ (nt:=fn.ntmps) h0 h1 h2 h3 h4 h5 h6 h7 h8 h9
 unfold Ok OkD at hinit;refine hinit ⟨w,(blk y).toList⟩ C β _ w _ (by rw[<- h4,hn]) hinv (fun ch s' a' w' hpan hi=>absurd hpan (hq ch s')) ?_
 have fin:∀ (s':S) (a':Act) (w':World),(∃ g,jgP c e k g fn.results.toList post s')->Inv [] ⟨w,(blk y).toList⟩ C β s' a' w'->_:=fun s' a' w' ⟨g,hr⟩ hi=>jeb (w:=w) (C:=C) (β:=β) (s':=s') (a':=a') (w':=w') (fn:=fn) (post:=post) (y:=y) hc (by rw[<- h4,hn]) hr hi
 intro e1 s' a' w' hq hi
 cases e1 with
 | normal=>obtain⟨k1,v,k2,k3⟩ := fin s' a' w' hq hi;exact⟨k1,v,k2,.inl k3⟩
 | ret=>obtain⟨k1,v,k2,k3⟩ := fin s' a' w' hq hi;exact⟨k1,v,k2,.inl k3⟩
 | _=>exact hq.elim
@[irreducible] def joJ (P:Program) (f:Nat) (args:List A) (s:S) (K:S->Prop):Prop :=
 (∀ vs w,(callFunc f vs).run P w = .ok (.enter f vs) w) ∧
 ∃ (X ids:List Nat) (g e k n:Nat) (cs:List A) (ins:List (List A)) (args':List A) (post:List (List A)->Nat->List A->A->Prop),X.Nodup/\(∀ i ∈ X,i<s.bx.length)/\(jC s.rw ids)[g]? = some (.live e k n cs) ∧
  aR X g (jC s.rw ids) (X.map fun i=>s.bx.getD i [])=some ins/\kC X g (jC s.rw ids) args=some args'/\(nW args'->jdN (ClD P f .returning .returning) ins e k n cs args' post fun _=>False) ∧
  ∀ outs n' cs' r,post outs n' cs' r->outs.length=X.length->fA X s.rw.length s.bx X outs fun bx' => zM (backG X s.rw.length r) fun r' => qB ((jC s.rw ids).set g .gone++[.live e k n' cs']) fun rw' => wD s bx' rw' K
def yI (c:Cx) (e k:Nat) (rv:List ResultVar) (post:List (List A)->Nat->List A->A->Prop):List (Nat × List A)->S->Prop
 | [],s => ∃ g,jgP c e k g rv post s
 | (f,args) :: r,s=>joJ c.P f args s fun s' => yI c e k rv post r s'
theorem jaX {w0:W0} {C0:Rd} {β0:List Nat} {e k:Nat} {fn:Func} {post:List (List A)->Nat->List A->A->Prop} {R:Ending->World->Prop} {tmps:Array Value} (hfin:∀ s' w',(∃ g,jgP c e k g fn.results.toList post s')->Inv [] w0 C0 β0 s' { tmps:=tmps,defers:=[] } w' -> ∃ v,(results fn tmps).run c.P w' = .ok v w'/\R (.returned v) w') :
  ∀ (dr:List (Nat × List A)) (ds:List Deferred) (s:S) (E:Env) (w:World),repD dr E ds->Hp w0 C0 β0 s.bx s.rw w E->A.repL s.t E tmps.toList->yI c e k fn.results.toList post dr s->Leaves c.P fn tmps R ds .returning w
 | [],ds,s,E,w,hd,hp,ht,h=>by
  obtain rfl:ds=[]:=hd
  exact hfin s w h ⟨E,hp,ht,rfl⟩
 | (f,args) :: r,ds,s,E,w,⟨d,ds',cap,hds,htg,hargs,hrest⟩,hp,ht,h=>by
  subst hds;unfold yI joJ at h
  obtain⟨hcall,X,ids,g,e0,k0,n0,cs0,ins,args',post',hn,hX,hg,hins,hargs',hspec,hk⟩ := h
  obtain⟨-,hcx⟩ := jfp (pan:=fun _ _=>False) (Xr:=fun _=>true) (K:=fun _ s' => yI c e k fn.results.toList post r s') (Cl:=ClD c.P f .returning .returning) ClD.mono hp hargs rfl hn (fun _ _=>rfl) hX hg hins hargs' hspec (fun outs n' cs' r hp hl=>hk outs n' cs' r hp hl) (fun ch bx' h _ _=>h.elim)
  obtain⟨t,da⟩ := d
  simp only at htg hargs hcx
  subst htg;refine leaves_cons (f:=f) (args:=da++cap) (by simp) (by simp[invoke,hcall]) ?_
  have hcx':CallsD c.P f (da++cap) .returning w fun e' m w' => m = .returning/\((∃ y,e' = .returned y/\Left w0 C0 β0 (fun _=>true) s E w (fun _ s' => yI c e k fn.results.toList post r s') y w') ∨ ∃ (ch:List PanicEntry) (s':S) (E':Env),e' = .panicked ch/\False/\s'.t=s.t/\E.le E'/\Hp w0 C0 β0 s'.bx s'.rw w' E'):=hcx
  refine CallsD.mono hcx' ?_;rintro e' m w' ⟨rfl,⟨y,rfl,⟨⟨r0,s',E',h1,h2,h3,h4,h5,_⟩⟩⟩ | ⟨ch,s',E',_,h,_⟩⟩
  ·exact jaX hfin r ds' s' E' w' (hrest.mono h3) h4 (by rw[h2];exact A.repL.mono _ h3 ht) h1
  ·exact h.elim
theorem kV {f:Nat} {fn:Func} {x:Code} {ins:List (List A)} {e k n:Nat} {cs args:List A} {post:List (List A)->Nat->List A->A->Prop} (hc:c.ok) (hf:c.P.funcs[f]? = some fn) (hb:fn.body=some x) (hname:(fn.name == "runtime.NumGoroutine")=false)
  (hn:ins.length=c.np) (h:nW args->xP args (fn.ntmps-args.length) fun t=>s8 c.P c.np (fun _ _ _=>False) (fun dr ex s=>(ex = .normal ∨ ex = .ret)/\yI c e k fn.results.toList post dr s) [] x ⟨t,ins,[.live e k n cs]⟩):fK c.P f ins e k n cs args post:=by
 refine⟨aJ hf hb hname,fun w C β vals y xs h0 h1 h2 h3 h4 h5 h6 h7 h8 h9 => ?_⟩;refine calls_of_wp_defers hf hb ?_
 have hinit:=initK_iff.1 (h (wU _ h9))
 have hinv:=mZ (nt:=fn.ntmps) h0 h1 h2 h3 h4 h5 h6 h7 h8 h9
 unfold s8 at hinit;refine hinit ⟨w,(blk y).toList⟩ C β _ w _ (by rw[<- h4,hn]) hinv (fun dr ch s' a' w' hl _=>hl.elim) (fun dr ex s' a' w' hl ⟨E,hp,ht,hd⟩ => ?_)
 have key:=jaX (c:=c) (e:=e) (k:=k) (fn:=fn) (post:=post) (tmps:=a'.tmps) (R:=fun e' w' => (∃ (outs:List (List A)) (n':Nat) (cs':List A) (r:A) (v y':Value) (xs':List Value) (C':Rd),e' = .returned v/\post outs n' cs' r/\Keeps (β++(blk y).toList) w w'/\Sub C C'/\Sub C' (kS w')/\(∀ ad u,C' ad=some u->C ad=some u ∨ w.heap.size<=ad.block ∨ blk y=some ad.block)/\outs.length=β.length ∧
   (∀ (i b:Nat) (cs:List A),β[i]? = some b->outs[i]? = some cs->boxAt w' ⟨C',β,[y']⟩ b cs)/\owR w' e k y' n' xs'/\A.repC cs' ⟨C',[],[]⟩ xs'/\(∀ b,blk y'=some b->(∀ o sp,C' ⟨b,o,sp⟩ = none)/\(w.heap.size<=b ∨ blk y=some b))/\r.rep ⟨C',β,[y']⟩ v) ∨
   ∃ (ch:List PanicEntry) (ns:List Nat),e' = .panicked ch/\False/\Keeps (β++(blk y).toList) w w'/\ns.length=β.length /\ ∀ (i b n:Nat),β[i]? = some b->ns[i]? = some n->boxAt w' ⟨C,β,[]⟩ b (List.replicate n .dead))
  (fun s2 w2 ⟨g,hr⟩ hi=>by
   obtain⟨-,v,q1,q2⟩ := jeb (w:=w) (C:=C) (β:=β) (fn:=fn) (post:=post) (y:=y) hc (by rw[<- h4,hn]) hr hi
   exact⟨v,q1,.inl q2⟩) dr a'.defers s' E w' hd hp ht hl.2
 rcases hl.1 with rfl | rfl
 ·exact key
 ·exact key
end
section
variable {c:Cx} {P:Program} {np:Nat} {pt:List (Nat × List A)->List PanicEntry->S->Prop} {qt:List (Nat × List A)->Exit->S->Prop} {dr:List (Nat × List A)} {s:S}
theorem xJ {x y:Code} (h:s8 P np pt (fun dr' e s' => tQ P np pt qt dr' y e s') dr x s):s8 P np pt qt dr (.seq x y) s:=by
 unfold s8 at h ⊢;intro w0 C0 β0 a w Q hn hi hx hk;refine wp_seq (h w0 C0 β0 a w _ hn hi (fun dr' ch s' a' w' h1 h2=>hx dr' ch s' a' w' h1 h2) fun dr' e s' a' w' h1 h2 => ?_)
 cases e with
 | normal =>
  have h1:s8 P np pt qt dr' y s':=h1
  unfold s8 at h1;exact h1 w0 C0 β0 a' w' Q hn h2 hx hk
 | _=>exact hk dr' _ _ _ _ h1 h2
theorem xE {b:Operand} {x y:Code} (hb:ev s b = .v (.bool true)) (h:s8 P np pt qt dr x s):s8 P np pt qt dr (.cond b x y) s:=by
 unfold s8 at h ⊢;rintro w0 C0 β0 a w Q hn ⟨E,hp,ht,hd⟩ hx hk
 have hv:=(kJ ht hb).1
 exact wp_cond_split hv (fun _=>h w0 C0 β0 a w Q hn ⟨E,hp,ht,hd⟩ hx hk) (fun e=>by cases e)
def jqw (s:S) (ids:List Nat) (fo:Operand) (xs:List Operand) (K:Nat->List A->S->Prop):Prop :=
 match s with
 | ⟨t,bx,rw⟩=>qB (jC rw ids) fun rw' => nV (eM rw') t fun t' => jbx rw' bx fun bx' => match ev ⟨t',bx',rw'⟩ fo with
  | .clo f caps=>nV (ev ⟨t',bx',rw'⟩) xs fun l=>K f (l++caps) ⟨t',bx',rw'⟩
  | _=>False
theorem zJ {id:Nat} {l:List Oper} {od:Oper} {fo:Operand} {xs:Array Operand} {ts:Array TypeId} (ids:List Nat) (hc:c.ok) (hdr:∃ n,yM n dr=true) (hp:∀ ch s',c.pan ch s'->pt dr ch s') (hop:od.op = .defer ⟨.value fo,xs,ts⟩) (hg:od.guard=none) (hd:od.dst=none)
  (h:mR c (l++[od]) l s fun s' => jqw s' ids fo xs.toList fun f args s'' => qt ((f,args) :: dr) .normal s''):s8 c.P c.np pt qt dr (.region id (l++[od]).toArray false) s:=by
 unfold s8;intro w0 C0 β0 a w Q hn hi hx hk;refine wp_region_lit (u6 (l2:=[od]) (Q:=Q) hc hdr (fun ch s' a' w' h1 h2=>hx dr ch s' a' w' (hp ch s' h1) h2) hi h fun s' a' w' h1 h2 => ?_)
 refine wpList_step fun Kc hKc => ?_
 rw[if_pos (by simp[Region.wanted,hg])]
 obtain⟨t,bx,rw'⟩ := s'
 unfold jqw at h1
 simp only at h1
 rw[q8,qO,lS] at h1
 have hle:Le (β0.length) ⟨t,bx,rw'⟩ _:=(ji4 (np:=β0.length) (s:=⟨t,bx,rw'⟩) ids).trans ji5
 -- publishing keeps what is deferred
 obtain⟨E,hpp,ht,hdd⟩ := h2
 obtain⟨C',hp1,le1⟩ := hpp.pubs ids
 have ht1:=iO (E:=⟨C',E.β,E.ρ⟩) hp1 (A.repL.mono _ le1 ht)
 have hd1:=hdd.mono le1
 have hp2:Hp w0 C0 β0 (bx.map fun c=>c.map (eM (jC rw' ids))) (jC rw' ids) w' ⟨C',E.β,E.ρ⟩ := by
  refine⟨hp1.sub,hp1.base,hp1.fresh,hp1.bp,hp1.bnd,hp1.bC,by simpa using hp1.bl,fun i b cs h1 h2 => ?_,hp1.rl,hp1.rws,hp1.rC,hp1.rd,hp1.rs,hp1.keep,hp1.gk⟩;rw[List.getElem?_map,Option.map_eq_some_iff] at h2
  obtain⟨c0,h2,rfl⟩ := h2
  obtain⟨T',arr,h3,h4⟩ := hp1.bxs i b c0 h1 h2
  exact⟨T',arr,h3,h4.map (eM (jC rw' ids)) (fun l us k=>iO (E:=⟨C',E.β,E.ρ⟩) hp1 k) rfl (fun t=>rfl) fun a t e=>by
   unfold eM at e
   split at e
   ·split at e <;> cases e
   ·exact e⟩
 split at h1
 ·rename_i f caps hev
  rw[qO] at h1
  have hf:=jQ (s:=⟨t.map (eM (jC rw' ids)),bx.map fun c=>c.map (eM (jC rw' ids)),jC rw' ids⟩) ht1 fo
  rw[hev] at hf;unfold A.rep at hf
  obtain⟨us,hf,hcaps⟩ := hf
  have hrun:(execOp a'.eval od).run c.P w' = .ok (.defer { target := .fn (.func f) us,args:=xs.map a'.eval }) w':=by simp[execOp,hop,resolve,Deferred.ofValue,hf,Result.andThen]
  unfold Oper.wp;rw[hrun,Oper.upon_defer];rw[hd];refine hKc _ _ (hk _ _ _ _ _ h1 ⟨⟨C',E.β,E.ρ⟩,hp2,ht1,{ target := .fn (.func f) us,args:=xs.map a'.eval },a'.defers,us,rfl,rfl,?_,hd1⟩)
  have:=A.repL_append (gU (s:=⟨t.map (eM (jC rw' ids)),bx.map fun c=>c.map (eM (jC rw' ids)),jC rw' ids⟩) ht1 xs.toList) hcaps
  simpa using this
 ·exact h1.elim
end
theorem cE {P:Program} {f:Nat} {args args':List A} {s:S} {K:S->Prop} {post:List (List A)->Nat->List A->A->Prop} (i g m:Nat) (ids:List Nat) (hm:s.rw.length=m) {e k n:Nat} {cs c0 c1:List A} (hi:s.bx[i]? = some c0) (hg:(jC s.rw ids)[g]? = some (.live e k n cs)) (h1:kC [i] g (jC s.rw ids) c0=some c1) (h2:kC [i] g (jC s.rw ids) args=some args') (hs:jdM P f [c1] e k n cs args' post)
  (hk:∀ o n' cs' r,post [o] n' cs' r->fA [i] m s.bx [i] [o] fun bx' => zM (backG [i] m r) fun r' => qB ((jC s.rw ids).set g .gone++[.live e k n' cs']) fun rw' => wD s bx' rw' K):joJ P f args s K:=by
 subst hm;unfold joJ
 have hil:=(List.getElem?_eq_some_iff.1 hi).1
 refine⟨hs.r.1,[i],ids,g,e,k,n,cs,[c1],args',post,by simp,by simpa using hil,hg,?_,h2,fun _=>hs.d .returning,fun outs n' cs' r hp hl => ?_⟩
 ·have:s.bx.getD i []=c0:=by simp[List.getD_eq_getElem?_getD,hi]
  simp only[List.map_cons,List.map_nil,this,aR,h1]
 ·obtain⟨o,rfl⟩ : ∃ o,outs=[o]:=List.length_eq_one_iff.1 (by simpa using hl)
  exact hk o n' cs' r hp
end
end Go.Proofs.YtfbkolllpencnaaGreatDoor.Vm
namespace Go.Proofs.YtfbkolllpencnaaGreatDoor.Vm
open Go.RowKit Go.Shelf
theorem jdF (c:UInt8):Spec Tryz.prog 46 [] [.v (.int .u8 (c.toNat:Int))] fun _ r=>r=wY (zY c):=by
 have hm:0<=(c.toNat:Int)/\(c.toNat:Int)<=255:=by have:=c.toNat_lt;omega
 unfold zY isL xD;generalize (c.toNat:Int)=n at *;refine eN jH jT 0 Tryz.func46 rfl ?_;intro _;conv=>whnf
 by_cases h1:97<=n
 ·rw[j8 h1];conv=>whnf
  by_cases h2:n<=122
  ·rw[j8 h2];conv=>whnf
   rfl
  ·rw[jW h2];conv=>whnf
   rw[j8 (show 48<=n by omega)];conv=>whnf
   rw[jW (show ¬ n<=57 by omega)];conv=>whnf
   rfl
 ·rw[jW h1];conv=>whnf
  by_cases h3:48<=n
  ·rw[j8 h3];conv=>whnf
   rcases Decidable.em (n<=57) with h4 | h4
   ·rw[j8 h4];conv=>whnf
    rfl
   ·rw[jW h4];conv=>whnf
    rfl
  ·rw[jW h3];conv=>whnf
   rfl
def mL:Nat:=71
theorem rA:liesAt Tryz.prog Tryz.prog.depth mL (2 / Tryz.prog.cellsOf mL) 0 69 1=true:=by kernel_rfl
abbrev jdL (f:Nat) (ins:List (List A)) (s:ByteArray) (args:List A) (post:List (List A)->ByteArray->A->Prop):Prop :=
 jdM Tryz.prog f ins 5 0 s.size [.v (.string s)] args fun o n cs r => ∃ s',n=s'.size/\cs=[.v (.string s')]/\post o s' r
def fG (s:ByteArray) (l:List ByteArray):ByteArray:=l.foldl jA s
theorem jkY (s:ByteArray) (l:List ByteArray) (j:Nat) (h:j<l.length):fG s (l.take (j+1))=jA (fG s (l.take j)) l[j]:=by
 unfold fG;rw[List.take_succ_eq_append_getElem h,List.foldl_append];rfl
theorem jbd (s:ByteArray) (l:List ByteArray) (hll:l.length<=1000000) (hne:∀ x ∈ l,0<x.size) (hz:∀ j,(fG s (l.take j)).size<=1000000000):jdL 23 [[.adr mL,.own 0]] s [.box 0 0,.sl 1 l.length (bA l)] fun o s' r=>o=[[.adr mL,.own 0]]/\s'=fG s l/\r = .tup []:=by
 obtain⟨S,hS⟩ : ∃ S:Nat->ByteArray,∀ j,S j=fG s (l.take j):=⟨_,fun _=>rfl⟩
 have hS0:S 0=s:=by rw[hS];rfl
 have hSl:S l.length=fG s l:=by rw[hS,List.take_length]
 have hSz:∀ j,(S j).size<=1000000000:=fun j=>by rw[hS];exact hz j
 rw[<- hSl,<- hS0];refine sW (jD jH jT 1) (fun _ _ h=>h) Tryz.func23 rfl (by kernel_rfl) rfl (by kernel_rfl) ?_;intro _;conv=>whnf
 refine jO [0,1,7,8] ?_;conv=>whnf
 refine qA (fun j:Nat=>[(9,.v (.int .i64 j))]) (fun _=>[[.adr mL,.own 0]]) (fun j=>[.live 5 0 (S j).size [.v (.string (S j))]]) (fun j=>j<=l.length) (fun j=>l.length-j) 0 ?_ (Nat.zero_le _) ?_
 ·repeat' constructor
 rintro j hj;conv=>whnf
 by_cases hlt:j<l.length
 ·rw[j8 (show (j:Int)<(l.length:Int) by omega)]
  have hrow:jJ 1 j (bA l)=[jY l[j]]:=yX jY l j hlt
  have hx:=hne l[j] (List.getElem_mem hlt)
  have hSn:S (j+1)=jA (S j) l[j]:=by rw[hS,hS];exact jkY s l j hlt
  have hz1:=hSz j
  have hz2:=hSz (j+1)
  rw[hSn] at hz2;generalize l[j]=x at *;conv=>whnf
  refine⟨by omega,?_⟩;conv=>whnf
  (generalize hrq:jJ _ _ (bA l)=rq;obtain rfl:rq=[jY x]:=hrq.symm.trans (hrow);clear hrq;conv=>whnf)
  refine j7 0 0 1 [] (jkg mL (S j)) ?_;rintro o n' cs' r ⟨s',rfl,rfl,ho,rfl,rfl⟩;cases ho;conv=>whnf
  by_cases e0:S j = ⟨#[]⟩
  ·have hg:jA (S j) x=S j++x:=by unfold jA;rw[if_pos e0]
   have hs0:(S j).size=0:=by rw[e0];rfl
   rw[jW (show ¬ (0:Int)<((S j).size:Int) by omega)];rw[hg,ByteArray.size_append] at hz2;rw[hg] at hSn;conv=>whnf
   refine jak 0 1 2 [] rfl rfl rfl rfl rfl rfl rfl (fun _=>nQ mL rA _ x (by omega)) ?_;rintro o n' cs' r ⟨s',rfl,rfl,ho,hs',rfl⟩;cases ho;conv=>whnf
   refine⟨jV (by omega),?_⟩;conv=>whnf
   refine⟨j+1,jS [2] ?_,hlt,by omega⟩;conv=>whnf
   subst hs';rw[show S (j+1)=_ from hSn]
   repeat' constructor
  ·have hs0:=wH e0
   have h1:=jdF (gX (S j))
   have h2:=jdF (qL x)
   rw[j8 (show (0:Int)<((S j).size:Int) by omega)]
   have hgl:jA (S j) x=if zY (gX (S j))=false then S j++x else if zY (qL x)=false then S j++x else S j ++ ⟨#[32]⟩ ++ x:=by
    unfold jA;rw[if_neg e0,if_neg (fun e=>by rw[e] at hx;exact absurd hx (by decide))]
   conv=>whnf
   refine j7 0 1 2 [] (pA mL (S j) hs0) ?_;rintro o n' cs' r ⟨s',rfl,rfl,ho,rfl,rfl⟩;cases ho;conv=>whnf
   refine⟨jV (by omega),?_⟩;conv=>whnf
   refine⟨⟨by omega,by omega⟩,?_⟩;rw[show (S j).data.toList.getD (Int.toNat (((S j).size:Int)-1)) 0=gX (S j) from by unfold gX;congr 1;omega];generalize zY (gX (S j))=p at *
   (refine xV [] h1 ?_;rintro r rfl;conv=>whnf)
   cases p
   ·rw[if_pos rfl] at hgl;rw[hgl,ByteArray.size_append] at hz2;rw[hgl] at hSn;conv=>whnf
    refine jak 0 2 3 [] rfl rfl rfl rfl rfl rfl rfl (fun _=>nQ mL rA _ x (by omega)) ?_;rintro o n' cs' r ⟨s',rfl,rfl,ho,hs',rfl⟩;cases ho;conv=>whnf
    refine⟨jV (by omega),?_⟩;conv=>whnf
    refine⟨j+1,jS [3] ?_,hlt,by omega⟩;conv=>whnf
    subst hs';rw[show S (j+1)=_ from hSn]
    repeat' constructor
   ·rw[if_neg (by decide)] at hgl;conv=>whnf
    refine⟨⟨by omega,by omega⟩,?_⟩;rw[show x.data.toList.getD (Int.toNat 0) 0=qL x from rfl];generalize zY (qL x)=q at *
    (refine xV [] h2 ?_;rintro r rfl;conv=>whnf)
    cases q
    ·rw[if_pos rfl] at hgl;rw[hgl,ByteArray.size_append] at hz2;rw[hgl] at hSn;conv=>whnf
     refine jak 0 2 3 [] rfl rfl rfl rfl rfl rfl rfl (fun _=>nQ mL rA _ x (by omega)) ?_;rintro o n' cs' r ⟨s',rfl,rfl,ho,hs',rfl⟩;cases ho;conv=>whnf
     refine⟨jV (by omega),?_⟩;conv=>whnf
     refine⟨j+1,jS [3] ?_,hlt,by omega⟩;conv=>whnf
     subst hs';rw[show S (j+1)=_ from hSn]
     repeat' constructor
    ·rw[if_neg (by decide)] at hgl;rw[hgl,ByteArray.size_append,ByteArray.size_append] at hz2
     have hsp:(⟨#[32]⟩ : ByteArray).size=1:=rfl
     rw[hsp] at hz2;rw[hgl] at hSn;conv=>whnf
     refine j7 0 2 3 [] (je4 mL rA (S j) 32 (by omega) (by omega)) ?_;rintro o n' cs' r ⟨s',rfl,rfl,ho,hs',rfl⟩
     obtain rfl:s'=S j ++ ⟨#[32]⟩ := hs'
     cases ho;conv=>whnf
     refine jak 0 3 4 [] rfl rfl rfl rfl rfl rfl rfl (fun _=>nQ mL rA _ x (by rw[ByteArray.size_append,hsp];omega)) ?_;rintro o n' cs' r ⟨s',rfl,rfl,ho,hs',rfl⟩;cases ho;conv=>whnf
     refine⟨jV (by omega),?_⟩;conv=>whnf
     refine⟨j+1,jS [4] ?_,hlt,by omega⟩;conv=>whnf
     subst hs';rw[show S (j+1)=_ from hSn]
     repeat' constructor
 ·rw[jW (show ¬ (j:Int)<(l.length:Int) by omega)]
  obtain rfl:j=l.length:=by omega
  conv=>whnf
  refine⟨0,?_⟩;conv=>whnf
  exact⟨_,rfl,rfl,rfl,rfl,rfl⟩
theorem jnf (s x:ByteArray):fG s [x]=jA s x:=rfl
theorem jng (s x y:ByteArray):fG s [x,y]=jA (jA s x) y:=rfl
theorem jF (s x:ByteArray) (hx:0<x.size) (hz:s.size+x.size+1<=1000000000):jdL 23 [[.adr mL,.own 0]] s [.box 0 0,.sl 1 1 [jY x]] fun o s' r=>o=[[.adr mL,.own 0]]/\s'=jA s x/\r = .tup []:=by
 refine jbd s [x] (by simp) (by simpa using hx) fun j => ?_
 have:=jB s x
 match j with
 | 0=>show s.size<=_;omega
 | j+1=>show (fG s ([x].take (j+1))).size<=_;rw[show [x].take (j+1)=[x] by simp,jnf];omega
theorem yV (s x y:ByteArray) (hx:0<x.size) (hy:0<y.size) (hz:s.size+x.size+y.size+2<=1000000000):jdL 23 [[.adr mL,.own 0]] s [.box 0 0,.sl 1 2 [jY x,jY y]] fun o s' r=>o=[[.adr mL,.own 0]]/\s'=jA (jA s x) y/\r = .tup []:=by
 refine jbd s [x,y] (by simp) (by simpa using ⟨hx,hy⟩) fun j => ?_
 have h1:=jB s x
 have h2:=jB (jA s x) y
 match j with
 | 0=>show s.size<=_;omega
 | 1=>show (jA s x).size<=_;omega
 | j+2=>show (fG s ([x,y].take (j+2))).size<=_;rw[show [x,y].take (j+2)=[x,y] by simp,jng];omega
theorem sO (s x y z:ByteArray) (hx:0<x.size) (hy:0<y.size) (hw:0<z.size) (hz:s.size+x.size+y.size+z.size+3<=1000000000):jdL 23 [[.adr mL,.own 0]] s [.box 0 0,.sl 1 3 [jY x,jY y,jY z]] fun o s' r=>o=[[.adr mL,.own 0]]/\s'=jA (jA (jA s x) y) z/\r = .tup []:=by
 refine jbd s [x,y,z] (by simp) (by simpa using ⟨hx,hy,hw⟩) fun j => ?_
 have h1:=jB s x
 have h2:=jB (jA s x) y
 have h3:=jB (jA (jA s x) y) z
 match j with
 | 0=>show s.size<=_;omega
 | 1=>show (jA s x).size<=_;omega
 | 2=>show (jA (jA s x) y).size<=_;omega
 | j+3=>show (fG s ([x,y,z].take (j+3))).size<=_;rw[show [x,y,z].take (j+3)=[x,y,z] by simp];show (jA (jA (jA s x) y) z).size<=_;omega
def pS:Go.Shelf.Ren:=⟨fun | 129=>116 | 171=>25 | 243=>50 | 246=>76 | 283=>101 | 284=>102 | 285=>103 | 286=>104 | 317=>115 | 318=>117 | 319=>118 | 320=>119 | 337=>149 | 338=>150 | n=>n,fun | 37=>67 | 46=>174 | 51=>177 | 53=>147 | 171=>160 | 173=>163 | 212=>176 | 213=>178 | 232=>207 | 233=>208 | n=>n,fun | 17=>1 | 18=>4 | 19=>5 | n=>n⟩
theorem jc3:LaysM.n171 Tryz.prog pS where
 mixed:=by kernel_rfl
 f129:=Tryz.func116.trans (congrArg some (by kernel_rfl))
 f171:=Tryz.func25.trans (congrArg some (by kernel_rfl))
 f243:=Tryz.func50.trans (congrArg some (by kernel_rfl))
 f246:=Tryz.func76.trans (congrArg some (by kernel_rfl))
 f283:=Tryz.func101.trans (congrArg some (by kernel_rfl))
 f284:=Tryz.func102.trans (congrArg some (by kernel_rfl))
 f285:=Tryz.func103.trans (congrArg some (by kernel_rfl))
 f286:=Tryz.func104.trans (congrArg some (by kernel_rfl))
 f317:=Tryz.func115.trans (congrArg some (by kernel_rfl))
 f318:=Tryz.func117.trans (congrArg some (by kernel_rfl))
 f319:=Tryz.func118.trans (congrArg some (by kernel_rfl))
 f320:=Tryz.func119.trans (congrArg some (by kernel_rfl))
 f337:=Tryz.func149.trans (congrArg some (by kernel_rfl))
 f338:=Tryz.func150.trans (congrArg some (by kernel_rfl))
 t0:=Tryz.underlying0
 a0:=Tryz.isAgg0
 z0:=Tryz.sizeOf0
 v0:=Tryz.zeroValue0
 t2:=Tryz.underlying2
 a2:=Tryz.isAgg2
 z2:=Tryz.sizeOf2
 v2:=Tryz.zeroValue2
 t3:=Tryz.underlying3
 a3:=Tryz.isAgg3
 z3:=Tryz.sizeOf3
 v3:=Tryz.zeroValue3
 t4:=Tryz.underlying4
 a4:=Tryz.isAgg4
 z4:=Tryz.sizeOf4
 v4:=Tryz.zeroValue4
 t5:=Tryz.underlying5
 a5:=Tryz.isAgg5
 z5:=Tryz.sizeOf5
 v5:=Tryz.zeroValue5
 t9:=Tryz.underlying9
 a9:=Tryz.isAgg9
 z9:=Tryz.sizeOf9
 v9:=Tryz.zeroValue9
 t20:=Tryz.underlying20
 a20:=Tryz.isAgg20
 z20:=Tryz.sizeOf20
 v20:=Tryz.zeroValue20
 t37:=Tryz.underlying67
 a37:=Tryz.isAgg67
 z37:=Tryz.sizeOf67
 v37:=Tryz.zeroValue67
 t46:=Tryz.underlying174
 a46:=Tryz.isAgg174
 z46:=Tryz.sizeOf174
 v46:=Tryz.zeroValue174
 t51:=Tryz.underlying177
 a51:=Tryz.isAgg177
 z51:=Tryz.sizeOf177
 v51:=Tryz.zeroValue177
 t53:=Tryz.underlying147
 a53:=Tryz.isAgg147
 z53:=Tryz.sizeOf147
 v53:=Tryz.zeroValue147
 t171:=Tryz.underlying160
 a171:=Tryz.isAgg160
 z171:=Tryz.sizeOf160
 v171:=Tryz.zeroValue160
 t173:=Tryz.underlying163
 a173:=Tryz.isAgg163
 z173:=Tryz.sizeOf163
 v173:=Tryz.zeroValue163
 t212:=Tryz.underlying176
 a212:=Tryz.isAgg176
 z212:=Tryz.sizeOf176
 v212:=Tryz.zeroValue176
 t213:=Tryz.underlying178
 a213:=Tryz.isAgg178
 z213:=Tryz.sizeOf178
 t232:=Tryz.underlying207
 a232:=Tryz.isAgg207
 z232:=Tryz.sizeOf207
 v232:=Tryz.zeroValue207
 t233:=Tryz.underlying208
 a233:=Tryz.isAgg208
 z233:=Tryz.sizeOf208
 v233:=Tryz.zeroValue208
 g17:=by kernel_rfl
 g18:=by kernel_rfl
 g19:=by kernel_rfl
 i0:=by kernel_rfl
 i2:=by kernel_rfl
 i3:=by kernel_rfl
 i4:=by kernel_rfl
 i5:=by kernel_rfl
 i9:=by kernel_rfl
 i20:=by kernel_rfl
 i37:=by kernel_rfl
 i46:=by kernel_rfl
 i51:=by kernel_rfl
 i53:=by kernel_rfl
 i171:=by kernel_rfl
 i173:=by kernel_rfl
 i212:=by kernel_rfl
 i232:=by kernel_rfl
 i233:=by kernel_rfl
 m17:=by kernel_rfl
 m18:=by kernel_rfl
 m19:=by kernel_rfl

theorem jsO {w:World} {C:Rd} (h:Gok C w) (hs:Sub C (kS w)):Lib.TabIs Tryz.prog w "internal/strconv.uint64pow10" .u64 Lib.pow10Tab:=by
 have hm:(1,(List.range 20).map fun i=>A.v (.int .u64 ((10 ^ i:Nat):Int))) ∈ globs:=by unfold globs;exact List.mem_cons_self
 obtain⟨cs,T,sp,h1,h2⟩ := h.sz _ hm
 obtain⟨us,k1,k2⟩ := A.repAt_vals (h.cs _ hm).2
 unfold Lib.TabIs World.var?;rw[show Tryz.prog.globalNamed "internal/strconv.uint64pow10" = some 1 by kernel_rfl,Option.bind_some]
 have h1:w.heap[1]? = some (.cells cs T sp):=h1
 rw[h1]
 have hv:us=(Lib.pow10Tab.map fun z=>Value.int .u64 z):=by
  have e:((List.range 20).map fun i=>A.v (.int .u64 ((10 ^ i:Nat):Int)))=(Lib.pow10Tab.map fun z=>Value.int .u64 z).map A.v:=by unfold Lib.pow10Tab;rw[List.map_map,List.map_map];rfl
  have k1:=A.repC_L k1
  rw[e] at k1;exact lN k1
 subst hv
 show some cs=_
 refine congrArg some ?_
 apply Array.ext_getElem?
 intro i
 by_cases hi:i<cs.size
 ·have hi2:i<20:=by rw[h2] at hi;simpa using hi
  obtain⟨u,hu⟩ : ∃ u,(Lib.pow10Tab.map fun z=>Value.int .u64 z)[i]? = some u:=⟨_,List.getElem?_eq_getElem (by simp[Lib.pow10Tab,hi2])⟩
  have:=hs _ _ (k2 i u hu)
  change w.cell? _=_ at this
  have e2:(List.map (fun z=>Value.int IntKind.u64 z) Lib.pow10Tab).toArray[i]? = some u:=by rw[List.getElem?_toArray];exact hu
  refine Eq.trans ?_ e2.symm;rw[<- this]
  simp[World.cell?,h1]
 ·rw[Array.getElem?_eq_none (by omega),List.getElem?_toArray,List.getElem?_eq_none (by rw[h2] at hi;simp[Lib.pow10Tab] at hi ⊢;exact hi)]
theorem jkB (n:Int):Spec Tryz.prog 25 [] [intA n] fun _ r=>(-9223372036854775808<=n/\n<=9223372036854775807)/\r=jY (bs (Lib.itoa n)):=by
 refine⟨nR Tryz.func25 rfl (by kernel_rfl),?_⟩;intro w C β vals hg hsub h2 h3 h4 h5 hv
 obtain⟨u,us,rfl,h6,h7⟩ := hv
 have e1:=(A.rep_v_iff.1 h6).1
 have hn:=okV_int.1 (A.rep_v_iff.1 h6).2
 obtain rfl:us=[]:=h7
 subst e1
 have hβ:β=[]:=List.eq_nil_of_length_eq_zero (by simpa using h4.symm)
 subst hβ;refine (Any.strconv_Itoa jc3 n hn.1 hn.2 w (jsO hg hsub)).mono ?_;rintro e w' ⟨rfl,k,os,rfl⟩;exact⟨[],jY (bs (Lib.itoa n)),_,rfl,⟨hn,rfl⟩,Keeps.of_ext (Lib.below_grow _ _ (Nat.le_refl _) k os),rfl,fun i b cs hb=>by simp at hb,A.rep_v (by show (bs (Lib.itoa n)).size<=maxLen;rw[x6];have:=Lib.itoa_length_le n hn.1 hn.2;unfold maxLen;omega)⟩
theorem joZ:∀ (u:Nat),Lib.decDigits u=qG u:=fun u=>by
 induction u using Nat.strongRecOn with
 | _ u ih =>
  rw[Lib.decDigits];unfold qG
  split
  ·by_cases h0:u=0
   ·subst h0;rfl
   ·rw[if_neg h0,gV h0,show u / 10=0 by omega,cC,List.nil_append,show u % 10=u by omega]
  ·rw[ih (u / 10) (by omega),if_neg (by omega),gV (by omega)];unfold qG;rw[if_neg (by omega)]
theorem aP (n:Int) (hn:0<=n):Spec Tryz.prog 25 [] [intA n] fun _ r=>r=jY (bs (qG n.toNat)):=by
 have e:Lib.itoa n=qG n.toNat:=by
  unfold Lib.itoa
  split
  ·omega
  ·exact joZ _
 rw[<- e]
 exact (jkB n).mono fun _ _ h=>h.2
def jlO (b:Bool):ByteArray:=if b=true then ⟨#[116,114,117,101]⟩ else ⟨#[102,97,108,115,101]⟩
theorem jhV (b:Bool):Spec Tryz.prog 120 [] [wY b] fun _ r=>r=jY (jlO b):=by
 refine eN jH jT 0 Tryz.func120 rfl ?_;intro _;conv=>whnf
 cases b
 ·conv=>whnf
  rfl
 ·conv=>whnf
  rfl
theorem jks (b:Bool):Spec Tryz.prog 106 [] [wY b] fun _ r=>r=jY (jlO b):=by
 have h:=jhV b
 refine eN jH jT 0 Tryz.func106 rfl ?_;intro _;conv=>whnf
 (refine xV [] h ?_;rintro r rfl;conv=>whnf)
 conv=>whnf
 rfl
def opP (s:ByteArray):Int:=if s=pOr then 1 else if s=kZ then 2 else if s=wP then 5 else if s=pMinus then 5 else if s=zZ then 6 else if s=qM then 6 else 4
theorem jmW (s:ByteArray):Spec Tryz.prog 105 [] [jY s] fun _ r=>r=intA (opP s):=by
 unfold opP;refine eN jH jT 0 Tryz.func105 rfl ?_;intro _;conv=>whnf
 by_cases g1:s=pOr
 ·rw[if_pos g1,j8 (p:=s = ⟨_⟩) g1];conv=>whnf
  rfl
 rw[if_neg g1,jW (p:=s = ⟨_⟩) g1];conv=>whnf
 by_cases g2:s=kZ
 ·rw[if_pos g2,j8 (p:=s = ⟨_⟩) g2];conv=>whnf
  rfl
 rw[if_neg g2,jW (p:=s = ⟨_⟩) g2];conv=>whnf
 by_cases g3:s=wP
 ·rw[if_pos g3,j8 (p:=s = ⟨_⟩) g3];conv=>whnf
  rfl
 rw[if_neg g3,jW (p:=s = ⟨_⟩) g3];conv=>whnf
 by_cases g4:s=pMinus
 ·rw[if_pos g4,j8 (p:=s = ⟨_⟩) g4];conv=>whnf
  rfl
 rw[if_neg g4,jW (p:=s = ⟨_⟩) g4];conv=>whnf
 by_cases g5:s=zZ
 ·rw[if_pos g5,j8 (p:=s = ⟨_⟩) g5];conv=>whnf
  rfl
 rw[if_neg g5,jW (p:=s = ⟨_⟩) g5];conv=>whnf
 by_cases g6:s=qM
 ·rw[if_pos g6,j8 (p:=s = ⟨_⟩) g6];conv=>whnf
  rfl
 rw[if_neg g6,jW (p:=s = ⟨_⟩) g6];conv=>whnf
 rfl
theorem jn8 (n:Int) (s:ByteArray) (ks:List Nt):jI (Nt.mk 18 n s ks).k (Nt.mk 18 n s ks).s=opP s:=by
 unfold jI opP
 show (if (18:Int)=17 then _ else if (18:Int) ≠ 18 then _ else _)=_
 rw[if_neg (by decide),if_neg (by decide)];rfl
theorem pM (s:ByteArray):jA s eB=s:=by rw[kY,show fE s eB=eB by unfold fE;rw[if_pos (.inr (.inl rfl))];rfl];exact (bQ _).trans (bQ _)
theorem wF (x:ByteArray):jA eB x=x:=by unfold jA;rw[if_pos (show eB = ⟨#[]⟩ from rfl)];exact jmL x
theorem rD {x:ByteArray} (h:0<x.size):x ≠ ⟨#[]⟩ := fun e=>by rw[e] at h;exact absurd h (by decide)
theorem yK:∀ (l:List ByteArray),l ≠ []->(∀ x ∈ l,0<x.size)->qR l ≠ ⟨#[]⟩ := fun l hl h=>by
 have e:=List.dropLast_concat_getLast hl
 rw[<- e,rP];exact r8 (rD (h _ (List.getLast_mem hl)))
theorem kB (s:ByteArray):∀ (n:Nat) (l:List ByteArray),l.length=n->(∀ x ∈ l,0<x.size)->fG s l=jA s (qR l):=fun n=>by
 induction n with
 | zero=>intro l hl _;rw[List.eq_nil_of_length_eq_zero hl];exact (pM s).symm
 | succ n ih =>
  intro l hl h
  have hne:l ≠ []:=fun e=>by rw[e] at hl;cases hl
  have e:=List.dropLast_concat_getLast hne
  have hd:∀ x ∈ l.dropLast,0<x.size:=fun x hx=>h x (List.dropLast_subset l hx)
  have e2:fG s l=jA (fG s l.dropLast) (l.getLast hne):=by
   conv=>lhs;rw[<- e]
   unfold fG;rw[List.foldl_append];rfl
  rw[e2,ih l.dropLast (by rw[List.length_dropLast];omega) hd]
  conv=>rhs;rw[<- e,rP]
  by_cases h0:l.dropLast=[]
  ·rw[h0]
   show jA (jA s eB) _=jA s (jA eB _)
   rw[pM,wF]
  ·exact zG _ _ _ (yK _ h0 hd)
def PX (m:Nat) (f:Nt):Prop:=SHz false m f/\(∀ lv,0<(zQ false f lv).size) /\ ∀ (s:ByteArray) (lv:Int),0<=lv->lv<=9->s.size+m+10<=500000000->tA 78 [[.adr mL,.own 0]] s [.box 0 0,.agg (ntA f),intA lv] fun o s' r=>o=[[.adr mL,.own 0]]/\s'=jA s (zQ false f lv)/\r = .tup []
theorem PX.mono {m m':Nat} {f:Nt} (h:PX m f) (hm:m<=m'):PX m' f:=⟨h.1.mono hm,h.2.1,fun s lv h0 h9 hs=>h.2.2 s lv h0 h9 (by omega)⟩
theorem cV {p lv:Int} {fu:Bool} {b:ByteArray} (h:0<b.size):0<(bR p lv fu b).size:=by
 unfold bR
 repeat' split
 all_goals (try simp only[ByteArray.size_append]);omega
theorem cD (n:Nat):0<(bs (qG n)).size:=by
 show 0<(qG n).length
 unfold qG
 split
 ·decide
 ·rw[gV (by assumption)];simp
theorem gP {p lv:Int} {b:ByteArray} (h : ¬ p<lv):bR p lv false b=b:=by unfold bR;rw[if_neg h,if_neg (by decide)]
theorem xF {p lv:Int} {fu:Bool} {b:ByteArray} (h:p<lv):bR p lv fu b = ⟨#[40]⟩ ++ b ++ ⟨#[41]⟩ := by unfold bR;rw[if_pos h];rfl
theorem oZ (n:UInt8):(⟨#[n]⟩ : ByteArray).size=1:=rfl
theorem jsB (n:Int) (hn:0<=n/\n<1000000000000):PX 14 (.mk 12 n eB []):=by
 have e:∀ lv,zQ false (.mk 12 n eB []) lv=bR 8 lv false (bs (qG n.toNat)):=fun _=>rfl
 have hne:=cD n.toNat
 refine⟨jjX false n hn,fun lv=>by rw[e];exact cV hne,fun s lv h0 h9 hs => ?_⟩
 have hd:=aP n hn.1
 have hsz:(bs (qG n.toNat)).size<=12:=yF _ (by omega)
 rw[e];generalize bs (qG n.toNat)=x at *
 by_cases hlv:8<lv
 ·refine kV (jD jH jT 1) Tryz.func78 rfl (by kernel_rfl) rfl ?_;intro _;conv=>whnf
  refine jE (jD jH jT 1) (dr:=[]) ⟨0,rfl⟩ (.inl rfl) (by kernel_rfl) (fun _ _ h=>h.elim) ?_;conv=>whnf
  refine jE (jD jH jT 1) (dr:=[]) ⟨0,rfl⟩ (.inl rfl) (by kernel_rfl) (fun _ _ h=>h.elim) ?_;conv=>whnf
  refine jE (jD jH jT 1) (dr:=[]) ⟨0,rfl⟩ (.inl rfl) (by kernel_rfl) (fun _ _ h=>h.elim) ?_;conv=>whnf
  refine xJ ?_;refine jE (jD jH jT 1) (dr:=[]) ⟨0,rfl⟩ (.inl rfl) (by kernel_rfl) (fun _ _ h=>h.elim) ?_;conv=>whnf
  refine xE (congrArg (fun b=>A.v (.bool b)) (j8 hlv)) ?_;refine jE (jD jH jT 1) (dr:=[]) ⟨0,rfl⟩ (.inl rfl) (by kernel_rfl) (fun _ _ h=>h.elim) ?_;conv=>whnf
  refine j7 0 0 2 [1] ((jF s ⟨#[40]⟩ (by decide) (by rw[oZ];omega)).r) ?_;rintro o n' cs' r ⟨s1,rfl,rfl,ho,hs1,rfl⟩;cases ho;conv=>whnf
  refine zJ (l:=[_,_]) [3] (jD jH jT 1) ⟨0,rfl⟩ (fun _ _ h=>h.elim) rfl rfl rfl ?_;conv=>whnf
  refine yB (jD jH jT 1) ⟨1,rfl⟩ (.inl rfl) (by kernel_rfl) (fun _ _ h=>h.elim) ?_;conv=>whnf
  have hz1:s1.size<=s.size+2:=by
   have:=jB s ⟨#[40]⟩
   rw[oZ] at this;rw[hs1];omega
  (refine xV [] hd ?_;rintro r rfl;conv=>whnf)
  refine j7 0 2 5 [4] ((jF s1 x hne (by omega)).r) ?_;rintro o n' cs' r ⟨s',rfl,rfl,ho,hs',rfl⟩;cases ho;conv=>whnf
  have hz':=jB s1 x
  rw[<- hs'] at hz';refine⟨.inl rfl,?_⟩;unfold yI;refine cE 0 5 6 [] rfl rfl rfl rfl rfl (jF s' ⟨#[41]⟩ (by decide) (by rw[oZ];omega)) ?_;rintro o n' cs' r ⟨s9,rfl,rfl,ho,hs9,rfl⟩;cases ho;conv=>whnf
  refine⟨6,?_⟩;conv=>whnf
  exact⟨_,rfl,rfl,rfl,by rw[xF hlv,hs9,hs',hs1,xB],rfl⟩
 ·refine xN jH jT 1 Tryz.func78 rfl ?_;intro _;conv=>whnf
  rw[jW hlv];conv=>whnf
  (refine xV [] hd ?_;rintro r rfl;conv=>whnf)
  refine j7 0 0 2 [1] ((jF s x hne (by omega)).r) ?_;rintro o n' cs' r ⟨s',rfl,rfl,ho,hs',rfl⟩;cases ho;conv=>whnf
  refine⟨2,?_⟩;conv=>whnf
  exact⟨_,rfl,rfl,rfl,by rw[gP hlv,hs'],rfl⟩
theorem jnh (k:Int) (hk:k=14 ∨ k=15) (s0:ByteArray) (hne:0<s0.size) (hsz:s0.size<=12):PX 14 (.mk k 0 s0 []):=by
 have e:∀ lv,zQ false (.mk k 0 s0 []) lv=bR 8 lv false s0:=fun lv=>by rcases hk with rfl | rfl <;> rfl
 refine⟨jeN false k hk s0 hsz,fun lv=>by rw[e];exact cV hne,fun s lv h0 h9 hs => ?_⟩;rw[e];clear e
 rcases hk with rfl | rfl
 ·by_cases hlv:8<lv
  ·refine kV (jD jH jT 1) Tryz.func78 rfl (by kernel_rfl) rfl ?_;intro _;conv=>whnf
   refine jE (jD jH jT 1) (dr:=[]) ⟨0,rfl⟩ (.inl rfl) (by kernel_rfl) (fun _ _ h=>h.elim) ?_;conv=>whnf
   refine jE (jD jH jT 1) (dr:=[]) ⟨0,rfl⟩ (.inl rfl) (by kernel_rfl) (fun _ _ h=>h.elim) ?_;conv=>whnf
   refine jE (jD jH jT 1) (dr:=[]) ⟨0,rfl⟩ (.inl rfl) (by kernel_rfl) (fun _ _ h=>h.elim) ?_;conv=>whnf
   refine xJ ?_;refine jE (jD jH jT 1) (dr:=[]) ⟨0,rfl⟩ (.inl rfl) (by kernel_rfl) (fun _ _ h=>h.elim) ?_;conv=>whnf
   refine xE (congrArg (fun b=>A.v (.bool b)) (j8 hlv)) ?_;refine jE (jD jH jT 1) (dr:=[]) ⟨0,rfl⟩ (.inl rfl) (by kernel_rfl) (fun _ _ h=>h.elim) ?_;conv=>whnf
   refine j7 0 0 2 [1] ((jF s ⟨#[40]⟩ (by decide) (by rw[oZ];omega)).r) ?_;rintro o n' cs' r ⟨s1,rfl,rfl,ho,hs1,rfl⟩;cases ho;conv=>whnf
   refine zJ (l:=[_,_]) [3] (jD jH jT 1) ⟨0,rfl⟩ (fun _ _ h=>h.elim) rfl rfl rfl ?_;conv=>whnf
   refine yB (jD jH jT 1) ⟨1,rfl⟩ (.inl rfl) (by kernel_rfl) (fun _ _ h=>h.elim) ?_;conv=>whnf
   have hz1:s1.size<=s.size+2:=by
    have:=jB s ⟨#[40]⟩
    rw[oZ] at this;rw[hs1];omega
   refine j7 0 2 5 [4] ((jF s1 s0 hne (by omega)).r) ?_;rintro o n' cs' r ⟨s',rfl,rfl,ho,hs',rfl⟩;cases ho;conv=>whnf
   have hz':=jB s1 s0
   rw[<- hs'] at hz';refine⟨.inl rfl,?_⟩;unfold yI;refine cE 0 5 6 [] rfl rfl rfl rfl rfl (jF s' ⟨#[41]⟩ (by decide) (by rw[oZ];omega)) ?_;rintro o n' cs' r ⟨s9,rfl,rfl,ho,hs9,rfl⟩;cases ho;conv=>whnf
   refine⟨6,?_⟩;conv=>whnf
   exact⟨_,rfl,rfl,rfl,by rw[xF hlv,hs9,hs',hs1,xB],rfl⟩
  ·refine xN jH jT 1 Tryz.func78 rfl ?_;intro _;conv=>whnf
   rw[jW hlv];conv=>whnf
   refine j7 0 0 2 [1] ((jF s s0 hne (by omega)).r) ?_;rintro o n' cs' r ⟨s',rfl,rfl,ho,hs',rfl⟩;cases ho;conv=>whnf
   refine⟨2,?_⟩;conv=>whnf
   exact⟨_,rfl,rfl,rfl,by rw[gP hlv,hs'],rfl⟩
 ·by_cases hlv:8<lv
  ·refine kV (jD jH jT 1) Tryz.func78 rfl (by kernel_rfl) rfl ?_;intro _;conv=>whnf
   refine jE (jD jH jT 1) (dr:=[]) ⟨0,rfl⟩ (.inl rfl) (by kernel_rfl) (fun _ _ h=>h.elim) ?_;conv=>whnf
   refine jE (jD jH jT 1) (dr:=[]) ⟨0,rfl⟩ (.inl rfl) (by kernel_rfl) (fun _ _ h=>h.elim) ?_;conv=>whnf
   refine jE (jD jH jT 1) (dr:=[]) ⟨0,rfl⟩ (.inl rfl) (by kernel_rfl) (fun _ _ h=>h.elim) ?_;conv=>whnf
   refine xJ ?_;refine jE (jD jH jT 1) (dr:=[]) ⟨0,rfl⟩ (.inl rfl) (by kernel_rfl) (fun _ _ h=>h.elim) ?_;conv=>whnf
   refine xE (congrArg (fun b=>A.v (.bool b)) (j8 hlv)) ?_;refine jE (jD jH jT 1) (dr:=[]) ⟨0,rfl⟩ (.inl rfl) (by kernel_rfl) (fun _ _ h=>h.elim) ?_;conv=>whnf
   refine j7 0 0 2 [1] ((jF s ⟨#[40]⟩ (by decide) (by rw[oZ];omega)).r) ?_;rintro o n' cs' r ⟨s1,rfl,rfl,ho,hs1,rfl⟩;cases ho;conv=>whnf
   refine zJ (l:=[_,_]) [3] (jD jH jT 1) ⟨0,rfl⟩ (fun _ _ h=>h.elim) rfl rfl rfl ?_;conv=>whnf
   refine yB (jD jH jT 1) ⟨1,rfl⟩ (.inl rfl) (by kernel_rfl) (fun _ _ h=>h.elim) ?_;conv=>whnf
   have hz1:s1.size<=s.size+2:=by
    have:=jB s ⟨#[40]⟩
    rw[oZ] at this;rw[hs1];omega
   refine j7 0 2 5 [4] ((jF s1 s0 hne (by omega)).r) ?_;rintro o n' cs' r ⟨s',rfl,rfl,ho,hs',rfl⟩;cases ho;conv=>whnf
   have hz':=jB s1 s0
   rw[<- hs'] at hz';refine⟨.inl rfl,?_⟩;unfold yI;refine cE 0 5 6 [] rfl rfl rfl rfl rfl (jF s' ⟨#[41]⟩ (by decide) (by rw[oZ];omega)) ?_;rintro o n' cs' r ⟨s9,rfl,rfl,ho,hs9,rfl⟩;cases ho;conv=>whnf
   refine⟨6,?_⟩;conv=>whnf
   exact⟨_,rfl,rfl,rfl,by rw[xF hlv,hs9,hs',hs1,xB],rfl⟩
  ·refine xN jH jT 1 Tryz.func78 rfl ?_;intro _;conv=>whnf
   rw[jW hlv];conv=>whnf
   refine j7 0 0 2 [1] ((jF s s0 hne (by omega)).r) ?_;rintro o n' cs' r ⟨s',rfl,rfl,ho,hs',rfl⟩;cases ho;conv=>whnf
   refine⟨2,?_⟩;conv=>whnf
   exact⟨_,rfl,rfl,rfl,by rw[gP hlv,hs'],rfl⟩
theorem jpG (n:Nat) (hn:n<2):PX 14 (.mk 13 n eB []):=by
 have e:∀ lv,zQ false (.mk 13 n eB []) lv=bR 8 lv false (tfB n):=fun _=>rfl
 have e2:tfB n=jlO (decide (n=1)):=by rcases (by omega:n=0 ∨ n=1) with rfl | rfl <;> rfl
 have hne:0<(tfB n).size:=by rcases (by omega:n=0 ∨ n=1) with rfl | rfl <;> decide
 have hsz:(tfB n).size<=12:=by rcases (by omega:n=0 ∨ n=1) with rfl | rfl <;> decide
 refine⟨jh1 false n hn,fun lv=>by rw[e];exact cV hne,fun s lv h0 h9 hs => ?_⟩
 have hd:=jks (decide (n=1))
 rw[<- e2] at hd;rw[e];clear e
 rcases (by omega:n=0 ∨ n=1) with rfl | rfl
 ·rw[show decide ((0:Nat)=1)=false from rfl] at hd;clear e2;generalize tfB ((0:Nat):Int)=x at *
  by_cases hlv:8<lv
  ·refine kV (jD jH jT 1) Tryz.func78 rfl (by kernel_rfl) rfl ?_;intro _;conv=>whnf
   refine jE (jD jH jT 1) (dr:=[]) ⟨0,rfl⟩ (.inl rfl) (by kernel_rfl) (fun _ _ h=>h.elim) ?_;conv=>whnf
   refine jE (jD jH jT 1) (dr:=[]) ⟨0,rfl⟩ (.inl rfl) (by kernel_rfl) (fun _ _ h=>h.elim) ?_;conv=>whnf
   refine jE (jD jH jT 1) (dr:=[]) ⟨0,rfl⟩ (.inl rfl) (by kernel_rfl) (fun _ _ h=>h.elim) ?_;conv=>whnf
   refine xJ ?_;refine jE (jD jH jT 1) (dr:=[]) ⟨0,rfl⟩ (.inl rfl) (by kernel_rfl) (fun _ _ h=>h.elim) ?_;conv=>whnf
   refine xE (congrArg (fun b=>A.v (.bool b)) (j8 hlv)) ?_;refine jE (jD jH jT 1) (dr:=[]) ⟨0,rfl⟩ (.inl rfl) (by kernel_rfl) (fun _ _ h=>h.elim) ?_;conv=>whnf
   refine j7 0 0 2 [1] ((jF s ⟨#[40]⟩ (by decide) (by rw[oZ];omega)).r) ?_;rintro o n' cs' r ⟨s1,rfl,rfl,ho,hs1,rfl⟩;cases ho;conv=>whnf
   refine zJ (l:=[_,_]) [3] (jD jH jT 1) ⟨0,rfl⟩ (fun _ _ h=>h.elim) rfl rfl rfl ?_;conv=>whnf
   refine yB (jD jH jT 1) ⟨1,rfl⟩ (.inl rfl) (by kernel_rfl) (fun _ _ h=>h.elim) ?_;conv=>whnf
   have hz1:s1.size<=s.size+2:=by
    have:=jB s ⟨#[40]⟩
    rw[oZ] at this;rw[hs1];omega
   (refine xV [] hd ?_;rintro r rfl;conv=>whnf)
   refine j7 0 2 5 [4] ((jF s1 x hne (by omega)).r) ?_;rintro o n' cs' r ⟨s',rfl,rfl,ho,hs',rfl⟩;cases ho;conv=>whnf
   have hz':=jB s1 x
   rw[<- hs'] at hz';refine⟨.inl rfl,?_⟩;unfold yI;refine cE 0 5 6 [] rfl rfl rfl rfl rfl (jF s' ⟨#[41]⟩ (by decide) (by rw[oZ];omega)) ?_;rintro o n' cs' r ⟨s9,rfl,rfl,ho,hs9,rfl⟩;cases ho;conv=>whnf
   refine⟨6,?_⟩;conv=>whnf
   exact⟨_,rfl,rfl,rfl,by rw[xF hlv,hs9,hs',hs1,xB],rfl⟩
  ·refine xN jH jT 1 Tryz.func78 rfl ?_;intro _;conv=>whnf
   rw[jW hlv];conv=>whnf
   (refine xV [] hd ?_;rintro r rfl;conv=>whnf)
   refine j7 0 0 2 [1] ((jF s x hne (by omega)).r) ?_;rintro o n' cs' r ⟨s',rfl,rfl,ho,hs',rfl⟩;cases ho;conv=>whnf
   refine⟨2,?_⟩;conv=>whnf
   exact⟨_,rfl,rfl,rfl,by rw[gP hlv,hs'],rfl⟩
 ·rw[show decide ((1:Nat)=1)=true from rfl] at hd;clear e2;generalize tfB ((1:Nat):Int)=x at *
  by_cases hlv:8<lv
  ·refine kV (jD jH jT 1) Tryz.func78 rfl (by kernel_rfl) rfl ?_;intro _;conv=>whnf
   refine jE (jD jH jT 1) (dr:=[]) ⟨0,rfl⟩ (.inl rfl) (by kernel_rfl) (fun _ _ h=>h.elim) ?_;conv=>whnf
   refine jE (jD jH jT 1) (dr:=[]) ⟨0,rfl⟩ (.inl rfl) (by kernel_rfl) (fun _ _ h=>h.elim) ?_;conv=>whnf
   refine jE (jD jH jT 1) (dr:=[]) ⟨0,rfl⟩ (.inl rfl) (by kernel_rfl) (fun _ _ h=>h.elim) ?_;conv=>whnf
   refine xJ ?_;refine jE (jD jH jT 1) (dr:=[]) ⟨0,rfl⟩ (.inl rfl) (by kernel_rfl) (fun _ _ h=>h.elim) ?_;conv=>whnf
   refine xE (congrArg (fun b=>A.v (.bool b)) (j8 hlv)) ?_;refine jE (jD jH jT 1) (dr:=[]) ⟨0,rfl⟩ (.inl rfl) (by kernel_rfl) (fun _ _ h=>h.elim) ?_;conv=>whnf
   refine j7 0 0 2 [1] ((jF s ⟨#[40]⟩ (by decide) (by rw[oZ];omega)).r) ?_;rintro o n' cs' r ⟨s1,rfl,rfl,ho,hs1,rfl⟩;cases ho;conv=>whnf
   refine zJ (l:=[_,_]) [3] (jD jH jT 1) ⟨0,rfl⟩ (fun _ _ h=>h.elim) rfl rfl rfl ?_;conv=>whnf
   refine yB (jD jH jT 1) ⟨1,rfl⟩ (.inl rfl) (by kernel_rfl) (fun _ _ h=>h.elim) ?_;conv=>whnf
   have hz1:s1.size<=s.size+2:=by
    have:=jB s ⟨#[40]⟩
    rw[oZ] at this;rw[hs1];omega
   (refine xV [] hd ?_;rintro r rfl;conv=>whnf)
   refine j7 0 2 5 [4] ((jF s1 x hne (by omega)).r) ?_;rintro o n' cs' r ⟨s',rfl,rfl,ho,hs',rfl⟩;cases ho;conv=>whnf
   have hz':=jB s1 x
   rw[<- hs'] at hz';refine⟨.inl rfl,?_⟩;unfold yI;refine cE 0 5 6 [] rfl rfl rfl rfl rfl (jF s' ⟨#[41]⟩ (by decide) (by rw[oZ];omega)) ?_;rintro o n' cs' r ⟨s9,rfl,rfl,ho,hs9,rfl⟩;cases ho;conv=>whnf
   refine⟨6,?_⟩;conv=>whnf
   exact⟨_,rfl,rfl,rfl,by rw[xF hlv,hs9,hs',hs1,xB],rfl⟩
  ·refine xN jH jT 1 Tryz.func78 rfl ?_;intro _;conv=>whnf
   rw[jW hlv];conv=>whnf
   (refine xV [] hd ?_;rintro r rfl;conv=>whnf)
   refine j7 0 0 2 [1] ((jF s x hne (by omega)).r) ?_;rintro o n' cs' r ⟨s',rfl,rfl,ho,hs',rfl⟩;cases ho;conv=>whnf
   refine⟨2,?_⟩;conv=>whnf
   exact⟨_,rfl,rfl,rfl,by rw[gP hlv,hs'],rfl⟩
theorem jsA (m:Nat) (hm:m<=1000000) (f:Nt) (hf:PX m f):PX (m+20) (.mk 16 0 eB [f]):=by
 have e:∀ lv,zQ false (.mk 16 0 eB [f]) lv=bR 8 lv false (qR [wDraw,pLp,zQ false f 1,pRp]):=fun _=>rfl
 have hy:=hf.2.1 1
 have hyz:=(hf.1 1 (by decide) (by decide)).1
 have hall:∀ x ∈ [wDraw,pLp,zQ false f 1,pRp],0<x.size:=by
  intro x hx;simp only[List.mem_cons,List.not_mem_nil,or_false] at hx
  rcases hx with rfl | rfl | rfl | rfl
  ·decide
  ·decide
  ·exact hy
  ·decide
 have hpf:=fun s=>kB s 4 [wDraw,pLp,zQ false f 1,pRp] rfl hall
 refine⟨jjW false m hm f hf.1,fun lv=>by rw[e];exact cV (wH (yK _ (by simp) hall)),fun s lv h0 h9 hs => ?_⟩;rw[e];generalize hal:qR [wDraw,pLp,zQ false f 1,pRp]=x at *
 have w1:wDraw.size=4:=rfl
 have w2:pLp.size=1:=rfl
 have w3:pRp.size=1:=rfl
 have hr:=jqS f
 have hx:=fun s lv h0 h9 hs=>hf.2.2 s lv h0 h9 hs
 generalize hyy:zQ false f 1=y at *
 have hx1:=fun s hs=>hx s 1 (by decide) (by decide) hs
 rw[hyy] at hx1
 by_cases hlv:8<lv
 ·refine kV (jD jH jT 1) Tryz.func78 rfl (by kernel_rfl) rfl ?_;intro _;conv=>whnf
  refine jE (jD jH jT 1) (dr:=[]) ⟨0,rfl⟩ (.inl rfl) (by kernel_rfl) (fun _ _ h=>h.elim) ?_;conv=>whnf
  refine jE (jD jH jT 1) (dr:=[]) ⟨0,rfl⟩ (.inl rfl) (by kernel_rfl) (fun _ _ h=>h.elim) ?_;conv=>whnf
  refine jE (jD jH jT 1) (dr:=[]) ⟨0,rfl⟩ (.inl rfl) (by kernel_rfl) (fun _ _ h=>h.elim) ?_;conv=>whnf
  refine xJ ?_;refine jE (jD jH jT 1) (dr:=[]) ⟨0,rfl⟩ (.inl rfl) (by kernel_rfl) (fun _ _ h=>h.elim) ?_;conv=>whnf
  refine xE (congrArg (fun b=>A.v (.bool b)) (j8 hlv)) ?_;refine jE (jD jH jT 1) (dr:=[]) ⟨0,rfl⟩ (.inl rfl) (by kernel_rfl) (fun _ _ h=>h.elim) ?_;conv=>whnf
  refine j7 0 0 2 [1] ((jF s ⟨#[40]⟩ (by decide) (by rw[oZ];omega)).r) ?_;rintro o n' cs' r ⟨s1,rfl,rfl,ho,hs1,rfl⟩;cases ho;conv=>whnf
  refine zJ (l:=[_,_]) [3] (jD jH jT 1) ⟨0,rfl⟩ (fun _ _ h=>h.elim) rfl rfl rfl ?_;conv=>whnf
  refine yB (jD jH jT 1) ⟨1,rfl⟩ (.inl rfl) (by kernel_rfl) (fun _ _ h=>h.elim) ?_;conv=>whnf
  have hz1:s1.size<=s.size+2:=by
   have:=jB s ⟨#[40]⟩
   rw[oZ] at this;rw[hs1];omega
  refine j7 0 2 5 [4] ((yV s1 wDraw pLp (by decide) (by decide) (by omega)).r) ?_;rintro o n' cs' r ⟨s',rfl,rfl,ho,hs',rfl⟩;cases ho;conv=>whnf
  have hz2:s'.size<=s1.size+7:=by
   have g1:=jB s1 wDraw
   have g2:=jB (jA s1 wDraw) pLp
   rw[<- hs'] at g2;omega
  have hs2:=hs'
  clear hs';generalize s'=s2 at *;refine⟨by simp[Nt.kids],?_⟩;conv=>whnf
  (generalize hrq:jJ _ _ (qE (Nt.mk 16 0 eB [f]).kids)=rq;obtain rfl:rq=ntA f:=hrq.symm.trans (hr);clear hrq;conv=>whnf)
  refine j7 0 5 6 [] ((hx1 s2 (by omega))) ?_;rintro o n' cs' r ⟨s',rfl,rfl,ho,hs',rfl⟩;cases ho;conv=>whnf
  have hz3:=jB s2 y
  rw[<- hs'] at hz3
  have hs3:=hs'
  clear hs';generalize s'=s3 at *;refine j7 0 6 8 [7] ((jF s3 pRp (by decide) (by omega)).r) ?_;rintro o n' cs' r ⟨s',rfl,rfl,ho,hs',rfl⟩;cases ho;conv=>whnf
  have hz4:=jB s3 pRp
  rw[<- hs'] at hz4;refine⟨.inl rfl,?_⟩;unfold yI;refine cE 0 8 9 [] rfl rfl rfl rfl rfl (jF s' ⟨#[41]⟩ (by decide) (by rw[oZ];omega)) ?_;rintro o n' cs' r ⟨s9,rfl,rfl,ho,hs9,rfl⟩;cases ho;conv=>whnf
  refine⟨9,?_⟩;conv=>whnf
  refine⟨_,rfl,rfl,rfl,?_,rfl⟩
  have:=hpf s1
  rw[xF hlv,hs9,hs',hs3,hs2,<- xB,<- hs1,<- this];rfl
 ·refine xN jH jT 1 Tryz.func78 rfl ?_;intro _;conv=>whnf
  rw[jW hlv];conv=>whnf
  refine j7 0 0 2 [1] ((yV s wDraw pLp (by decide) (by decide) (by omega)).r) ?_;rintro o n' cs' r ⟨s',rfl,rfl,ho,hs',rfl⟩;cases ho;conv=>whnf
  have hz2:s'.size<=s.size+7:=by
   have g1:=jB s wDraw
   have g2:=jB (jA s wDraw) pLp
   rw[<- hs'] at g2;omega
  have hs2:=hs'
  clear hs';generalize s'=s2 at *;refine⟨by simp[Nt.kids],?_⟩;conv=>whnf
  (generalize hrq:jJ _ _ (qE (Nt.mk 16 0 eB [f]).kids)=rq;obtain rfl:rq=ntA f:=hrq.symm.trans (hr);clear hrq;conv=>whnf)
  refine j7 0 2 3 [] ((hx1 s2 (by omega))) ?_;rintro o n' cs' r ⟨s',rfl,rfl,ho,hs',rfl⟩;cases ho;conv=>whnf
  have hz3:=jB s2 y
  rw[<- hs'] at hz3
  have hs3:=hs'
  clear hs';generalize s'=s3 at *;refine j7 0 3 5 [4] ((jF s3 pRp (by decide) (by omega)).r) ?_;rintro o n' cs' r ⟨s',rfl,rfl,ho,hs',rfl⟩;cases ho;conv=>whnf
  refine⟨5,?_⟩;conv=>whnf
  refine⟨_,rfl,rfl,rfl,?_,rfl⟩
  have:=hpf s
  rw[gP hlv,hs',hs3,hs2,<- this];rfl
theorem jni (m:Nat) (hm:m<=1000000) (s0:ByteArray) (hne:0<s0.size) (hs0:s0.size<=2) (f:Nt) (hf:PX m f):PX (m+20) (.mk 17 0 s0 [f]):=by
 have hp9:=lK 17 s0
 have e:∀ lv,zQ false (.mk 17 0 s0 [f]) lv=bR (jI 17 s0) lv false (qR [s0,zQ false f (jI 17 s0)]):=fun _=>rfl
 have hp:jI 17 s0=if s0=pNot then 3 else 7:=by unfold jI;rw[if_pos rfl]
 have hsh:=jeO false m hm s0 hs0 f hf.1
 generalize jI 17 s0=p at *
 have hy:=hf.2.1 p
 have hyz:=(hf.1 p (by omega) (by omega)).1
 have hall:∀ x ∈ [s0,zQ false f p],0<x.size:=by
  intro x hx;simp only[List.mem_cons,List.not_mem_nil,or_false] at hx
  rcases hx with rfl | rfl
  ·exact hne
  ·exact hy
 have hpf:=fun s=>kB s 2 [s0,zQ false f p] rfl hall
 refine⟨hsh,fun lv=>by rw[e];exact cV (wH (yK _ (by simp) hall)),fun s lv h0 h9 hs => ?_⟩;rw[e];generalize hal:qR [s0,zQ false f p]=x at *
 have hr:=jqS f
 have hx1:=fun s hs=>hf.2.2 s p (by omega) (by omega) hs
 generalize hyy:zQ false f p=y at *
 by_cases hn:s0=pNot
 ·rw[if_pos hn] at hp;subst hp
  by_cases hlv:3<lv
  ·refine kV (jD jH jT 1) Tryz.func78 rfl (by kernel_rfl) rfl ?_;intro _;conv=>whnf
   refine jE (jD jH jT 1) (dr:=[]) ⟨0,rfl⟩ (.inl rfl) (by kernel_rfl) (fun _ _ h=>h.elim) ?_;conv=>whnf
   refine jE (jD jH jT 1) (dr:=[]) ⟨0,rfl⟩ (.inl rfl) (by kernel_rfl) (fun _ _ h=>h.elim) ?_;conv=>whnf
   refine jE (jD jH jT 1) (dr:=[]) ⟨0,rfl⟩ (.inl rfl) (by kernel_rfl) (fun _ _ h=>h.elim) ?_;conv=>whnf
   rw[j8 (p:=(Nt.mk 17 0 s0 [f]).s = ⟨_⟩) hn];conv=>whnf
   refine xJ ?_;refine jE (jD jH jT 1) (dr:=[]) ⟨0,rfl⟩ (.inl rfl) (by kernel_rfl) (fun _ _ h=>h.elim) ?_;conv=>whnf
   refine xE (congrArg (fun b=>A.v (.bool b)) (j8 hlv)) ?_;refine jE (jD jH jT 1) (dr:=[]) ⟨0,rfl⟩ (.inl rfl) (by kernel_rfl) (fun _ _ h=>h.elim) ?_;conv=>whnf
   refine j7 0 0 2 [1] ((jF s ⟨#[40]⟩ (by decide) (by rw[oZ];omega)).r) ?_;rintro o n' cs' r ⟨s1,rfl,rfl,ho,hs1,rfl⟩;cases ho;conv=>whnf
   refine zJ (l:=[_,_]) [3] (jD jH jT 1) ⟨0,rfl⟩ (fun _ _ h=>h.elim) rfl rfl rfl ?_;conv=>whnf
   refine yB (jD jH jT 1) ⟨1,rfl⟩ (.inl rfl) (by kernel_rfl) (fun _ _ h=>h.elim) ?_;conv=>whnf
   have hz1:s1.size<=s.size+2:=by
    have:=jB s ⟨#[40]⟩
    rw[oZ] at this;rw[hs1];omega
   refine j7 0 2 5 [4] ((jF s1 s0 hne (by omega)).r) ?_;rintro o n' cs' r ⟨s',rfl,rfl,ho,hs',rfl⟩;cases ho;conv=>whnf
   have hz2:=jB s1 s0
   rw[<- hs'] at hz2
   have hs2:=hs'
   clear hs';generalize s'=s2 at *;refine⟨by simp[Nt.kids],?_⟩;conv=>whnf
   (generalize hrq:jJ _ _ (qE (Nt.mk 17 0 s0 [f]).kids)=rq;obtain rfl:rq=ntA f:=hrq.symm.trans (hr);clear hrq;conv=>whnf)
   refine j7 0 5 6 [] ((hx1 s2 (by omega))) ?_;rintro o n' cs' r ⟨s',rfl,rfl,ho,hs',rfl⟩;cases ho;conv=>whnf
   have hz3:=jB s2 y
   rw[<- hs'] at hz3;refine⟨.inl rfl,?_⟩;unfold yI;refine cE 0 6 7 [] rfl rfl rfl rfl rfl (jF s' ⟨#[41]⟩ (by decide) (by rw[oZ];omega)) ?_;rintro o n' cs' r ⟨s9,rfl,rfl,ho,hs9,rfl⟩;cases ho;conv=>whnf
   refine⟨7,?_⟩;conv=>whnf
   refine⟨_,rfl,rfl,rfl,?_,rfl⟩
   have:=hpf s1
   rw[xF hlv,hs9,hs',hs2,<- xB,<- hs1,<- this];rfl
  ·refine xN jH jT 1 Tryz.func78 rfl ?_;intro _;conv=>whnf
   rw[j8 (p:=(Nt.mk 17 0 s0 [f]).s = ⟨_⟩) hn];conv=>whnf
   rw[jW hlv];conv=>whnf
   refine j7 0 0 2 [1] ((jF s s0 hne (by omega)).r) ?_;rintro o n' cs' r ⟨s',rfl,rfl,ho,hs',rfl⟩;cases ho;conv=>whnf
   have hz2:=jB s s0
   rw[<- hs'] at hz2
   have hs2:=hs'
   clear hs';generalize s'=s2 at *;refine⟨by simp[Nt.kids],?_⟩;conv=>whnf
   (generalize hrq:jJ _ _ (qE (Nt.mk 17 0 s0 [f]).kids)=rq;obtain rfl:rq=ntA f:=hrq.symm.trans (hr);clear hrq;conv=>whnf)
   refine j7 0 2 3 [] ((hx1 s2 (by omega))) ?_;rintro o n' cs' r ⟨s',rfl,rfl,ho,hs',rfl⟩;cases ho;conv=>whnf
   refine⟨3,?_⟩;conv=>whnf
   refine⟨_,rfl,rfl,rfl,?_,rfl⟩
   have:=hpf s
   rw[gP hlv,hs',hs2,<- this];rfl
 ·rw[if_neg hn] at hp;subst hp
  by_cases hlv:7<lv
  ·refine kV (jD jH jT 1) Tryz.func78 rfl (by kernel_rfl) rfl ?_;intro _;conv=>whnf
   refine jE (jD jH jT 1) (dr:=[]) ⟨0,rfl⟩ (.inl rfl) (by kernel_rfl) (fun _ _ h=>h.elim) ?_;conv=>whnf
   refine jE (jD jH jT 1) (dr:=[]) ⟨0,rfl⟩ (.inl rfl) (by kernel_rfl) (fun _ _ h=>h.elim) ?_;conv=>whnf
   refine jE (jD jH jT 1) (dr:=[]) ⟨0,rfl⟩ (.inl rfl) (by kernel_rfl) (fun _ _ h=>h.elim) ?_;conv=>whnf
   rw[jW (p:=(Nt.mk 17 0 s0 [f]).s = ⟨_⟩) hn];conv=>whnf
   refine xJ ?_;refine jE (jD jH jT 1) (dr:=[]) ⟨0,rfl⟩ (.inl rfl) (by kernel_rfl) (fun _ _ h=>h.elim) ?_;conv=>whnf
   refine xE (congrArg (fun b=>A.v (.bool b)) (j8 hlv)) ?_;refine jE (jD jH jT 1) (dr:=[]) ⟨0,rfl⟩ (.inl rfl) (by kernel_rfl) (fun _ _ h=>h.elim) ?_;conv=>whnf
   refine j7 0 0 2 [1] ((jF s ⟨#[40]⟩ (by decide) (by rw[oZ];omega)).r) ?_;rintro o n' cs' r ⟨s1,rfl,rfl,ho,hs1,rfl⟩;cases ho;conv=>whnf
   refine zJ (l:=[_,_]) [3] (jD jH jT 1) ⟨0,rfl⟩ (fun _ _ h=>h.elim) rfl rfl rfl ?_;conv=>whnf
   refine yB (jD jH jT 1) ⟨1,rfl⟩ (.inl rfl) (by kernel_rfl) (fun _ _ h=>h.elim) ?_;conv=>whnf
   have hz1:s1.size<=s.size+2:=by
    have:=jB s ⟨#[40]⟩
    rw[oZ] at this;rw[hs1];omega
   refine j7 0 2 5 [4] ((jF s1 s0 hne (by omega)).r) ?_;rintro o n' cs' r ⟨s',rfl,rfl,ho,hs',rfl⟩;cases ho;conv=>whnf
   have hz2:=jB s1 s0
   rw[<- hs'] at hz2
   have hs2:=hs'
   clear hs';generalize s'=s2 at *;refine⟨by simp[Nt.kids],?_⟩;conv=>whnf
   (generalize hrq:jJ _ _ (qE (Nt.mk 17 0 s0 [f]).kids)=rq;obtain rfl:rq=ntA f:=hrq.symm.trans (hr);clear hrq;conv=>whnf)
   refine j7 0 5 6 [] ((hx1 s2 (by omega))) ?_;rintro o n' cs' r ⟨s',rfl,rfl,ho,hs',rfl⟩;cases ho;conv=>whnf
   have hz3:=jB s2 y
   rw[<- hs'] at hz3;refine⟨.inl rfl,?_⟩;unfold yI;refine cE 0 6 7 [] rfl rfl rfl rfl rfl (jF s' ⟨#[41]⟩ (by decide) (by rw[oZ];omega)) ?_;rintro o n' cs' r ⟨s9,rfl,rfl,ho,hs9,rfl⟩;cases ho;conv=>whnf
   refine⟨7,?_⟩;conv=>whnf
   refine⟨_,rfl,rfl,rfl,?_,rfl⟩
   have:=hpf s1
   rw[xF hlv,hs9,hs',hs2,<- xB,<- hs1,<- this];rfl
  ·refine xN jH jT 1 Tryz.func78 rfl ?_;intro _;conv=>whnf
   rw[jW (p:=(Nt.mk 17 0 s0 [f]).s = ⟨_⟩) hn];conv=>whnf
   rw[jW hlv];conv=>whnf
   refine j7 0 0 2 [1] ((jF s s0 hne (by omega)).r) ?_;rintro o n' cs' r ⟨s',rfl,rfl,ho,hs',rfl⟩;cases ho;conv=>whnf
   have hz2:=jB s s0
   rw[<- hs'] at hz2
   have hs2:=hs'
   clear hs';generalize s'=s2 at *;refine⟨by simp[Nt.kids],?_⟩;conv=>whnf
   (generalize hrq:jJ _ _ (qE (Nt.mk 17 0 s0 [f]).kids)=rq;obtain rfl:rq=ntA f:=hrq.symm.trans (hr);clear hrq;conv=>whnf)
   refine j7 0 2 3 [] ((hx1 s2 (by omega))) ?_;rintro o n' cs' r ⟨s',rfl,rfl,ho,hs',rfl⟩;cases ho;conv=>whnf
   refine⟨3,?_⟩;conv=>whnf
   refine⟨_,rfl,rfl,rfl,?_,rfl⟩
   have:=hpf s
   rw[gP hlv,hs',hs2,<- this];rfl
theorem jiy (m:Nat) (hm:m<=1000000) (s0:ByteArray) (hne:0<s0.size) (hs0:s0.size<=2) (f g:Nt) (hf:PX m f) (hg:PX m g):PX (2*m+20) (.mk 18 0 s0 [f,g]):=by
 have hp9:=lK 18 s0
 have hp8:jI 18 s0<=7:=by
  unfold jI
  repeat' split
  all_goals first | decide | (rename_i h1 h2;exact absurd h2 (by decide)) | contradiction
 have e:∀ lv,zQ false (.mk 18 0 s0 [f,g]) lv=bR (jI 18 s0) lv false (qR [zQ false f (if jI 18 s0=4 then 5 else jI 18 s0),s0,zQ false g (jI 18 s0+1)]):=fun _=>rfl
 have hop:=jmW s0
 have hpe:opP s0=jI 18 s0:=(jn8 0 s0 []).symm
 rw[hpe] at hop;clear hpe
 have hsh:=u7 false m hm s0 hs0 f g hf.1 hg.1
 generalize jI 18 s0=p at *
 obtain⟨q,hq⟩ : ∃ q:Int,(if p=4 then 5 else p)=q:=⟨_,rfl⟩
 rw[hq] at e
 have hqr:0<=q/\q<=9:=by split at hq <;> omega
 have hyz:=(hf.1 q (by omega) (by omega)).1
 have hyz2:=(hg.1 (p+1) (by omega) (by omega)).1
 have hall:∀ x ∈ [zQ false f q,s0,zQ false g (p+1)],0<x.size:=by
  intro x hx;simp only[List.mem_cons,List.not_mem_nil,or_false] at hx
  rcases hx with rfl | rfl | rfl
  ·exact hf.2.1 q
  ·exact hne
  ·exact hg.2.1 (p+1)
 have hpf:=fun s=>kB s 3 [zQ false f q,s0,zQ false g (p+1)] rfl hall
 refine⟨hsh,fun lv=>by rw[e];exact cV (wH (yK _ (by simp) hall)),fun s lv h0 h9 hs => ?_⟩;rw[e];generalize hal:qR [zQ false f q,s0,zQ false g (p+1)]=x at *
 have hr:=jnp f g
 have hr2:=jnq f g
 have hx1:=fun s hs=>hf.2.2 s q (by omega) (by omega) hs
 have hx2:=fun s hs=>hg.2.2 s (p+1) (by omega) (by omega) hs
 generalize hyy:zQ false f q=y at *;generalize hyy2:zQ false g (p+1)=y2 at *;clear hsh hall hal e
 by_cases h4:p=4
 ·rw[if_pos h4] at hq;subst hq
  by_cases hlv:p<lv
  ·refine kV (jD jH jT 1) Tryz.func78 rfl (by kernel_rfl) rfl ?_;intro _;conv=>whnf
   refine jE (jD jH jT 1) (dr:=[]) ⟨0,rfl⟩ (.inl rfl) (by kernel_rfl) (fun _ _ h=>h.elim) ?_;conv=>whnf
   refine jE (jD jH jT 1) (dr:=[]) ⟨0,rfl⟩ (.inl rfl) (by kernel_rfl) (fun _ _ h=>h.elim) ?_;conv=>whnf
   refine jE (jD jH jT 1) (dr:=[]) ⟨0,rfl⟩ (.inl rfl) (by kernel_rfl) (fun _ _ h=>h.elim) ?_;conv=>whnf
   (refine xV [] hop ?_;rintro r rfl;conv=>whnf)
   conv=>whnf
   refine xJ ?_;refine jE (jD jH jT 1) (dr:=[]) ⟨0,rfl⟩ (.inl rfl) (by kernel_rfl) (fun _ _ h=>h.elim) ?_;conv=>whnf
   refine xE (congrArg (fun b=>A.v (.bool b)) (j8 hlv)) ?_;refine jE (jD jH jT 1) (dr:=[]) ⟨0,rfl⟩ (.inl rfl) (by kernel_rfl) (fun _ _ h=>h.elim) ?_;conv=>whnf
   refine j7 0 0 2 [1] ((jF s ⟨#[40]⟩ (by decide) (by rw[oZ];omega)).r) ?_;rintro o n' cs' r ⟨s1,rfl,rfl,ho,hs1,rfl⟩;cases ho;conv=>whnf
   refine zJ (l:=[_,_]) [3] (jD jH jT 1) ⟨0,rfl⟩ (fun _ _ h=>h.elim) rfl rfl rfl ?_;conv=>whnf
   refine yB (jD jH jT 1) ⟨1,rfl⟩ (.inl rfl) (by kernel_rfl) (fun _ _ h=>h.elim) ?_;conv=>whnf
   have hz1:s1.size<=s.size+2:=by
    have:=jB s ⟨#[40]⟩
    rw[oZ] at this;rw[hs1];omega
   rw[j8 h4];conv=>whnf
   refine⟨by simp[Nt.kids],?_⟩;conv=>whnf
   (generalize hrq:jJ _ _ (qE (Nt.mk 18 0 s0 [f,g]).kids)=rq;obtain rfl:rq=ntA f:=hrq.symm.trans (hr);clear hrq;conv=>whnf)
   refine j7 0 2 4 [] ((hx1 s1 (by omega))) ?_;rintro o n' cs' r ⟨s',rfl,rfl,ho,hs',rfl⟩;cases ho;conv=>whnf
   have hz2:=jB s1 y
   rw[<- hs'] at hz2
   have hs2:=hs'
   clear hs';generalize s'=s2 at *;refine j7 0 4 6 [5] ((jF s2 s0 hne (by omega)).r) ?_;rintro o n' cs' r ⟨s',rfl,rfl,ho,hs',rfl⟩;cases ho;conv=>whnf
   have hz3:=jB s2 s0
   rw[<- hs'] at hz3
   have hs3:=hs'
   clear hs';generalize s'=s3 at *;refine⟨by simp[Nt.kids],?_⟩;conv=>whnf
   (generalize hrq:jJ _ _ (qE (Nt.mk 18 0 s0 [f,g]).kids)=rq;obtain rfl:rq=ntA g:=hrq.symm.trans (hr2);clear hrq;conv=>whnf)
   refine⟨jV (by omega),?_⟩;conv=>whnf
   refine j7 0 6 7 [] ((hx2 s3 (by omega))) ?_;rintro o n' cs' r ⟨s',rfl,rfl,ho,hs',rfl⟩;cases ho;conv=>whnf
   have hz4:=jB s3 y2
   rw[<- hs'] at hz4;refine⟨.inl rfl,?_⟩;unfold yI;refine cE 0 7 8 [] rfl rfl rfl rfl rfl (jF s' ⟨#[41]⟩ (by decide) (by rw[oZ];omega)) ?_;rintro o n' cs' r ⟨s9,rfl,rfl,ho,hs9,rfl⟩;cases ho;conv=>whnf
   refine⟨8,?_⟩;conv=>whnf
   refine⟨_,rfl,rfl,rfl,?_,rfl⟩
   have:=hpf s1
   rw[xF hlv,hs9,hs',hs3,hs2,<- xB,<- hs1,<- this];rfl
  ·refine xN jH jT 1 Tryz.func78 rfl ?_;intro _;conv=>whnf
   (refine xV [] hop ?_;rintro r rfl;conv=>whnf)
   conv=>whnf
   rw[jW hlv];conv=>whnf
   rw[j8 h4];conv=>whnf
   refine⟨by simp[Nt.kids],?_⟩;conv=>whnf
   (generalize hrq:jJ _ _ (qE (Nt.mk 18 0 s0 [f,g]).kids)=rq;obtain rfl:rq=ntA f:=hrq.symm.trans (hr);clear hrq;conv=>whnf)
   refine j7 0 0 1 [] ((hx1 s (by omega))) ?_;rintro o n' cs' r ⟨s',rfl,rfl,ho,hs',rfl⟩;cases ho;conv=>whnf
   have hz2:=jB s y
   rw[<- hs'] at hz2
   have hs2:=hs'
   clear hs';generalize s'=s2 at *;refine j7 0 1 3 [2] ((jF s2 s0 hne (by omega)).r) ?_;rintro o n' cs' r ⟨s',rfl,rfl,ho,hs',rfl⟩;cases ho;conv=>whnf
   have hz3:=jB s2 s0
   rw[<- hs'] at hz3
   have hs3:=hs'
   clear hs';generalize s'=s3 at *;refine⟨by simp[Nt.kids],?_⟩;conv=>whnf
   (generalize hrq:jJ _ _ (qE (Nt.mk 18 0 s0 [f,g]).kids)=rq;obtain rfl:rq=ntA g:=hrq.symm.trans (hr2);clear hrq;conv=>whnf)
   refine⟨jV (by omega),?_⟩;conv=>whnf
   refine j7 0 3 4 [] ((hx2 s3 (by omega))) ?_;rintro o n' cs' r ⟨s',rfl,rfl,ho,hs',rfl⟩;cases ho;conv=>whnf
   refine⟨4,?_⟩;conv=>whnf
   refine⟨_,rfl,rfl,rfl,?_,rfl⟩
   have:=hpf s
   rw[gP hlv,hs',hs3,hs2,<- this];rfl
 ·rw[if_neg h4] at hq;subst hq
  by_cases hlv:p<lv
  ·refine kV (jD jH jT 1) Tryz.func78 rfl (by kernel_rfl) rfl ?_;intro _;conv=>whnf
   refine jE (jD jH jT 1) (dr:=[]) ⟨0,rfl⟩ (.inl rfl) (by kernel_rfl) (fun _ _ h=>h.elim) ?_;conv=>whnf
   refine jE (jD jH jT 1) (dr:=[]) ⟨0,rfl⟩ (.inl rfl) (by kernel_rfl) (fun _ _ h=>h.elim) ?_;conv=>whnf
   refine jE (jD jH jT 1) (dr:=[]) ⟨0,rfl⟩ (.inl rfl) (by kernel_rfl) (fun _ _ h=>h.elim) ?_;conv=>whnf
   (refine xV [] hop ?_;rintro r rfl;conv=>whnf)
   conv=>whnf
   refine xJ ?_;refine jE (jD jH jT 1) (dr:=[]) ⟨0,rfl⟩ (.inl rfl) (by kernel_rfl) (fun _ _ h=>h.elim) ?_;conv=>whnf
   refine xE (congrArg (fun b=>A.v (.bool b)) (j8 hlv)) ?_;refine jE (jD jH jT 1) (dr:=[]) ⟨0,rfl⟩ (.inl rfl) (by kernel_rfl) (fun _ _ h=>h.elim) ?_;conv=>whnf
   refine j7 0 0 2 [1] ((jF s ⟨#[40]⟩ (by decide) (by rw[oZ];omega)).r) ?_;rintro o n' cs' r ⟨s1,rfl,rfl,ho,hs1,rfl⟩;cases ho;conv=>whnf
   refine zJ (l:=[_,_]) [3] (jD jH jT 1) ⟨0,rfl⟩ (fun _ _ h=>h.elim) rfl rfl rfl ?_;conv=>whnf
   refine yB (jD jH jT 1) ⟨1,rfl⟩ (.inl rfl) (by kernel_rfl) (fun _ _ h=>h.elim) ?_;conv=>whnf
   have hz1:s1.size<=s.size+2:=by
    have:=jB s ⟨#[40]⟩
    rw[oZ] at this;rw[hs1];omega
   rw[jW h4];conv=>whnf
   refine⟨by simp[Nt.kids],?_⟩;conv=>whnf
   (generalize hrq:jJ _ _ (qE (Nt.mk 18 0 s0 [f,g]).kids)=rq;obtain rfl:rq=ntA f:=hrq.symm.trans (hr);clear hrq;conv=>whnf)
   refine j7 0 2 4 [] ((hx1 s1 (by omega))) ?_;rintro o n' cs' r ⟨s',rfl,rfl,ho,hs',rfl⟩;cases ho;conv=>whnf
   have hz2:=jB s1 y
   rw[<- hs'] at hz2
   have hs2:=hs'
   clear hs';generalize s'=s2 at *;refine j7 0 4 6 [5] ((jF s2 s0 hne (by omega)).r) ?_;rintro o n' cs' r ⟨s',rfl,rfl,ho,hs',rfl⟩;cases ho;conv=>whnf
   have hz3:=jB s2 s0
   rw[<- hs'] at hz3
   have hs3:=hs'
   clear hs';generalize s'=s3 at *;refine⟨by simp[Nt.kids],?_⟩;conv=>whnf
   (generalize hrq:jJ _ _ (qE (Nt.mk 18 0 s0 [f,g]).kids)=rq;obtain rfl:rq=ntA g:=hrq.symm.trans (hr2);clear hrq;conv=>whnf)
   refine⟨jV (by omega),?_⟩;conv=>whnf
   refine j7 0 6 7 [] ((hx2 s3 (by omega))) ?_;rintro o n' cs' r ⟨s',rfl,rfl,ho,hs',rfl⟩;cases ho;conv=>whnf
   have hz4:=jB s3 y2
   rw[<- hs'] at hz4;refine⟨.inl rfl,?_⟩;unfold yI;refine cE 0 7 8 [] rfl rfl rfl rfl rfl (jF s' ⟨#[41]⟩ (by decide) (by rw[oZ];omega)) ?_;rintro o n' cs' r ⟨s9,rfl,rfl,ho,hs9,rfl⟩;cases ho;conv=>whnf
   refine⟨8,?_⟩;conv=>whnf
   refine⟨_,rfl,rfl,rfl,?_,rfl⟩
   have:=hpf s1
   rw[xF hlv,hs9,hs',hs3,hs2,<- xB,<- hs1,<- this];rfl
  ·refine xN jH jT 1 Tryz.func78 rfl ?_;intro _;conv=>whnf
   (refine xV [] hop ?_;rintro r rfl;conv=>whnf)
   conv=>whnf
   rw[jW hlv];conv=>whnf
   rw[jW h4];conv=>whnf
   refine⟨by simp[Nt.kids],?_⟩;conv=>whnf
   (generalize hrq:jJ _ _ (qE (Nt.mk 18 0 s0 [f,g]).kids)=rq;obtain rfl:rq=ntA f:=hrq.symm.trans (hr);clear hrq;conv=>whnf)
   refine j7 0 0 1 [] ((hx1 s (by omega))) ?_;rintro o n' cs' r ⟨s',rfl,rfl,ho,hs',rfl⟩;cases ho;conv=>whnf
   have hz2:=jB s y
   rw[<- hs'] at hz2
   have hs2:=hs'
   clear hs';generalize s'=s2 at *;refine j7 0 1 3 [2] ((jF s2 s0 hne (by omega)).r) ?_;rintro o n' cs' r ⟨s',rfl,rfl,ho,hs',rfl⟩;cases ho;conv=>whnf
   have hz3:=jB s2 s0
   rw[<- hs'] at hz3
   have hs3:=hs'
   clear hs';generalize s'=s3 at *;refine⟨by simp[Nt.kids],?_⟩;conv=>whnf
   (generalize hrq:jJ _ _ (qE (Nt.mk 18 0 s0 [f,g]).kids)=rq;obtain rfl:rq=ntA g:=hrq.symm.trans (hr2);clear hrq;conv=>whnf)
   refine⟨jV (by omega),?_⟩;conv=>whnf
   refine j7 0 3 4 [] ((hx2 s3 (by omega))) ?_;rintro o n' cs' r ⟨s',rfl,rfl,ho,hs',rfl⟩;cases ho;conv=>whnf
   refine⟨4,?_⟩;conv=>whnf
   refine⟨_,rfl,rfl,rfl,?_,rfl⟩
   have:=hpf s
   rw[gP hlv,hs',hs3,hs2,<- this];rfl
theorem jk8:∀ s ∈ varL,0<s.size:=by decide
theorem jki:∀ s ∈ builtL,0<s.size:=by decide
theorem js2:∀ s ∈ opL,0<s.size:=by decide
theorem joT:∀ s ∈ bolL,0<s.size:=by decide
theorem joW:∀ s ∈ cmpL,0<s.size:=by decide
theorem jgI {d:Nat} {f:Nt} (h:EI d f):cI d<=1000000->PX (cI d) f:=by
 induction h with
 | lit d n h=>exact fun _=>(jsB n (jjx n h)).mono (tE d)
 | var d s h=>exact fun _=>(jnh 14 (.inl rfl) s (jk8 s h) (ja2 s h)).mono (tE d)
 | nam d s h=>exact fun _=>(jnh 15 (.inr rfl) s (jki s h) (jcr s h)).mono (tE d)
 | drw d f h ih=>intro hc;unfold cI at hc ⊢;exact (jsA (cI d) (by omega) f (ih (by omega))).mono (by omega)
 | neg d f h ih=>intro hc;unfold cI at hc ⊢;exact (jni (cI d) (by omega) pMinus (by decide) (by decide) f (ih (by omega))).mono (by omega)
 | bin d s f g hs h1 h2 i1 i2=>intro hc;unfold cI at hc ⊢;exact jiy (cI d) (by omega) s (js2 s hs) (jmV s hs) f g (i1 (by omega)) (i2 (by omega))
theorem jqR {d:Nat} {f:Nt} (h:EB d f):cI (d+1)<=1000000->PX (cI (d+1)) f:=by
 induction h with
 | lit d n h=>exact fun _=>(jpG n h).mono (tE (d+1))
 | nt d f h ih=>intro hc;have e:cI (d+1+1)=2*cI (d+1)+20:=rfl;rw[e] at hc ⊢;exact (jni (cI (d+1)) (by omega) pNot (by decide) (by decide) f (ih (by omega))).mono (by omega)
 | bin d s f g hs h1 h2 i1 i2=>intro hc;have e:cI (d+1+1)=2*cI (d+1)+20:=rfl;rw[e] at hc ⊢;exact jiy (cI (d+1)) (by omega) s (joT s hs) (jj9 s hs) f g (i1 (by omega)) (i2 (by omega))
 | cmp d s f g hs h1 h2 =>
  intro hc
  have hm:cI (d-1)<=cI d:=by
   cases d with
   | zero=>exact Nat.le_refl _
   | succ d=>rw[Nat.add_sub_cancel];have e:cI (d+1)=2*cI d+20:=rfl;omega
  have e:cI (d+1)=2*cI d+20:=rfl
  rw[e] at hc ⊢;exact jiy (cI d) (by omega) s (joW s hs) (jje s hs) f g ((jgI h1 (by omega)).mono hm) ((jgI h2 (by omega)).mono hm)
theorem jlY (l:List ByteArray) (hl:l ≠ []) (h:∀ x ∈ l,0<x.size):cmF l ≠ ⟨#[]⟩ := by
 have e:=List.dropLast_concat_getLast hl
 have hx:=rD (h _ (List.getLast_mem hl))
 generalize l.getLast hl=y at *
 cases hd:l.dropLast with
 | nil =>
  rw[hd] at e;rw[<- e]
  show jA eB y ≠ _
  rw[wF];exact hx
 | cons x m =>
  rw[hd] at e;rw[<- e,pE];exact r8 hx
def lsS (s:ByteArray) (l:List ByteArray) (j:Nat):ByteArray:=jA s (cmF (l.take j))
theorem jb1 (s:ByteArray) (l:List ByteArray):lsS s l 0=s:=by unfold lsS;rw[List.take_zero];exact pM s
theorem jgj (s:ByteArray) (l:List ByteArray) (h:∀ x ∈ l,0<x.size) (j:Nat) (hj:j<l.length):lsS s l (j+1)=jA (if j=0 then lsS s l j else jA (lsS s l j) pComma) l[j]:=by
 by_cases h0:j=0
 ·subst h0;rw[if_pos rfl,jb1]
  cases l with
  | nil=>simp at hj
  | cons x m=>show jA s (jA eB x)=_;rw[wF];rfl
 ·rw[if_neg h0]
  have hne:l.take j ≠ []:=by
   intro e
   have:=congrArg List.length e
   rw[List.length_take,List.length_nil] at this;omega
  have hm:∀ x ∈ l.take j,0<x.size:=fun x hx=>h x (List.mem_of_mem_take hx)
  have hc:=jlY _ hne hm
  have e1:cmF (l.take (j+1))=jA (cmF (l.take j)++pComma) l[j]:=by
   rw[List.take_succ_eq_append_getElem hj]
   cases ht:l.take j with
   | nil=>exact absurd ht hne
   | cons x m=>exact pE x m _
  unfold lsS;rw[e1,<- zG s _ _ (jfb hc),zG s _ pComma hc,yP _ pComma (by decide)]
theorem jgi (s:ByteArray) (m:Nat) (l:List ByteArray) (hm:∀ x ∈ l,x.size<=m) (hp:∀ x ∈ l,0<x.size):∀ j,j<=l.length->(lsS s l j).size<=s.size+j*(m+3)
 | 0,_=>by rw[jb1];omega
 | j+1,h=>by
  have ih:=jgi s m l hm hp j (by omega)
  have hx:=hm _ (List.getElem_mem (show j<l.length by omega))
  rw[jgj s l hp j (by omega),Nat.succ_mul]
  have g1:=jB (lsS s l j) pComma
  have e1:pComma.size=1:=rfl
  have g2:=jB (if j=0 then lsS s l j else jA (lsS s l j) pComma) (l[j]'(by omega))
  by_cases h0:j=0
  ·rw[if_pos h0] at g2 ⊢;omega
  ·rw[if_neg h0] at g2 ⊢;omega
theorem dY (m:Nat) (hm:m<=1000000) (l:List Nt) (hl:l.length<=100) (hf:∀ f ∈ l,PX m f) (s:ByteArray) (hs:s.size<=300000000):tA 77 [[.adr mL,.own 0]] s [.box 0 0,.sl 4 l.length (qE l)] fun o s' r=>o=[[.adr mL,.own 0]]/\s'=jA s (zN false l)/\r = .tup []:=by
 have hpos:∀ x ∈ l.map (fun f=>zQ false f 1),0<x.size:=fun x hx=>by
  obtain⟨f,h1,rfl⟩ := List.mem_map.1 hx
  exact (hf f h1).2.1 1
 have hmax:∀ x ∈ l.map (fun f=>zQ false f 1),x.size<=m:=fun x hx=>by
  obtain⟨f,h1,rfl⟩ := List.mem_map.1 hx
  exact ((hf f h1).1 1 (by decide) (by decide)).1
 obtain⟨S,hS⟩ : ∃ S:Nat->ByteArray,∀ j,S j=lsS s (l.map fun f=>zQ false f 1) j:=⟨_,fun _=>rfl⟩
 have hS0:S 0=s:=by rw[hS];exact jb1 _ _
 have hSl:jA s (zN false l)=jA (S l.length) pSemi:=by
  rw[hS];unfold lsS zN;rw[show l.length=(l.map fun f=>zQ false f 1).length by simp,List.take_length]
  by_cases h0:l=[]
  ·subst h0
   show jA s (eB++pSemi)=jA (jA s eB) pSemi
   rw[pM];rfl
  ·have hc:=jlY (l.map fun f=>zQ false f 1) (by simpa using h0) hpos
   rw[zG s _ _ hc,yP _ pSemi (by decide)]
 have hSn:∀ j (h:j<l.length),S (j+1)=jA (if j=0 then S j else jA (S j) pComma) (zQ false l[j] 1):=fun j h=>by
  rw[hS,hS,jgj _ _ hpos j (by simpa using h),List.getElem_map]
 have hSz:∀ j,j<=l.length->(S j).size<=s.size+100*1000003:=fun j hj=>by
  rw[hS]
  have:=jgi s m _ hmax hpos j (by simpa using hj)
  have h2:j*(m+3)<=100*1000003:=Nat.mul_le_mul (by omega) (by omega)
  omega
 rw[hSl,<- hS0]
 have hz0:s.size<=300000000:=hs
 refine xN jH jT 1 Tryz.func77 rfl ?_;intro _;conv=>whnf
 refine jO [0,6,7] ?_;conv=>whnf
 refine qA (fun j:Nat=>[(8,.v (.int .i64 j))]) (fun _=>[[.adr mL,.own 0]]) (fun j=>[.live 5 0 (S j).size [.v (.string (S j))]]) (fun j=>j<=l.length) (fun j=>l.length-j) 0 ?_ (Nat.zero_le _) ?_
 ·repeat' constructor
 rintro j hj;conv=>whnf
 have hz1:=hSz j hj
 by_cases hlt:j<l.length
 ·rw[j8 (show (j:Int)<(l.length:Int) by omega)]
  have hrow:=zK l j hlt
  have hSn:=hSn j hlt
  have hg:=hf _ (List.getElem_mem hlt)
  generalize l[j]=g at *
  have hyz:=(hg.1 1 (by decide) (by decide)).1
  have hx:=fun s hs=>hg.2.2 s 1 (by decide) (by decide) hs
  generalize zQ false g 1=y at *;conv=>whnf
  refine⟨by omega,?_⟩;conv=>whnf
  (generalize hrq:jJ _ _ (qE l)=rq;obtain rfl:rq=ntA g:=hrq.symm.trans (hrow);clear hrq;conv=>whnf)
  by_cases hj0:j=0
  ·subst hj0;rw[if_pos rfl] at hSn;conv=>whnf
   refine j7 0 0 1 [] (hx (S 0) (by omega)) ?_;rintro o n' cs' r ⟨s4,rfl,rfl,ho,hs4,rfl⟩;cases ho;conv=>whnf
   refine⟨jV (by omega),?_⟩;conv=>whnf
   refine⟨0+1,jS [1] ?_,hlt,by omega⟩;conv=>whnf
   rw[hs4,show S (0+1)=_ from hSn]
   repeat' constructor
  ·rw[if_neg hj0] at hSn
   have hz5:=jB (S j) pComma
   have e1:pComma.size=1:=rfl
   conv=>whnf
   rw[j8 (show (0:Int)<(j:Int) by omega)];conv=>whnf
   refine j7 0 0 2 [1] ((jF (S j) pComma (by decide) (by omega)).r) ?_;rintro o n' cs' r ⟨s3,rfl,rfl,ho,hs3,rfl⟩;cases ho;conv=>whnf
   refine j7 0 2 3 [] (hx s3 (by rw[hs3];omega)) ?_;rintro o n' cs' r ⟨s4,rfl,rfl,ho,hs4,rfl⟩;cases ho;conv=>whnf
   refine⟨jV (by omega),?_⟩;conv=>whnf
   refine⟨j+1,jS [3] ?_,hlt,by omega⟩;conv=>whnf
   rw[hs4,hs3,show S (j+1)=_ from hSn]
   repeat' constructor
 ·rw[jW (show ¬ (j:Int)<(l.length:Int) by omega)]
  obtain rfl:j=l.length:=by omega
  have e1:pSemi.size=1:=rfl
  conv=>whnf
  refine j7 0 0 2 [1] ((jF (S l.length) pSemi (by decide) (by omega)).r) ?_;rintro o n' cs' r ⟨s',rfl,rfl,ho,hs',rfl⟩;cases ho;conv=>whnf
  refine⟨2,?_⟩;conv=>whnf
  exact⟨_,rfl,rfl,rfl,hs',rfl⟩
def PT (m:Nat) (f:Nt):Prop:=STz false m f/\0<(bL false f).size /\ ∀ s:ByteArray,s.size+m+100<=250000000->tA 51 [[.adr mL,.own 0]] s [.box 0 0,.agg (ntA f)] fun o s' r=>o=[[.adr mL,.own 0]]/\s'=jA s (bL false f)/\r = .tup []
def PB (m:Nat) (f:Nt):Prop:=BKz false m f/\0<(nP false f).size /\ ∀ s:ByteArray,s.size+m+100<=250000000->tA 26 [[.adr mL,.own 0]] s [.box 0 0,.agg (ntA f)] fun o s' r=>o=[[.adr mL,.own 0]]/\s'=jA s (nP false f)/\r = .tup []
theorem PT.mono {m m':Nat} {f:Nt} (h:PT m f) (hm:m<=m'):PT m' f:=⟨⟨Nat.le_trans h.1.1 hm,h.1.2⟩,h.2.1,fun s hs=>h.2.2 s (by omega)⟩
theorem PB.mono {m m':Nat} {f:Nt} (h:PB m f) (hm:m<=m'):PB m' f:=⟨⟨Nat.le_trans h.1.1 hm,h.1.2⟩,h.2.1,fun s hs=>h.2.2 s (by omega)⟩
theorem jcY (l:List Nt):0<(zN false l).size:=by
 unfold zN;rw[ByteArray.size_append]
 have:pSemi.size=1:=rfl
 omega
theorem jis (k:Int) (hk:k=1 ∨ k=8 ∨ k=9) (s0:ByteArray) (hs0:s0.size<=12) (hne:k=1->0<s0.size) (m:Nat) (hm:m<=1000000) (l:List Nt) (hl:l.length<=2) (hf:∀ f ∈ l,PX m f):PT (2*m+40) (.mk k 0 s0 l):=by
 have hst:=u9 false k hk s0 hs0 m hm l hl fun f h=>(hf f h).1
 have hlp:=jcY l
 have c1:pEq.size=1:=rfl
 have c2:wReply.size=5:=rfl
 have c3:wFail.size=4:=rfl
 rcases hk with rfl | rfl | rfl
 ·have e:bL false (.mk 1 0 s0 l)=qR [s0,pEq,zN false l]:=rfl
  have hne:=hne rfl
  have hall:∀ x ∈ [s0,pEq,zN false l],0<x.size:=by
   intro x hx;simp only[List.mem_cons,List.not_mem_nil,or_false] at hx
   rcases hx with rfl | rfl | rfl
   ·exact hne
   ·decide
   ·exact hlp
  refine⟨hst,by rw[e];exact wH (yK _ (by simp) hall),fun s hs => ?_⟩;rw[e];refine xN jH jT 1 Tryz.func51 rfl ?_;intro _;conv=>whnf
  refine j7 0 0 2 [1] ((yV s s0 pEq hne (by decide) (by omega)).r) ?_;rintro o n' cs' r ⟨s',rfl,rfl,ho,hs',rfl⟩;cases ho;conv=>whnf
  have hz2:s'.size<=s.size+15:=by
   have g1:=jB s s0
   have g2:=jB (jA s s0) pEq
   rw[<- hs'] at g2;omega
  have hs2:=hs'
  clear hs';generalize s'=s2 at *;refine j7 0 2 3 [] ((dY m hm l (by omega) hf s2 (by omega))) ?_;rintro o n' cs' r ⟨s',rfl,rfl,ho,hs',rfl⟩;cases ho;conv=>whnf
  refine⟨3,?_⟩;conv=>whnf
  refine⟨_,rfl,rfl,rfl,?_,rfl⟩;rw[hs',hs2,<- kB s 3 [s0,pEq,zN false l] rfl hall];rfl
 ·have e:bL false (.mk 8 0 s0 l)=qR [wReply,zN false l]:=rfl
  have hall:∀ x ∈ [wReply,zN false l],0<x.size:=by
   intro x hx;simp only[List.mem_cons,List.not_mem_nil,or_false] at hx
   rcases hx with rfl | rfl
   ·decide
   ·exact hlp
  refine⟨hst,by rw[e];exact wH (yK _ (by simp) hall),fun s hs => ?_⟩;rw[e];refine xN jH jT 1 Tryz.func51 rfl ?_;intro _;conv=>whnf
  refine j7 0 0 2 [1] ((jF s wReply (by decide) (by omega)).r) ?_;rintro o n' cs' r ⟨s',rfl,rfl,ho,hs',rfl⟩;cases ho;conv=>whnf
  have hz2:=jB s wReply
  rw[<- hs'] at hz2
  have hs2:=hs'
  clear hs';generalize s'=s2 at *;refine j7 0 2 3 [] ((dY m hm l (by omega) hf s2 (by omega))) ?_;rintro o n' cs' r ⟨s',rfl,rfl,ho,hs',rfl⟩;cases ho;conv=>whnf
  refine⟨3,?_⟩;conv=>whnf
  refine⟨_,rfl,rfl,rfl,?_,rfl⟩;rw[hs',hs2,<- kB s 2 [wReply,zN false l] rfl hall];rfl
 ·have e:bL false (.mk 9 0 s0 l)=qR [wFail,zN false l]:=rfl
  have hall:∀ x ∈ [wFail,zN false l],0<x.size:=by
   intro x hx;simp only[List.mem_cons,List.not_mem_nil,or_false] at hx
   rcases hx with rfl | rfl
   ·decide
   ·exact hlp
  refine⟨hst,by rw[e];exact wH (yK _ (by simp) hall),fun s hs => ?_⟩;rw[e];refine xN jH jT 1 Tryz.func51 rfl ?_;intro _;conv=>whnf
  refine j7 0 0 2 [1] ((jF s wFail (by decide) (by omega)).r) ?_;rintro o n' cs' r ⟨s',rfl,rfl,ho,hs',rfl⟩;cases ho;conv=>whnf
  have hz2:=jB s wFail
  rw[<- hs'] at hz2
  have hs2:=hs'
  clear hs';generalize s'=s2 at *;refine j7 0 2 3 [] ((dY m hm l (by omega) hf s2 (by omega))) ?_;rintro o n' cs' r ⟨s',rfl,rfl,ho,hs',rfl⟩;cases ho;conv=>whnf
  refine⟨3,?_⟩;conv=>whnf
  refine⟨_,rfl,rfl,rfl,?_,rfl⟩;rw[hs',hs2,<- kB s 2 [wFail,zN false l] rfl hall];rfl
theorem jna (k:Int) (hk:k=5 ∨ k=6) (n:Nat) (hn:n<1000):PT 40 (.mk k n eB []):=by
 have hst:=jeT false k hk n hn
 have hdc:=aP n (by omega)
 rw[show ((n:Int)).toNat=n by omega] at hdc
 have hds:=yF n (by omega)
 have hdp:=cD n
 have c1:pSemi.size=1:=rfl
 have c2:wTimer.size=5:=rfl
 have c3:wCancel.size=6:=rfl
 rcases hk with rfl | rfl
 ·have e:bL false (.mk 5 n eB [])=qR [wTimer,bs (qG n),pSemi]:=rfl
  have hall:∀ x ∈ [wTimer,bs (qG n),pSemi],0<x.size:=by
   intro x hx;simp only[List.mem_cons,List.not_mem_nil,or_false] at hx
   rcases hx with rfl | rfl | rfl
   ·decide
   ·exact hdp
   ·decide
  refine⟨hst,by rw[e];exact wH (yK _ (by simp) hall),fun s hs => ?_⟩;rw[e]
  have hpf:=kB s 3 [wTimer,bs (qG n),pSemi] rfl hall
  generalize bs (qG n)=x at *;refine xN jH jT 1 Tryz.func51 rfl ?_;intro _;conv=>whnf
  (refine xV [] hdc ?_;rintro r rfl;conv=>whnf)
  refine j7 0 0 2 [1] ((sO s wTimer x pSemi (by decide) hdp (by decide) (by omega)).r) ?_;rintro o n' cs' r ⟨s',rfl,rfl,ho,hs',rfl⟩;cases ho;conv=>whnf
  refine⟨2,?_⟩;conv=>whnf
  refine⟨_,rfl,rfl,rfl,?_,rfl⟩;rw[hs',<- hpf];rfl
 ·have e:bL false (.mk 6 n eB [])=qR [wCancel,bs (qG n),pSemi]:=rfl
  have hall:∀ x ∈ [wCancel,bs (qG n),pSemi],0<x.size:=by
   intro x hx;simp only[List.mem_cons,List.not_mem_nil,or_false] at hx
   rcases hx with rfl | rfl | rfl
   ·decide
   ·exact hdp
   ·decide
  refine⟨hst,by rw[e];exact wH (yK _ (by simp) hall),fun s hs => ?_⟩;rw[e]
  have hpf:=kB s 3 [wCancel,bs (qG n),pSemi] rfl hall
  generalize bs (qG n)=x at *;refine xN jH jT 1 Tryz.func51 rfl ?_;intro _;conv=>whnf
  (refine xV [] hdc ?_;rintro r rfl;conv=>whnf)
  refine j7 0 0 2 [1] ((sO s wCancel x pSemi (by decide) hdp (by decide) (by omega)).r) ?_;rintro o n' cs' r ⟨s',rfl,rfl,ho,hs',rfl⟩;cases ho;conv=>whnf
  refine⟨2,?_⟩;conv=>whnf
  refine⟨_,rfl,rfl,rfl,?_,rfl⟩;rw[hs',<- hpf];rfl
theorem jnb (k:Int) (hk:k=7 ∨ k=10):PT 40 (.mk k 0 eB []):=by
 have hst:=jeU false k hk
 have c1:pSemi.size=1:=rfl
 have c2:(⟨#[115,121,110,99]⟩ : ByteArray).size=4:=rfl
 have c3:(⟨#[115,116,111,112]⟩ : ByteArray).size=4:=rfl
 rcases hk with rfl | rfl
 ·refine⟨hst,show 0<syncB.size by decide,fun s hs => ?_⟩;rw[show bL false (.mk 7 0 eB [])=qR [⟨#[115,121,110,99]⟩,pSemi] by decide]
  have hpf:=kB s 2 [⟨#[115,121,110,99]⟩,pSemi] rfl (by decide)
  refine xN jH jT 1 Tryz.func51 rfl ?_;intro _;conv=>whnf
  refine j7 0 0 2 [1] ((yV s ⟨#[115,121,110,99]⟩ pSemi (by decide) (by decide) (by omega)).r) ?_;rintro o n' cs' r ⟨s',rfl,rfl,ho,hs',rfl⟩;cases ho;conv=>whnf
  refine⟨2,?_⟩;conv=>whnf
  refine⟨_,rfl,rfl,rfl,?_,rfl⟩;rw[hs'];exact hpf
 ·refine⟨hst,show 0<stopB.size by decide,fun s hs => ?_⟩;rw[show bL false (.mk 10 0 eB [])=qR [⟨#[115,116,111,112]⟩,pSemi] by decide]
  have hpf:=kB s 2 [⟨#[115,116,111,112]⟩,pSemi] rfl (by decide)
  refine xN jH jT 1 Tryz.func51 rfl ?_;intro _;conv=>whnf
  refine j7 0 0 2 [1] ((yV s ⟨#[115,116,111,112]⟩ pSemi (by decide) (by decide) (by omega)).r) ?_;rintro o n' cs' r ⟨s',rfl,rfl,ho,hs',rfl⟩;cases ho;conv=>whnf
  refine⟨2,?_⟩;conv=>whnf
  refine⟨_,rfl,rfl,rfl,?_,rfl⟩;rw[hs'];exact hpf
theorem jsx (n:Nat) (hn:n<1000) (m:Nat) (hm:m<=1000000) (f g h:Nt) (hf:PX m f) (hg:PX m g) (hh:PX m h):PT (3*m+80) (.mk 4 n eB [f,g,h]):=by
 have hst:=jk1 false n hn m hm f g h hf.1 hg.1 hh.1
 have hgh:∀ x ∈ [g,h],PX m x:=fun x hx=>by
  simp only[List.mem_cons,List.not_mem_nil,or_false] at hx
  rcases hx with rfl | rfl
  ·exact hg
  ·exact hh
 have hlp:=jcY [g,h]
 have hdc:=aP n (by omega)
 rw[show ((n:Int)).toNat=n by omega] at hdc
 have hds:=yF n (by omega)
 have hdp:=cD n
 have c1:pComma.size=1:=rfl
 have c2:wSend.size=4:=rfl
 have e:bL false (.mk 4 n eB [f,g,h])=qR [wSend,zQ false f 1,pComma,bs (qG n),pComma,zN false [g,h]]:=rfl
 have hy:=hf.2.1 1
 have hyz:=(hf.1 1 (by decide) (by decide)).1
 have hall:∀ x ∈ [wSend,zQ false f 1,pComma,bs (qG n),pComma,zN false [g,h]],0<x.size:=by
  intro x hx;simp only[List.mem_cons,List.not_mem_nil,or_false] at hx
  rcases hx with rfl | rfl | rfl | rfl | rfl | rfl
  ·decide
  ·exact hy
  ·decide
  ·exact hdp
  ·decide
  ·exact hlp
 refine⟨hst,by rw[e];exact wH (yK _ (by simp) hall),fun s hs => ?_⟩;rw[e]
 have hpf:=kB s 6 [wSend,zQ false f 1,pComma,bs (qG n),pComma,zN false [g,h]] rfl hall
 have hls:=fun s hs=>dY m hm [g,h] (by simp) hgh s hs
 have hx1:=fun s hs=>hf.2.2 s 1 (by decide) (by decide) hs
 rw[<- hpf];clear hpf hall hlp e;generalize zN false [g,h]=x at *;generalize bs (qG n)=d at *;generalize zQ false f 1=y at *
 have hr:=(jqT f g h).1
 have hdr:((qE [f,g,h]).drop 4).take 8=qE [g,h]:=by
  rw[zH f [g,h],List.drop_left' (by rfl),List.take_of_length_le (by rw[jmO];simp)]
 rw[<- hdr] at hls;refine xN jH jT 1 Tryz.func51 rfl ?_;intro _;conv=>whnf
 refine j7 0 0 2 [1] ((jF s wSend (by decide) (by omega)).r) ?_;rintro o n' cs' r ⟨s',rfl,rfl,ho,hs',rfl⟩;cases ho;conv=>whnf
 have hz2:=jB s wSend
 rw[<- hs'] at hz2
 have hs2:=hs'
 clear hs';generalize s'=s2 at *;refine⟨by simp[Nt.kids],?_⟩;conv=>whnf
 (generalize hrq:jJ _ _ (qE (Nt.mk 4 n eB [f,g,h]).kids)=rq;obtain rfl:rq=ntA f:=hrq.symm.trans (hr);clear hrq;conv=>whnf)
 refine j7 0 2 3 [] ((hx1 s2 (by omega))) ?_;rintro o n' cs' r ⟨s',rfl,rfl,ho,hs',rfl⟩;cases ho;conv=>whnf
 have hz3:=jB s2 y
 rw[<- hs'] at hz3
 have hs3:=hs'
 clear hs';generalize s'=s3 at *
 (refine xV [] hdc ?_;rintro r rfl;conv=>whnf)
 refine j7 0 3 5 [4] ((sO s3 pComma d pComma (by decide) hdp (by decide) (by omega)).r) ?_;rintro o n' cs' r ⟨s',rfl,rfl,ho,hs',rfl⟩;cases ho;conv=>whnf
 have hz4:s'.size<=s3.size+18:=by
  have g1:=jB s3 pComma
  have g2:=jB (jA s3 pComma) d
  have g3:=jB (jA (jA s3 pComma) d) pComma
  rw[<- hs'] at g3;omega
 have hs4:=hs'
 clear hs';generalize s'=s4 at *;refine⟨by simp[Nt.kids],?_⟩;conv=>whnf
 refine j7 0 5 6 [] ((hls s4 (by omega))) ?_;rintro o n' cs' r ⟨s',rfl,rfl,ho,hs',rfl⟩;cases ho;conv=>whnf
 refine⟨6,?_⟩;conv=>whnf
 refine⟨_,rfl,rfl,rfl,?_,rfl⟩;rw[hs',hs4,hs3,hs2];rfl
theorem jsy (m:Nat) (hm:m<=100000000) (c b:Nt) (hc:PX m c) (hb:PB m b):PT (2*m+40) (.mk 3 0 eB [c,b]):=by
 have hst:=jk2 false m hm c b hc.1 hb.1
 have c2:wWhile.size=5:=rfl
 have e:bL false (.mk 3 0 eB [c,b])=qR [wWhile,zQ false c 1,nP false b]:=rfl
 have hyz:=(hc.1 1 (by decide) (by decide)).1
 have hall:∀ x ∈ [wWhile,zQ false c 1,nP false b],0<x.size:=by
  intro x hx;simp only[List.mem_cons,List.not_mem_nil,or_false] at hx
  rcases hx with rfl | rfl | rfl
  ·decide
  ·exact hc.2.1 1
  ·exact hb.2.1
 refine⟨hst,by rw[e];exact wH (yK _ (by simp) hall),fun s hs => ?_⟩;rw[e,<- kB s 3 [wWhile,zQ false c 1,nP false b] rfl hall]
 have hx1:=fun s hs=>hc.2.2 s 1 (by decide) (by decide) hs
 have hx2:=hb.2.2
 clear hall e;generalize zQ false c 1=y at *;generalize nP false b=x at *
 have hr:=jnp c b
 have hr2:=jnq c b
 refine xN jH jT 1 Tryz.func51 rfl ?_;intro _;conv=>whnf
 refine j7 0 0 2 [1] ((jF s wWhile (by decide) (by omega)).r) ?_;rintro o n' cs' r ⟨s',rfl,rfl,ho,hs',rfl⟩;cases ho;conv=>whnf
 have hz2:=jB s wWhile
 rw[<- hs'] at hz2
 have hs2:=hs'
 clear hs';generalize s'=s2 at *;refine⟨by simp[Nt.kids],?_⟩;conv=>whnf
 (generalize hrq:jJ _ _ (qE (Nt.mk 3 0 eB [c,b]).kids)=rq;obtain rfl:rq=ntA c:=hrq.symm.trans (hr);clear hrq;conv=>whnf)
 refine j7 0 2 3 [] ((hx1 s2 (by omega))) ?_;rintro o n' cs' r ⟨s',rfl,rfl,ho,hs',rfl⟩;cases ho;conv=>whnf
 have hz3:=jB s2 y
 rw[<- hs'] at hz3
 have hs3:=hs'
 clear hs';generalize s'=s3 at *;refine⟨by simp[Nt.kids],?_⟩;conv=>whnf
 (generalize hrq:jJ _ _ (qE (Nt.mk 3 0 eB [c,b]).kids)=rq;obtain rfl:rq=ntA b:=hrq.symm.trans (hr2);clear hrq;conv=>whnf)
 refine j7 0 3 4 [] ((hx2 s3 (by omega))) ?_;rintro o n' cs' r ⟨s',rfl,rfl,ho,hs',rfl⟩;cases ho;conv=>whnf
 refine⟨4,?_⟩;conv=>whnf
 refine⟨_,rfl,rfl,rfl,?_,rfl⟩;rw[hs',hs3,hs2];rfl
theorem jsw (m:Nat) (hm:m<=50000000) (c b d:Nt) (hc:PX m c) (hb:PB m b) (hd:PB m d):PT (3*m+60) (.mk 2 0 eB [c,b,d]):=by
 have hst:=jk0 false m hm c b d hc.1 hb.1 hd.1
 have c2:wIf.size=2:=rfl
 have c3:wElse.size=4:=rfl
 have e:bL false (.mk 2 0 eB [c,b,d])=if 0<d.kids.length then qR [qR [wIf,zQ false c 1,nP false b],wElse,nP false d] else qR [wIf,zQ false c 1,nP false b]:=rfl
 have hyz:=(hc.1 1 (by decide) (by decide)).1
 have hbz:=hb.1.1
 have hdz:=hd.1.1
 have hall:∀ x ∈ [wIf,zQ false c 1,nP false b],0<x.size:=by
  intro x hx;simp only[List.mem_cons,List.not_mem_nil,or_false] at hx
  rcases hx with rfl | rfl | rfl
  ·decide
  ·exact hc.2.1 1
  ·exact hb.2.1
 have hv:=wH (yK [wIf,zQ false c 1,nP false b] (by simp) hall)
 have hall2:∀ x ∈ [qR [wIf,zQ false c 1,nP false b],wElse,nP false d],0<x.size:=by
  intro x hx;simp only[List.mem_cons,List.not_mem_nil,or_false] at hx
  rcases hx with rfl | rfl | rfl
  ·exact hv
  ·decide
  ·exact hd.2.1
 refine⟨hst,by rw[e];split;exact wH (yK _ (by simp) hall2);exact hv,fun s hs => ?_⟩
 have hpf:=kB s 3 [wIf,zQ false c 1,nP false b] rfl hall
 have hpf2:=kB s 3 [qR [wIf,zQ false c 1,nP false b],wElse,nP false d] rfl hall2
 have hx1:=fun s hs=>hc.2.2 s 1 (by decide) (by decide) hs
 have hx2:=hb.2.2
 have hx3:=hd.2.2
 rw[e];clear hall hall2 hv e hst;generalize hvv:qR [wIf,zQ false c 1,nP false b]=v at *;clear hvv;generalize zQ false c 1=y at *;generalize nP false b=x at *;generalize nP false d=z at *
 obtain⟨hr,hr2,hr3⟩ := jqT c b d
 have hpf3:jA (jA (jA s wIf) y) x=jA s v:=hpf
 by_cases hl:0<d.kids.length
 ·rw[if_pos hl];refine xN jH jT 1 Tryz.func51 rfl ?_;intro _;conv=>whnf
  refine j7 0 0 2 [1] ((jF s wIf (by decide) (by omega)).r) ?_;rintro o n' cs' r ⟨s',rfl,rfl,ho,hs',rfl⟩;cases ho;conv=>whnf
  have hz2:=jB s wIf
  rw[<- hs'] at hz2
  have hs2:=hs'
  clear hs';generalize s'=s2 at *;refine⟨by simp[Nt.kids],?_⟩;conv=>whnf
  (generalize hrq:jJ _ _ (qE (Nt.mk 2 0 eB [c,b,d]).kids)=rq;obtain rfl:rq=ntA c:=hrq.symm.trans (hr);clear hrq;conv=>whnf)
  refine j7 0 2 3 [] ((hx1 s2 (by omega))) ?_;rintro o n' cs' r ⟨s',rfl,rfl,ho,hs',rfl⟩;cases ho;conv=>whnf
  have hz3:=jB s2 y
  rw[<- hs'] at hz3
  have hs3:=hs'
  clear hs';generalize s'=s3 at *;refine⟨by simp[Nt.kids],?_⟩;conv=>whnf
  (generalize hrq:jJ _ _ (qE (Nt.mk 2 0 eB [c,b,d]).kids)=rq;obtain rfl:rq=ntA b:=hrq.symm.trans (hr2);clear hrq;conv=>whnf)
  refine j7 0 3 4 [] ((hx2 s3 (by omega))) ?_;rintro o n' cs' r ⟨s',rfl,rfl,ho,hs',rfl⟩;cases ho;conv=>whnf
  have hz4:=jB s3 x
  rw[<- hs'] at hz4
  have hs4:=hs'
  clear hs';generalize s'=s4 at *;refine⟨by simp[Nt.kids],?_⟩;conv=>whnf
  (generalize hrq:jJ _ _ (qE (Nt.mk 2 0 eB [c,b,d]).kids)=rq;obtain rfl:rq=ntA d:=hrq.symm.trans (hr3);clear hrq;conv=>whnf)
  rw[j8 (show 0<(d.kids.length:Int) by omega)];conv=>whnf
  refine j7 0 4 6 [5] ((jF s4 wElse (by decide) (by omega)).r) ?_;rintro o n' cs' r ⟨s',rfl,rfl,ho,hs',rfl⟩;cases ho;conv=>whnf
  have hz5:=jB s4 wElse
  rw[<- hs'] at hz5
  have hs5:=hs'
  clear hs';generalize s'=s5 at *;refine⟨by simp[Nt.kids],?_⟩;conv=>whnf
  (generalize hrq:jJ _ _ (qE (Nt.mk 2 0 eB [c,b,d]).kids)=rq;obtain rfl:rq=ntA d:=hrq.symm.trans (hr3);clear hrq;conv=>whnf)
  refine j7 0 6 7 [] ((hx3 s5 (by omega))) ?_;rintro o n' cs' r ⟨s',rfl,rfl,ho,hs',rfl⟩;cases ho;conv=>whnf
  refine⟨7,?_⟩;conv=>whnf
  refine⟨_,rfl,rfl,rfl,?_,rfl⟩;rw[hs',hs5,hs4,hs3,hs2,hpf3,<- hpf2];rfl
 ·rw[if_neg hl];refine xN jH jT 1 Tryz.func51 rfl ?_;intro _;conv=>whnf
  refine j7 0 0 2 [1] ((jF s wIf (by decide) (by omega)).r) ?_;rintro o n' cs' r ⟨s',rfl,rfl,ho,hs',rfl⟩;cases ho;conv=>whnf
  have hz2:=jB s wIf
  rw[<- hs'] at hz2
  have hs2:=hs'
  clear hs';generalize s'=s2 at *;refine⟨by simp[Nt.kids],?_⟩;conv=>whnf
  (generalize hrq:jJ _ _ (qE (Nt.mk 2 0 eB [c,b,d]).kids)=rq;obtain rfl:rq=ntA c:=hrq.symm.trans (hr);clear hrq;conv=>whnf)
  refine j7 0 2 3 [] ((hx1 s2 (by omega))) ?_;rintro o n' cs' r ⟨s',rfl,rfl,ho,hs',rfl⟩;cases ho;conv=>whnf
  have hz3:=jB s2 y
  rw[<- hs'] at hz3
  have hs3:=hs'
  clear hs';generalize s'=s3 at *;refine⟨by simp[Nt.kids],?_⟩;conv=>whnf
  (generalize hrq:jJ _ _ (qE (Nt.mk 2 0 eB [c,b,d]).kids)=rq;obtain rfl:rq=ntA b:=hrq.symm.trans (hr2);clear hrq;conv=>whnf)
  refine j7 0 3 4 [] ((hx2 s3 (by omega))) ?_;rintro o n' cs' r ⟨s',rfl,rfl,ho,hs',rfl⟩;cases ho;conv=>whnf
  have hz4:=jB s3 x
  rw[<- hs'] at hz4
  have hs4:=hs'
  clear hs';generalize s'=s4 at *;refine⟨by simp[Nt.kids],?_⟩;conv=>whnf
  (generalize hrq:jJ _ _ (qE (Nt.mk 2 0 eB [c,b,d]).kids)=rq;obtain rfl:rq=ntA d:=hrq.symm.trans (hr3);clear hrq;conv=>whnf)
  rw[jW (show ¬ 0<(d.kids.length:Int) by omega)];conv=>whnf
  refine⟨4,?_⟩;conv=>whnf
  refine⟨_,rfl,rfl,rfl,?_,rfl⟩;rw[hs4,hs3,hs2,hpf3]
theorem uW (m:Nat) (hm:m<=1000000) (l:List Nt) (hl:l.length<=3) (hf:∀ f ∈ l,PT m f):PB (3*m+10) (qD l):=by
 have hbk:=bkz false m hm l hl fun f h=>(hf f h).1
 have c1:pLb.size=1:=rfl
 have c2:pRb.size=1:=rfl
 have e:nP false (qD l)=bkL false l++pRb:=jhD _ _ _ _ _
 refine⟨hbk,by rw[e,ByteArray.size_append];omega,fun s hs => ?_⟩
 have hpos:∀ x ∈ pLb :: l.map (bL false),0<x.size:=fun x hx=>by
  rcases List.mem_cons.1 hx with rfl | hx
  ·decide
  ·obtain⟨f,h1,rfl⟩ := List.mem_map.1 hx
   exact (hf f h1).2.1
 obtain⟨S,hS⟩ : ∃ S:Nat->ByteArray,∀ j,S j=fG s (pLb :: (l.map (bL false)).take j):=⟨_,fun _=>rfl⟩
 have hS0:S 0=jA s pLb:=by rw[hS,List.take_zero];rfl
 have hbL:qR (pLb :: l.map (bL false))=bkL false l:=rfl
 have hSl:jA s (nP false (qD l))=jA (S l.length) pRb:=by
  have hne:=yK (pLb :: l.map (bL false)) (by simp) hpos
  rw[hS,show l.length=(l.map (bL false)).length by simp,List.take_length,kB s _ _ rfl hpos,e,zG s _ _ hne,hbL,yP _ pRb (by decide)]
 have hSn:∀ j (h:j<l.length),S (j+1)=jA (S j) (bL false l[j]):=fun j h=>by
  rw[hS,hS];unfold fG;rw[List.take_succ_eq_append_getElem (by simpa using h),<- List.cons_append,List.foldl_append,List.getElem_map];rfl
 have hSz:∀ j,j<=l.length->(S j).size<=s.size+2+j*(m+1):=fun j=>by
  induction j with
  | zero =>
   intro _
   have:=jB s pLb
   rw[hS0];omega
  | succ j ih =>
   intro hj
   have:=ih (by omega)
   have h1:=(hf _ (List.getElem_mem (show j<l.length by omega))).1.1
   have h2:=jB (S j) (bL false (l[j]'(by omega)))
   rw[hSn j (by omega),Nat.succ_mul];omega
 rw[hSl];unfold qD;rw[show ntA (Nt.mk 11 0 eB l)=[intA 11,intA 0,jY eB,.sl 4 l.length (qE l)] from rfl];refine xN jH jT 1 Tryz.func26 rfl ?_;intro _;conv=>whnf
 refine j7 0 0 2 [1] ((jF s pLb (by decide) (by omega)).r) ?_;rintro o n' cs' r ⟨s',rfl,rfl,ho,hs',rfl⟩;cases ho;conv=>whnf
 rw[<- hS0] at hs';subst hs';refine pY [2] ?_;conv=>whnf
 refine jO [0,3,10,11] ?_;conv=>whnf
 refine qA (fun j:Nat=>[(12,.v (.int .i64 j))]) (fun _=>[[.adr mL,.own 0],[intA 11,intA 0,jY eB,.sl 4 l.length (qE l)]]) (fun j=>[.live 5 0 (S j).size [.v (.string (S j))]]) (fun j=>j<=l.length) (fun j=>l.length-j) 0 ?_ (Nat.zero_le _) ?_
 ·repeat' constructor
 rintro j hj;conv=>whnf
 have hz1:=hSz j hj
 have hjm:j*(m+1)<=l.length*(m+1):=Nat.mul_le_mul_right _ hj
 have hlm:l.length*(m+1)<=3*(m+1):=Nat.mul_le_mul_right _ hl
 by_cases hlt:j<l.length
 ·rw[j8 (show (j:Int)<(l.length:Int) by omega)]
  have hrow:=zK l j hlt
  have hSn:=hSn j hlt
  have hg:=hf _ (List.getElem_mem hlt)
  have hjm2:(j+1)*(m+1)<=3*(m+1):=Nat.mul_le_mul_right _ (by omega)
  rw[Nat.succ_mul] at hjm2;generalize l[j]=g at *
  have hx:=hg.2.2
  generalize bL false g=y at *;conv=>whnf
  refine⟨by omega,?_⟩;conv=>whnf
  (generalize hrq:jJ _ _ (qE l)=rq;obtain rfl:rq=ntA g:=hrq.symm.trans (hrow);clear hrq;conv=>whnf)
  refine j7 0 0 1 [] (hx (S j) (by omega)) ?_;rintro o n' cs' r ⟨s4,rfl,rfl,ho,hs4,rfl⟩;cases ho;conv=>whnf
  refine⟨jV (by omega),?_⟩;conv=>whnf
  refine⟨j+1,jS [1] ?_,hlt,by omega⟩;conv=>whnf
  rw[hs4,show S (j+1)=_ from hSn]
  repeat' constructor
 ·rw[jW (show ¬ (j:Int)<(l.length:Int) by omega)]
  obtain rfl:j=l.length:=by omega
  conv=>whnf
  refine j7 0 0 2 [1] ((jF (S l.length) pRb (by decide) (by omega)).r) ?_;rintro o n' cs' r ⟨s',rfl,rfl,ho,hs',rfl⟩;cases ho;conv=>whnf
  refine⟨2,?_⟩;conv=>whnf
  exact⟨_,rfl,rfl,rfl,hs',rfl⟩
theorem juh {d:Nat} {f:Nt} (h:ES d f):cS d<=1000000->PT (cS d) f:=by
 have i0:cI 0=14:=rfl
 have i1:cI 1=48:=rfl
 have i2:cI 2=116:=rfl
 have i3:cI 3=252:=rfl
 have hI:∀ {e:Nat} {f:Nt},EI e f->e<=2->PX 252 f:=fun {e f} h he=>by
  rcases (by omega:e=0 ∨ e=1 ∨ e=2) with rfl | rfl | rfl
  ·exact (jgI h (by decide)).mono (by decide)
  ·exact (jgI h (by decide)).mono (by decide)
  ·exact (jgI h (by decide)).mono (by decide)
 have hB:∀ {e:Nat} {f:Nt},EB e f->e=1 ∨ e=2->PX 252 f:=fun {e f} h he=>by
  rcases he with rfl | rfl
  ·exact (jqR h (by decide)).mono (by decide)
  ·exact (jqR h (by decide)).mono (by decide)
 have one:∀ {f:Nt},PX 252 f -> ∀ x ∈ [f],PX 252 x:=fun {f} h x hx=>by rw[List.mem_singleton.1 hx];exact h
 have two:∀ {f g:Nt},PX 252 f->PX 252 g -> ∀ x ∈ [f,g],PX 252 x:=fun {f g} h k x hx=>by
  rcases List.mem_cons.1 hx with rfl | hx
  ·exact h
  ·rw[List.mem_singleton.1 hx];exact k
 induction h with
 | asg d e s f hs h he=>exact fun _=>(jis 1 (.inl rfl) s (ja2 s hs) (fun _=>jk8 s hs) 252 (by decide) [f] (by simp) (one (hI h he))).mono (Nat.le_trans (by decide) (y9 d))
 | snd d n f g h hn h1 h2 h3=>exact fun _=>(jsx n (by omega) 252 (by decide) f g h (hI h1 (by decide)) (hI h2 (by decide)) (hI h3 (by decide))).mono (Nat.le_trans (by decide) (y9 d))
 | tim d n hn=>exact fun _=>(jna 5 (.inl rfl) n (by omega)).mono (Nat.le_trans (by decide) (y9 d))
 | can d n hn=>exact fun _=>(jna 6 (.inr rfl) n (by omega)).mono (Nat.le_trans (by decide) (y9 d))
 | syn d=>exact fun _=>(jnb 7 (.inl rfl)).mono (Nat.le_trans (by decide) (y9 d))
 | rep d f g h1 h2=>exact fun _=>(jis 8 (.inr (.inl rfl)) eB (by decide) (fun h=>absurd h (by decide)) 252 (by decide) [f,g] (by simp) (two (hI h1 (by decide)) (hI h2 (by decide)))).mono (Nat.le_trans (by decide) (y9 d))
 | fai d f h1=>exact fun _=>(jis 9 (.inr (.inr rfl)) eB (by decide) (fun h=>absurd h (by decide)) 252 (by decide) [f] (by simp) (one (hI h1 (by decide)))).mono (Nat.le_trans (by decide) (y9 d))
 | stp d=>exact fun _=>(jnb 10 (.inr rfl)).mono (Nat.le_trans (by decide) (y9 d))
 | whi d c l h1 h2 h3 ih =>
  intro hc
  have e:cS (d+1)=700+3*(3*cS d+10):=rfl
  rw[e] at hc ⊢
  have hge:=y9 d
  have hb:=uW (cS d) (by omega) l (by omega) (fun s hs=>ih s hs (by omega))
  exact (jsy (3*cS d+10) (by omega) c (qD l) ((hB h1 (.inl rfl)).mono (by omega)) hb).mono (by omega)
 | iff d c l m h1 h2 h3 h4 h5 ih1 ih2 =>
  intro hc
  have e:cS (d+1)=700+3*(3*cS d+10):=rfl
  rw[e] at hc ⊢
  have hge:=y9 d
  have hb:=uW (cS d) (by omega) l (by omega) (fun s hs=>ih1 s hs (by omega))
  have hb2:=uW (cS d) (by omega) m (by omega) (fun s hs=>ih2 s hs (by omega))
  exact (jsw (3*cS d+10) (by omega) c (qD l) (qD m) ((hB h1 (.inr rfl)).mono (by omega)) hb hb2).mono (by omega)
theorem jub {b:Nt} (h:EK b):PB 300000 b:=by
 obtain⟨k,rfl,h1,h2⟩ := h
 have e2:cS 2=80200:=rfl
 exact (uW (cS 2) (by omega) k h1 (fun s hs=>juh (h2 s hs) (by omega))).mono (by omega)
theorem jry:∀ k<10,zY (UInt8.ofNat (48+k))=true:=by decide
theorem jhK:∀ (n:Nat),n ≠ 0 -> ∃ c l,jaw n=c :: l/\zY c=true:=fun n=>by
 induction n using Nat.strongRecOn with
 | _ n ih =>
  intro h;rw[gV h]
  by_cases h0:n / 10=0
  ·rw[h0,cC];exact⟨_,_,rfl,jry _ (Nat.mod_lt _ (by decide))⟩
  ·obtain⟨c,l,e,hc⟩ := ih (n / 10) (by omega) h0
   rw[e];exact⟨c,_,rfl,hc⟩
theorem mX (n:Nat):zY (qL (bs (qG n)))=true:=by
 unfold qG
 split
 ·decide
 ·obtain⟨c,l,e,hc⟩ := jhK n (by assumption)
  rw[e];exact hc
theorem pL (w:ByteArray) (hw:w ≠ ⟨#[]⟩) (hl:zY (gX w)=true) (n:Nat):jA w (bs (qG n))=w ++ ⟨#[32]⟩ ++ bs (qG n):=by
 have h1:=rD (cD n)
 have h2:=mX n
 unfold jA;rw[if_neg hw,if_neg h1,if_neg (by rw[hl];decide),if_neg (by rw[h2];decide)]
def cL:Go.Shelf.Ren:=⟨fun | 156=>24 | 165=>49 | 166=>48 | 169=>27 | 240=>74 | 241=>75 | 276=>99 | 277=>100 | n=>n,fun | 31=>23 | 37=>67 | 70=>66 | 72=>69 | 75=>107 | 76=>109 | 80=>76 | 127=>112 | 164=>157 | n=>n,fun | n=>n⟩
theorem jej:Lays.n156 Tryz.prog cL where
 mixed:=by kernel_rfl
 f156:=Tryz.func24.trans (congrArg some (by kernel_rfl))
 f165:=Tryz.func49.trans (congrArg some (by kernel_rfl))
 f166:=Tryz.func48.trans (congrArg some (by kernel_rfl))
 f169:=Tryz.func27.trans (congrArg some (by kernel_rfl))
 f240:=Tryz.func74.trans (congrArg some (by kernel_rfl))
 f241:=Tryz.func75.trans (congrArg some (by kernel_rfl))
 f276:=Tryz.func99.trans (congrArg some (by kernel_rfl))
 f277:=Tryz.func100.trans (congrArg some (by kernel_rfl))
 t0:=Tryz.underlying0
 a0:=Tryz.isAgg0
 z0:=Tryz.sizeOf0
 v0:=Tryz.zeroValue0
 t3:=Tryz.underlying3
 a3:=Tryz.isAgg3
 z3:=Tryz.sizeOf3
 v3:=Tryz.zeroValue3
 t4:=Tryz.underlying4
 a4:=Tryz.isAgg4
 z4:=Tryz.sizeOf4
 v4:=Tryz.zeroValue4
 t9:=Tryz.underlying9
 a9:=Tryz.isAgg9
 z9:=Tryz.sizeOf9
 v9:=Tryz.zeroValue9
 t20:=Tryz.underlying20
 a20:=Tryz.isAgg20
 z20:=Tryz.sizeOf20
 v20:=Tryz.zeroValue20
 t31:=Tryz.underlying23
 a31:=Tryz.isAgg23
 z31:=Tryz.sizeOf23
 v31:=Tryz.zeroValue23
 t37:=Tryz.underlying67
 a37:=Tryz.isAgg67
 z37:=Tryz.sizeOf67
 v37:=Tryz.zeroValue67
 t70:=Tryz.underlying66
 a70:=Tryz.isAgg66
 z70:=Tryz.sizeOf66
 v70:=Tryz.zeroValue66
 t72:=Tryz.underlying69
 a72:=Tryz.isAgg69
 z72:=Tryz.sizeOf69
 v72:=Tryz.zeroValue69
 t75:=Tryz.underlying107
 a75:=Tryz.isAgg107
 z75:=Tryz.sizeOf107
 v75:=Tryz.zeroValue107
 t76:=Tryz.underlying109
 a76:=Tryz.isAgg109
 z76:=Tryz.sizeOf109
 v76:=Tryz.zeroValue109
 t127:=Tryz.underlying112
 a127:=Tryz.isAgg112
 z127:=Tryz.sizeOf112
 v127:=Tryz.zeroValue112
 t164:=Tryz.underlying157
 a164:=Tryz.isAgg157
 z164:=Tryz.sizeOf157
 v164:=Tryz.zeroValue157

theorem jbY:Builder.Extra Tryz.prog cL where
 sizeBuilder:=by kernel_rfl
 liesBuilder:=by kernel_rfl
 t5:=by kernel_rfl
 a5:=Tryz.isAgg5
 z5:=Tryz.sizeOf5
 v5:=Tryz.zeroValue5
 infoByte:=by kernel_rfl
 cellsByte:=by kernel_rfl
 sizeByte:=by kernel_rfl
 neB5:=by decide
theorem jcQ (l:List (List UInt8)) (c:UInt8) (h1:1<=l.length) (hl:l.length<=1000) (hs:(Lib.join l [c]).length<=1000000000):Spec Tryz.prog 24 [] [.sl 1 l.length (bM (l.map bs)),jY ⟨#[c]⟩] fun _ r=>r=jY (bs (Lib.join l [c])):=by
 refine dC (nR Tryz.func24 rfl (by kernel_rfl)) fun w C vals hg hsub hv => ?_
 obtain⟨u,us,rfl,k1,k2⟩ := hv
 obtain rfl:=lN (l:=[.string ⟨#[c]⟩]) k2
 unfold A.rep at k1
 obtain⟨j1,j2,p,b,off,cap,rfl,j3,j4,j5,j6⟩ := k1
 obtain⟨us,m1,m2⟩ := A.repAt_vals j6
 have hus:us=(l.map bs).map Value.string:=by
  have:=A.repC_L m1
  have e:bM (l.map bs)=((l.map bs).map Value.string).map A.v:=by simp[bM,jY,Function.comp_def]
  rw[e] at this;exact lN this
 subst hus
 obtain rfl:p=some ⟨b,off,none⟩ := by
  rcases j4 with h | h
  ·omega
  ·exact h
 have hcells:∀ (j:Nat) x,(l.map bs)[j]? = some x->w.cell? ⟨b,off+j,none⟩ = some (.string x):=fun j x hx=>by
  have:=hsub _ _ (m2 j _ (by rw[List.getElem?_map,hx];rfl))
  change w.cell? _=_ at this
  exact this
 have hb:b<w.heap.size:=by
  have:=hcells 0 (bs l[0]) (by rw[List.getElem?_map,List.getElem?_eq_getElem (by omega)];rfl)
  exact World.block_lt_of_cell? w _ this
 have ej:(l.map bs).map (·.data.toList)=l:=by rw[List.map_map];exact List.map_id'' (fun x=>kM x) _
 have hlen:(l.map bs).length=l.length:=by simp
 have:=Any.strings_Join jej jbY b off cap (l.map bs) ⟨#[c]⟩ w hcells hb (by rw[hlen];omega) (by rw[hlen];exact j3) (by rw[ej];show (Lib.join l [c]).length<=_;omega)
 rw[hlen,ej] at this;refine this.mono ?_;rintro e w' ⟨rfl,hw⟩;exact⟨_,rfl,hw,A.rep_v (by show (bs (Lib.join l [c])).size<=maxLen;rw[x6];unfold maxLen;omega)⟩
theorem juk {E:Env} : (A.v (.string ⟨#[]⟩)).rep E (.string ⟨#[]⟩):=A.rep_v (by show (0:Nat)<=maxLen;unfold maxLen;omega)
theorem Hp.nilBufRow {w0:W0} {w:World} {C0:Rd} {β0:List Nat} {bx:List (List A)} {rw:List Row} {E:Env} (h:Hp w0 C0 β0 bx rw w E) (e:Nat):Hp w0 C0 β0 bx (rw++[.live e 0 0 [.v (.string ⟨#[]⟩)]]) w ⟨E.C,E.β,E.ρ++[.slice none 0 0]⟩ /\ E.le ⟨E.C,E.β,E.ρ++[.slice none 0 0]⟩ := by
 have le:E.le ⟨E.C,E.β,E.ρ++[.slice none 0 0]⟩ := ⟨Sub.refl _,fun _ _ h=>h,fun i b hb=>by
  have:=(List.getElem?_eq_some_iff.1 hb).1
  rw[List.getElem?_append_left this];exact hb⟩
 have part:∀ (g:Nat) (r:Row) (y:Value),(rw++[Row.live e 0 0 [.v (.string ⟨#[]⟩)]])[g]? = some r->(E.ρ++[Value.slice none 0 0])[g]? = some y->(rw[g]? = some r/\E.ρ[g]? = some y) ∨ (r = .live e 0 0 [.v (.string ⟨#[]⟩)]/\y = .slice none 0 0/\g=rw.length):=fun g r y h1 h2=>by
  by_cases hg:g<rw.length
  ·rw[List.getElem?_append_left hg] at h1;rw[List.getElem?_append_left (by rw[<- h.rl];exact hg)] at h2;exact .inl ⟨h1,h2⟩
  ·rw[List.getElem?_append_right (by omega)] at h1;rw[List.getElem?_append_right (by rw[<- h.rl];omega)] at h2
   have hi0:g-rw.length=0:=by
    have:=(List.getElem?_eq_some_iff.1 h1).1
    simp at this;omega
   rw[hi0] at h1;rw[<- h.rl,hi0] at h2
   simp at h1 h2
   exact .inr ⟨h1.symm,h2.symm,by omega⟩
 refine⟨⟨h.sub,h.base,h.fresh,h.bp,h.bnd,h.bC,h.bl,fun i b cs h1 h2=>(h.bxs i b cs h1 h2).mono le,by simp[h.rl],fun g r y h1 h2 => ?_,fun g e' k' n cs y b h1 h2 h3 => ?_,fun g e1 k1 n1 cs1 y g' e2 k2 n2 cs2 z b hne h1 h2 h3 h4 h5 => ?_,fun g y h1=>xT h.rs (.inl ⟨_,_,_,rfl⟩) g y h1,h.keep,h.gk⟩,le⟩
 ·rcases part g r y h1 h2 with ⟨h3,h4⟩ | ⟨rfl,rfl,_⟩
  ·exact (h.rws g r y h3 h4).mono le (fun _ _ _ _ _ _ _=>rfl)
  ·exact⟨[.string ⟨#[]⟩],⟨owR.nilBuf _ _,fun b hb=>by simp[blk] at hb⟩,by unfold A.repC;exact⟨_,[],rfl,rfl,juk,by unfold A.repC;rfl⟩⟩
 ·rcases part g _ y h1 h2 with ⟨h4,h5⟩ | ⟨_,rfl,_⟩
  ·exact h.rC g e' k' n cs y b h4 h5 h3
  ·simp[blk] at h3
 ·rcases part g _ y h1 h2 with ⟨k3,k4⟩ | ⟨_,rfl,_⟩
  ·rcases part g' _ z h3 h4 with ⟨k5,k6⟩ | ⟨_,rfl,_⟩
   ·exact h.rd g e1 k1 n1 cs1 y g' e2 k2 n2 cs2 z b hne k3 k4 k5 k6 h5
   ·simp[blk]
  ·simp[blk] at h5
theorem jpn {np:Nat} {s:S} {t:List A} {bx:List (List A)} (e:Nat) (ht:uA s.rw.length s.t t) (hb:jkd s.rw.length s.bx bx):Le np s ⟨t,bx,s.rw++[.live e 0 0 [.v (.string ⟨#[]⟩)]]⟩ := by
 rintro dr w0 C0 β0 a w _ _ ⟨E,hp,hrep,hd⟩
 obtain⟨h1,le⟩ := hp.nilBufRow e
 have hg:(E.ρ++[Value.slice none 0 0])[s.rw.length]? = some (.slice none 0 0):=by rw[hp.rl];simp
 refine⟨⟨E.C,E.β,E.ρ++[.slice none 0 0]⟩,?_,fJ hg ht (A.repL.mono _ le hrep),hd.mono le⟩
 exact⟨h1.sub,h1.base,h1.fresh,h1.bp,h1.bnd,h1.bC,by rw[ja5 hb];exact h1.bl,fun i b cs h2 h3=>by
  obtain⟨c0,h4,h5⟩ := ja4 hb h3
  obtain⟨T',arr,h6,h7⟩ := h1.bxs i b c0 h2 h4
  exact⟨T',arr,h6,h7.rel (uA s.rw.length) h5 (fun l m us e k=>fJ hg e k) (fun l m e=>jf6 e) fun l t r e=>jce e⟩,h1.rl,h1.rws,h1.rC,h1.rd,h1.rs,h1.keep,h1.gk⟩
theorem jrZ {c:Cx} {x:Code} {t:List A} {bx:List (List A)} {rw:List Row} {q:Exit->S->Prop} (e:Nat) (ts:List Nat) (cs:List (Nat × Nat))
  (h:nC rw (.live e 0 0 [.v (.string ⟨#[]⟩)]) 0 fun g rw' => jia g ts t fun t' => jgp g cs bx fun bx' => Ok c x ⟨t',bx',rw'⟩ q):Ok c x ⟨t,bx,rw⟩ q:=by
 rw[zW,Nat.zero_add] at h
 obtain⟨t',h1,h⟩ := hZ h
 obtain⟨bx',h2,h⟩ := sJ h
 exact jmR (jpn (s:=⟨t,bx,rw⟩) e h1 h2) h
def dJ:ByteArray:=⟨#[100,44,100,100,49]⟩
def vJ:ByteArray:=⟨#[118,44,119,50]⟩
theorem jpj:Spec Tryz.prog 24 [] [.sl 1 2 (bA duL),jY pComma] fun _ r=>r=jY dJ:=jcQ [[100],[100,100,49]] 44 (by decide) (by decide) (by decide)
theorem jpl:Spec Tryz.prog 24 [] [.sl 1 2 (bA voL),jY pComma] fun _ r=>r=jY vJ:=jcQ [[118],[119,50]] 44 (by decide) (by decide) (by decide)
def pT1:ByteArray:=nmF wDurable duL
def pT2:ByteArray:=nmF wDurable duL++nmF wVolatile voL
theorem js9:jA (jA (jA ⟨#[]⟩ wDurable) dJ) pSemi=pT1:=by decide
theorem jsa:jA (jA (jA pT1 wVolatile) vJ) pSemi=pT2:=by decide
theorem ju9:pT1.size<=100/\pT2.size<=100:=by decide
theorem jmj (full:Bool) (l:List (Int × Nt)):∀ (a:ByteArray),0<a.size->0<(uE full a l).size:=by
 induction l with
 | nil=>exact fun a h=>h
 | cons h l ih=>exact fun a ha=>ih _ (wH (i7 (rD ha)))
theorem jsk {u:Ut} (h:GU u):Spec Tryz.prog 9 [] [.agg (utA u)] fun _ r=>r=jY (prF u):=by
 have hpu:=h.puz
 have hsz:=(jkX hpu).1
 obtain⟨h1,h2,h3,h4,h5⟩ := h
 obtain⟨du,vo,hs⟩ := u
 simp only at h1 h2 h3 h4 h5
 subst h1;subst h2
 have jd:=jpj
 have jv:=jpl
 have e1:=js9
 have e2:=jsa
 have e3:=ju9
 have e4:0<pT2.size:=by decide
 have z0:(⟨#[]⟩ : ByteArray).size=0:=rfl
 have z1:wDurable.size=7:=rfl
 have z2:wVolatile.size=8:=rfl
 have z3:pSemi.size=1:=rfl
 have z4:dJ.size=5:=rfl
 have z5:vJ.size=4:=rfl
 have z6:0<dJ.size:=by decide
 have z7:0<vJ.size:=by decide
 have epr:prF ⟨duL,voL,hs⟩ = uE false pT2 hs:=rfl
 rw[epr] at hsz ⊢;refine gH (jD jH jT 0) (fun _ _ h=>h) Tryz.func9 rfl (by kernel_rfl) rfl ?_;intro _;refine wG (jD _ _ _) (by kernel_rfl) ?_;conv=>whnf
 refine wG (jD _ _ _) (by kernel_rfl) ?_;conv=>whnf
 refine jrZ 5 [] [(1,1)] ?_;conv=>whnf
 refine⟨trivial,?_⟩;conv=>whnf
 refine kI (jD _ _ _) (by kernel_rfl) ?_;conv=>whnf
 generalize pT1=T1 at *;generalize pT2=T2 at *
 obtain⟨S,hS0,hS1,hS2⟩ : ∃ S:Nat->ByteArray,S 0 = ⟨#[]⟩ /\ S 1=T1/\S 2=T2:=⟨fun j=>[⟨#[]⟩,T1,T2].getD j ⟨#[]⟩,rfl,rfl,rfl⟩
 have zS0:(S 0).size=0:=by rw[hS0];rfl
 have zS1:(S 1).size<=100:=by rw[hS1];exact e3.1
 refine jO [1,3,12,13] ?_;conv=>whnf
 refine qA (fun j:Nat=>[(14,.v (.int .i64 j))]) (fun _=>[[.sl 1 2 (bA duL),.sl 1 2 (bA voL),.sl 5 hs.length (dP hs)],[.adr mL,.own 0]]) (fun j=>[.live 5 0 (S j).size [.v (.string (S j))],.live 23 1 2 [.sl 1 2 (bA duL),.sl 1 2 (bA voL)]]) (fun j=>j<=2) (fun j=>2-j) 0 ?_ (by decide) ?_
 ·repeat' constructor
  all_goals (rw[hS0];rfl)
 rintro j hj;conv=>whnf
 by_cases hlt:j<2
 ·rw[j8 (show (j:Int)<((2:Nat):Int) by omega)]
  rcases (by omega:j=0 ∨ j=1) with rfl | rfl
  ·conv=>whnf
   refine⟨by decide,?_⟩;conv=>whnf
   refine⟨by decide,?_⟩;conv=>whnf
   refine j7 1 0 4 [3] ((jF (S 0) wDurable (by decide) (by omega)).r) ?_;rintro o n' cs' r ⟨s',rfl,rfl,ho,hs',rfl⟩;cases ho;conv=>whnf
   have hz2:=jB (S 0) wDurable
   rw[<- hs'] at hz2
   have hs2:=hs'
   clear hs';generalize s'=s2 at *
   (refine xV [] jd ?_;rintro r rfl;conv=>whnf)
   refine j7 1 4 6 [5] ((yV s2 dJ pSemi (by decide) (by decide) (by omega)).r) ?_;rintro o n' cs' r ⟨s',rfl,rfl,ho,hs',rfl⟩;cases ho;conv=>whnf
   refine⟨jV (by omega),?_⟩;conv=>whnf
   refine⟨0+1,jS [6,1] ?_,by decide,by decide⟩;conv=>whnf
   rw[show S (0+1)=_ from hS1,<- e1,<- hS0,<- hs2,<- hs']
   repeat' constructor
  ·conv=>whnf
   refine⟨by decide,?_⟩;conv=>whnf
   refine⟨by decide,?_⟩;conv=>whnf
   refine j7 1 0 4 [3] ((jF (S 1) wVolatile (by decide) (by omega)).r) ?_;rintro o n' cs' r ⟨s',rfl,rfl,ho,hs',rfl⟩;cases ho;conv=>whnf
   have hz2:=jB (S 1) wVolatile
   rw[<- hs'] at hz2
   have hs2:=hs'
   clear hs';generalize s'=s2 at *
   (refine xV [] jv ?_;rintro r rfl;conv=>whnf)
   refine j7 1 4 6 [5] ((yV s2 vJ pSemi (by decide) (by decide) (by omega)).r) ?_;rintro o n' cs' r ⟨s',rfl,rfl,ho,hs',rfl⟩;cases ho;conv=>whnf
   refine⟨jV (by omega),?_⟩;conv=>whnf
   refine⟨1+1,jS [6,1] ?_,by decide,by decide⟩;conv=>whnf
   rw[show S (1+1)=_ from hS2,<- e2,<- hS1,<- hs2,<- hs']
   repeat' constructor
 rw[jW (show ¬ (j:Int)<((2:Nat):Int) by omega)]
 obtain rfl:j=2:=by omega
 rw[hS2];conv=>whnf
 obtain⟨V,hV⟩ : ∃ V:Nat->ByteArray,∀ j,V j=uE false T2 (hs.take j):=⟨_,fun _=>rfl⟩
 have hV0:V 0=T2:=by rw[hV,List.take_zero];rfl
 have hVl:V hs.length=uE false T2 hs:=by rw[hV,List.take_length]
 have hVn:∀ j (h:j<hs.length),V (j+1)=jA (V j) (hdN false hs[j]):=fun j h=>by rw[hV,hV,List.take_succ_eq_append_getElem h,jkx]
 have hVz:∀ j,(V j).size<=2000000:=fun j=>by
  rw[hV]
  have s1:=jcG false T2 (hs.take j) (fun z hz=>(hpu.hd false z (List.mem_of_mem_take hz)).1)
  have hm:(hs.take j).length*400001<=4*400001:=Nat.mul_le_mul_right _ (by rw[List.length_take];omega)
  omega
 rw[<- hVl,<- hV0];refine pY [0] ?_;conv=>whnf
 refine jO [3,34,35] ?_;conv=>whnf
 refine qA (fun j:Nat=>[(36,.v (.int .i64 j))]) (fun _=>[[.sl 1 2 (bA duL),.sl 1 2 (bA voL),.sl 5 hs.length (dP hs)],[.adr mL,.own 0]]) (fun j=>[.live 5 0 (V j).size [.v (.string (V j))]]) (fun j=>j<=hs.length) (fun j=>hs.length-j) 0 ?_ (Nat.zero_le _) ?_
 ·repeat' constructor
 rintro j hj;conv=>whnf
 have hz:=hVz j
 by_cases hlt:j<hs.length
 ·rw[j8 (show (j:Int)<(hs.length:Int) by omega)]
  have hr:=jdj hs j hlt
  have hg:=h3 _ (List.getElem_mem hlt)
  have hVn:=hVn j hlt
  generalize hs[j]=g at *
  obtain⟨n,b⟩ := g
  obtain⟨g1,g2,g3⟩ := hg
  have g1:0<=n:=g1
  have g2:n<40:=g2
  have hb:=jub g3
  have hbk:=hb.2.2
  have hbz:=hb.1.1
  have hbp:=hb.2.1
  have hdn:hdN false (n,b)=qR [wOn,hdW n,nP false b]:=rfl
  have hwp:0<(hdW n).size:=by
   unfold hdW
   have a2:wMsgS.size=8:=rfl
   have a3:wTimS.size=6:=rfl
   repeat' split
   all_goals first | decide | (rw[ByteArray.size_append];omega)
  have hpf:=kB (V j) 3 [wOn,hdW n,nP false b] rfl (by
   intro x hx;simp only[List.mem_cons,List.not_mem_nil,or_false] at hx
   rcases hx with rfl | rfl | rfl
   ·decide
   ·exact hwp
   ·exact hbp)
  rw[hdn,<- hpf] at hVn
  have hVn:V (j+1)=jA (jA (jA (V j) wOn) (hdW n)) (nP false b):=hVn
  clear hpf hdn;generalize nP false b=y at *
  have y1:wOn.size=2:=rfl
  have y2:wStart.size=5:=rfl
  have y3:wRequest.size=7:=rfl
  have y4:wTimer.size=5:=rfl
  have y5:wMessage.size=7:=rfl
  conv=>whnf
  refine⟨by omega,?_⟩;conv=>whnf
  (generalize hrq:jJ _ _ (dP hs)=rq;obtain rfl:rq=hnA (n,b):=hrq.symm.trans (hr);clear hrq;conv=>whnf)
  refine j7 1 0 2 [1] ((jF (V j) wOn (by decide) (by omega)).r) ?_;rintro o n' cs' r ⟨s',rfl,rfl,ho,hs',rfl⟩;cases ho;conv=>whnf
  have hz2:=jB (V j) wOn
  rw[<- hs'] at hz2;rw[<- hs'] at hVn;clear hs';generalize s'=s2 at *
  by_cases n0:n=0
  ·subst n0;rw[show hdW 0=wStart from rfl] at hVn;conv=>whnf
   refine j7 1 2 4 [3] ((jF s2 wStart (by decide) (by omega)).r) ?_;rintro o n' cs' r ⟨s',rfl,rfl,ho,hs',rfl⟩;cases ho;conv=>whnf
   have hz3:=jB s2 wStart
   rw[<- hs'] at hz3;rw[<- hs'] at hVn;clear hs';generalize s'=s3 at *;refine j7 1 4 5 [] (hbk s3 (by omega)) ?_;rintro o n' cs' r ⟨s',rfl,rfl,ho,hs',rfl⟩;cases ho;conv=>whnf
   refine⟨jV (by omega),?_⟩;conv=>whnf
   refine⟨j+1,jS [5] ?_,hlt,by omega⟩;conv=>whnf
   rw[hVn,<- hs']
   repeat' constructor
  rw[jW n0];conv=>whnf
  by_cases n1:n=1
  ·subst n1;rw[show hdW 1=wRequest from rfl] at hVn;conv=>whnf
   refine j7 1 2 4 [3] ((jF s2 wRequest (by decide) (by omega)).r) ?_;rintro o n' cs' r ⟨s',rfl,rfl,ho,hs',rfl⟩;cases ho;conv=>whnf
   have hz3:=jB s2 wRequest
   rw[<- hs'] at hz3;rw[<- hs'] at hVn;clear hs';generalize s'=s3 at *;refine j7 1 4 5 [] (hbk s3 (by omega)) ?_;rintro o n' cs' r ⟨s',rfl,rfl,ho,hs',rfl⟩;cases ho;conv=>whnf
   refine⟨jV (by omega),?_⟩;conv=>whnf
   refine⟨j+1,jS [5] ?_,hlt,by omega⟩;conv=>whnf
   rw[hVn,<- hs']
   repeat' constructor
  rw[jW n1];conv=>whnf
  by_cases n9:n<10
  ·rw[show hdW n=wTimS++bs (qG (n-2).toNat) by unfold hdW;rw[if_neg n1,if_neg (by omega),if_pos (by omega)]] at hVn
   have hdc:=aP (n-2) (by omega)
   have d1:=yF (n-2).toNat (by omega)
   have d2:=cD (n-2).toNat
   have d3:wTimS++bs (qG (n-2).toNat)=jA wTimer (bs (qG (n-2).toNat)):=(pL wTimer (by decide) (by decide) _).symm
   rw[d3,<- zG _ _ _ (by decide)] at hVn;clear d3 hwp;generalize bs (qG (n-2).toNat)=d at *;rw[j8 n9];conv=>whnf
   refine⟨jV (by omega),?_⟩;conv=>whnf
   (refine xV [] hdc ?_;rintro r rfl;conv=>whnf)
   refine j7 1 2 4 [3] ((yV s2 wTimer d (by decide) d2 (by omega)).r) ?_;rintro o n' cs' r ⟨s',rfl,rfl,ho,hs',rfl⟩;cases ho;conv=>whnf
   have hz3:(jA (jA s2 wTimer) d).size<=s2.size+20:=by
    have q1:=jB s2 wTimer
    have q2:=jB (jA s2 wTimer) d
    omega
   rw[<- hs'] at hz3;rw[<- hs'] at hVn;clear hs';generalize s'=s3 at *;refine j7 1 4 5 [] (hbk s3 (by omega)) ?_;rintro o n' cs' r ⟨s',rfl,rfl,ho,hs',rfl⟩;cases ho;conv=>whnf
   refine⟨jV (by omega),?_⟩;conv=>whnf
   refine⟨j+1,jS [5] ?_,hlt,by omega⟩;conv=>whnf
   rw[hVn,<- hs']
   repeat' constructor
  ·rw[show hdW n=wMsgS++bs (qG (n-10).toNat) by unfold hdW;rw[if_neg n1,if_pos (by omega)]] at hVn
   have hdc:=aP (n-10) (by omega)
   have d1:=yF (n-10).toNat (by omega)
   have d2:=cD (n-10).toNat
   have d3:wMsgS++bs (qG (n-10).toNat)=jA wMessage (bs (qG (n-10).toNat)):=(pL wMessage (by decide) (by decide) _).symm
   rw[d3,<- zG _ _ _ (by decide)] at hVn;clear d3 hwp;generalize bs (qG (n-10).toNat)=d at *;rw[jW n9];conv=>whnf
   refine⟨jV (by omega),?_⟩;conv=>whnf
   (refine xV [] hdc ?_;rintro r rfl;conv=>whnf)
   refine j7 1 2 4 [3] ((yV s2 wMessage d (by decide) d2 (by omega)).r) ?_;rintro o n' cs' r ⟨s',rfl,rfl,ho,hs',rfl⟩;cases ho;conv=>whnf
   have hz3:(jA (jA s2 wMessage) d).size<=s2.size+22:=by
    have q1:=jB s2 wMessage
    have q2:=jB (jA s2 wMessage) d
    omega
   rw[<- hs'] at hz3;rw[<- hs'] at hVn;clear hs';generalize s'=s3 at *;refine j7 1 4 5 [] (hbk s3 (by omega)) ?_;rintro o n' cs' r ⟨s',rfl,rfl,ho,hs',rfl⟩;cases ho;conv=>whnf
   refine⟨jV (by omega),?_⟩;conv=>whnf
   refine⟨j+1,jS [5] ?_,hlt,by omega⟩;conv=>whnf
   rw[hVn,<- hs']
   repeat' constructor
 ·rw[jW (show ¬ (j:Int)<(hs.length:Int) by omega)]
  obtain rfl:j=hs.length:=by omega
  have hne:0<(V hs.length).size:=by
   rw[hVl];exact jmj false hs T2 e4
  conv=>whnf
  refine j7 1 0 1 [] (pA mL (V hs.length) hne) ?_;rintro o n' cs' r ⟨s5,rfl,rfl,ho,rfl,rfl⟩;cases ho;conv=>whnf
  rfl
section
end
def vC:Int->List UInt8->Int
 | n,[]=>n
 | n,c :: r=>vC (10*n+(c.toNat:Int)-48) r
theorem je9 {c:UInt8} (h:xD c=true):48<=(c.toNat:Int)/\(c.toNat:Int)<=57:=by
 unfold xD at h;simp only[Bool.and_eq_true,decide_eq_true_eq] at h;exact h
theorem sA:∀ (l:List UInt8) (n:Int),0<=n->(∀ c ∈ l,xD c=true)->n<=vC n l
 | [],n,_,_=>Int.le_refl n
 | c :: r,n,h0,h=>by
  have hc:=je9 (h c (by simp))
  have:=sA r (10*n+(c.toNat:Int)-48) (by omega) (fun c hc=>h c (by simp[hc]))
  show n<=vC (10*n+(c.toNat:Int)-48) r
  omega
theorem t8:∀ (l:List UInt8) (n:Int),0<=n->n<=2147483647->(∀ c ∈ l,xD c=true)->nI n l=if 2147483647<vC n l then -1 else vC n l
 | [],n,_,h,_=>by
  show n=if 2147483647<n then -1 else n
  rw[if_neg (by omega)]
 | c :: r,n,h0,h1,h=>by
  have hc:=je9 (h c (by simp))
  have hr:∀ c ∈ r,xD c=true:=fun c hc=>h c (by simp[hc])
  show (if 2147483647<10*n+(c.toNat:Int)-48 then -1 else nI (10*n+(c.toNat:Int)-48) r)=if 2147483647<vC (10*n+(c.toNat:Int)-48) r then -1 else vC (10*n+(c.toNat:Int)-48) r
  have hg:=sA r (10*n+(c.toNat:Int)-48) (by omega) hr
  by_cases hx:2147483647<10*n+(c.toNat:Int)-48
  ·rw[if_pos hx,if_pos (by omega)]
  ·rw[if_neg hx,t8 r _ (by omega) (by omega) hr]
theorem jaP:∀ (l m:List UInt8) (n:Int),vC n (l++m)=vC (vC n l) m
 | [],m,n=>rfl
 | c :: r,m,n=>jaP r m _
theorem jjh (n:Nat):((UInt8.ofNat (48+n % 10)).toNat:Int)=48+n % 10:=by
 rw[UInt8.toNat_ofNat'];omega
theorem jfD:∀ (f n:Nat),n<=f -> ∀ c ∈ jaw n,xD c=true
 | f,0,_,c,hc=>by rw[cC] at hc;cases hc
 | 0,n+1,h,_,_=>by omega
 | f+1,n+1,h,c,hc=>by
  rw[gV (by omega)] at hc
  rcases List.mem_append.1 hc with hc | hc
  ·exact jfD f ((n+1) / 10) (by omega) c hc
  ·obtain rfl:=List.mem_singleton.1 hc
   unfold xD;rw[jjh];simp only[Bool.and_eq_true,decide_eq_true_eq];omega
theorem jfF:∀ (f n:Nat),n<=f->vC 0 (jaw n)=n
 | f,0,_=>by rw[cC];rfl
 | 0,n+1,h=>by omega
 | f+1,n+1,h=>by
  rw[gV (by omega),jaP,jfF f ((n+1) / 10) (by omega)]
  show 10*(((n+1) / 10:Nat):Int)+((UInt8.ofNat (48+(n+1) % 10)).toNat:Int)-48=_
  rw[jjh];omega
theorem jfH (n:Nat):∀ c ∈ qG n,xD c=true:=by
 unfold qG
 split
 ·intro c hc;obtain rfl:=List.mem_singleton.1 hc;decide
 ·exact jfD n n (Nat.le_refl _)
theorem jm7 (n:Nat):vC 0 (qG n)=n:=by
 unfold qG
 split
 ·rename_i h;subst h;rfl
 ·exact jfF n n (Nat.le_refl _)
theorem jp0 (n:Nat):qG n ≠ []:=by
 unfold qG
 split
 ·simp
 ·rename_i h;rw[gV h];simp
structure Co where
 kind:Int
 text:List UInt8
 n:Int
def jat (t:Tk):Co:=⟨t.kind,t.text.data.toList,t.n⟩
def rN:List Co->ByteArray
 | []=>⟨#[]⟩
 | x :: l=>jA (bs x.text) (rN l)
def bJ (x:List UInt8):Bool := !(decide (x=[60]) || decide (x=[62]) || decide (x=[61]) || decide (x=[33]))
def okN (x:List UInt8) (y:UInt8):Prop:=(zY (gX (bs x))=true->zY y=false)/\(bJ x=false->y ≠ 61)
structure LexT (c:Co):Prop where
 ne:c.text ≠ []
 st:∀ y r,c.text=y :: r->yZ y=false/\sD y=false
 go:∀ rest,(∀ y r,rest=y :: r->okN c.text y)->qF (c.text++rest) = .tok c.kind c.text.length c.n
def Fine:Bool->List Co->Prop
 | _,[]=>True
 | b,c :: l=>(b=false->qL (bs c.text) ≠ 61)/\Fine (bJ c.text) l
theorem Fine.more {b:Bool} : ∀ {l:List Co},Fine false l->Fine b l
 | [],_=>trivial
 | c :: l,h=>⟨fun _=>h.1 rfl,h.2⟩
theorem Fine.app:∀ {l m:List Co} {b:Bool},Fine b l->Fine false m->Fine b (l++m)
 | [],m,b,_,h=>h.more
 | c :: l,m,b,h,k=>⟨h.1,h.2.app k⟩
def EndS:List Co->Prop
 | []=>False
 | [c]=>bJ c.text=true
 | _ :: l=>EndS l
theorem Fine.app2:∀ {l m:List Co} {b:Bool},Fine b l->EndS l->Fine true m->Fine b (l++m)
 | [],m,b,_,h,_=>h.elim
 | [c],m,b,h,e,k=>⟨h.1,by rw[show bJ c.text=true from e];exact k⟩
 | c :: d :: l,m,b,h,e,k=>⟨h.1,Fine.app2 (l:=d :: l) h.2 e k⟩
theorem EndS.app:∀ {l m:List Co},EndS m->EndS (l++m)
 | [],m,h=>h
 | [c],m,h=>by
  cases m with
  | nil=>exact h.elim
  | cons d m=>exact h
 | c :: d :: l,m,h=>EndS.app (l:=d :: l) h
theorem jja {l:List UInt8} (h:l ≠ []):bs l ≠ ⟨#[]⟩ := by
 rw[jlJ,kM];exact h
theorem jmi {c:Co} {l:List Co} (h:c.text ≠ []):rN (c :: l) ≠ ⟨#[]⟩ := i7 (jja h)
theorem jcD {c:Co} {l:List Co} (h:c.text ≠ []):qL (rN (c :: l))=qL (bs c.text):=by
 show qL (jA _ _)=_
 rw[kY,o8];exact tJ _ (jja h)
theorem jjw {c:Co} (h:LexT c) (p:Nat) (rest:List UInt8) (hr:∀ y r,rest=y :: r->okN c.text y):cN p (c.text++rest)=Lx.cons ⟨c.kind,p,bs c.text,c.n⟩ (cN (p+c.text.length) rest):=by
 obtain⟨h1,h2,h3⟩ := h
 have h3:=h3 rest hr
 cases hc:c.text with
 | nil=>exact absurd hc h1
 | cons y r =>
  obtain⟨g1,g2⟩ := h2 y r hc
  rw[hc] at h3
  have e:=jaY (p:=p) g1 g2 (r:=r++rest) h3
  rw[show y :: r++rest=y :: (r++rest) from rfl,e]
  congr 2
  ·congr 1
   rw[show y :: (r++rest)=(y :: r)++rest from rfl,List.take_left'];rfl
  ·rw[show y :: (r++rest)=(y :: r)++rest from rfl,List.drop_left'];rfl
theorem jjv:∀ (l:List Co) (b:Bool) (p:Nat),(∀ c ∈ l,LexT c)->Fine b l -> ∃ ts,cN p (rN l).data.toList = ⟨ts,none⟩ /\ ts.map jat=l
 | [],b,p,_,_=>⟨[],rfl,rfl⟩
 | c :: l,b,p,hl,hf=>by
  have hc:=hl c List.mem_cons_self
  have step:∀ q,∃ ts,cN q (rN l).data.toList = ⟨ts,none⟩ /\ ts.map jat=l:=fun q=>jjv l _ q (fun d hd=>hl d (List.mem_cons_of_mem _ hd)) hf.2
  have e:(rN (c :: l)).data.toList=c.text++((fE (bs c.text) (rN l)).data.toList++(rN l).data.toList):=by
   show (jA _ _).data.toList=_
   rw[kY,rQ,rQ,kM,List.append_assoc]
  have hg:fE (bs c.text) (rN l) = ⟨#[]⟩ ∨ (fE (bs c.text) (rN l) = ⟨#[32]⟩):=by
   unfold fE;split;exact .inl rfl;exact .inr rfl
  have fin:∀ ts:List Tk,ts.map jat=l->(⟨c.kind,p,bs c.text,c.n⟩ :: ts:List Tk).map jat=c :: l:=fun ts h=>by
   rw[List.map_cons,h];rfl
  rcases hg with hg | hg
  ·obtain⟨ts,h1,h2⟩ := step (p+c.text.length)
   refine⟨⟨c.kind,p,bs c.text,c.n⟩ :: ts,?_,fin ts h2⟩;rw[e,hg];rw[show ((⟨#[]⟩ : ByteArray).data.toList++(rN l).data.toList)=(rN l).data.toList from rfl];rw[jjw hc p _ fun y r hy => ?_,h1]
   ·rfl
   ·cases l with
    | nil=>cases hy
    | cons d l =>
     have hd:=(hl d (by simp)).ne
     have hfy:qL (rN (d :: l))=y:=by unfold qL;rw[hy];rfl
     rw[jcD hd] at hfy;refine⟨fun hx => ?_,fun hx => ?_⟩
     ·unfold fE at hg
      split at hg
      ·rename_i hh
       rcases hh with hh | hh | hh | hh
       ·exact absurd hh (jja hc.ne)
       ·exact absurd hh (jmi hd)
       ·rw[hx] at hh;cases hh
       ·rw[jcD hd,hfy] at hh;exact hh
      ·exact absurd hg (by decide)
     ·rw[<- hfy];exact hf.2.1 hx
  ·obtain⟨ts,h1,h2⟩ := step (p+c.text.length+1)
   refine⟨⟨c.kind,p,bs c.text,c.n⟩ :: ts,?_,fin ts h2⟩;rw[e,hg];rw[show ((⟨#[32]⟩ : ByteArray).data.toList++(rN l).data.toList)=32 :: (rN l).data.toList from rfl];rw[jjw hc p _ fun y r hy => ?_,jju (by decide) (by decide),h1]
   ·rfl
   ·cases hy
    exact⟨fun _=>by decide,fun _=>by decide⟩
theorem jed:∀ (l m:List Co),(∀ c ∈ l,c.text ≠ [])->(∀ c ∈ m,c.text ≠ [])->rN (l++m)=jA (rN l) (rN m)
 | [],m,_,_=>by show rN m=jA ⟨#[]⟩ _;unfold jA;rw[if_pos rfl,jmL]
 | [c],m,_,_=>by
  show jA (bs c.text) (rN m)=jA (jA (bs c.text) ⟨#[]⟩) (rN m)
  rw[show jA (bs c.text) ⟨#[]⟩ = bs c.text by rw[kY];unfold fE;rw[if_pos (.inr (.inl rfl)),bQ,bQ]]
 | c :: d :: l,m,h,k=>by
  show jA (bs c.text) (rN (d :: l++m))=jA (jA (bs c.text) (rN (d :: l))) (rN m)
  rw[jed (d :: l) m (fun x hx=>h x (List.mem_cons_of_mem _ hx)) k,zG _ _ _ (jmi (h d (by simp)))]
theorem eJ {q:UInt8->Bool} : ∀ (r rest:List UInt8),(∀ c ∈ r,q c=true)->(∀ y t,rest=y :: t->q y=false)->jK q (r++rest)=r.length
 | [],[],_,_=>rfl
 | [],y :: t,_,h=>by
  show jK q (y :: t)=0
  unfold jK;rw[h y t rfl]
 | c :: r,rest,h,k=>by
  show jK q (c :: (r++rest))=_
  unfold jK;rw[h c List.mem_cons_self]
  show jK q (r++rest)+1=_
  rw[eJ r rest (fun x hx=>h x (List.mem_cons_of_mem _ hx)) k];rfl
theorem jcW {l:List UInt8} (h:l ≠ []):gX (bs l) ∈ l:=by
 unfold gX;rw[kM,x6]
 have hl:l.length-1<l.length:=by have:=List.length_pos_iff.2 h;omega
 rw[List.getD_eq_getElem?_getD,List.getElem?_eq_getElem hl];exact List.getElem_mem hl
theorem jcP {y:UInt8} (h:zY y=true):yZ y=false/\sD y=false:=by
 have:∀ c:Fin 256,zY (UInt8.ofNat c.val)=true->yZ (UInt8.ofNat c.val)=false/\sD (UInt8.ofNat c.val)=false:=by decide +kernel
 have h2:=this ⟨y.toNat,y.toNat_lt⟩
 simp only[UInt8.ofNat_toNat] at h2;exact h2 h
theorem jkJ (c:UInt8) (r:List UInt8) (h1:isL c=true) (h2:∀ x ∈ c :: r,zY x=true) (h3:r.length+1<=10):LexT ⟨1,c :: r,0⟩ where
 ne:=by simp
 st:=fun y t e=>by cases e;exact jcP (h2 _ List.mem_cons_self)
 go:=fun rest hr=>by
  show qF (c :: (r++rest)) = .tok 1 (r.length+1) 0
  rw[qF]
  have hs:jK zY (r++rest)=r.length:=eJ r rest (fun x hx=>h2 x (List.mem_cons_of_mem _ hx)) fun y t e=>(hr y t e).1 (h2 _ (jcW (by simp)))
  rw[h1]
  simp only
  rw[hs,if_neg (by omega)]
theorem jhY {c:UInt8} (h:xD c=true):zY c=true/\isL c=false:=by
 refine⟨by unfold zY;rw[h,Bool.or_true],?_⟩
 have:=je9 h
 unfold isL;rw[jW (by omega)];rfl
theorem jmC (c:UInt8) (r:List UInt8) (h:∀ x ∈ c :: r,xD x=true) (hv:vC 0 (c :: r)<=2147483647):LexT ⟨2,c :: r,vC 0 (c :: r)⟩ where
 ne:=by simp
 st:=fun y t e=>by cases e;exact jcP (jhY (h _ List.mem_cons_self)).1
 go:=fun rest hr=>by
  show qF (c :: (r++rest)) = .tok 2 (r.length+1) _
  rw[qF]
  have hs:jK xD (r++rest)=r.length:=eJ r rest (fun x hx=>h x (List.mem_cons_of_mem _ hx)) fun y t e=>by
   have:=(hr y t e).1 (jhY (h _ (jcW (by simp)))).1
   unfold zY at this;simp only[Bool.or_eq_false_iff] at this;exact this.2
  have hc:=jhY (h c List.mem_cons_self)
  have hvf:=t8 (c :: r) 0 (by omega) (by omega) h
  rw[if_neg (by omega)] at hvf
  have hge:=sA (c :: r) 0 (by omega) h
  rw[hc.2,h c List.mem_cons_self]
  simp only
  rw[hs,List.take_left',hvf,if_neg (by omega)];rfl
theorem joj {c y:UInt8} (h:kP bX (bs [c,y])=true):y=61 ∨ (c=124/\y=124) ∨ (c=38/\y=38):=by
 unfold kP bX at h;simp only[List.any_cons,List.any_nil,Bool.or_eq_true,decide_eq_true_eq,Bool.or_false] at h
 rcases h with h | h | h | h | h | h <;> (have:=jrm h;simp at this;simp[<- this.1,<- this.2])
def jjJ:List UInt8:=[40,41,33,60,62,45,43,42,47,44,59,123,125,61]
theorem jbB:∀ c ∈ jjJ,yZ c=false/\sD c=false/\isL c=false/\xD c=false/\kP uF (bs [c])=true/\kP bX (bs [c])=false:=by decide
theorem jkH (c:UInt8) (hc:c ∈ jjJ):LexT ⟨3,[c],0⟩ where
 ne:=by simp
 st:=fun y t e=>by cases e;exact⟨(jbB c hc).1,(jbB c hc).2.1⟩
 go:=fun rest hr=>by
  show qF (c :: rest) = .tok 3 1 0
  obtain⟨_,_,h1,h2,h3,h4⟩ := jbB c hc
  have h5:kP bX (bs ((c :: rest).take 2))=false:=by
   cases rest with
   | nil=>exact h4
   | cons y t =>
    show kP bX (bs [c,y])=false
    cases hq:kP bX (bs [c,y]) with
    | false=>rfl
    | true =>
     have hy:=(hr y t rfl).2
     rcases joj hq with h | ⟨h,-⟩ | ⟨h,-⟩
     ·subst h
      exfalso
      refine hy ?_ rfl
      have hall:∀ c ∈ jjJ,kP bX (bs [c,61])=true->bJ [c]=false:=by decide
      exact hall c hc hq
     ·subst h;exact absurd hc (by decide)
     ·subst h;exact absurd hc (by decide)
  rw[qF];rw[h1,h2,h5,h3]
def joi:List (UInt8 × UInt8):=[(124,124),(38,38),(61,61),(60,61),(62,61),(33,61)]
theorem jbC:∀ q ∈ joi,yZ q.1=false/\sD q.1=false/\isL q.1=false/\xD q.1=false/\kP bX (bs [q.1,q.2])=true:=by decide
theorem jkI (c d:UInt8) (hc:(c,d) ∈ joi):LexT ⟨3,[c,d],0⟩ where
 ne:=by simp
 st:=fun y t e=>by cases e;exact⟨(jbC _ hc).1,(jbC _ hc).2.1⟩
 go:=fun rest hr=>by
  show qF (c :: d :: rest) = .tok 3 2 0
  obtain⟨_,_,h1,h2,h3⟩ := jbC _ hc
  rw[qF];rw[h1,h2]
  simp only
  rw[show (c :: d :: rest).take 2=[c,d] from rfl,h3]
section
def jG (s:ByteArray):Co:=⟨3,s.data.toList,0⟩
def jL (s:ByteArray):Co:=⟨1,s.data.toList,0⟩
def v8 (n:Nat):Co:=⟨2,qG n,n⟩
theorem kL (s:ByteArray):bs s.data.toList=s:=iV (kM _)
theorem jpa (c:Co):rN [c]=bs c.text:=by
 show jA (bs c.text) ⟨#[]⟩ = _
 exact pM _
theorem LexT.num (n:Nat) (hn:n<=2147483647):LexT (v8 n):=by
 have h1:=jfH n
 have h2:=jm7 n
 have h3:=jp0 n
 unfold v8;generalize qG n=l at *
 cases l with
 | nil=>exact absurd rfl h3
 | cons c r =>
  have:=jmC c r h1 (by rw[h2];omega)
  rw[h2] at this;exact this
structure TN (b:ByteArray) (l:List Co):Prop where
 eq:b=rN l
 lx:∀ c ∈ l,LexT c
 fi:Fine false l
 en:EndS l
theorem TN.one {c:Co} (h:LexT c) (hs:bJ c.text=true) (hf:qL (bs c.text) ≠ 61):TN (bs c.text) [c] where
 eq:=(jpa c).symm
 lx:=fun x hx=>by rw[List.mem_singleton.1 hx];exact h
 fi:=⟨fun _=>hf,trivial⟩
 en:=hs
theorem TN.cat {b1 b2:ByteArray} {l1 l2:List Co} (h1:TN b1 l1) (h2:TN b2 l2):TN (jA b1 b2) (l1++l2) where
 eq:=by rw[h1.eq,h2.eq,jed _ _ (fun c hc=>(h1.lx c hc).ne) (fun c hc=>(h2.lx c hc).ne)]
 lx:=fun x hx=>by
  rcases List.mem_append.1 hx with hx | hx
  ·exact h1.lx x hx
  ·exact h2.lx x hx
 fi:=h1.fi.app h2.fi
 en:=h2.en.app
theorem TN.pre {b:ByteArray} {l:List Co} {o:Co} (ho:LexT o) (hf:qL (bs o.text) ≠ 61) (h:TN b l):TN (jA (bs o.text) b) (o :: l) where
 eq:=by rw[h.eq];rfl
 lx:=fun x hx=>by
  rcases List.mem_cons.1 hx with rfl | hx
  ·exact ho
  ·exact h.lx x hx
 fi:=⟨fun _=>hf,h.fi.more⟩
 en:=EndS.app (l:=[o]) h.en
theorem TN.mid {b1 b2:ByteArray} {l1 l2:List Co} {o:Co} (h1:TN b1 l1) (ho:LexT o) (h2:TN b2 l2):TN (jA (jA b1 (bs o.text)) b2) (l1++o :: l2) where
 eq:=by
  rw[h1.eq,h2.eq,zG _ _ _ (jja ho.ne),jed _ _ (fun c hc=>(h1.lx c hc).ne) (fun c hc=>by
   rcases List.mem_cons.1 hc with rfl | hc
   ·exact ho.ne
   ·exact (h2.lx c hc).ne)]
  rfl
 lx:=fun x hx=>by
  rcases List.mem_append.1 hx with hx | hx
  ·exact h1.lx x hx
  ·rcases List.mem_cons.1 hx with rfl | hx
   ·exact ho
   ·exact h2.lx x hx
 fi:=h1.fi.app2 h1.en ⟨(fun h=>by cases h),h2.fi.more⟩
 en:=EndS.app (EndS.app (l:=[o]) h2.en)
theorem m6 (s:ByteArray) (c:UInt8) (hs:s.data.toList=[c]) (hc:c ∈ jjJ):LexT (jG s):=by
 unfold jG;rw[hs];exact jkH c hc
theorem jcX (s:ByteArray) (c d:UInt8) (hs:s.data.toList=[c,d]) (hc:(c,d) ∈ joi):LexT (jG s):=by
 unfold jG;rw[hs];exact jkI c d hc
def jr0:List UInt8->Bool
 | []=>false
 | c :: r=>isL c && (c :: r).all zY && decide (r.length+1<=10)
theorem gY (s:ByteArray) (h:jr0 s.data.toList=true):LexT (jL s):=by
 unfold jL;generalize s.data.toList=l at *
 cases l with
 | nil=>cases h
 | cons c r =>
  unfold jr0 at h;simp only[Bool.and_eq_true,decide_eq_true_eq] at h;exact jkJ c r h.1.1 (fun x hx=>List.all_eq_true.1 h.1.2 x hx) h.2
def wE (p lv:Int) (fu:Bool) (l:List Co):List Co:=if p<lv then jG pLp :: l++[jG pRp] else if fu=true then (if p<8 then jG pLp :: l++[jG pRp] else l) else l
theorem jqE:LexT (jG pLp):=m6 pLp 40 rfl (by decide)
theorem jqF:LexT (jG pRp):=m6 pRp 41 rfl (by decide)
theorem TN.par {b:ByteArray} {l:List Co} (h:TN b l) (p lv:Int) (fu:Bool):TN (bR p lv fu b) (wE p lv fu l):=by
 have h1:=(h.pre jqE (by decide)).cat (TN.one jqF (by decide) (by decide))
 have e:pLp++b++pRp=jA (jA (bs (jG pLp).text) b) (bs (jG pRp).text):=by
  rw[show bs (jG pLp).text=pLp from rfl,show bs (jG pRp).text=pRp from rfl,jaM pLp b (by decide),yP _ pRp (by decide)]
 rw[<- e] at h1;unfold wE bR
 by_cases hp:p<lv
 ·rw[if_pos hp,if_pos hp];exact h1
 ·rw[if_neg hp,if_neg hp]
  cases fu with
  | false=>exact h
  | true =>
   rw[if_pos rfl,if_pos rfl]
   by_cases hp8:p<8
   ·rw[if_pos hp8,if_pos hp8];exact h1
   ·rw[if_neg hp8,if_neg hp8];exact h
def noT:Int->List Co:=fun _=>[]
def jtl (k n:Int) (s:ByteArray) (g:List (Int->List Co)):List Co :=
 if k=12 then [v8 n.toNat]
 else if k=13 then [jL (tfB n)]
 else if k=16 then jL wDraw :: jG pLp :: (g.getD 0 noT) 1++[jG pRp]
 else if k=17 then jG s :: (g.getD 0 noT) (jI k s)
 else if k=18 then (g.getD 0 noT) (if jI k s=4 then 5 else jI k s)++jG s :: (g.getD 1 noT) (jI k s+1)
 else [jL s]
mutual
def qC (fu:Bool):Nt->Int->List Co
 | .mk k n s kids,req=>wE (jI k s) req fu (jtl k n s (jur fu kids))
def jur (fu:Bool):List Nt->List (Int->List Co)
 | []=>[]
 | f :: l=>qC fu f :: jur fu l
end
variable {fu:Bool}
def TE (fu:Bool) (f:Nt):Prop := ∀ lv,TN (zQ fu f lv) (qC fu f lv)
theorem jo0 (n:Nat) (hn:n<=2147483647):TE fu (.mk 12 n eB []):=fun lv=>by
 have h:=TN.one (LexT.num n hn) (by
  have h1:=jfH n
  show bJ (qG n)=true
  unfold bJ;rw[jW (fun e=>by rw[e] at h1;exact absurd (h1 60 (by simp)) (by decide)),jW (fun e=>by rw[e] at h1;exact absurd (h1 62 (by simp)) (by decide)),jW (fun e=>by rw[e] at h1;exact absurd (h1 61 (by simp)) (by decide)),jW (fun e=>by rw[e] at h1;exact absurd (h1 33 (by simp)) (by decide))]
  rfl) (by
  have h2:=mX n
  show qL (bs (qG n)) ≠ 61
  intro e;rw[e] at h2
  exact absurd h2 (by decide))
 exact h.par 8 lv fu
theorem jo1 (k:Int) (hk:k=14 ∨ k=15) (s:ByteArray) (hw:LexT (jL s)) (h1:bJ s.data.toList=true) (h2:qL s ≠ 61):TE fu (.mk k 0 s []):=fun lv=>by
 have h:=TN.one hw h1 (by rw[show (jL s).text=s.data.toList from rfl,kL];exact h2)
 rw[show (jL s).text=s.data.toList from rfl,kL] at h
 rcases hk with rfl | rfl
 ·exact h.par 8 lv fu
 ·exact h.par 8 lv fu
theorem jpZ (n:Nat) (hn:n<2):TE fu (.mk 13 n eB []):=fun lv=>by
 have hw:LexT (jL (tfB n))/\bJ (tfB n).data.toList=true/\qL (tfB n) ≠ 61:=by
  rcases (by omega:n=0 ∨ n=1) with rfl | rfl
  ·exact⟨gY _ (by decide),by decide,by decide⟩
  ·exact⟨gY _ (by decide),by decide,by decide⟩
 have h:=TN.one hw.1 hw.2.1 (by rw[show (jL (tfB n)).text=(tfB n).data.toList from rfl,kL];exact hw.2.2)
 rw[show (jL (tfB n)).text=(tfB n).data.toList from rfl,kL] at h;exact h.par 8 lv fu
theorem jsP (f:Nt) (hf:TE fu f):TE fu (.mk 16 0 eB [f]):=fun lv=>by
 have hd:LexT (jL wDraw):=gY _ (by decide)
 have h:=(((hf 1).pre jqE (by decide)).pre hd (by decide)).cat (TN.one jqF (by decide) (by decide))
 have e:zQ fu (.mk 16 0 eB [f]) lv=bR 8 lv fu (qR [wDraw,pLp,zQ fu f 1,pRp]):=rfl
 have e2:qR [wDraw,pLp,zQ fu f 1,pRp]=jA (jA (bs (jL wDraw).text) (jA (bs (jG pLp).text) (zQ fu f 1))) (bs (jG pRp).text):=by
  show jA (jA (jA (jA eB wDraw) pLp) (zQ fu f 1)) pRp=_
  rw[wF,zG wDraw pLp _ (by decide)];rfl
 rw[e,e2];exact h.par 8 lv fu
theorem jo2 (s:ByteArray) (hs:LexT (jG s)) (h2:qL s ≠ 61) (f:Nt) (hf:TE fu f):TE fu (.mk 17 0 s [f]):=fun lv=>by
 have h:=(hf (jI 17 s)).pre hs (by rw[show (jG s).text=s.data.toList from rfl,kL];exact h2)
 rw[show (jG s).text=s.data.toList from rfl,kL] at h
 have e:zQ fu (.mk 17 0 s [f]) lv=bR (jI 17 s) lv fu (qR [s,zQ fu f (jI 17 s)]):=rfl
 have e2:qR [s,zQ fu f (jI 17 s)]=jA s (zQ fu f (jI 17 s)):=by
  show jA (jA eB s) _=_
  rw[wF]
 rw[e,e2];exact h.par (jI 17 s) lv fu
theorem jiP (s:ByteArray) (hs:LexT (jG s)) (f g:Nt) (hf:TE fu f) (hg:TE fu g):TE fu (.mk 18 0 s [f,g]):=fun lv=>by
 have h:=(hf (if jI 18 s=4 then 5 else jI 18 s)).mid hs (hg (jI 18 s+1))
 rw[show (jG s).text=s.data.toList from rfl,kL] at h
 have e:zQ fu (.mk 18 0 s [f,g]) lv=bR (jI 18 s) lv fu (qR [zQ fu f (if jI 18 s=4 then 5 else jI 18 s),s,zQ fu g (jI 18 s+1)]):=rfl
 have e2:qR [zQ fu f (if jI 18 s=4 then 5 else jI 18 s),s,zQ fu g (jI 18 s+1)]=jA (jA (zQ fu f (if jI 18 s=4 then 5 else jI 18 s)) s) (zQ fu g (jI 18 s+1)):=by
  show jA (jA (jA eB _) s) _=_
  rw[wF]
 rw[e,e2];exact h.par (jI 18 s) lv fu
theorem jpp:∀ s ∈ opL,LexT (jG s):=fun s hs=>by
 unfold opL at hs;simp only[List.mem_cons,List.not_mem_nil,or_false] at hs
 rcases hs with rfl | rfl | rfl | rfl
 ·exact m6 _ 43 rfl (by decide)
 ·exact m6 _ 45 rfl (by decide)
 ·exact m6 _ 42 rfl (by decide)
 ·exact m6 _ 47 rfl (by decide)
theorem jmA:∀ s ∈ bolL,LexT (jG s):=fun s hs=>by
 unfold bolL at hs;simp only[List.mem_cons,List.not_mem_nil,or_false] at hs
 rcases hs with rfl | rfl
 ·exact jcX _ 38 38 rfl (by decide)
 ·exact jcX _ 124 124 rfl (by decide)
theorem jmB:∀ s ∈ cmpL,LexT (jG s):=fun s hs=>by
 unfold cmpL at hs;simp only[List.mem_cons,List.not_mem_nil,or_false] at hs
 rcases hs with rfl | rfl | rfl | rfl | rfl | rfl
 ·exact m6 _ 60 rfl (by decide)
 ·exact jcX _ 60 61 rfl (by decide)
 ·exact m6 _ 62 rfl (by decide)
 ·exact jcX _ 62 61 rfl (by decide)
 ·exact jcX _ 61 61 rfl (by decide)
 ·exact jcX _ 33 61 rfl (by decide)
theorem jom:∀ s ∈ varL,LexT (jL s)/\bJ s.data.toList=true/\qL s ≠ 61:=fun s hs=>by
 unfold varL at hs;simp only[List.mem_cons,List.not_mem_nil,or_false] at hs
 rcases hs with rfl | rfl | rfl | rfl <;> exact⟨gY _ (by decide),by decide,by decide⟩
theorem jlQ:∀ s ∈ builtL,LexT (jL s)/\bJ s.data.toList=true/\qL s ≠ 61:=fun s hs=>by
 unfold builtL at hs;simp only[List.mem_cons,List.not_mem_nil,or_false] at hs
 rcases hs with rfl | rfl | rfl | rfl | rfl | rfl | rfl | rfl | rfl <;> exact⟨gY _ (by decide),by decide,by decide⟩
theorem jmD:∀ n ∈ litL,∃ m:Nat,n=m/\m<=2147483647:=fun n hn=>by
 have h:∀ n ∈ litL,0<=n/\n<=2147483647:=by decide
 have:=h n hn
 exact⟨n.toNat,by omega,by omega⟩
theorem rF {d:Nat} {f:Nt} (h:EI d f):TE fu f:=by
 induction h with
 | lit d n h=>obtain⟨m,rfl,hm⟩ := jmD n h;exact jo0 m hm
 | var d s h=>obtain⟨a,b,c⟩ := jom s h;exact jo1 14 (.inl rfl) s a b c
 | nam d s h=>obtain⟨a,b,c⟩ := jlQ s h;exact jo1 15 (.inr rfl) s a b c
 | drw d f h ih=>exact jsP f ih
 | neg d f h ih=>exact jo2 pMinus (m6 _ 45 rfl (by decide)) (by decide) f ih
 | bin d s f g hs h1 h2 i1 i2=>exact jiP s (jpp s hs) f g i1 i2
theorem jqV {d:Nat} {f:Nt} (h:EB d f):TE fu f:=by
 induction h with
 | lit d n h=>exact jpZ n h
 | nt d f h ih=>exact jo2 pNot (m6 _ 33 rfl (by decide)) (by decide) f ih
 | bin d s f g hs h1 h2 i1 i2=>exact jiP s (jmA s hs) f g i1 i2
 | cmp d s f g hs h1 h2=>exact jiP s (jmB s hs) f g (rF h1) (rF h2)
end
section
variable {fu:Bool}
def cmT:List (List Co)->List Co
 | []=>[]
 | x :: l=>x++l.flatMap fun y=>jG pComma :: y
theorem jm0 (x:List Co) (l:List (List Co)) (y:List Co):cmT (x :: l++[y])=cmT (x :: l)++jG pComma :: y:=by
 unfold cmT
 show x++(l++[y]).flatMap _=_
 rw[List.flatMap_append,List.flatMap_cons,List.flatMap_nil,List.append_nil,List.append_assoc]
theorem jgc:LexT (jG pComma):=m6 pComma 44 rfl (by decide)
theorem jqG:LexT (jG pSemi):=m6 pSemi 59 rfl (by decide)
theorem jtO:LexT (jG pEq):=m6 pEq 61 rfl (by decide)
theorem jtP:LexT (jG pLb):=m6 pLb 123 rfl (by decide)
theorem jtQ:LexT (jG pRb):=m6 pRb 125 rfl (by decide)
theorem jqW:∀ (n:Nat) (l:List Nt),l.length=n+1->(∀ f ∈ l,TE fu f)->TN (cmF (l.map fun f=>zQ fu f 1)) (cmT (l.map fun f=>qC fu f 1))
 | 0,l,hl,h=>by
  obtain⟨f,rfl⟩ := List.length_eq_one_iff.1 hl
  have h1:=h f List.mem_cons_self 1
  show TN (jA eB (zQ fu f 1)) (qC fu f 1++[])
  rw[wF,List.append_nil];exact h1
 | n+1,l,hl,h=>by
  have hne:l ≠ []:=fun e=>by rw[e] at hl;cases hl
  have e:=List.dropLast_concat_getLast hne
  have hy:=h _ (List.getLast_mem hne) 1
  have ih:=jqW n l.dropLast (by rw[List.length_dropLast];omega) fun f hf=>h f (List.dropLast_subset l hf)
  generalize l.getLast hne=y at *
  have hd:l.dropLast ≠ []:=fun e0=>by rw[e0] at e;rw[<- e] at hl;simp at hl
  generalize l.dropLast=m at *;subst e
  cases m with
  | nil=>exact absurd rfl hd
  | cons x m =>
   rw[List.map_append,List.map_append]
   show TN (cmF ((zQ fu x 1 :: m.map fun f=>zQ fu f 1)++[zQ fu y 1])) (cmT ((qC fu x 1 :: m.map fun f=>qC fu f 1)++[qC fu y 1]))
   rw[pE,jm0]
   have h1:=ih.mid jgc hy
   have e1:bs (jG pComma).text=pComma:=rfl
   rw[e1,yP _ pComma (by decide)] at h1;exact h1
def lsT (fu:Bool) (l:List Nt):List Co:=cmT (l.map fun f=>qC fu f 1)++[jG pSemi]
theorem jo7 (l:List Nt) (hl:l ≠ []) (h:∀ f ∈ l,TE fu f):TN (zN fu l) (lsT fu l):=by
 have h1:=jqW (l.length-1) l (by have:=List.length_pos_iff.2 hl;omega) h
 have h2:=h1.cat (TN.one jqG (by decide) (by decide))
 rw[show bs (jG pSemi).text=pSemi from rfl,yP _ pSemi (by decide)] at h2;exact h2
def juR (fu:Bool) (k n:Int) (s:ByteArray) (kids:List Nt) (bks:List (List Co)):List Co :=
 if k=1 then jL s :: jG pEq :: lsT fu kids
 else if k=3 then jL wWhile :: qC fu (kid kids 0) 1++bks.getD 1 []
 else if k=4 then jL wSend :: qC fu (kid kids 0) 1++jG pComma :: v8 n.toNat :: jG pComma :: lsT fu (kids.drop 1)
 else if k=5 then [jL wTimer,v8 n.toNat,jG pSemi]
 else if k=6 then [jL wCancel,v8 n.toNat,jG pSemi]
 else if k=7 then [jL wSync,jG pSemi]
 else if k=10 then [jL wStop,jG pSemi]
 else if k=8 then jL wReply :: lsT fu kids
 else if k=9 then jL wFail :: lsT fu kids
 else if 0<(kid kids 2).kids.length then jL wIf :: qC fu (kid kids 0) 1++bks.getD 1 []++jL wElse :: bks.getD 2 [] else jL wIf :: qC fu (kid kids 0) 1++bks.getD 1 []
mutual
def aX (fu:Bool):Nt->List Co
 | .mk k n s kids=>juR fu k n s kids (juq fu kids)
def bO (fu:Bool):Nt->List Co
 | .mk _ _ _ kids=>jG pLb :: (jq1 fu kids).flatten++[jG pRb]
def jq1 (fu:Bool):List Nt->List (List Co)
 | []=>[]
 | f :: l=>aX fu f :: jq1 fu l
def juq (fu:Bool):List Nt->List (List Co)
 | []=>[]
 | f :: l=>bO fu f :: juq fu l
end
theorem rG:∀ l:List Nt,jq1 fu l=l.map (aX fu)
 | []=>rfl
 | f :: l=>by rw[jq1,rG l];rfl
def TS (fu:Bool) (f:Nt):Prop:=TN (bL fu f) (aX fu f)
def TB (fu:Bool) (f:Nt):Prop:=TN (nP fu f) (bO fu f)
theorem jeX (l:List Nt) (h:∀ f ∈ l,TS fu f):TB fu (qD l):=by
 have key:∀ (m:List Nt) (b:ByteArray) (t:List Co),TN b t->(∀ f ∈ m,TS fu f)->TN ((m.map (bL fu)).foldl jA b) (t++(m.map (aX fu)).flatten):=fun m=>by
  induction m with
  | nil=>intro b t h _;rw[List.map_nil,List.map_nil,List.flatten_nil,List.append_nil];exact h
  | cons f m ih =>
   intro b t h1 h2
   have h3:=ih (jA b (bL fu f)) (t++aX fu f) (h1.cat (h2 f List.mem_cons_self)) fun g hg=>h2 g (List.mem_cons_of_mem _ hg)
   rw[List.map_cons,List.map_cons,List.flatten_cons,<- List.append_assoc];exact h3
 have h1:=key l pLb [jG pLb] (TN.one jtP (by decide) (by decide)) h
 have h2:=h1.cat (TN.one jtQ (by decide) (by decide))
 unfold TB
 have e:nP fu (qD l)=bkL fu l++pRb:=jhD _ _ _ _ _
 have e2:bO fu (qD l)=jG pLb :: (l.map (aX fu)).flatten++[jG pRb]:=by
  unfold qD;rw[bO,rG]
 rw[e,e2];rw[show bs (jG pRb).text=pRb from rfl,yP _ pRb (by decide)] at h2;exact h2
theorem jsV (s:ByteArray) (hw:LexT (jL s)/\bJ s.data.toList=true/\qL s ≠ 61) (l:List Nt) (hl:l ≠ []) (h:∀ f ∈ l,TE fu f):TS fu (.mk 1 0 s l):=by
 have h0:=TN.one hw.1 hw.2.1 (by rw[show (jL s).text=s.data.toList from rfl,kL];exact hw.2.2)
 rw[show (jL s).text=s.data.toList from rfl,kL] at h0
 have h1:=h0.mid jtO (jo7 l hl h)
 have e:bL fu (.mk 1 0 s l)=jA (jA s pEq) (zN fu l):=by
  show jA (jA (jA eB s) pEq) (zN fu l)=_
  rw[wF]
 show TN (bL fu (.mk 1 0 s l)) _
 rw[e];exact h1
theorem jo8 (w:ByteArray) (hw:LexT (jL w)) (hf:qL w ≠ 61) (l:List Nt) (hl:l ≠ []) (h:∀ f ∈ l,TE fu f):TN (qR [w,zN fu l]) (jL w :: lsT fu l):=by
 have h1:=(jo7 l hl h).pre hw (by rw[show (jL w).text=w.data.toList from rfl,kL];exact hf)
 rw[show (jL w).text=w.data.toList from rfl,kL] at h1
 show TN (jA (jA eB w) (zN fu l)) _
 rw[wF];exact h1
theorem jsY (l:List Nt) (hl:l ≠ []) (h:∀ f ∈ l,TE fu f):TS fu (.mk 8 0 eB l):=jo8 wReply (gY _ (by decide)) (by decide) l hl h
theorem jsW (l:List Nt) (hl:l ≠ []) (h:∀ f ∈ l,TE fu f):TS fu (.mk 9 0 eB l):=jo8 wFail (gY _ (by decide)) (by decide) l hl h
end
section
variable {fu:Bool}
theorem jeV (n:Nat) (hn:n<=2147483647):TN (bs (qG n)) [v8 n]:=jo0 (fu:=false) n hn 0
theorem TN.wrd {b:ByteArray} {l:List Co} (w:ByteArray) (hw:LexT (jL w)) (hf:qL w ≠ 61) (h:TN b l):TN (jA w b) (jL w :: l):=by
 have h1:=h.pre hw (by rw[show (jL w).text=w.data.toList from rfl,kL];exact hf)
 rw[show (jL w).text=w.data.toList from rfl,kL] at h1;exact h1
theorem TN.end {b:ByteArray} {l:List Co} (h:TN b l):TN (jA b pSemi) (l++[jG pSemi]):=h.cat (TN.one jqG (by decide) (by decide))
theorem bP (w:ByteArray) (hw:LexT (jL w)) (hs:bJ w.data.toList=true) (hf:qL w ≠ 61):TN w [jL w]:=by
 have h0:=TN.one hw hs (by rw[show (jL w).text=w.data.toList from rfl,kL];exact hf)
 rw[show (jL w).text=w.data.toList from rfl,kL] at h0;exact h0
theorem jof (k:Int) (hk:k=5 ∨ k=6) (n:Nat) (hn:n<1000):TS fu (.mk k n eB []):=by
 have hd:=jeV n (by omega)
 rcases hk with rfl | rfl
 ·have h:=(hd.wrd wTimer (gY _ (by decide)) (by decide)).end
  have e:bL fu (.mk 5 n eB [])=jA (jA wTimer (bs (qG n))) pSemi:=by
   show jA (jA (jA eB wTimer) (bs (qG n))) pSemi=_
   rw[wF]
  show TN (bL fu (.mk 5 n eB [])) _
  rw[e];exact h
 ·have h:=(hd.wrd wCancel (gY _ (by decide)) (by decide)).end
  have e:bL fu (.mk 6 n eB [])=jA (jA wCancel (bs (qG n))) pSemi:=by
   show jA (jA (jA eB wCancel) (bs (qG n))) pSemi=_
   rw[wF]
  show TN (bL fu (.mk 6 n eB [])) _
  rw[e];exact h
theorem jog (k:Int) (hk:k=7 ∨ k=10):TS fu (.mk k 0 eB []):=by
 rcases hk with rfl | rfl
 ·have h:=(bP wSync (gY _ (by decide)) (by decide) (by decide)).end
  show TN (bL fu (.mk 7 0 eB [])) _
  rw[show bL fu (.mk 7 0 eB [])=jA wSync pSemi by (show syncB=_);decide];exact h
 ·have h:=(bP wStop (gY _ (by decide)) (by decide) (by decide)).end
  show TN (bL fu (.mk 10 0 eB [])) _
  rw[show bL fu (.mk 10 0 eB [])=jA wStop pSemi by (show stopB=_);decide];exact h
theorem jsZ (n:Nat) (hn:n<1000) (f g h:Nt) (hf:TE fu f) (hg:TE fu g) (hh:TE fu h):TS fu (.mk 4 n eB [f,g,h]):=by
 have hl:=jo7 [g,h] (by simp) fun x hx=>by
  simp only[List.mem_cons,List.not_mem_nil,or_false] at hx
  rcases hx with rfl | rfl
  ·exact hg
  ·exact hh
 have h1:=(((hf 1).wrd wSend (gY _ (by decide)) (by decide)).mid jgc (jeV n (by omega))).mid jgc hl
 have e:bL fu (.mk 4 n eB [f,g,h])=jA (jA (jA (jA (jA wSend (zQ fu f 1)) pComma) (bs (qG n))) pComma) (zN fu [g,h]):=by
  show jA (jA (jA (jA (jA (jA eB wSend) (zQ fu f 1)) pComma) (bs (qG n))) pComma) (zN fu [g,h])=_
  rw[wF]
 have e2:aX fu (.mk 4 n eB [f,g,h])=(jL wSend :: qC fu f 1++jG pComma :: [v8 n])++jG pComma :: lsT fu [g,h]:=by
  show jL wSend :: qC fu f 1++jG pComma :: v8 n :: jG pComma :: lsT fu [g,h]=_
  simp
 show TN _ _
 rw[e,e2];exact h1
theorem jt0 (c b:Nt) (hc:TE fu c) (hb:TB fu b):TS fu (.mk 3 0 eB [c,b]):=by
 have h1:=((hc 1).wrd wWhile (gY _ (by decide)) (by decide)).cat hb
 have e:bL fu (.mk 3 0 eB [c,b])=jA (jA wWhile (zQ fu c 1)) (nP fu b):=by
  show jA (jA (jA eB wWhile) (zQ fu c 1)) (nP fu b)=_
  rw[wF]
 show TN (bL fu (.mk 3 0 eB [c,b])) _
 rw[e];exact h1
theorem jsX (c b d:Nt) (hc:TE fu c) (hb:TB fu b) (hd:TB fu d):TS fu (.mk 2 0 eB [c,b,d]):=by
 have h1:=((hc 1).wrd wIf (gY _ (by decide)) (by decide)).cat hb
 have e:bL fu (.mk 2 0 eB [c,b,d])=if 0<d.kids.length then qR [qR [wIf,zQ fu c 1,nP fu b],wElse,nP fu d] else qR [wIf,zQ fu c 1,nP fu b]:=rfl
 have e3:qR [wIf,zQ fu c 1,nP fu b]=jA (jA wIf (zQ fu c 1)) (nP fu b):=by
  show jA (jA (jA eB wIf) (zQ fu c 1)) (nP fu b)=_
  rw[wF]
 have e2:aX fu (.mk 2 0 eB [c,b,d])=if 0<d.kids.length then jL wIf :: qC fu c 1++bO fu b++jL wElse :: bO fu d else jL wIf :: qC fu c 1++bO fu b:=rfl
 show TN _ _
 rw[e,e2,e3]
 by_cases hl:0<d.kids.length
 ·rw[if_pos hl,if_pos hl]
  have h2:=h1.cat (hd.wrd wElse (gY _ (by decide)) (by decide))
  show TN (jA (jA (jA eB (jA (jA wIf (zQ fu c 1)) (nP fu b))) wElse) (nP fu d)) _
  rw[wF,zG _ _ _ (by decide)];exact h2
 ·rw[if_neg hl,if_neg hl];exact h1
theorem juv {d:Nat} {f:Nt} (h:ES d f):TS fu f:=by
 induction h with
 | asg d e s f hs h he=>exact jsV s (jom s hs) [f] (by simp) fun x hx=>by rw[List.mem_singleton.1 hx];exact rF h
 | snd d n f g h hn h1 h2 h3=>exact jsZ n (by omega) f g h (rF h1) (rF h2) (rF h3)
 | tim d n hn=>exact jof 5 (.inl rfl) n (by omega)
 | can d n hn=>exact jof 6 (.inr rfl) n (by omega)
 | syn d=>exact jog 7 (.inl rfl)
 | rep d f g h1 h2 =>
  refine jsY [f,g] (by simp) ?_;intro x hx;simp only[List.mem_cons,List.not_mem_nil,or_false] at hx
  rcases hx with rfl | rfl
  ·exact rF h1
  ·exact rF h2
 | fai d f h1=>exact jsW [f] (by simp) fun x hx=>by rw[List.mem_singleton.1 hx];exact rF h1
 | stp d=>exact jog 10 (.inr rfl)
 | whi d c l h1 h2 h3 ih=>exact jt0 c (qD l) (jqV h1) (jeX l ih)
 | iff d c l m h1 h2 h3 h4 h5 ih1 ih2=>exact jsX c (qD l) (qD m) (jqV h1) (jeX l ih1) (jeX m ih2)
theorem jup {b:Nt} (h:EK b):TB fu b:=by
 obtain⟨k,rfl,h1,h2⟩ := h
 exact jeX k fun s hs=>juv (h2 s hs)
def uD (n:Int):List Co:=if n=1 then [jL wRequest] else if 10<=n then [jL wMessage,v8 (n-10).toNat] else if 2<=n then [jL wTimer,v8 (n-2).toNat] else [jL wStart]
theorem jsR (n:Int) (hn:n<40):TN (hdW n) (uD n):=by
 unfold hdW uD
 repeat' split
 ·exact bP _ (gY _ (by decide)) (by decide) (by decide)
 ·rw[show wMsgS=wMessage ++ ⟨#[32]⟩ by decide,<- pL wMessage (by decide) (by decide)];exact (jeV _ (by omega)).wrd wMessage (gY _ (by decide)) (by decide)
 ·rw[show wTimS=wTimer ++ ⟨#[32]⟩ by decide,<- pL wTimer (by decide) (by decide)];exact (jeV _ (by omega)).wrd wTimer (gY _ (by decide)) (by decide)
 ·exact bP _ (gY _ (by decide)) (by decide) (by decide)
def vZ (fu:Bool) (h:Int × Nt):List Co:=jL wOn :: uD h.1++bO fu h.2
theorem jut (h:Int × Nt) (hn:h.1<40) (hb:TB fu h.2):TN (hdN fu h) (vZ fu h):=by
 have h1:=((jsR h.1 hn).wrd wOn (gY _ (by decide)) (by decide)).cat hb
 show TN (jA (jA (jA eB wOn) (hdW h.1)) (nP fu h.2)) _
 rw[wF];exact h1
def dcTk:List Co:=[jL wDurable,jL ⟨#[100]⟩,jG pComma,jL ⟨#[100,100,49]⟩,jG pSemi,jL wVolatile,jL ⟨#[118]⟩,jG pComma,jL ⟨#[119,50]⟩,jG pSemi]
theorem jus:TN pT2 dcTk:=by
 have h1:=((((bP ⟨#[100]⟩ (gY _ (by decide)) (by decide) (by decide)).mid jgc (bP ⟨#[100,100,49]⟩ (gY _ (by decide)) (by decide) (by decide))).wrd wDurable (gY _ (by decide)) (by decide)).end)
 have h2:=((((bP ⟨#[118]⟩ (gY _ (by decide)) (by decide) (by decide)).mid jgc (bP ⟨#[119,50]⟩ (gY _ (by decide)) (by decide) (by decide))).wrd wVolatile (gY _ (by decide)) (by decide)).end)
 have h3:=h1.cat h2
 have e:pT2=jA (jA (jA wDurable (jA (jA ⟨#[100]⟩ (bs (jG pComma).text)) ⟨#[100,100,49]⟩)) pSemi) (jA (jA wVolatile (jA (jA ⟨#[118]⟩ (bs (jG pComma).text)) ⟨#[119,50]⟩)) pSemi):=by decide
 rw[e];exact h3
def jn7 (u:Ut):List Co:=dcTk++(u.on.map (vZ false)).flatten
theorem jsS (m:List (Int × Nt)) (b:ByteArray) (t:List Co) (h:TN b t) (hm:∀ x ∈ m,TN (hdN fu x) (vZ fu x)):TN (uE fu b m) (t++(m.map (vZ fu)).flatten):=by
 induction m generalizing b t with
 | nil=>rw[List.map_nil,List.flatten_nil,List.append_nil];exact h
 | cons f m ih =>
  have q3:=ih (jA b (hdN fu f)) (t++vZ fu f) (h.cat (hm f List.mem_cons_self)) fun g hg=>hm g (List.mem_cons_of_mem _ hg)
  rw[List.map_cons,List.flatten_cons,<- List.append_assoc];exact q3
theorem GU.hd {u:Ut} (h:GU u) (x:Int × Nt) (hx:x ∈ u.on):TN (hdN fu x) (vZ fu x):=by
 obtain⟨h1,h2,h3,h4,h5⟩ := h
 exact jut x (h3 x hx).2.1 (jup (h3 x hx).2.2)
theorem jqX {u:Ut} (h:GU u):TN (prF u) (jn7 u):=by
 have h6:=jsS u.on pT2 dcTk jus fun x hx=>h.hd (fu:=false) x hx
 unfold prF;rw[h.1,h.2.1];exact h6
def jrw:List Co:=[jL wVolatile,jL ⟨#[118]⟩,jG pComma,jL ⟨#[119,50]⟩,jG pSemi,jL wDurable,jL ⟨#[100]⟩,jG pComma,jL ⟨#[100,100,49]⟩,jG pSemi]
def jtS (u:Ut):List Co:=jrw++(u.on.reverse.map (vZ true)).flatten
end
def Beg (q:List Co) (ts r:List Tk):Prop := ∃ m,ts=m++r/\m.map jat=q
theorem Beg.nil {ts r:List Tk} (h:Beg [] ts r):ts=r:=by
 obtain⟨m,rfl,h⟩ := h
 rw[List.map_eq_nil_iff] at h;subst h;rfl
theorem Beg.cons {c:Co} {q:List Co} {ts r:List Tk} (h:Beg (c :: q) ts r):jat (hd ts)=c/\Beg q ts.tail r/\ts ≠ []:=by
 obtain⟨m,rfl,h⟩ := h
 cases m with
 | nil=>cases h
 | cons t m =>
  rw[List.map_cons,List.cons.injEq] at h;exact⟨h.1,⟨m,rfl,h.2⟩,by simp⟩
theorem Beg.app {p q:List Co} {ts r:List Tk} (h:Beg (p++q) ts r):∃ s,Beg p ts s/\Beg q s r:=by
 obtain⟨m,rfl,h⟩ := h
 rw[List.map_eq_append_iff] at h
 obtain⟨a,b,rfl,h1,h2⟩ := h
 exact⟨b++r,⟨a,List.append_assoc _ _ _,h1⟩,⟨b,rfl,h2⟩⟩
theorem Beg.len {q:List Co} {ts r:List Tk} (h:Beg q ts r):ts.length=q.length+r.length:=by
 obtain⟨m,rfl,h⟩ := h
 rw[<- h];simp
theorem pP {ts:List Tk} {c:Co} (h:jat (hd ts)=c):(hd ts).text=bs c.text:=by
 subst h;exact iV (by rw[kM];rfl)
theorem vA {ts:List Tk} {c:Co} (h:jat (hd ts)=c):(hd ts).kind=c.kind/\(hd ts).n=c.n:=by
 subst h;exact⟨rfl,rfl⟩
theorem jeh {ts:List Tk} {c:Co} (h:jat (hd ts)=c) (s:ByteArray):qU s ts=(decide (bs c.text=s) && (decide (c.kind=1) || decide (c.kind=3))):=by
 unfold qU;rw[pP h,(vA h).1]
theorem jph {ts:List Tk} {c:Co} (h:jat (hd ts)=c):xK ts=(decide (c.kind=1) && !(keyL++builtL).any fun s=>decide (bs c.text=s)):=by
 unfold xK;rw[pP h,(vA h).1]
theorem jpf {ts:List Tk} {c:Co} (h:jat (hd ts)=c):jg3 ts=(decide (c.kind=1) && builtL.any fun s=>decide (bs c.text=s)):=by
 unfold jg3;rw[pP h,(vA h).1]
def noS (l:List ByteArray) (r:List Tk):Prop:=gS l r=false
def opE (low:Option Pa):Nat->List Tk->Pn
 | 1=>pH low
 | 2=>kO (m9 low) [kZ]
 | 3=>m9 low
 | 4=>m9 low
 | 5=>jbA low
 | 6=>kO (vP low) [zZ,qM]
 | 7=>vP low
 | _=>yC low
def StE:Nat->List Tk->Prop
 | 1,r=>noS [zZ,qM] r/\noS [wP,pMinus] r/\noS cmpL r/\noS [kZ] r/\noS [pOr] r
 | 2,r=>noS [zZ,qM] r/\noS [wP,pMinus] r/\noS cmpL r/\noS [kZ] r
 | 3,r=>noS [zZ,qM] r/\noS [wP,pMinus] r/\noS cmpL r
 | 4,r=>noS [zZ,qM] r/\noS [wP,pMinus] r/\noS cmpL r
 | 5,r=>noS [zZ,qM] r/\noS [wP,pMinus] r
 | 6,r=>noS [zZ,qM] r
 | _,_=>True
theorem pD {op:List Tk->Pn} {l:List ByteArray} {ts r:List Tk} {f:Nt} (h:op ts = .ok f r) (hs:noS l r):kO op l ts = .ok f r:=by
 unfold kO;rw[h]
 show x7 op l r.length f r=_
 cases hl:r.length with
 | zero=>rfl
 | succ n =>
  unfold x7;rw[show gS l r=false from hs];rfl
def PE (low:Option Pa) (lv:Nat) (b:List Co) (f:Nt):Prop := ∀ ts r,Beg b ts r->StE lv r->opE low lv ts = .ok f r
theorem jgB {low:Option Pa} {b:List Co} {f:Nt} (h:PE low 2 b f):PE low 1 b f:=fun ts r hb hs=>pD (h ts r hb ⟨hs.1,hs.2.1,hs.2.2.1,hs.2.2.2.1⟩) hs.2.2.2.2
theorem jjL {low:Option Pa} {b:List Co} {f:Nt} (h:PE low 3 b f):PE low 2 b f:=fun ts r hb hs=>pD (h ts r hb ⟨hs.1,hs.2.1,hs.2.2.1⟩) hs.2.2.2
theorem jn4 {low:Option Pa} {b:List Co} {f:Nt} (h:PE low 6 b f):PE low 5 b f:=fun ts r hb hs=>pD (h ts r hb hs.1) hs.2
theorem jqP {low:Option Pa} {b:List Co} {f:Nt} (h:PE low 7 b f):PE low 6 b f:=fun ts r hb hs=>pD (h ts r hb trivial) hs
def gR (s:ByteArray):List Co->Prop
 | []=>False
 | c :: _=>bs c.text ≠ s
theorem jes {s:ByteArray} {b:List Co} {ts r:List Tk} (h:gR s b) (hb:Beg b ts r):qU s ts=false:=by
 cases b with
 | nil=>exact h.elim
 | cons c b =>
  rw[jeh hb.cons.1,jW (show ¬ bs c.text=s from h)];rfl
theorem jqO {low:Option Pa} {b:List Co} {f:Nt} (h:PE low 5 b f) (hn:gR pNot b):PE low 4 b f:=fun ts r hb hs=>by
 have h1:jbA low ts = .ok f r:=h ts r hb ⟨hs.1,hs.2.1⟩
 show m9 low ts=_
 unfold m9;rw[if_neg (by rw[jes hn hb];decide),h1]
 show (if gS cmpL r=true then _ else Pn.ok f r)=_
 rw[if_neg (by rw[show gS cmpL r=false from hs.2.2];decide)]
theorem jn3 {low:Option Pa} {b:List Co} {f:Nt} (h:PE low 4 b f):PE low 3 b f:=fun ts r hb hs=>h ts r hb hs
theorem juf {low:Option Pa} {b:List Co} {f:Nt} (h:PE low 8 b f) (hn:gR pMinus b):PE low 7 b f:=fun ts r hb hs=>by
 have h1:yC low ts = .ok f r:=h ts r hb trivial
 show vP low ts=_
 unfold vP;rw[if_neg (by rw[jes hn hb];decide)];exact h1
theorem oD {low:Option Pa} {b:List Co} {f:Nt} (h:PE low 8 b f) (h1:gR pNot b) (h2:gR pMinus b):∀ lv:Nat,1<=lv->lv<=8->PE low lv b f:=fun lv a c=>by
 have g7:=juf h h2
 have g6:=jqP g7
 have g5:=jn4 g6
 have g4:=jqO g5 h1
 have g3:=jn3 g4
 have g2:=jjL g3
 have g1:=jgB g2
 rcases (by omega:lv=1 ∨ lv=2 ∨ lv=3 ∨ lv=4 ∨ lv=5 ∨ lv=6 ∨ lv=7 ∨ lv=8) with rfl | rfl | rfl | rfl | rfl | rfl | rfl | rfl <;> assumption
theorem jsf (low:Option Pa) (n:Nat):PE low 8 [v8 n] (.mk 12 n eB []):=fun ts r hb hs=>by
 obtain⟨hc,hr,_⟩ := hb.cons
 have hr:=hr.nil
 have hk:=(vA hc).1
 have hn:=(vA hc).2
 have p:∀ s,qU s ts=false:=fun s=>by
  rw[jeh hc]
  show (_ && (decide ((2:Int)=1) || decide ((2:Int)=3)))=false
  rw[Bool.and_eq_false_iff];exact .inr (by decide)
 show yC low ts=_
 unfold yC;rw[if_neg (by rw[p];decide),if_neg (by rw[p];decide),if_pos (show (hd ts).kind=2 from hk),show (hd ts).n=n from hn,hr]
theorem qX {s:ByteArray} {ts r:List Tk} {b:List Co} (hb:Beg (jL s :: b) ts r):(∀ x,qU x ts=decide (s=x))/\xK ts=(!(keyL++builtL).any fun x=>decide (s=x))/\jg3 ts=(builtL.any fun x=>decide (s=x))/\(hd ts).text=s/\(hd ts).kind=1/\Beg b ts.tail r:=by
 obtain⟨hc,hr,_⟩ := hb.cons
 have e:bs (jL s).text=s:=kL s
 refine⟨fun x => ?_,?_,?_,?_,(vA hc).1,hr⟩
 ·rw[jeh hc,e,show (decide ((jL s).kind=1) || decide ((jL s).kind=3))=true from rfl,Bool.and_true]
 ·rw[jph hc,e,show decide ((jL s).kind=1)=true from rfl,Bool.true_and]
 ·rw[jpf hc,e,show decide ((jL s).kind=1)=true from rfl,Bool.true_and]
 ·rw[pP hc,e]
theorem gI {s:ByteArray} {ts r:List Tk} {b:List Co} (hb:Beg (jG s :: b) ts r):(∀ x,qU x ts=decide (s=x))/\(hd ts).text=s/\(hd ts).kind=3/\Beg b ts.tail r:=by
 obtain⟨hc,hr,_⟩ := hb.cons
 have e:bs (jG s).text=s:=kL s
 refine⟨fun x => ?_,?_,(vA hc).1,hr⟩
 ·rw[jeh hc,e,show (decide ((jG s).kind=1) || decide ((jG s).kind=3))=true from rfl,Bool.and_true]
 ·rw[pP hc,e]
theorem jk7:∀ s ∈ varL,decide (s=pLp)=false/\decide (s=wDraw)=false/\decide (s=rK)=false/\decide (s=eQ)=false/\((keyL++builtL).any fun x=>decide (s=x))=false:=by decide
theorem jkh:∀ s ∈ builtL,decide (s=pLp)=false/\decide (s=wDraw)=false/\decide (s=rK)=false/\decide (s=eQ)=false/\((keyL++builtL).any fun x=>decide (s=x))=true/\(builtL.any fun x=>decide (s=x))=true:=by decide
theorem jsj (low:Option Pa) (s:ByteArray) (h:s ∈ varL):PE low 8 [jL s] (.mk 14 0 s []):=fun ts r hb hs=>by
 obtain⟨p,q,_,t,k,hr⟩ := qX hb
 have hr:=hr.nil
 obtain⟨a1,a2,a3,a4,a5⟩ := jk7 s h
 show yC low ts=_
 unfold yC;rw[p,p,p,p,a1,a2,a3,a4,q,a5,k,t,hr];rfl
theorem jsd (low:Option Pa) (s:ByteArray) (h:s ∈ builtL):PE low 8 [jL s] (.mk 15 0 s []):=fun ts r hb hs=>by
 obtain⟨p,q,u,t,k,hr⟩ := qX hb
 have hr:=hr.nil
 obtain⟨a1,a2,a3,a4,a5,a6⟩ := jkh s h
 show yC low ts=_
 unfold yC;rw[p,p,p,p,a1,a2,a3,a4,q,a5,k,u,a6,t,hr];rfl
theorem zV {s:ByteArray} {ts r:List Tk} {b:List Co} (hb:Beg (jG s :: b) ts r) (l:List ByteArray) (h:(l.any fun x=>decide (s=x))=false):noS l ts:=by
 obtain⟨p,_⟩ := gI hb
 unfold noS gS;rw[show (fun x=>qU x ts)=fun x=>decide (s=x) from funext p];exact h
theorem jjD (p:Pa) (low:Option Pa) (hp:p.ex=pH low) (b:List Co) (f:Nt) (h:PE low 1 b f):∀ ts r,Beg (jG pLp :: b++[jG pRp]) ts r->eW (some p) ts = .ok f r:=fun ts r hb=>by
 have hb:Beg (jG pLp :: (b++[jG pRp])) ts r:=hb
 obtain⟨q,_,_,hr⟩ := gI hb
 obtain⟨u,h1,h2⟩ := hr.app
 have h3:pH low ts.tail = .ok f u:=h ts.tail u h1 ⟨zV h2 _ (by decide),zV h2 _ (by decide),zV h2 _ (by decide),zV h2 _ (by decide),zV h2 _ (by decide)⟩
 obtain⟨q2,_,_,hr2⟩ := gI h2
 have hr2:=hr2.nil
 unfold eW;rw[q,if_pos (by decide)]
 show (p.ex ts.tail).andThen _=_
 rw[hp,h3]
 show xpt pRp u _=_
 unfold xpt;rw[q2,if_pos (by decide),hr2]
theorem jsi (p:Pa) (low:Option Pa) (hp:p.ex=pH low) (b:List Co) (f:Nt) (h:PE low 1 b f):PE (some p) 8 (jG pLp :: b++[jG pRp]) f:=fun ts r hb hs=>by
 have h1:=jjD p low hp b f h ts r hb
 obtain⟨q,_⟩ := gI (b:=b++[jG pRp]) hb
 show yC (some p) ts=_
 unfold yC;rw[q,if_pos (by decide)];exact h1
theorem jse (p:Pa) (low:Option Pa) (hp:p.ex=pH low) (b:List Co) (f:Nt) (h:PE low 1 b f):PE (some p) 8 (jL wDraw :: jG pLp :: b++[jG pRp]) (.mk 16 0 eB [f]):=fun ts r hb hs=>by
 obtain⟨q,_,_,_,k,hr⟩ := qX (b:=jG pLp :: b++[jG pRp]) hb
 have h1:=jjD p low hp b f h ts.tail r hr
 show yC (some p) ts=_
 unfold yC;rw[q,q,if_neg (by decide),if_pos (by decide),h1];rfl
theorem jpC (low:Option Pa) (n:Nat) (hn:n<2):PE low 8 [jL (tfB n)] (.mk 13 n eB []):=fun ts r hb hs=>by
 rcases (by omega:n=0 ∨ n=1) with rfl | rfl
 ·have hb:Beg [jL eQ] ts r:=hb
  obtain⟨p,_,_,t,k,hr⟩ := qX hb
  have hr:=hr.nil
  show yC low ts=_
  unfold yC;rw[p,p,p,p,if_neg (by decide),if_neg (by decide),if_neg (by rw[k];decide),if_neg (by decide),if_pos (by decide),hr];rfl
 ·have hb:Beg [jL rK] ts r:=hb
  obtain⟨p,_,_,t,k,hr⟩ := qX hb
  have hr:=hr.nil
  show yC low ts=_
  unfold yC;rw[p,p,p,if_neg (by decide),if_neg (by decide),if_neg (by rw[k];decide),if_pos (by decide),hr];rfl
theorem jsg (p:Pa) (low:Option Pa) (hp:p.un=vP low) (b:List Co) (f:Nt) (h:PE low 7 b f):PE (some p) 7 (jG pMinus :: b) (.mk 17 0 pMinus [f]):=fun ts r hb hs=>by
 obtain⟨q,_,_,hr⟩ := gI hb
 have h1:vP low ts.tail = .ok f r:=h ts.tail r hr trivial
 show vP (some p) ts=_
 unfold vP uG;rw[q,if_pos (by decide)]
 show (p.un ts.tail).andThen _=_
 rw[hp,h1];rfl
theorem jsh (p:Pa) (low:Option Pa) (hp:p.no=m9 low) (b:List Co) (f:Nt) (h:PE low 3 b f):PE (some p) 3 (jG pNot :: b) (.mk 17 0 pNot [f]):=fun ts r hb hs=>by
 obtain⟨q,_,_,hr⟩ := gI hb
 have h1:m9 low ts.tail = .ok f r:=h ts.tail r hr hs
 show m9 (some p) ts=_
 unfold m9 uG;rw[q,if_pos (by decide)]
 show (p.no ts.tail).andThen _=_
 rw[hp,h1];rfl
def CH (op:List Tk->Pn) (signs:List ByteArray) (stop:List Tk->Prop) (b:List Co) (f:Nt):Prop := ∀ ts r,Beg b ts r->stop r -> ∃ n,r.length<=n/\kO op signs ts=x7 op signs n f r
theorem jrq {op:List Tk->Pn} {signs:List ByteArray} {stop:List Tk->Prop} {b:List Co} {f:Nt} (h:∀ ts r,Beg b ts r->stop r->op ts = .ok f r):CH op signs stop b f:=fun ts r hb hs=>⟨r.length,Nat.le_refl _,by unfold kO;rw[h ts r hb hs];rfl⟩
theorem uM {op:List Tk->Pn} {signs:List ByteArray} {stop:List Tk->Prop} {b b2:List Co} {f g:Nt} (o:ByteArray) (hf:CH op signs stop b f) (ho:(signs.any fun x=>decide (o=x))=true) (hst:∀ ts r,Beg (jG o :: b2) ts r->stop ts) (hg:∀ ts r,Beg b2 ts r->stop r->op ts = .ok g r):CH op signs stop (b++jG o :: b2) (.mk 18 0 o [f,g]):=fun ts r hb hs=>by
 obtain⟨u,h1,h2⟩ := hb.app
 obtain⟨n,hn,e⟩ := hf ts u h1 (hst u r h2)
 obtain⟨q,t,_,hr⟩ := gI h2
 have hl:=h2.len
 have hl2:=hr.len
 have ha:gS signs u=true:=by
  unfold gS;rw[show (fun x=>qU x u)=fun x=>decide (o=x) from funext q];exact ho
 obtain⟨m,rfl⟩ : ∃ m,n=m+1:=⟨n-1,by simp at hl;omega⟩
 refine⟨m,by simp at hl;omega,?_⟩;rw[e,x7,if_pos ha,hg _ r hr hs,t];rfl
theorem je5 {op:List Tk->Pn} {signs:List ByteArray} {stop:List Tk->Prop} {b:List Co} {f:Nt} (h:CH op signs stop b f):∀ ts r,Beg b ts r->stop r->noS signs r->kO op signs ts = .ok f r:=fun ts r hb hs hn=>by
 obtain⟨n,_,e⟩ := h ts r hb hs
 rw[e]
 cases n with
 | zero=>rfl
 | succ n=>rw[x7,if_neg (by rw[show gS signs r=false from hn];decide)]
section
def jX:Nat->Option Pa
 | 0=>none
 | d+1=>some (pa d)
theorem iB:∀ d,pa d=paG (jX d)
 | 0=>rfl
 | _+1=>rfl
def CE (low:Option Pa) (lv:Nat) (signs:List ByteArray) (b:List Co) (f:Nt):Prop:=CH (opE low (lv+1)) signs (StE (lv+1)) b f
structure XI (low:Option Pa) (t:Int->List Co) (f:Nt):Prop where
 pe:∀ lv:Nat,1<=lv->lv<=8->PE low lv (t lv) f
 c6:CE low 6 [zZ,qM] (t 6) f
 c5:CE low 5 [wP,pMinus] (t 5) f
 nn:∀ lv:Int,gR pNot (t lv)
structure XB (low:Option Pa) (t:Int->List Co) (f:Nt):Prop where
 pe:∀ lv:Nat,1<=lv->lv<=8->PE low lv (t lv) f
 c2:CE low 2 [kZ] (t 2) f
 c1:CE low 1 [pOr] (t 1) f
def mulL:List ByteArray:=[zZ,qM]
def addL:List ByteArray:=[wP,pMinus]
theorem jsc {low:Option Pa} {b:List Co} {f:Nt} (h:CE low 6 [zZ,qM] b f):PE low 6 b f:=fun ts r hb hs=>je5 h ts r hb trivial hs
theorem jue {low:Option Pa} {b:List Co} {f:Nt} (h:CE low 5 [wP,pMinus] b f):PE low 5 b f:=fun ts r hb hs=>je5 h ts r hb hs.1 hs.2
theorem jud {low:Option Pa} {b:List Co} {f:Nt} (h:CE low 2 [kZ] b f):PE low 2 b f:=fun ts r hb hs=>je5 h ts r hb ⟨hs.1,hs.2.1,hs.2.2.1⟩ hs.2.2.2
theorem juc {low:Option Pa} {b:List Co} {f:Nt} (h:CE low 1 [pOr] b f):PE low 1 b f:=fun ts r hb hs=>je5 h ts r hb ⟨hs.1,hs.2.1,hs.2.2.1,hs.2.2.2.1⟩ hs.2.2.2.2
theorem nF {low:Option Pa} {lv:Nat} {signs:List ByteArray} {b:List Co} {f:Nt} (h:PE low (lv+1) b f):CE low lv signs b f:=jrq h
theorem jeA {low:Option Pa} {b:List Co} {f:Nt} (hn:gR pNot b) (h:PE low 5 b f):∀ lv:Nat,1<=lv->lv<=5->PE low lv b f:=fun lv a c=>by
 have g4:=jqO h hn
 have g3:=jn3 g4
 have g2:=jjL g3
 have g1:=jgB g2
 rcases (by omega:lv=1 ∨ lv=2 ∨ lv=3 ∨ lv=4 ∨ lv=5) with rfl | rfl | rfl | rfl | rfl <;> assumption
theorem yR (p lv:Int) (fu:Bool) (l:List Co) (hl:lv<=8):(wE p lv fu l=l/\lv<=p) ∨ (wE p lv fu l=jG pLp :: l++[jG pRp]/\p<8):=by
 unfold wE
 by_cases h:p<lv
 ·rw[if_pos h];exact .inr ⟨rfl,by omega⟩
 ·rw[if_neg h]
  cases fu with
  | false=>exact .inl ⟨rfl,by omega⟩
  | true =>
   rw[if_pos rfl]
   by_cases h8:p<8
   ·rw[if_pos h8];exact .inr ⟨rfl,h8⟩
   ·rw[if_neg h8];exact .inl ⟨rfl,by omega⟩
theorem jgC {n:Nat} {b:List Co} {f:Nt} (h:PE (jX n) 1 b f):∀ lv:Nat,1<=lv->lv<=8->PE (jX (n+1)) lv (jG pLp :: b++[jG pRp]) f:=by
 have h1:=jsi (pa n) (jX n) (by rw[iB];rfl) b f h
 exact oD h1 (by show bs (jG pLp).text ≠ pNot;decide) (by show bs (jG pLp).text ≠ pMinus;decide)
theorem XI.leaf {low:Option Pa} {t:Int->List Co} {b:List Co} {f:Nt} (ht:∀ lv,lv<=8->t lv=b) (h:PE low 8 b f) (h1:gR pNot b) (h2:gR pMinus b) (hnn:∀ lv,gR pNot (t lv)):XI low t f where
 pe:=fun lv a c=>by rw[ht lv (by omega)];exact oD h h1 h2 lv a c
 c6:=by rw[ht 6 (by omega)];exact nF (oD h h1 h2 7 (by omega) (by omega))
 c5:=by rw[ht 5 (by omega)];exact nF (oD h h1 h2 6 (by omega) (by omega))
 nn:=hnn
theorem XB.leaf {low:Option Pa} {t:Int->List Co} {b:List Co} {f:Nt} (ht:∀ lv,lv<=8->t lv=b) (h:PE low 8 b f) (h1:gR pNot b) (h2:gR pMinus b):XB low t f where
 pe:=fun lv a c=>by rw[ht lv (by omega)];exact oD h h1 h2 lv a c
 c2:=by rw[ht 2 (by omega)];exact nF (oD h h1 h2 3 (by omega) (by omega))
 c1:=by rw[ht 1 (by omega)];exact nF (oD h h1 h2 2 (by omega) (by omega))
theorem iA {p lv:Int} {fu:Bool} {b:List Co} (h:gR pNot b):gR pNot (wE p lv fu b):=by
 have h1:gR pNot (jG pLp :: b++[jG pRp]):=by show bs (jG pLp).text ≠ pNot;decide
 unfold wE
 split
 ·exact h1
 ·split
  ·split
   ·exact h1
   ·exact h
  ·exact h
theorem jgu {s:ByteArray} {b c:List Co} (h:gR s b):gR s (b++c):=by
 cases b with
 | nil=>exact h.elim
 | cons x b=>exact h
theorem XI.node {n:Nat} {p:Nat} {fu:Bool} {b:List Co} {f:Nt} (hp:5<=p/\p<=8) (hlow:PE (jX n) 1 b f) (hb:∀ lv:Nat,1<=lv->lv<=p->PE (jX (n+1)) lv b f) (h6:p=6->CE (jX (n+1)) 6 [zZ,qM] b f) (h5:p=5->CE (jX (n+1)) 5 [wP,pMinus] b f) (hn:gR pNot b):XI (jX (n+1)) (fun lv=>wE p lv fu b) f:=by
 have hq:=jgC hlow
 have hpe:∀ lv:Nat,1<=lv->lv<=8->PE (jX (n+1)) lv (wE p lv fu b) f:=fun lv a c=>by
  rcases yR p lv fu b (by omega) with ⟨e,h⟩ | ⟨e,h⟩
  ·rw[e];exact hb lv a (by omega)
  ·rw[e];exact hq lv a c
 refine⟨hpe,?_,?_,fun lv=>iA hn⟩
 ·show CE _ 6 _ (wE p 6 fu b) f
  rcases yR p 6 fu b (by omega) with ⟨e,h⟩ | ⟨e,h⟩
  ·rw[e]
   by_cases h0:p=6
   ·exact h6 h0
   ·exact nF (hb 7 (by omega) (by omega))
  ·rw[e];exact nF (hq 7 (by omega) (by omega))
 ·show CE _ 5 _ (wE p 5 fu b) f
  rcases yR p 5 fu b (by omega) with ⟨e,h⟩ | ⟨e,h⟩
  ·rw[e]
   by_cases h0:p=5
   ·exact h5 h0
   ·exact nF (hb 6 (by omega) (by omega))
  ·rw[e];exact nF (hq 6 (by omega) (by omega))
theorem XB.node {n:Nat} {p:Nat} {fu:Bool} {b:List Co} {f:Nt} (hp:1<=p/\p<=4) (hlow:PE (jX n) 1 b f) (hb:∀ lv:Nat,1<=lv->lv<=p->PE (jX (n+1)) lv b f) (h2:p=2->CE (jX (n+1)) 2 [kZ] b f) (h1:p=1->CE (jX (n+1)) 1 [pOr] b f):XB (jX (n+1)) (fun lv=>wE p lv fu b) f:=by
 have hq:=jgC hlow
 have hpe:∀ lv:Nat,1<=lv->lv<=8->PE (jX (n+1)) lv (wE p lv fu b) f:=fun lv a c=>by
  rcases yR p lv fu b (by omega) with ⟨e,h⟩ | ⟨e,h⟩
  ·rw[e];exact hb lv a (by omega)
  ·rw[e];exact hq lv a c
 refine⟨hpe,?_,?_⟩
 ·show CE _ 2 _ (wE p 2 fu b) f
  rcases yR p 2 fu b (by omega) with ⟨e,h⟩ | ⟨e,h⟩
  ·rw[e]
   by_cases h0:p=2
   ·exact h2 h0
   ·exact nF (hb 3 (by omega) (by omega))
  ·rw[e];exact nF (hq 3 (by omega) (by omega))
 ·show CE _ 1 _ (wE p 1 fu b) f
  rcases yR p 1 fu b (by omega) with ⟨e,h⟩ | ⟨e,h⟩
  ·rw[e]
   by_cases h0:p=1
   ·exact h1 h0
   ·exact nF (hb 2 (by omega) (by omega))
  ·rw[e];exact nF (hq 2 (by omega) (by omega))
theorem bT {lv:Int} {fu:Bool} {b:List Co} (h:lv<=8):wE 8 lv fu b=b:=by
 rcases yR 8 lv fu b h with ⟨e,_⟩ | ⟨_,h⟩
 ·exact e
 ·omega
variable {fu:Bool}
theorem leaf_no {n:Nat} : gR pNot [v8 n]/\gR pMinus [v8 n]:=by
 have h:∀ s:ByteArray,qL s ≠ qL (bs (qG n))->bs (qG n) ≠ s:=fun s h e=>h (by rw[e])
 have hf:=mX n
 constructor
 ·refine h pNot ?_;intro e;rw[<- e] at hf;exact absurd hf (by decide)
 ·refine h pMinus ?_;intro e;rw[<- e] at hf;exact absurd hf (by decide)
theorem iR {s:ByteArray} (h:s ≠ pNot/\s ≠ pMinus):gR pNot [jL s]/\gR pMinus [jL s]:=by
 have e:bs (jL s).text=s:=kL s
 exact⟨by show bs (jL s).text ≠ _;rw[e];exact h.1,by show bs (jL s).text ≠ _;rw[e];exact h.2⟩
theorem jt2 (n m:Nat):XI (jX m) (qC fu (.mk 12 n eB [])) (.mk 12 n eB []) :=
 XI.leaf (b:=[v8 n]) (fun lv h=>bT h) (jsf _ n) leaf_no.1 leaf_no.2 fun lv=>iA leaf_no.1
theorem joG (s:ByteArray) (m:Nat) (k:Int) (hk:k=14 ∨ k=15) (h:PE (jX m) 8 [jL s] (.mk k 0 s [])) (hs:s ≠ pNot/\s ≠ pMinus):XI (jX m) (qC fu (.mk k 0 s [])) (.mk k 0 s []):=by
 rcases hk with rfl | rfl
 ·exact XI.leaf (b:=[jL s]) (fun lv h=>bT h) h (iR hs).1 (iR hs).2 fun lv=>iA (iR hs).1
 ·exact XI.leaf (b:=[jL s]) (fun lv h=>bT h) h (iR hs).1 (iR hs).2 fun lv=>iA (iR hs).1
theorem jt1:∀ s ∈ varL,s ≠ pNot/\s ≠ pMinus:=by decide
theorem jlP:∀ s ∈ builtL,s ≠ pNot/\s ≠ pMinus:=by decide
theorem jel {n:Nat} (h:1<=n):jX n=some (pa (n-1)):=by
 obtain⟨k,rfl⟩ : ∃ k,n=k+1:=⟨n-1,by omega⟩
 rfl
theorem joF {d:Nat} {f:Nt} (h:EI d f):∀ n,2*d<=n->XI (jX n) (qC fu f) f:=by
 induction h with
 | lit d n h=>intro m _;obtain⟨k,rfl,_⟩ := jmD n h;exact jt2 k m
 | var d s h=>intro m _;exact joG s m 14 (.inl rfl) (jsj _ s h) (jt1 s h)
 | nam d s h=>intro m _;exact joG s m 15 (.inr rfl) (jsd _ s h) (jlP s h)
 | drw d f h ih =>
  intro n hn
  have h1:=(ih (n-1) (by omega)).pe 1 (by omega) (by omega)
  have h2:=jse (pa (n-1)) (jX (n-1)) (by rw[iB];rfl) (qC fu f 1) f h1
  rw[<- jel (by omega)] at h2
  have q1:∀ s,s=pNot ∨ s=pMinus->gR s (jL wDraw :: jG pLp :: qC fu f 1++[jG pRp]):=fun s hs=>by
   show bs (jL wDraw).text ≠ s
   rcases hs with rfl | rfl <;> decide
  exact XI.leaf (fun lv h=>bT h) h2 (q1 _ (.inl rfl)) (q1 _ (.inr rfl)) fun lv=>iA (q1 _ (.inl rfl))
 | neg d f h ih =>
  intro n hn
  have key:∀ m,2*d+1<=m->PE (jX m) 7 (jG pMinus :: qC fu f 7) (.mk 17 0 pMinus [f]):=fun m hm=>by
   have h2:=jsg (pa (m-1)) (jX (m-1)) (by rw[iB];rfl) (qC fu f 7) f ((ih (m-1) (by omega)).pe 7 (by omega) (by omega))
   rw[<- jel (by omega)] at h2;exact h2
  have hno:gR pNot (jG pMinus :: qC fu f 7):=by show bs (jG pMinus).text ≠ pNot;decide
  have all:∀ m,2*d+1<=m -> ∀ lv:Nat,1<=lv->lv<=7->PE (jX m) lv (jG pMinus :: qC fu f 7) (.mk 17 0 pMinus [f]):=fun m hm lv a c=>by
   have g7:=key m hm
   have g6:=jqP g7
   by_cases h5:lv<=5
   ·exact jeA hno (jn4 g6) lv a h5
   ·rcases (by omega:lv=6 ∨ lv=7) with rfl | rfl <;> assumption
  obtain⟨m,rfl⟩ : ∃ m,n=m+1:=⟨n-1,by omega⟩
  exact XI.node (p:=7) (by omega) (all m (by omega) 1 (by omega) (by omega)) (all (m+1) (by omega)) (by omega) (by omega) hno
 | bin d s f g hs h1 h2 i1 i2 =>
  intro n hn
  obtain⟨m,rfl⟩ : ∃ m,n=m+1:=⟨n-1,by omega⟩
  have hop:(jI 18 s=6/\(s=zZ ∨ s=qM)) ∨ (jI 18 s=5/\(s=wP ∨ s=pMinus)):=by
   unfold opL at hs;simp only[List.mem_cons,List.not_mem_nil,or_false] at hs
   rcases hs with rfl | rfl | rfl | rfl <;> decide
  rcases hop with ⟨hp,ho⟩ | ⟨hp,ho⟩
  ·have e:∀ lv,qC fu (.mk 18 0 s [f,g]) lv=wE 6 lv fu (qC fu f 6++jG s :: qC fu g 7):=fun lv=>by
    show wE (jI 18 s) lv fu (qC fu f (if jI 18 s=4 then 5 else jI 18 s)++jG s :: qC fu g (jI 18 s+1))=_
    rw[hp];rfl
   have hno:gR pNot (qC fu f 6++jG s :: qC fu g 7):=jgu ((i1 (2*d) (Nat.le_refl _)).nn 6)
   have hc:∀ m,2*d<=m->CE (jX m) 6 [zZ,qM] (qC fu f 6++jG s :: qC fu g 7) (.mk 18 0 s [f,g]):=fun m hm =>
    uM s (i1 m hm).c6 (by rcases ho with rfl | rfl <;> decide) (fun _ _ _=>trivial) ((i2 m hm).pe 7 (by omega) (by omega))
   have all:∀ m,2*d<=m -> ∀ lv:Nat,1<=lv->lv<=6->PE (jX m) lv (qC fu f 6++jG s :: qC fu g 7) (.mk 18 0 s [f,g]):=fun m hm lv a c=>by
    have g6:=jsc (hc m hm)
    by_cases h5:lv<=5
    ·exact jeA hno (jn4 g6) lv a h5
    ·rcases (by omega:lv=6) with rfl;exact g6
   rw[show qC fu (.mk 18 0 s [f,g])=fun lv=>wE 6 lv fu (qC fu f 6++jG s :: qC fu g 7) from funext e];exact XI.node (p:=6) (by omega) (all m (by omega) 1 (by omega) (by omega)) (all (m+1) (by omega)) (fun _=>hc (m+1) (by omega)) (by omega) hno
  ·have e:∀ lv,qC fu (.mk 18 0 s [f,g]) lv=wE 5 lv fu (qC fu f 5++jG s :: qC fu g 6):=fun lv=>by
    show wE (jI 18 s) lv fu (qC fu f (if jI 18 s=4 then 5 else jI 18 s)++jG s :: qC fu g (jI 18 s+1))=_
    rw[hp];rfl
   have hno:gR pNot (qC fu f 5++jG s :: qC fu g 6):=jgu ((i1 (2*d) (Nat.le_refl _)).nn 5)
   have hc:∀ m,2*d<=m->CE (jX m) 5 [wP,pMinus] (qC fu f 5++jG s :: qC fu g 6) (.mk 18 0 s [f,g]):=fun m hm =>
    uM s (i1 m hm).c5 (by rcases ho with rfl | rfl <;> decide) (fun ts r hb=>zV hb _ (by rcases ho with rfl | rfl <;> decide)) ((i2 m hm).pe 6 (by omega) (by omega))
   have all:∀ m,2*d<=m -> ∀ lv:Nat,1<=lv->lv<=5->PE (jX m) lv (qC fu f 5++jG s :: qC fu g 6) (.mk 18 0 s [f,g]):=fun m hm lv a c=>jeA hno (jue (hc m hm)) lv a c
   rw[show qC fu (.mk 18 0 s [f,g])=fun lv=>wE 5 lv fu (qC fu f 5++jG s :: qC fu g 6) from funext e];exact XI.node (p:=5) (by omega) (all m (by omega) 1 (by omega) (by omega)) (all (m+1) (by omega)) (by omega) (fun _=>hc (m+1) (by omega)) hno
theorem juD {d:Nat} {f:Nt} (h:EB d f):∀ n,2*d+1<=n->XB (jX n) (qC fu f) f:=by
 induction h with
 | lit d n h =>
  intro m _
  have hs:tfB n ≠ pNot/\tfB n ≠ pMinus:=by
   rcases (by omega:n=0 ∨ n=1) with rfl | rfl <;> decide
  exact XB.leaf (b:=[jL (tfB n)]) (fun lv h=>bT h) (jpC _ n h) (iR hs).1 (iR hs).2
 | nt d f h ih =>
  intro n hn
  have key:∀ m,2*d+2<=m->PE (jX m) 3 (jG pNot :: qC fu f 3) (.mk 17 0 pNot [f]):=fun m hm=>by
   have h2:=jsh (pa (m-1)) (jX (m-1)) (by rw[iB];rfl) (qC fu f 3) f ((ih (m-1) (by omega)).pe 3 (by omega) (by omega))
   rw[<- jel (by omega)] at h2;exact h2
  have all:∀ m,2*d+2<=m -> ∀ lv:Nat,1<=lv->lv<=3->PE (jX m) lv (jG pNot :: qC fu f 3) (.mk 17 0 pNot [f]):=fun m hm lv a c=>by
   have g3:=key m hm
   have g2:=jjL g3
   have g1:=jgB g2
   rcases (by omega:lv=1 ∨ lv=2 ∨ lv=3) with rfl | rfl | rfl <;> assumption
  obtain⟨m,rfl⟩ : ∃ m,n=m+1:=⟨n-1,by omega⟩
  exact XB.node (p:=3) (by omega) (all m (by omega) 1 (by omega) (by omega)) (all (m+1) (by omega)) (by omega) (by omega)
 | bin d s f g hs h1 h2 i1 i2 =>
  intro n hn
  obtain⟨m,rfl⟩ : ∃ m,n=m+1:=⟨n-1,by omega⟩
  have hop:s=kZ ∨ s=pOr:=by
   unfold bolL at hs
   simpa only [List.mem_cons,List.not_mem_nil,or_false] using hs
  rcases hop with rfl | rfl
  ·have e:∀ lv,qC fu (.mk 18 0 kZ [f,g]) lv=wE 2 lv fu (qC fu f 2++jG kZ :: qC fu g 3):=fun lv=>rfl
   have hc:∀ m,2*d+1<=m->CE (jX m) 2 [kZ] (qC fu f 2++jG kZ :: qC fu g 3) (.mk 18 0 kZ [f,g]):=fun m hm =>
    uM kZ (i1 m hm).c2 (by decide) (fun ts r hb=>⟨zV hb _ (by decide),zV hb _ (by decide),zV hb _ (by decide)⟩) ((i2 m hm).pe 3 (by omega) (by omega))
   have all:∀ m,2*d+1<=m -> ∀ lv:Nat,1<=lv->lv<=2->PE (jX m) lv (qC fu f 2++jG kZ :: qC fu g 3) (.mk 18 0 kZ [f,g]):=fun m hm lv a c=>by
    have g2:=jud (hc m hm)
    have g1:=jgB g2
    rcases (by omega:lv=1 ∨ lv=2) with rfl | rfl <;> assumption
   rw[show qC fu (.mk 18 0 kZ [f,g])=fun lv=>wE 2 lv fu (qC fu f 2++jG kZ :: qC fu g 3) from funext e];exact XB.node (p:=2) (by omega) (all m (by omega) 1 (by omega) (by omega)) (all (m+1) (by omega)) (fun _=>hc (m+1) (by omega)) (by omega)
  ·have e:∀ lv,qC fu (.mk 18 0 pOr [f,g]) lv=wE 1 lv fu (qC fu f 1++jG pOr :: qC fu g 2):=fun lv=>rfl
   have hc:∀ m,2*d+1<=m->CE (jX m) 1 [pOr] (qC fu f 1++jG pOr :: qC fu g 2) (.mk 18 0 pOr [f,g]):=fun m hm =>
    uM pOr (i1 m hm).c1 (by decide) (fun ts r hb=>⟨zV hb _ (by decide),zV hb _ (by decide),zV hb _ (by decide),zV hb _ (by decide)⟩) ((i2 m hm).pe 2 (by omega) (by omega))
   have all:∀ m,2*d+1<=m -> ∀ lv:Nat,1<=lv->lv<=1->PE (jX m) lv (qC fu f 1++jG pOr :: qC fu g 2) (.mk 18 0 pOr [f,g]):=fun m hm lv a c=>by
    obtain rfl:lv=1:=by omega
    exact juc (hc m hm)
   rw[show qC fu (.mk 18 0 pOr [f,g])=fun lv=>wE 1 lv fu (qC fu f 1++jG pOr :: qC fu g 2) from funext e];exact XB.node (p:=1) (by omega) (all m (by omega) 1 (by omega) (by omega)) (all (m+1) (by omega)) (by omega) (fun _=>hc (m+1) (by omega))
 | cmp d s f g hs h1 h2 =>
  intro n hn
  obtain⟨m,rfl⟩ : ∃ m,n=m+1:=⟨n-1,by omega⟩
  have hp:jI 18 s=4/\(cmpL.any fun x=>decide (s=x))=true/\(mulL.any fun x=>decide (s=x))=false/\(addL.any fun x=>decide (s=x))=false:=by
   unfold cmpL at hs;simp only[List.mem_cons,List.not_mem_nil,or_false] at hs
   rcases hs with rfl | rfl | rfl | rfl | rfl | rfl <;> decide
  have e:∀ lv,qC fu (.mk 18 0 s [f,g]) lv=wE 4 lv fu (qC fu f 5++jG s :: qC fu g 5):=fun lv=>by
   show wE (jI 18 s) lv fu (qC fu f (if jI 18 s=4 then 5 else jI 18 s)++jG s :: qC fu g (jI 18 s+1))=_
   rw[hp.1];rfl
  have key:∀ m,2*d<=m->PE (jX m) 4 (qC fu f 5++jG s :: qC fu g 5) (.mk 18 0 s [f,g]):=fun m hm ts r hb hs=>by
   obtain⟨u,q1,q2⟩ := hb.app
   have x1:=joF (fu:=fu) h1 m (by omega)
   have x2:=joF (fu:=fu) h2 m (by omega)
   have hno:=jes (x1.nn 5) q1
   have y1:jbA (jX m) ts = .ok f u:=x1.pe 5 (by omega) (by omega) ts u q1 ⟨zV q2 _ hp.2.2.1,zV q2 _ hp.2.2.2⟩
   obtain⟨p,t,_,hr⟩ := gI q2
   have y2:jbA (jX m) u.tail = .ok g r:=x2.pe 5 (by omega) (by omega) u.tail r hr ⟨hs.1,hs.2.1⟩
   show m9 (jX m) ts=_
   unfold m9;rw[if_neg (by rw[hno];decide),y1]
   show (if gS cmpL u=true then _ else _)=_
   rw[if_pos (by unfold gS;rw[show (fun x=>qU x u)=fun x=>decide (s=x) from funext p];exact hp.2.1),y2,t];rfl
  have all:∀ m,2*d<=m -> ∀ lv:Nat,1<=lv->lv<=4->PE (jX m) lv (qC fu f 5++jG s :: qC fu g 5) (.mk 18 0 s [f,g]):=fun m hm lv a c=>by
   have g4:=key m hm
   have g3:=jn3 g4
   have g2:=jjL g3
   have g1:=jgB g2
   rcases (by omega:lv=1 ∨ lv=2 ∨ lv=3 ∨ lv=4) with rfl | rfl | rfl | rfl <;> assumption
  rw[show qC fu (.mk 18 0 s [f,g])=fun lv=>wE 4 lv fu (qC fu f 5++jG s :: qC fu g 5) from funext e];exact XB.node (p:=4) (by omega) (all m (by omega) 1 (by omega) (by omega)) (all (m+1) (by omega)) (by omega) (by omega)
end
section
theorem jae (f:Nt) (r:List Tk) (k:Nt->List Tk->Pn):(Pn.ok f r).andThen k=k f r:=rfl
def stL (n:Nat):List Tk->Pn:=iN (pH (jX n)) (jkL (jX n))
theorem jek (n:Nat):jkL (jX (n+1))=bkF (stL n):=by
 show (pa n).bl=_
 rw[iB];rfl
theorem jua (n:Nat):(pa n).bl=bkF (stL n):=jek n
theorem gK {low:Option Pa} {f:Nt} {t:List Co} (h:PE low 1 t f) {s:ByteArray} (hs:s=pSemi ∨ s=pComma ∨ s=pLb) {b:List Co} {ts r:List Tk} (hb:Beg (t++jG s :: b) ts r):∃ u,pH low ts = .ok f u/\Beg (jG s :: b) u r:=by
 obtain⟨u,h1,h2⟩ := hb.app
 refine⟨u,h ts u h1 ?_,h2⟩
 rcases hs with rfl | rfl | rfl <;> exact⟨zV h2 _ (by decide),zV h2 _ (by decide),zV h2 _ (by decide),zV h2 _ (by decide),zV h2 _ (by decide)⟩
theorem nD {s:ByteArray} {b:List Co} {ts r:List Tk} (hb:Beg (jG s :: b) ts r) (k:List Tk->Pn):xpt s ts k=k ts.tail/\Beg b ts.tail r:=by
 obtain⟨p,_,_,hr⟩ := gI hb
 refine⟨?_,hr⟩;unfold xpt;rw[p,if_pos (j8 rfl)]
theorem jkP {n:Nat} {b:List Co} {ts r:List Tk} (hb:Beg (v8 n :: b) ts r) (limit:Int) (hl:(n:Int)<limit) (k:Int->List Tk->Pn):cR limit ts k=k n ts.tail/\Beg b ts.tail r:=by
 obtain⟨hc,hr,_⟩ := hb.cons
 have hk:=(vA hc).1
 have hn:=(vA hc).2
 refine⟨?_,hr⟩;unfold cR;rw[show (hd ts).kind=2 from hk,show (hd ts).n=n from hn,if_neg (by decide),if_neg (by omega)]
variable {fu:Bool}
def PS (n:Nat) (t:List Co) (f:Nt):Prop := ∀ ts r,Beg t ts r->qU wElse r=false->stL n ts = .ok f r
theorem PS.eq {n:Nat} {t t2:List Co} {f:Nt} (h:PS n t f) (e:t2=t):PS n t2 f:=by rw[e];exact h
theorem jem (f:Nt):lsT fu [f]=qC fu f 1++[jG pSemi]:=by
 show (qC fu f 1++[])++[jG pSemi]=_
 rw[List.append_nil]
theorem jen (f g:Nt):lsT fu [f,g]=qC fu f 1++jG pComma :: (qC fu g 1++[jG pSemi]):=by
 show (qC fu f 1++(jG pComma :: qC fu g 1++[]))++[jG pSemi]=_
 simp
theorem jhO {n d:Nat} {f:Nt} (h:EI d f) (hd:2*d<=n):PE (jX n) 1 (qC fu f 1) f:=(joF h n hd).pe 1 (by omega) (by omega)
theorem jtu {n d:Nat} {f:Nt} (h:EB d f) (hd:2*d+1<=n):PE (jX n) 1 (qC fu f 1) f:=(juD h n hd).pe 1 (by omega) (by omega)
theorem jsm {n:Nat} {s:ByteArray} (hs:s ∈ varL) {f:Nt} (hf:PE (jX n) 1 (qC fu f 1) f):PS n (aX fu (.mk 1 0 s [f])) (.mk 1 0 s [f]):=by
 refine PS.eq (t:=jL s :: jG pEq :: (qC fu f 1++[jG pSemi])) ?_ (by rw[<- jem];rfl);intro ts r hb he
 obtain⟨p,q,_,t,k,h1⟩ := qX hb
 obtain⟨e1,h2⟩ := nD h1 fun r=>(pH (jX n) r).andThen fun e r=>xpt pSemi r fun r => .ok (.mk 1 0 (hd ts).text [e]) r
 obtain⟨u,e2,h3⟩ := gK hf (.inl rfl) h2
 obtain⟨e3,h4⟩ := nD h3 fun r => .ok (.mk 1 0 (hd ts).text [f]) r
 have h4:=h4.nil
 show iN _ _ ts=_
 unfold iN;rw[if_pos (by rw[q,(jk7 s hs).2.2.2.2];rfl),e1,e2];rw[jae];rw[e3,h4,t]
theorem jsr {n m:Nat} (hm:m<30) {f g h:Nt} (hf:PE (jX n) 1 (qC fu f 1) f) (hg:PE (jX n) 1 (qC fu g 1) g) (hh:PE (jX n) 1 (qC fu h 1) h):PS n (aX fu (.mk 4 m eB [f,g,h])) (.mk 4 m eB [f,g,h]):=by
 refine PS.eq (t:=jL wSend :: (qC fu f 1++jG pComma :: v8 m :: jG pComma :: (qC fu g 1++jG pComma :: (qC fu h 1++[jG pSemi])))) ?_ (by rw[<- jen];rfl);intro ts r hb he
 obtain⟨p,q,_,t,k,h1⟩ := qX hb
 show iN _ _ ts=_
 unfold iN;rw[if_neg (by rw[q];decide),if_neg (by rw[k];decide),t]
 obtain⟨u,e2,h2⟩ := gK hf (.inr (.inl rfl)) h1
 rw[if_neg (by decide),if_neg (by decide),if_pos rfl,e2];rw[jae]
 obtain⟨_,h3⟩ := nD h2 fun r => .ok f r
 rw[(nD h2 _).1]
 obtain⟨_,h4⟩ := jkP h3 30 (by omega) fun _ r => .ok f r
 rw[(jkP h3 30 (by omega) _).1]
 obtain⟨_,h5⟩ := nD h4 fun r => .ok f r
 rw[(nD h4 _).1]
 obtain⟨u2,e3,h6⟩ := gK hg (.inr (.inl rfl)) h5
 rw[e3];rw[jae]
 obtain⟨_,h7⟩ := nD h6 fun r => .ok f r
 rw[(nD h6 _).1]
 obtain⟨u3,e4,h8⟩ := gK hh (.inl rfl) h7
 rw[e4];rw[jae]
 obtain⟨_,h9⟩ := nD h8 fun r => .ok f r
 rw[(nD h8 _).1,h9.nil]
theorem jsu {n m:Nat} (hm:m<8):PS n (aX fu (.mk 5 m eB [])) (.mk 5 m eB []):=by
 refine PS.eq (t:=[jL wTimer,v8 m,jG pSemi]) ?_ rfl;intro ts r hb he
 obtain⟨p,q,_,t,k,h1⟩ := qX hb
 show iN _ _ ts=_
 unfold iN;rw[if_neg (by rw[q];decide),if_neg (by rw[k];decide),t];rw[if_neg (by decide),if_neg (by decide),if_neg (by decide),if_pos rfl]
 obtain⟨_,h4⟩ := jkP h1 8 (by omega) fun _ r => .ok (.mk 0 0 eB []) r
 rw[(jkP h1 8 (by omega) _).1]
 obtain⟨_,h9⟩ := nD h4 fun r => .ok (.mk 0 0 eB []) r
 rw[(nD h4 _).1,h9.nil]
theorem jsn {n m:Nat} (hm:m<8):PS n (aX fu (.mk 6 m eB [])) (.mk 6 m eB []):=by
 refine PS.eq (t:=[jL wCancel,v8 m,jG pSemi]) ?_ rfl;intro ts r hb he
 obtain⟨p,q,_,t,k,h1⟩ := qX hb
 show iN _ _ ts=_
 unfold iN;rw[if_neg (by rw[q];decide),if_neg (by rw[k];decide),t];rw[if_neg (by decide),if_neg (by decide),if_neg (by decide),if_neg (by decide),if_pos rfl]
 obtain⟨_,h4⟩ := jkP h1 8 (by omega) fun _ r => .ok (.mk 0 0 eB []) r
 rw[(jkP h1 8 (by omega) _).1]
 obtain⟨_,h9⟩ := nD h4 fun r => .ok (.mk 0 0 eB []) r
 rw[(nD h4 _).1,h9.nil]
theorem jst {n:Nat} : PS n (aX fu (.mk 7 0 eB [])) (.mk 7 0 eB []):=by
 refine PS.eq (t:=[jL wSync,jG pSemi]) ?_ rfl;intro ts r hb he
 obtain⟨p,q,_,t,k,h1⟩ := qX hb
 show iN _ _ ts=_
 unfold iN;rw[if_neg (by rw[q];decide),if_neg (by rw[k];decide),t];rw[if_neg (by decide),if_neg (by decide),if_neg (by decide),if_neg (by decide),if_neg (by decide),if_pos rfl]
 obtain⟨_,h9⟩ := nD h1 fun r => .ok (.mk 0 0 eB []) r
 rw[(nD h1 _).1,h9.nil]
theorem jsq {n:Nat} {f g:Nt} (hf:PE (jX n) 1 (qC fu f 1) f) (hg:PE (jX n) 1 (qC fu g 1) g):PS n (aX fu (.mk 8 0 eB [f,g])) (.mk 8 0 eB [f,g]):=by
 refine PS.eq (t:=jL wReply :: (qC fu f 1++jG pComma :: (qC fu g 1++[jG pSemi]))) ?_ (by rw[<- jen];rfl);intro ts r hb he
 obtain⟨p,q,_,t,k,h1⟩ := qX hb
 show iN _ _ ts=_
 unfold iN;rw[if_neg (by rw[q];decide),if_neg (by rw[k];decide),t]
 obtain⟨u2,e3,h6⟩ := gK hf (.inr (.inl rfl)) h1
 rw[if_neg (by decide),if_neg (by decide),if_neg (by decide),if_neg (by decide),if_neg (by decide),if_neg (by decide),if_pos rfl,e3];rw[jae]
 obtain⟨_,h7⟩ := nD h6 fun r => .ok f r
 rw[(nD h6 _).1]
 obtain⟨u3,e4,h8⟩ := gK hg (.inl rfl) h7
 rw[e4];rw[jae]
 obtain⟨_,h9⟩ := nD h8 fun r => .ok f r
 rw[(nD h8 _).1,h9.nil]
theorem jso {n:Nat} {f:Nt} (hf:PE (jX n) 1 (qC fu f 1) f):PS n (aX fu (.mk 9 0 eB [f])) (.mk 9 0 eB [f]):=by
 refine PS.eq (t:=jL wFail :: (qC fu f 1++[jG pSemi])) ?_ (by rw[<- jem];rfl);intro ts r hb he
 obtain⟨p,q,_,t,k,h1⟩ := qX hb
 show iN _ _ ts=_
 unfold iN;rw[if_neg (by rw[q];decide),if_neg (by rw[k];decide),t]
 obtain⟨u3,e4,h8⟩ := gK hf (.inl rfl) h1
 rw[if_neg (by decide),if_neg (by decide),if_neg (by decide),if_neg (by decide),if_neg (by decide),if_neg (by decide),if_neg (by decide),if_pos rfl,e4];rw[jae]
 obtain⟨_,h9⟩ := nD h8 fun r => .ok f r
 rw[(nD h8 _).1,h9.nil]
theorem jss {n:Nat} : PS n (aX fu (.mk 10 0 eB [])) (.mk 10 0 eB []):=by
 refine PS.eq (t:=[jL wStop,jG pSemi]) ?_ rfl;intro ts r hb he
 obtain⟨p,q,_,t,k,h1⟩ := qX hb
 show iN _ _ ts=_
 unfold iN;rw[if_neg (by rw[q];decide),if_neg (by rw[k];decide),t];rw[if_neg (by decide),if_neg (by decide),if_neg (by decide),if_neg (by decide),if_neg (by decide),if_neg (by decide),if_neg (by decide),if_neg (by decide),if_pos rfl]
 obtain⟨_,h9⟩ := nD h1 fun r => .ok (.mk 0 0 eB []) r
 rw[(nD h1 _).1,h9.nil]
def StS (t:List Co):Prop := ∃ s l,t=jL s :: l/\s ≠ wElse/\s ≠ pRb
theorem jti {n:Nat} (m:List Nt) (hm:∀ f ∈ m,PS n (aX fu f) f/\StS (aX fu f)):∀ (acc:List Nt) (ts r:List Tk) (k:Nat),Beg ((m.map (aX fu)).flatten++[jG pRb]) ts r->m.length+1<=k->lV (stL n) k acc ts = .ok (qD (acc++m)) r:=by
 induction m with
 | nil =>
  intro acc ts r k hb hk
  obtain⟨j,rfl⟩ : ∃ j,k=j+1:=⟨k-1,by simp at hk;omega⟩
  have hb:Beg [jG pRb] ts r:=hb
  obtain⟨p,_,_,hr⟩ := gI hb
  rw[lV,if_pos (by rw[p];decide),List.append_nil,hr.nil]
 | cons f m ih =>
  intro acc ts r k hb hk
  obtain⟨j,rfl⟩ : ∃ j,k=j+1:=⟨k-1,by simp at hk;omega⟩
  rw[List.map_cons,List.flatten_cons,List.append_assoc] at hb
  obtain⟨hf,s,l,hs,hs1,hs2⟩ := hm f List.mem_cons_self
  obtain⟨u,h1,h2⟩ := hb.app
  have hel:qU wElse u=false:=by
   cases m with
   | nil =>
    have h2:Beg [jG pRb] u r:=h2
    obtain⟨p,_⟩ := gI h2
    rw[p];decide
   | cons g m =>
    obtain⟨_,s2,l2,hs2,hs3,_⟩ := hm g (by simp)
    rw[List.map_cons,List.flatten_cons,hs2] at h2
    obtain⟨p,_⟩ := qX (b:=l2++(m.map (aX fu)).flatten++[jG pRb]) (ts:=u) (r:=r) (by simpa using h2)
    rw[p,jW hs3]
  have h3:=hf ts u h1 hel
  have hrb:qU pRb ts=false:=by
   rw[hs] at h1
   obtain⟨p,_⟩ := qX h1
   rw[p,jW hs2]
  rw[lV,if_neg (by rw[hrb];decide),h3]
  show lV (stL n) j (acc++[f]) u=_
  rw[ih (fun g hg=>hm g (List.mem_cons_of_mem _ hg)) (acc++[f]) u r j h2 (by simp at hk;omega),List.append_assoc];rfl
def PBk (n:Nat) (t:List Co) (f:Nt):Prop := ∀ ts r,Beg t ts r->bkF (stL n) ts = .ok f r
theorem jez {n:Nat} (m:List Nt) (hm:∀ f ∈ m,PS n (aX fu f) f/\StS (aX fu f)):PBk n (bO fu (qD m)) (qD m):=fun ts r hb=>by
 have e2:bO fu (qD m)=jG pLb :: ((m.map (aX fu)).flatten++[jG pRb]):=by
  unfold qD;rw[bO,rG];rfl
 rw[e2] at hb
 obtain⟨_,h1⟩ := nD hb fun r => .ok (.mk 0 0 eB []) r
 unfold bkF;rw[(nD hb _).1]
 have hlen:m.length<=(m.map (aX fu)).flatten.length:=by
  have:∀ l:List Nt,(∀ f ∈ l,StS (aX fu f))->l.length<=(l.map (aX fu)).flatten.length:=fun l=>by
   induction l with
   | nil=>intro _;exact Nat.zero_le _
   | cons f l ih =>
    intro h
    have h1:=ih fun g hg=>h g (List.mem_cons_of_mem _ hg)
    obtain⟨s,l2,hs,_⟩ := h f List.mem_cons_self
    rw[List.map_cons,List.flatten_cons,List.length_append,hs,List.length_cons,List.length_cons];omega
  exact this m fun f hf=>(hm f hf).2
 have hl:=h1.len
 rw[List.length_append] at hl;simp only[List.length_cons,List.length_nil] at hl;rw[jti m hm [] ts.tail r _ h1 (by omega)];rfl
theorem jsv {n:Nat} {c b:Nt} (hc:PE (jX (n+1)) 1 (qC fu c 1) c) (hb:PBk n (bO fu b) b) (hl:∃ l,bO fu b=jG pLb :: l):PS (n+1) (aX fu (.mk 3 0 eB [c,b])) (.mk 3 0 eB [c,b]):=by
 refine PS.eq (t:=jL wWhile :: (qC fu c 1++bO fu b)) ?_ rfl;intro ts r h0 he
 obtain⟨l,hl⟩ := hl
 obtain⟨p,q,_,t,k,h1⟩ := qX h0
 show iN _ _ ts=_
 unfold iN;rw[if_neg (by rw[q];decide),if_neg (by rw[k];decide),t];rw[hl] at h1
 obtain⟨u,e2,h2⟩ := gK hc (.inr (.inr rfl)) h1
 rw[<- hl] at h2
 have h3:=hb u r h2
 rw[jek,if_neg (by decide),if_pos rfl,e2]
 show (bkF (stL n) u).andThen _=_
 rw[h3];rfl
theorem jsp {n:Nat} {c b d:Nt} (hc:PE (jX (n+1)) 1 (qC fu c 1) c) (hb:PBk n (bO fu b) b) (hl:∃ l,bO fu b=jG pLb :: l) (hd:PBk n (bO fu d) d) (hd0:d.kids.length=0->d=qD []):PS (n+1) (aX fu (.mk 2 0 eB [c,b,d])) (.mk 2 0 eB [c,b,d]):=by
 have e2:aX fu (.mk 2 0 eB [c,b,d])=if 0<d.kids.length then jL wIf :: qC fu c 1++bO fu b++jL wElse :: bO fu d else jL wIf :: qC fu c 1++bO fu b:=rfl
 obtain⟨l,hl⟩ := hl
 by_cases hz:0<d.kids.length
 ·rw[if_pos hz] at e2;refine PS.eq (t:=jL wIf :: (qC fu c 1++(bO fu b++jL wElse :: bO fu d))) ?_ (by rw[e2];simp);intro ts r h0 he
  obtain⟨p,q,_,t,k,h1⟩ := qX h0
  show iN _ _ ts=_
  unfold iN;rw[if_neg (by rw[q];decide),if_neg (by rw[k];decide),t];rw[hl] at h1
  obtain⟨u,e2,h2⟩ := gK hc (.inr (.inr rfl)) h1
  have h2:Beg ((jG pLb :: l)++jL wElse :: bO fu d) u r:=h2
  rw[<- hl] at h2
  obtain⟨v,h4,h5⟩ := h2.app
  have h3:=hb u v h4
  obtain⟨p,_,_,_,_,h6⟩ := qX h5
  have h7:=hd v.tail r h6
  rw[jek,if_pos rfl,e2]
  show (bkF (stL n) u).andThen _=_
  rw[h3]
  show (if qU wElse v=true then _ else _)=_
  rw[p,if_pos (by decide),h7];rfl
 ·rw[if_neg hz] at e2;refine PS.eq (t:=jL wIf :: (qC fu c 1++bO fu b)) ?_ (by rw[e2];rfl);intro ts r h0 he
  obtain⟨p,q,_,t,k,h1⟩ := qX h0
  show iN _ _ ts=_
  unfold iN;rw[if_neg (by rw[q];decide),if_neg (by rw[k];decide),t];rw[hl] at h1
  obtain⟨u,e2,h2⟩ := gK hc (.inr (.inr rfl)) h1
  rw[<- hl] at h2
  have h3:=hb u r h2
  rw[jek,if_pos rfl,e2]
  show (bkF (stL n) u).andThen _=_
  rw[h3]
  show (if qU wElse r=true then _ else _)=_
  rw[he,if_neg (by decide),hd0 (by omega)]
theorem jo3 (m:List Nt):∃ l,bO fu (qD m)=jG pLb :: l:=by
 unfold qD;rw[bO];exact⟨_,rfl⟩
theorem jeS {d:Nat} {f:Nt} (h:ES d f):StS (aX fu f):=by
 have kw:∀ (s:ByteArray) (l:List Co),(s ≠ wElse/\s ≠ pRb)->StS (jL s :: l):=fun s l h=>⟨s,l,rfl,h.1,h.2⟩
 have hv:∀ s ∈ varL,s ≠ wElse/\s ≠ pRb:=by decide
 cases h with
 | asg d e s f hs h he=>exact kw s _ (hv s hs)
 | snd d n f g h hn h1 h2 h3=>exact kw wSend _ (by decide)
 | tim d n hn=>exact kw wTimer _ (by decide)
 | can d n hn=>exact kw wCancel _ (by decide)
 | syn d=>exact kw wSync _ (by decide)
 | rep d f g h1 h2=>exact kw wReply _ (by decide)
 | fai d f h1=>exact kw wFail _ (by decide)
 | stp d=>exact kw wStop _ (by decide)
 | whi d c l h1 h2 h3=>exact kw wWhile _ (by decide)
 | iff d c l m h1 h2 h3 h4 h5 =>
  have e2:aX fu (.mk 2 0 eB [c,qD l,qD m])=if 0<(qD m).kids.length then jL wIf :: (qC fu c 1++bO fu (qD l)++jL wElse :: bO fu (qD m)) else jL wIf :: (qC fu c 1++bO fu (qD l)):=rfl
  rw[e2]
  split
  ·exact kw wIf _ (by decide)
  ·exact kw wIf _ (by decide)
theorem jug {d:Nat} {f:Nt} (h:ES d f):∀ n,d+6<=n->PS n (aX fu f) f:=by
 induction h with
 | asg d e s f hs h he=>intro n hn;exact jsm hs (jhO h (by omega))
 | snd d m f g h hm h1 h2 h3=>intro n hn;exact jsr (by omega) (jhO h1 (by omega)) (jhO h2 (by omega)) (jhO h3 (by omega))
 | tim d m hm=>intro n hn;exact jsu (by omega)
 | can d m hm=>intro n hn;exact jsn (by omega)
 | syn d=>intro n hn;exact jst
 | rep d f g h1 h2=>intro n hn;exact jsq (jhO h1 (by omega)) (jhO h2 (by omega))
 | fai d f h1=>intro n hn;exact jso (jhO h1 (by omega))
 | stp d=>intro n hn;exact jss
 | whi d c l h1 h2 h3 ih =>
  intro n hn
  obtain⟨k,rfl⟩ : ∃ k,n=k+1:=⟨n-1,by omega⟩
  exact jsv (jtu h1 (by omega)) (jez l fun f hf=>⟨ih f hf k (by omega),jeS (h3 f hf)⟩) (jo3 l)
 | iff d c l m h1 h2 h3 h4 h5 ih1 ih2 =>
  intro n hn
  obtain⟨k,rfl⟩ : ∃ k,n=k+1:=⟨n-1,by omega⟩
  refine jsp (jtu h1 (by omega)) (jez l fun f hf=>⟨ih1 f hf k (by omega),jeS (h3 f hf)⟩) (jo3 l) (jez m fun f hf=>⟨ih2 f hf k (by omega),jeS (h5 f hf)⟩) fun hz => ?_
  have hz:m.length=0:=hz
  rw[List.length_eq_zero_iff.1 hz]
theorem jsb {b:Nt} (h:EK b) (n:Nat) (hn:8<=n):PBk n (bO fu b) b:=by
 obtain⟨k,rfl,h1,h2⟩ := h
 exact jez k fun f hf=>⟨jug (h2 f hf) n (by omega),jeS (h2 f hf)⟩
end
end Go.Proofs.YtfbkolllpencnaaGreatDoor.Vm
