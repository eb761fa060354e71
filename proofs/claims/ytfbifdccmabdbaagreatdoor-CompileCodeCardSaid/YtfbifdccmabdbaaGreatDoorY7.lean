/- Part 7 of the proof. -/
import Derived.Test.YtfbifdccmabdbaaGreatDoorY6
set_option maxRecDepth 100000
set_option linter.unusedSimpArgs false
set_option linter.unusedVariables false
set_option maxHeartbeats 4000000
namespace Go.Proofs.YtfbifdccmabdbaaGreatDoor.Vm
open Go.RowKit Go.Shelf
def pkF (l:List Int) (i:Nat):Int:=if i<l.length then bN (l.getD i 0) 1000000 else 0
theorem jsS (l:List Int) (i:Nat):Spec Tryz.prog 56 [] [.sl 1 l.length (jV l),intA i,intA 1000000] fun _ r=>(0<=pkF l i/\pkF l i<1000000)/\r=intA (pkF l i):=by
 unfold pkF;refine eN jR j5 0 Tryz.func56 rfl ?_;intro hok;conv=>whnf
 rw[jG (show ¬ (i:Int)<0 by omega)];conv=>whnf
 by_cases hi:i<l.length
 ·have hr:=aW l i hi
  have e:l.getD i 0=l[i]:=by rw[List.getD_eq_getElem?_getD,List.getElem?_eq_getElem hi];rfl
  rw[<- e] at hr;rw[if_pos hi,jG (show ¬ (l.length:Int)<=i by omega)];generalize l.getD i 0=x at *
  have ha:=fS x 1000000 (by omega)
  conv=>whnf
  (refine fN ?_;try with_reducible exact trivial)
  (generalize hrq:jC _ _ (jV l)=rq;obtain rfl:rq=[intA x]:=hrq.symm.trans (hr);clear hrq;conv=>whnf)
  refine kU [] ha ?_;rintro r ⟨hx,rfl⟩;conv=>whnf
  exact⟨tD hx (by omega),rfl⟩
 ·rw[if_neg hi,jK (show (l.length:Int)<=i by omega)];conv=>whnf
  exact⟨by omega,rfl⟩
def bxG (l:List Int) (i:Nat):List A:=[.sl 1 l.length (jV l),.v (.int .i64 i)]
def pk (l:List Int) (i m:Nat):Nat:=(pkF l i).toNat % m
theorem vJ (l:List Int) (i:Nat) {m:Nat} (h:0<m):pk l i m<m:=Nat.mod_lt _ h
theorem vD (l:List Int) (i m:Nat) (hi:i<=1000000000) (hm:1<=m/\m<=1000):Spec Tryz.prog 37 [bxG l i] [.box 0 0,.v (.int .i64 m)] fun o r=>o=[bxG l (i+1)]/\r = .v (.int .i64 (pk l i m)):=by
 unfold pk;refine eN jsD j5 1 Tryz.func37 rfl ?_;intro hok;conv=>whnf
 refine kU [] (jsS l i) ?_;rintro r ⟨hr,rfl⟩
 obtain⟨k,hk⟩ : ∃ k:Nat,pkF l i=(k:Int):=⟨(pkF l i).toNat,by omega⟩
 rw[hk] at hr ⊢;conv=>whnf
 (refine fN ?_;try with_reducible exact trivial)
 have e:((k:Int)).tmod (m:Int)=((k % m:Nat):Int):=by rw[Int.tmod_eq_emod_of_nonneg (by omega)];omega
 exact⟨rfl,by rw[e];rfl⟩
theorem cM {α:Type} (f:α->A) (l:List α) (i:Nat) (h:i<l.length):(l.map f).drop (i*1)=f l[i] :: (l.map f).drop (i+1):=by
 rw[Nat.mul_one,List.drop_eq_getElem_cons (by simpa using h),List.getElem_map]
theorem oU (l:List Int) (i m:Nat) (h:l.length<=70):70<=i->pk l i m=0:=fun hi=>by
 unfold pk pkF;rw[if_neg (by omega)];exact Nat.zero_mod m
def varL:List ByteArray:=[⟨#[100]⟩,⟨#[100,100,49]⟩,⟨#[118]⟩,⟨#[119,50]⟩]
theorem jqD (l:List Int) (i:Nat) (hi:i<=1000000000):∃ s ∈ varL,(s.size<=3/\(l.length<=70->70<=i->s.size=1))/\Spec Tryz.prog 112 [bxG l i] [.box 0 0] fun o r=>o=[bxG l (i+1)]/\r=jX s:=by
 have hp:=vD l i 4 hi (by decide)
 have hlt:=vJ l i (m:=4) (by decide)
 have ho:=oU l i 4
 generalize pk l i 4=k at *;refine⟨varL[k]'hlt,List.getElem_mem _,?_,?_⟩
 ·have h4:∀ (k:Nat) (h:k<varL.length),(varL[k]'h).size<=3/\(k=0->(varL[k]'h).size=1):=by decide
  exact⟨(h4 k hlt).1,fun a b=>(h4 k hlt).2 (ho a b)⟩
 have hr:=cM jX varL k hlt
 generalize varL[k]'hlt=s at *;refine eN jR j5 1 Tryz.func112 rfl ?_;intro hok;conv=>whnf
 refine jS 0 [] hp ?_;rintro o r ⟨ho,rfl⟩;cases ho;conv=>whnf
 refine⟨⟨by omega,by omega⟩,?_⟩;conv=>whnf
 generalize hrq:List.drop (Int.toNat (k:Int)*_) _=rq
 obtain rfl:rq=_ :: _:=hrq.symm.trans hr
 clear hrq;conv=>whnf
 exact⟨rfl,rfl⟩
def litL:List Int:=[0,1,2,3,7,100,2147483647,30]
def opL:List ByteArray:=[cZ,pMinus,vU,yB]
inductive EI:Nat->Nt->Prop
 | lit (d:Nat) (n:Int) (h:n ∈ litL):EI d (.mk 12 n eB [])
 | var (d:Nat) (s:ByteArray) (h:s ∈ varL):EI d (.mk 14 0 s [])
 | nam (d:Nat) (s:ByteArray) (h:s ∈ builtL):EI d (.mk 15 0 s [])
 | drw (d:Nat) (f:Nt) (h:EI d f):EI (d+1) (.mk 16 0 eB [f])
 | neg (d:Nat) (f:Nt) (h:EI d f):EI (d+1) (.mk 17 0 pMinus [f])
 | bin (d:Nat) (s:ByteArray) (f g:Nt) (hs:s ∈ opL) (h1:EI d f) (h2:EI d g):EI (d+1) (.mk 18 0 s [f,g])
def bI:Nat->Nat
 | 0=>2
 | d+1=>2+2*bI d
theorem jpl:∀ d,2<=bI d
 | 0=>Nat.le_refl _
 | d+1=>by unfold bI;omega
def jpK (l:List Int) (d:Nat):Prop:=l.length<=70 -> ∀ (i:Nat) (z:Int),z.toNat=d -> -5<=z->z<=10->i+bI d<=1000000000 -> ∃ f i',EI d f/\i<=i'/\i'<=i+bI d/\(∀ κ,1<=κ->κ<=7->wN κ f+phA κ i<=1+κ+phA κ i')/\Spec Tryz.prog 113 [bxG l i] [.box 0 0,.v (.int .i64 z)] fun o r=>o=[bxG l i']/\r = .agg (ntA f)
theorem gw {P:Program} {f:Nat} {cs args:List A} {X:List (List A)} {t:Nt} (h:Spec P f [cs] args fun o r=>o=X /\ ∃ l,r = .agg l/\WkL l (ntA t)):Spec P f [cs] args fun o r=>o=X/\r = .agg (ntA t) :=
 Spec.weaken h fun o r ⟨h1,l,h2,h3⟩=>⟨o,.agg (ntA t),⟨h1,rfl⟩,.refl _,by rw[h2];exact .agg h3⟩
theorem jsb (l:List Int) (d:Nat) (ih:∀ e,d=e+1->jpK l e):jpK l d:=fun hl i z hz h1 h2 hi=>by
 have hge:=jpl d
 have hp:=vD l i 12 (by omega) (by decide)
 have hlt:=vJ l i (m:=12) (by decide)
 have ho:=oU l i 12 hl
 have p0:=fun κ=>oT κ i
 have p1:=fun κ=>oT κ (i+1)
 have pe2:∀ κ,phA κ (i+2)=phA κ (i+1+1):=fun _=>rfl
 generalize pk l i 12=n0 at *
 obtain⟨n,hn⟩ : ∃ n,(if z<=0 then n0 % 6 else n0)=n:=⟨_,rfl⟩
 have hn12:n<12:=by split at hn <;> omega
 have hn6:z<=0->n<6:=fun h=>by rw[if_pos h] at hn;omega
 have hlo:n ≠ 0->i<70:=fun h=>by
  by_cases h70:70<=i
  ·have:=ho h70
   split at hn <;> omega
  ·omega
 by_cases hA:n<=1
 ·have hp2:=vD l (i+1) 8 (by omega) (by decide)
  have hlt2:=vJ l (i+1) (m:=8) (by decide)
  have ho2:=oU l (i+1) 8 hl
  generalize pk l (i+1) 8=k8 at *
  have hlw:∀ (k:Nat) (h:k<litL.length),dgN (litL[k]'h)<=10/\(k=0->dgN (litL[k]'h)=1):=by decide
  have hlk:=hlw k8 hlt2
  refine⟨.mk 12 (litL[k8]'hlt2) eB [],i+2,.lit _ _ (List.getElem_mem _),by omega,by omega,fun κ ka kb=>by have p0:=p0 κ;have p1:=p1 κ;have pe2:=pe2 κ;rw[jrx];omega,?_⟩;clear hlw hlk
  have hr:=cM intA litL k8 hlt2
  generalize litL[k8]'hlt2=x at *
  rcases (by omega:n=0 ∨ n=1) with rfl | rfl
  all_goals
   refine gw ?_;refine eN sQ (fun _=>[0]) 1 Tryz.func113 rfl ?_;intro hok;conv=>whnf
   refine jS 0 [] hp ?_;rintro o r ⟨ho,rfl⟩;cases ho;conv=>whnf
   by_cases hz0:z<=0
   all_goals
    first
    | (rw[if_pos hz0] at hn;rw[jK hz0];(conv=>whnf);refine⟨by decide,?_⟩;rw[Int.tmod_eq_emod_of_nonneg (by omega),show (n0:Int) % 6=((n0 % 6:Nat):Int) by omega,hn])
    | (rw[if_neg hz0] at hn;rw[jG hz0];(conv=>whnf);rw[hn])
    conv=>whnf
   all_goals
    refine jS 0 [] hp2 ?_;rintro o r ⟨ho,rfl⟩;cases ho;conv=>whnf
    refine⟨⟨by omega,by omega⟩,?_⟩;conv=>whnf
    generalize hrq:List.drop (Int.toNat (k8:Int)*_) _=rq
    obtain rfl:rq=_ :: _:=hrq.symm.trans hr
    clear hrq;conv=>whnf
    exact⟨rfl,_,rfl,j8 (f := .mk 12 x eB []) rfl⟩
 by_cases hB:n<=3
 ·obtain⟨s,hs1,hs2,hp2⟩ := jqD l (i+1) (by omega)
  refine⟨.mk 14 0 s [],i+2,.var _ _ hs1,by omega,by omega,fun κ ka kb=>by have p0:=p0 κ;have p1:=p1 κ;have pe2:=pe2 κ;rw[jrz];omega,?_⟩
  rcases (by omega:n=2 ∨ n=3) with rfl | rfl
  all_goals
   refine gw ?_;refine eN sQ (fun _=>[0]) 1 Tryz.func113 rfl ?_;intro hok;conv=>whnf
   refine jS 0 [] hp ?_;rintro o r ⟨ho,rfl⟩;cases ho;conv=>whnf
   by_cases hz0:z<=0
   all_goals
    first
    | (rw[if_pos hz0] at hn;rw[jK hz0];(conv=>whnf);refine⟨by decide,?_⟩;rw[Int.tmod_eq_emod_of_nonneg (by omega),show (n0:Int) % 6=((n0 % 6:Nat):Int) by omega,hn])
    | (rw[if_neg hz0] at hn;rw[jG hz0];(conv=>whnf);rw[hn])
    conv=>whnf
   all_goals
    refine jS 0 [] hp2 ?_;rintro o r ⟨ho,rfl⟩;cases ho;conv=>whnf
    exact⟨rfl,_,rfl,j8 (f := .mk 14 0 s []) rfl⟩
 by_cases hC:n<=5
 ·have hp2:=vD l (i+1) 9 (by omega) (by decide)
  have hlt2:=vJ l (i+1) (m:=9) (by decide)
  generalize pk l (i+1) 9=k8 at *
  have hlw:∀ (k:Nat) (h:k<builtL.length),(builtL[k]'h).size<=5:=by decide
  have hlk:=hlw k8 hlt2
  refine⟨.mk 15 0 (builtL[k8]'hlt2) [],i+2,.nam _ _ (List.getElem_mem _),by omega,by omega,fun κ ka kb=>by have p0:=p0 κ;have p1:=p1 κ;have pe2:=pe2 κ;rw[jry];omega,?_⟩;clear hlw hlk
  have hr:jC 1 k8 (yP builtL)=[jX (builtL[k8]'hlt2)]:=yY jX builtL k8 hlt2
  have hbu:=bY
  generalize builtL[k8]'hlt2=s at *
  rcases (by omega:n=4 ∨ n=5) with rfl | rfl
  all_goals
   refine gw ?_;refine eN sQ (fun _=>[0]) 1 Tryz.func113 rfl ?_;intro hok;conv=>whnf
   refine jS 0 [] hp ?_;rintro o r ⟨ho,rfl⟩;cases ho;conv=>whnf
   by_cases hz0:z<=0
   all_goals
    first
    | (rw[if_pos hz0] at hn;rw[jK hz0];(conv=>whnf);refine⟨by decide,?_⟩;rw[Int.tmod_eq_emod_of_nonneg (by omega),show (n0:Int) % 6=((n0 % 6:Nat):Int) by omega,hn])
    | (rw[if_neg hz0] at hn;rw[jG hz0];(conv=>whnf);rw[hn])
    conv=>whnf
   all_goals
    (refine kU [] hbu ?_;rintro r rfl;conv=>whnf)
    refine jS 0 [] hp2 ?_;rintro o r ⟨ho,rfl⟩;cases ho;conv=>whnf
    refine⟨⟨by omega,by show (k8:Int)<9;omega⟩,?_⟩;conv=>whnf
    (generalize hrq:jC _ _ (yP builtL)=rq;obtain rfl:rq=[jX s]:=hrq.symm.trans (hr);clear hrq;conv=>whnf)
    exact⟨rfl,_,rfl,j8 (f := .mk 15 0 s []) rfl⟩
 have hzp:0<z:=by
  by_cases h:0<z
  ·exact h
  ·have:=hn6 (by omega);omega
 obtain⟨e,rfl⟩ : ∃ e,d=e+1:=⟨d-1,by omega⟩
 have ihe:=ih e rfl
 unfold bI at hi
 by_cases hD:n<=7
 ·obtain⟨f,i2,hf,g1,g2,w1,hs⟩ := ihe hl (i+1) (z-1) (by omega) (by omega) (by omega) (by omega)
  rcases (by omega:n=6 ∨ n=7) with rfl | rfl
  ·refine⟨.mk 16 0 eB [f],i2,.drw _ _ hf,by omega,by unfold bI;omega,fun κ ka kb=>by have p0:=p0 κ;have p1:=p1 κ;have pe2:=pe2 κ;have w1:=w1 κ ka kb;rw[jrw];omega,?_⟩;refine gw ?_;refine eN sQ (fun _=>[0]) 1 Tryz.func113 rfl ?_;intro hok;conv=>whnf
   refine jS 0 [] hp ?_;rintro o r ⟨ho,rfl⟩;cases ho;conv=>whnf
   by_cases hz0:z<=0
   all_goals
    first
    | (rw[if_pos hz0] at hn;rw[jK hz0];(conv=>whnf);refine⟨by decide,?_⟩;rw[Int.tmod_eq_emod_of_nonneg (by omega),show (n0:Int) % 6=((n0 % 6:Nat):Int) by omega,hn])
    | (rw[if_neg hz0] at hn;rw[jG hz0];(conv=>whnf);rw[hn])
    conv=>whnf
   ·exact absurd hz0 (by omega)
   refine⟨jJ (by omega),?_⟩;conv=>whnf
   refine jS 0 [] hs ?_;rintro o r ⟨ho,rfl⟩;cases ho;conv=>whnf
   exact⟨rfl,_,rfl,by rw[kZ];exact qL _⟩
  ·have hsz:pMinus.size=1:=rfl
   refine⟨.mk 17 0 pMinus [f],i2,.neg _ _ hf,by omega,by unfold bI;omega,fun κ ka kb=>by have p0:=p0 κ;have p1:=p1 κ;have pe2:=pe2 κ;have w1:=w1 κ ka kb;rw[jnD];omega,?_⟩;refine gw ?_;refine eN sQ (fun _=>[0]) 1 Tryz.func113 rfl ?_;intro hok;conv=>whnf
   refine jS 0 [] hp ?_;rintro o r ⟨ho,rfl⟩;cases ho;conv=>whnf
   by_cases hz0:z<=0
   all_goals
    first
    | (rw[if_pos hz0] at hn;rw[jK hz0];(conv=>whnf);refine⟨by decide,?_⟩;rw[Int.tmod_eq_emod_of_nonneg (by omega),show (n0:Int) % 6=((n0 % 6:Nat):Int) by omega,hn])
    | (rw[if_neg hz0] at hn;rw[jG hz0];(conv=>whnf);rw[hn])
    conv=>whnf
   ·exact absurd hz0 (by omega)
   refine⟨jJ (by omega),?_⟩;conv=>whnf
   refine jS 0 [] hs ?_;rintro o r ⟨ho,rfl⟩;cases ho;conv=>whnf
   exact⟨rfl,_,rfl,by rw[kZ];exact qL _⟩
 have hp2:=vD l (i+1) 4 (by omega) (by decide)
 have hlt2:=vJ l (i+1) (m:=4) (by decide)
 generalize pk l (i+1) 4=k8 at *
 obtain⟨f,i2,hf,g1,g2,w1,hs⟩ := ihe hl (i+1+1) (z-1) (by omega) (by omega) (by omega) (by omega)
 obtain⟨g,i3,hg,g3,g4,w2,hs2⟩ := ihe hl i2 (z-1) (by omega) (by omega) (by omega) (by omega)
 have hlw:∀ (k:Nat) (h:k<opL.length),(opL[k]'h).size=1:=by decide
 have hlk:=hlw k8 hlt2
 refine⟨.mk 18 0 (opL[k8]'hlt2) [f,g],i3,.bin _ _ _ _ (List.getElem_mem _) hf hg,by omega,by unfold bI;omega,fun κ ka kb=>by have p0:=p0 κ;have p1:=p1 κ;have pe2:=pe2 κ;have w1:=w1 κ ka kb;have w2:=w2 κ ka kb;rw[jiG];omega,?_⟩;clear hlw hlk
 have hr:=cM jX opL k8 hlt2
 generalize opL[k8]'hlt2=s at *
 rcases (by omega:n=8 ∨ n=9 ∨ n=10 ∨ n=11) with rfl | rfl | rfl | rfl
 all_goals
  refine gw ?_;refine eN sQ (fun _=>[0]) 1 Tryz.func113 rfl ?_;intro hok;conv=>whnf
  refine jS 0 [] hp ?_;rintro o r ⟨ho,rfl⟩;cases ho;conv=>whnf
  by_cases hz0:z<=0
  all_goals
   first
   | (rw[if_pos hz0] at hn;rw[jK hz0];(conv=>whnf);refine⟨by decide,?_⟩;rw[Int.tmod_eq_emod_of_nonneg (by omega),show (n0:Int) % 6=((n0 % 6:Nat):Int) by omega,hn])
   | (rw[if_neg hz0] at hn;rw[jG hz0];(conv=>whnf);rw[hn])
   conv=>whnf
  ·exact absurd hz0 (by omega)
  refine jS 0 [] hp2 ?_;rintro o r ⟨ho,rfl⟩;cases ho;conv=>whnf
  refine⟨⟨by omega,by omega⟩,?_⟩;conv=>whnf
  generalize hrq:List.drop (Int.toNat (k8:Int)*_) _=rq
  obtain rfl:rq=_ :: _:=hrq.symm.trans hr
  clear hrq;conv=>whnf
  refine⟨jJ (by omega),?_⟩;conv=>whnf
  refine jS 0 [] hs ?_;rintro o r ⟨ho,rfl⟩;cases ho;conv=>whnf
  refine⟨jJ (by omega),?_⟩;conv=>whnf
  refine jS 0 [] hs2 ?_;rintro o r ⟨ho,rfl⟩;cases ho;conv=>whnf
  exact⟨rfl,_,rfl,by rw[yW];exact qL _⟩
theorem f0 (l:List Int):∀ d,jpK l d
 | 0=>jsb l 0 fun e h=>by omega
 | d+1=>jsb l (d+1) fun e h=>by
  obtain rfl:d=e:=by omega
  exact f0 l d
def bolL:List ByteArray:=[vI,pOr]
inductive EB:Nat->Nt->Prop
 | lit (d n:Nat) (h:n<2):EB d (.mk 13 n eB [])
 | nt (d:Nat) (f:Nt) (h:EB d f):EB (d+1) (.mk 17 0 pNot [f])
 | bin (d:Nat) (s:ByteArray) (f g:Nt) (hs:s ∈ bolL) (h1:EB d f) (h2:EB d g):EB (d+1) (.mk 18 0 s [f,g])
 | cmp (d:Nat) (s:ByteArray) (f g:Nt) (hs:s ∈ cmpL) (h1:EI (d-1) f) (h2:EI (d-1) g):EB d (.mk 18 0 s [f,g])
def bB:Nat->Nat
 | 0=>6
 | d+1=>2+2*bB d+2*bI d
theorem jrY:∀ d,2+2*bI (d-1)<=bB d
 | 0=>by decide
 | d+1=>by unfold bB;rw[Nat.add_sub_cancel];omega
def jpJ (l:List Int) (d:Nat):Prop:=l.length<=70 -> ∀ (i:Nat) (z:Int),z.toNat=d -> -3<=z->z<=10->i+bB d<=1000000000 -> ∃ f i',EB d f/\i<=i'/\i'<=i+bB d/\(∀ κ,1<=κ->κ<=7->wN κ f+phA κ i<=5+κ+phA κ i')/\Spec Tryz.prog 114 [bxG l i] [.box 0 0,.v (.int .i64 z)] fun o r=>o=[bxG l i']/\r = .agg (ntA f)
theorem jpr (l:List Int) (d:Nat) (ih:∀ e,d=e+1->jpJ l e):jpJ l d:=fun hl i z hz h1 h2 hi=>by
 have hge:=jrY d
 have hge2:=jpl (d-1)
 have hp:=vD l i 8 (by omega) (by decide)
 have hlt:=vJ l i (m:=8) (by decide)
 have ho:=oU l i 8 hl
 have p0:=fun κ=>oT κ i
 have p1:=fun κ=>oT κ (i+1)
 have pe2:∀ κ,phA κ (i+2)=phA κ (i+1+1):=fun _=>rfl
 generalize pk l i 8=n0 at *
 obtain⟨n,hn⟩ : ∃ n,(if z<=0 then n0 % 4 else n0)=n:=⟨_,rfl⟩
 have hn12:n<8:=by split at hn <;> omega
 have hn6:z<=0->n<4:=fun h=>by rw[if_pos h] at hn;omega
 have hlo:n ≠ 0->i<70:=fun h=>by
  by_cases h70:70<=i
  ·have:=ho h70
   split at hn <;> omega
  ·omega
 by_cases hA:n=0
 ·have hp2:=vD l (i+1) 2 (by omega) (by decide)
  have hlt2:=vJ l (i+1) (m:=2) (by decide)
  generalize pk l (i+1) 2=k8 at *;refine⟨.mk 13 k8 eB [],i+2,.lit _ _ hlt2,by omega,by omega,fun κ ka kb=>by have p0:=p0 κ;have p1:=p1 κ;have pe2:=pe2 κ;rw[jp9];omega,?_⟩;subst hA;refine gw ?_;refine eN jes (fun _=>[0]) 1 Tryz.func114 rfl ?_;intro hok;conv=>whnf
  refine jS 0 [] hp ?_;rintro o r ⟨ho,rfl⟩;cases ho;conv=>whnf
  by_cases hz0:z<=0
  all_goals
   first
   | (rw[if_pos hz0] at hn;rw[jK hz0];(conv=>whnf);refine⟨by decide,?_⟩;rw[Int.tmod_eq_emod_of_nonneg (by omega),show (n0:Int) % 4=((n0 % 4:Nat):Int) by omega,hn])
   | (rw[if_neg hz0] at hn;rw[jG hz0];(conv=>whnf);rw[hn])
   conv=>whnf
  all_goals
   refine jS 0 [] hp2 ?_;rintro o r ⟨ho,rfl⟩;cases ho;conv=>whnf
   exact⟨rfl,_,rfl,j8 (f := .mk 13 k8 eB []) rfl⟩
 by_cases hB:n<=4
 ·have hp2:=vD l (i+1) 6 (by omega) (by decide)
  have hlt2:=vJ l (i+1) (m:=6) (by decide)
  generalize pk l (i+1) 6=k8 at *
  obtain⟨f,i2,hf,g1,g2,w1,hs⟩ := f0 l (d-1) hl (i+1+1) (z-1) (by omega) (by omega) (by omega) (by omega)
  obtain⟨g,i3,hg,g3,g4,w2,hs2⟩ := f0 l (d-1) hl i2 (z-1) (by omega) (by omega) (by omega) (by omega)
  have hlw:∀ (k:Nat) (h:k<cmpL.length),(cmpL[k]'h).size<=2:=by decide
  have hlk:=hlw k8 hlt2
  refine⟨.mk 18 0 (cmpL[k8]'hlt2) [f,g],i3,.cmp _ _ _ _ (List.getElem_mem _) hf hg,by omega,by omega,fun κ ka kb=>by have p0:=p0 κ;have p1:=p1 κ;have pe2:=pe2 κ;have w1:=w1 κ ka kb;have w2:=w2 κ ka kb;rw[jiG];omega,?_⟩;clear hlw hlk
  have hr:=cM jX cmpL k8 hlt2
  generalize cmpL[k8]'hlt2=s at *
  rcases (by omega:n=1 ∨ n=2 ∨ n=3 ∨ n=4) with rfl | rfl | rfl | rfl
  all_goals
   refine gw ?_;refine eN jes (fun _=>[0]) 1 Tryz.func114 rfl ?_;intro hok;conv=>whnf
   refine jS 0 [] hp ?_;rintro o r ⟨ho,rfl⟩;cases ho;conv=>whnf
   by_cases hz0:z<=0
   all_goals
    first
    | (rw[if_pos hz0] at hn;rw[jK hz0];(conv=>whnf);refine⟨by decide,?_⟩;rw[Int.tmod_eq_emod_of_nonneg (by omega),show (n0:Int) % 4=((n0 % 4:Nat):Int) by omega,hn])
    | (rw[if_neg hz0] at hn;rw[jG hz0];(conv=>whnf);rw[hn])
    conv=>whnf
   all_goals
    refine jS 0 [] hp2 ?_;rintro o r ⟨ho,rfl⟩;cases ho;conv=>whnf
    refine⟨⟨by omega,by omega⟩,?_⟩;conv=>whnf
    generalize hrq:List.drop (Int.toNat (k8:Int)*_) _=rq
    obtain rfl:rq=_ :: _:=hrq.symm.trans hr
    clear hrq;conv=>whnf
    refine⟨jJ (by omega),?_⟩;conv=>whnf
    refine jS 0 [] hs ?_;rintro o r ⟨ho,rfl⟩;cases ho;conv=>whnf
    refine⟨jJ (by omega),?_⟩;conv=>whnf
    refine jS 0 [] hs2 ?_;rintro o r ⟨ho,rfl⟩;cases ho;conv=>whnf
    exact⟨rfl,_,rfl,by rw[yW];exact qL _⟩
 have hzp:0<z:=by
  by_cases h:0<z
  ·exact h
  ·have:=hn6 (by omega);omega
 obtain⟨e,rfl⟩ : ∃ e,d=e+1:=⟨d-1,by omega⟩
 have ihe:=ih e rfl
 unfold bB at hi
 by_cases hD:n=5
 ·obtain⟨f,i2,hf,g1,g2,w1,hs⟩ := ihe hl (i+1) (z-1) (by omega) (by omega) (by omega) (by omega)
  subst hD
  have hsz:pNot.size=1:=rfl
  refine⟨.mk 17 0 pNot [f],i2,.nt _ _ hf,by omega,by unfold bB;omega,fun κ ka kb=>by have p0:=p0 κ;have p1:=p1 κ;have pe2:=pe2 κ;have w1:=w1 κ ka kb;rw[jnD];omega,?_⟩;refine gw ?_;refine eN jes (fun _=>[0]) 1 Tryz.func114 rfl ?_;intro hok;conv=>whnf
  refine jS 0 [] hp ?_;rintro o r ⟨ho,rfl⟩;cases ho;conv=>whnf
  by_cases hz0:z<=0
  all_goals
   first
   | (rw[if_pos hz0] at hn;rw[jK hz0];(conv=>whnf);refine⟨by decide,?_⟩;rw[Int.tmod_eq_emod_of_nonneg (by omega),show (n0:Int) % 4=((n0 % 4:Nat):Int) by omega,hn])
   | (rw[if_neg hz0] at hn;rw[jG hz0];(conv=>whnf);rw[hn])
   conv=>whnf
  ·exact absurd hz0 (by omega)
  refine⟨jJ (by omega),?_⟩;conv=>whnf
  refine jS 0 [] hs ?_;rintro o r ⟨ho,rfl⟩;cases ho;conv=>whnf
  exact⟨rfl,_,rfl,by rw[kZ];exact qL _⟩
 have hp2:=vD l (i+1) 2 (by omega) (by decide)
 have hlt2:=vJ l (i+1) (m:=2) (by decide)
 generalize pk l (i+1) 2=k8 at *
 obtain⟨f,i2,hf,g1,g2,w1,hs⟩ := ihe hl (i+1+1) (z-1) (by omega) (by omega) (by omega) (by omega)
 obtain⟨g,i3,hg,g3,g4,w2,hs2⟩ := ihe hl i2 (z-1) (by omega) (by omega) (by omega) (by omega)
 have hlw:∀ (k:Nat) (h:k<bolL.length),(bolL[k]'h).size=2:=by decide
 have hlk:=hlw k8 hlt2
 refine⟨.mk 18 0 (bolL[k8]'hlt2) [f,g],i3,.bin _ _ _ _ (List.getElem_mem _) hf hg,by omega,by unfold bB;omega,fun κ ka kb=>by have p0:=p0 κ;have p1:=p1 κ;have pe2:=pe2 κ;have w1:=w1 κ ka kb;have w2:=w2 κ ka kb;rw[jiG];omega,?_⟩;clear hlw hlk
 have hr:=cM jX bolL k8 hlt2
 generalize bolL[k8]'hlt2=s at *
 rcases (by omega:n=6 ∨ n=7) with rfl | rfl
 all_goals
  refine gw ?_;refine eN jes (fun _=>[0]) 1 Tryz.func114 rfl ?_;intro hok;conv=>whnf
  refine jS 0 [] hp ?_;rintro o r ⟨ho,rfl⟩;cases ho;conv=>whnf
  by_cases hz0:z<=0
  all_goals
   first
   | (rw[if_pos hz0] at hn;rw[jK hz0];(conv=>whnf);refine⟨by decide,?_⟩;rw[Int.tmod_eq_emod_of_nonneg (by omega),show (n0:Int) % 4=((n0 % 4:Nat):Int) by omega,hn])
   | (rw[if_neg hz0] at hn;rw[jG hz0];(conv=>whnf);rw[hn])
   conv=>whnf
  ·exact absurd hz0 (by omega)
  refine jS 0 [] hp2 ?_;rintro o r ⟨ho,rfl⟩;cases ho;conv=>whnf
  refine⟨⟨by omega,by omega⟩,?_⟩;conv=>whnf
  generalize hrq:List.drop (Int.toNat (k8:Int)*_) _=rq
  obtain rfl:rq=_ :: _:=hrq.symm.trans hr
  clear hrq;conv=>whnf
  refine⟨jJ (by omega),?_⟩;conv=>whnf
  refine jS 0 [] hs ?_;rintro o r ⟨ho,rfl⟩;cases ho;conv=>whnf
  refine⟨jJ (by omega),?_⟩;conv=>whnf
  refine jS 0 [] hs2 ?_;rintro o r ⟨ho,rfl⟩;cases ho;conv=>whnf
  exact⟨rfl,_,rfl,by rw[yW];exact qL _⟩
theorem jhI (l:List Int):∀ d,jpJ l d
 | 0=>jpr l 0 fun e h=>by omega
 | d+1=>jpr l (d+1) fun e h=>by
  obtain rfl:d=e:=by omega
  exact jhI l d
inductive ES:Nat->Nt->Prop
 | asg (d e:Nat) (s:ByteArray) (f:Nt) (hs:s ∈ varL) (h:EI e f) (he:e<=2):ES d (.mk 1 0 s [f])
 | snd (d n:Nat) (f g h:Nt) (hn:n<4) (h1:EI 0 f) (h2:EI 1 g) (h3:EI 1 h):ES d (.mk 4 n eB [f,g,h])
 | tim (d n:Nat) (hn:n<3):ES d (.mk 5 n eB [])
 | can (d n:Nat) (hn:n<3):ES d (.mk 6 n eB [])
 | syn (d:Nat):ES d (.mk 7 0 eB [])
 | rep (d:Nat) (f g:Nt) (h1:EI 0 f) (h2:EI 1 g):ES d (.mk 8 0 eB [f,g])
 | fai (d:Nat) (f:Nt) (h1:EI 1 f):ES d (.mk 9 0 eB [f])
 | stp (d:Nat):ES d (.mk 10 0 eB [])
 | whi (d:Nat) (c:Nt) (l:List Nt) (h1:EB 1 c) (h2:l.length<=2) (h3:∀ s ∈ l,ES d s):ES (d+1) (.mk 3 0 eB [c,wL l])
 | iff (d:Nat) (c:Nt) (l m:List Nt) (h1:EB 2 c) (h2:l.length<=2) (h3:∀ s ∈ l,ES d s) (h4:m.length<=2) (h5:∀ s ∈ m,ES d s):ES (d+1) (.mk 2 0 eB [c,wL l,wL m])
theorem jop (c:Nat) {n:Nat} (h:n<=2):(n=0/\c*n=0) ∨ (n=1/\c*n=c) ∨ (n=2/\c*n=2*c):=by
 rcases (by omega:n=0 ∨ n=1 ∨ n=2) with rfl | rfl | rfl <;> omega
def bS:Nat->Nat
 | 0=>60
 | d+1=>62+4*bS d
theorem jrZ:∀ d,60<=bS d
 | 0=>Nat.le_refl _
 | d+1=>by unfold bS;omega
def jl3 (l:List Int) (d:Nat):Prop:=l.length<=70 -> ∀ (i:Nat) (z:Int),z.toNat=d->0<=z->z<=5->i+bS d<=1000000000 -> ∃ f i',ES d f/\i<=i'/\i'<=i+bS d/\(∀ κ,1<=κ->κ<=7->wS κ f+rV κ i<=4+4*κ+rV κ i')/\Spec Tryz.prog 75 [bxG l i] [.box 0 0,.v (.int .i64 z)] fun o r=>o=[bxG l i']/\r = .agg (ntA f)
def jpL (l:List Int) (d:Nat):Prop:=l.length<=70 -> ∀ (i m:Nat) (z:Int),z.toNat=d->0<=z->z<=5->m<=3->i+(1+m*bS d)<=1000000000 -> ∃ k i',k.length<=m/\(∀ s ∈ k,ES d s)/\i<=i'/\i'<=i+(1+m*bS d)/\((∀ κ,1<=κ->κ<=7->wSs κ k+rV κ (i+1)<=(4+4*κ)*k.length+rV κ i')/\(70<=i->k.length=0))/\Spec Tryz.prog 38 [bxG l i] [.box 0 0,.v (.int .i64 z),.v (.int .i64 m)] fun o r=>o=[bxG l i']/\r = .agg (ntA (wL k))
theorem jqC (l:List Int) (d:Nat) (ih:∀ e,d=e+1->jpL l e):jl3 l d:=fun hl i z hz h1 h2 hi=>by
 have hge:=jrZ d
 have b0:bI 0=2:=rfl
 have b1:bI 1=6:=rfl
 have b2:bI 2=14:=rfl
 have c1:bB 1=18:=rfl
 have c2:bB 2=50:=rfl
 have hp:=vD l i 14 (by omega) (by decide)
 have hlt:=vJ l i (m:=14) (by decide)
 have ho:=oU l i 14 hl
 have p0:=fun κ=>gA κ i
 have p1:=fun κ=>gA κ (i+1)
 have pe2:∀ κ,rV κ (i+2)=rV κ (i+1+1):=fun _=>rfl
 have p2:=fun κ=>gA κ (i+1+1)
 generalize pk l i 14=n0 at *
 obtain⟨n,hn⟩ : ∃ n,(if z<=0 then n0 % 11 else n0)=n:=⟨_,rfl⟩
 have hn12:n<14:=by split at hn <;> omega
 have hn6:z<=0->n<11:=fun h=>by rw[if_pos h] at hn;omega
 have hlo:n ≠ 0->i<70:=fun h=>by
  by_cases h70:70<=i
  ·have:=ho h70
   split at hn <;> omega
  ·omega
 by_cases hA:n<=2
 ·obtain⟨s,hs1,⟨hz3,hz1⟩,hp2⟩ := jqD l (i+1) (by omega)
  have hz1:=hz1 hl
  obtain⟨f,i2,hf,g1,g2,w1,hs⟩ := f0 l 2 hl (i+1+1) 2 (by omega) (by omega) (by omega) (by omega)
  have w1:=fun κ ka kb=>eD (by omega) (w1 κ ka kb)
  refine⟨.mk 1 0 s [f],i2,.asg _ _ _ _ hs1 hf (Nat.le_refl _),by omega,by omega,fun κ ka kb=>by have p0:=p0 κ;have p1:=p1 κ;have pe2:=pe2 κ;have p2:=p2 κ;have w1:=w1 κ ka kb;rw[jnE];omega,?_⟩
  rcases (by omega:n=0 ∨ n=1 ∨ n=2) with rfl | rfl | rfl
  all_goals
   refine gw ?_;refine eN fF (fun _=>[0]) 1 Tryz.func75 rfl ?_;intro hok;conv=>whnf
   refine jS 0 [] hp ?_;rintro o r ⟨ho,rfl⟩;cases ho;conv=>whnf
   by_cases hz0:z<=0
   all_goals
    first
    | (rw[if_pos hz0] at hn;rw[jK hz0];(conv=>whnf);refine⟨by decide,?_⟩;rw[Int.tmod_eq_emod_of_nonneg (by omega),show (n0:Int) % 11=((n0 % 11:Nat):Int) by omega,hn])
    | (rw[if_neg hz0] at hn;rw[jG hz0];(conv=>whnf);rw[hn])
    conv=>whnf
   all_goals
    refine jS 0 [] hp2 ?_;rintro o r ⟨ho,rfl⟩;cases ho;conv=>whnf
    refine jS 0 [] hs ?_;rintro o r ⟨ho,rfl⟩;cases ho;conv=>whnf
    exact⟨rfl,_,rfl,by rw[kZ];exact qL _⟩
 by_cases hB:n<=4
 ·obtain⟨f,i2,hf,g1,g2,w1,hs1⟩ := f0 l 0 hl (i+1) 0 (by omega) (by omega) (by omega) (by omega)
  have hp2:=vD l i2 4 (by omega) (by decide)
  have hlt2:=vJ l i2 (m:=4) (by decide)
  generalize pk l i2 4=k8 at *
  have p3:=fun κ=>oT κ i2
  have q0:=fun κ=>oT κ i
  have qi:=fun κ=>jdd κ i
  obtain⟨g,i3,hg,g3,g4,w2,hs2⟩ := f0 l 1 hl (i2+1) 1 (by omega) (by omega) (by omega) (by omega)
  obtain⟨h,i4,hh,g5,g6,w3,hs3⟩ := f0 l 1 hl i3 1 (by omega) (by omega) (by omega) (by omega)
  refine⟨.mk 4 k8 eB [f,g,h],i4,.snd _ _ _ _ _ hlt2 hf hg hh,by omega,by omega,fun κ ka kb=>by have qj:=jdd κ i4;have p3:=p3 κ;have q0:=q0 κ;have qi:=qi κ;have w1:=w1 κ ka kb;have w2:=w2 κ ka kb;have w3:=w3 κ ka kb;rw[jrE];omega,?_⟩
  rcases (by omega:n=3 ∨ n=4) with rfl | rfl
  all_goals
   refine gw ?_;refine eN fF (fun _=>[0]) 1 Tryz.func75 rfl ?_;intro hok;conv=>whnf
   refine jS 0 [] hp ?_;rintro o r ⟨ho,rfl⟩;cases ho;conv=>whnf
   by_cases hz0:z<=0
   all_goals
    first
    | (rw[if_pos hz0] at hn;rw[jK hz0];(conv=>whnf);refine⟨by decide,?_⟩;rw[Int.tmod_eq_emod_of_nonneg (by omega),show (n0:Int) % 11=((n0 % 11:Nat):Int) by omega,hn])
    | (rw[if_neg hz0] at hn;rw[jG hz0];(conv=>whnf);rw[hn])
    conv=>whnf
   all_goals
    refine jS 0 [] hs1 ?_;rintro o r ⟨ho,rfl⟩;cases ho;conv=>whnf
    refine jS 0 [] hp2 ?_;rintro o r ⟨ho,rfl⟩;cases ho;conv=>whnf
    refine jS 0 [] hs2 ?_;rintro o r ⟨ho,rfl⟩;cases ho;conv=>whnf
    refine jS 0 [] hs3 ?_;rintro o r ⟨ho,rfl⟩;cases ho;conv=>whnf
    exact⟨rfl,_,rfl,by rw[yV];exact qL _⟩
 by_cases hC:n<=6
 ·have hp2:=vD l (i+1) 3 (by omega) (by decide)
  have hlt2:=vJ l (i+1) (m:=3) (by decide)
  generalize pk l (i+1) 3=k8 at *
  rcases (by omega:n=5 ∨ n=6) with rfl | rfl
  ·refine⟨.mk 5 k8 eB [],i+2,.tim _ _ hlt2,by omega,by omega,fun κ ka kb=>by have p0:=p0 κ;have p1:=p1 κ;have pe2:=pe2 κ;have p2:=p2 κ;rw[jrH];omega,?_⟩;refine gw ?_;refine eN fF (fun _=>[0]) 1 Tryz.func75 rfl ?_;intro hok;conv=>whnf
   refine jS 0 [] hp ?_;rintro o r ⟨ho,rfl⟩;cases ho;conv=>whnf
   by_cases hz0:z<=0
   all_goals
    first
    | (rw[if_pos hz0] at hn;rw[jK hz0];(conv=>whnf);refine⟨by decide,?_⟩;rw[Int.tmod_eq_emod_of_nonneg (by omega),show (n0:Int) % 11=((n0 % 11:Nat):Int) by omega,hn])
    | (rw[if_neg hz0] at hn;rw[jG hz0];(conv=>whnf);rw[hn])
    conv=>whnf
   all_goals
    refine jS 0 [] hp2 ?_;rintro o r ⟨ho,rfl⟩;cases ho;conv=>whnf
    exact⟨rfl,_,rfl,j8 (f := .mk 5 k8 eB []) rfl⟩
  ·refine⟨.mk 6 k8 eB [],i+2,.can _ _ hlt2,by omega,by omega,fun κ ka kb=>by have p0:=p0 κ;have p1:=p1 κ;have pe2:=pe2 κ;have p2:=p2 κ;rw[jrA];omega,?_⟩;refine gw ?_;refine eN fF (fun _=>[0]) 1 Tryz.func75 rfl ?_;intro hok;conv=>whnf
   refine jS 0 [] hp ?_;rintro o r ⟨ho,rfl⟩;cases ho;conv=>whnf
   by_cases hz0:z<=0
   all_goals
    first
    | (rw[if_pos hz0] at hn;rw[jK hz0];(conv=>whnf);refine⟨by decide,?_⟩;rw[Int.tmod_eq_emod_of_nonneg (by omega),show (n0:Int) % 11=((n0 % 11:Nat):Int) by omega,hn])
    | (rw[if_neg hz0] at hn;rw[jG hz0];(conv=>whnf);rw[hn])
    conv=>whnf
   all_goals
    refine jS 0 [] hp2 ?_;rintro o r ⟨ho,rfl⟩;cases ho;conv=>whnf
    exact⟨rfl,_,rfl,j8 (f := .mk 6 k8 eB []) rfl⟩
 by_cases hD:n=7
 ·subst hD;refine⟨.mk 7 0 eB [],i+1,.syn _,by omega,by omega,fun κ ka kb=>by have p0:=p0 κ;have p1:=p1 κ;have pe2:=pe2 κ;have p2:=p2 κ;rw[jrG];omega,?_⟩;refine gw ?_;refine eN fF (fun _=>[0]) 1 Tryz.func75 rfl ?_;intro hok;conv=>whnf
  refine jS 0 [] hp ?_;rintro o r ⟨ho,rfl⟩;cases ho;conv=>whnf
  by_cases hz0:z<=0
  all_goals
   first
   | (rw[if_pos hz0] at hn;rw[jK hz0];(conv=>whnf);refine⟨by decide,?_⟩;rw[Int.tmod_eq_emod_of_nonneg (by omega),show (n0:Int) % 11=((n0 % 11:Nat):Int) by omega,hn])
   | (rw[if_neg hz0] at hn;rw[jG hz0];(conv=>whnf);rw[hn])
   conv=>whnf
  all_goals
   exact⟨rfl,_,rfl,j8 (f := .mk 7 0 eB []) rfl⟩
 by_cases hE:n=8
 ·subst hE
  obtain⟨f,i2,hf,g1,g2,w1,hs1⟩ := f0 l 0 hl (i+1) 0 (by omega) (by omega) (by omega) (by omega)
  have w1:=fun κ ka kb=>eD (by omega) (w1 κ ka kb)
  obtain⟨g,i3,hg,g3,g4,w2,hs2⟩ := f0 l 1 hl i2 1 (by omega) (by omega) (by omega) (by omega)
  have w2:=fun κ ka kb=>eD (by omega) (w2 κ ka kb)
  refine⟨.mk 8 0 eB [f,g],i3,.rep _ _ _ hf hg,by omega,by omega,fun κ ka kb=>by have p0:=p0 κ;have p1:=p1 κ;have pe2:=pe2 κ;have p2:=p2 κ;have w1:=w1 κ ka kb;have w2:=w2 κ ka kb;rw[jrD];omega,?_⟩;refine gw ?_;refine eN fF (fun _=>[0]) 1 Tryz.func75 rfl ?_;intro hok;conv=>whnf
  refine jS 0 [] hp ?_;rintro o r ⟨ho,rfl⟩;cases ho;conv=>whnf
  by_cases hz0:z<=0
  all_goals
   first
   | (rw[if_pos hz0] at hn;rw[jK hz0];(conv=>whnf);refine⟨by decide,?_⟩;rw[Int.tmod_eq_emod_of_nonneg (by omega),show (n0:Int) % 11=((n0 % 11:Nat):Int) by omega,hn])
   | (rw[if_neg hz0] at hn;rw[jG hz0];(conv=>whnf);rw[hn])
   conv=>whnf
  all_goals
   refine jS 0 [] hs1 ?_;rintro o r ⟨ho,rfl⟩;cases ho;conv=>whnf
   refine jS 0 [] hs2 ?_;rintro o r ⟨ho,rfl⟩;cases ho;conv=>whnf
   exact⟨rfl,_,rfl,by rw[yW];exact qL _⟩
 by_cases hF:n=9
 ·subst hF
  obtain⟨f,i2,hf,g1,g2,w1,hs1⟩ := f0 l 1 hl (i+1) 1 (by omega) (by omega) (by omega) (by omega)
  have w1:=fun κ ka kb=>eD (by omega) (w1 κ ka kb)
  refine⟨.mk 9 0 eB [f],i2,.fai _ _ hf,by omega,by omega,fun κ ka kb=>by have p0:=p0 κ;have p1:=p1 κ;have pe2:=pe2 κ;have p2:=p2 κ;have w1:=w1 κ ka kb;rw[jrB];omega,?_⟩;refine gw ?_;refine eN fF (fun _=>[0]) 1 Tryz.func75 rfl ?_;intro hok;conv=>whnf
  refine jS 0 [] hp ?_;rintro o r ⟨ho,rfl⟩;cases ho;conv=>whnf
  by_cases hz0:z<=0
  all_goals
   first
   | (rw[if_pos hz0] at hn;rw[jK hz0];(conv=>whnf);refine⟨by decide,?_⟩;rw[Int.tmod_eq_emod_of_nonneg (by omega),show (n0:Int) % 11=((n0 % 11:Nat):Int) by omega,hn])
   | (rw[if_neg hz0] at hn;rw[jG hz0];(conv=>whnf);rw[hn])
   conv=>whnf
  all_goals
   refine jS 0 [] hs1 ?_;rintro o r ⟨ho,rfl⟩;cases ho;conv=>whnf
   exact⟨rfl,_,rfl,by rw[kZ];exact qL _⟩
 by_cases hG:n=10
 ·subst hG
  have hp2:=vD l (i+1) 3 (by omega) (by decide)
  have hlt2:=vJ l (i+1) (m:=3) (by decide)
  generalize pk l (i+1) 3=k8 at *
  by_cases hk:0<k8
  ·obtain⟨s,hs1,⟨hz3,_⟩,hp3⟩ := jqD l (i+1+1) (by omega)
   obtain⟨f,i2,hf,g1,g2,w1,hs⟩ := f0 l 1 hl (i+1+1+1) 1 (by omega) (by omega) (by omega) (by omega)
   have w1:=fun κ ka kb=>eD (by omega) (w1 κ ka kb)
   refine⟨.mk 1 0 s [f],i2,.asg _ _ _ _ hs1 hf (by decide),by omega,by omega,fun κ ka kb=>by have p0:=p0 κ;have p1:=p1 κ;have pe2:=pe2 κ;have p2:=p2 κ;have w1:=w1 κ ka kb;rw[jnE];omega,?_⟩;refine gw ?_;refine eN fF (fun _=>[0]) 1 Tryz.func75 rfl ?_;intro hok;conv=>whnf
   refine jS 0 [] hp ?_;rintro o r ⟨ho,rfl⟩;cases ho;conv=>whnf
   by_cases hz0:z<=0
   all_goals
    first
    | (rw[if_pos hz0] at hn;rw[jK hz0];(conv=>whnf);refine⟨by decide,?_⟩;rw[Int.tmod_eq_emod_of_nonneg (by omega),show (n0:Int) % 11=((n0 % 11:Nat):Int) by omega,hn])
    | (rw[if_neg hz0] at hn;rw[jG hz0];(conv=>whnf);rw[hn])
    conv=>whnf
   all_goals
    refine jS 0 [] hp2 ?_;rintro o r ⟨ho,rfl⟩;cases ho;conv=>whnf
    rw[jK (show 0<(k8:Int) by omega)];conv=>whnf
    refine jS 0 [] hp3 ?_;rintro o r ⟨ho,rfl⟩;cases ho;conv=>whnf
    refine jS 0 [] hs ?_;rintro o r ⟨ho,rfl⟩;cases ho;conv=>whnf
    exact⟨rfl,_,rfl,by rw[kZ];exact qL _⟩
  ·refine⟨.mk 10 0 eB [],i+2,.stp _,by omega,by omega,fun κ ka kb=>by have p0:=p0 κ;have p1:=p1 κ;have pe2:=pe2 κ;have p2:=p2 κ;rw[jrF];omega,?_⟩;refine gw ?_;refine eN fF (fun _=>[0]) 1 Tryz.func75 rfl ?_;intro hok;conv=>whnf
   refine jS 0 [] hp ?_;rintro o r ⟨ho,rfl⟩;cases ho;conv=>whnf
   by_cases hz0:z<=0
   all_goals
    first
    | (rw[if_pos hz0] at hn;rw[jK hz0];(conv=>whnf);refine⟨by decide,?_⟩;rw[Int.tmod_eq_emod_of_nonneg (by omega),show (n0:Int) % 11=((n0 % 11:Nat):Int) by omega,hn])
    | (rw[if_neg hz0] at hn;rw[jG hz0];(conv=>whnf);rw[hn])
    conv=>whnf
   all_goals
    refine jS 0 [] hp2 ?_;rintro o r ⟨ho,rfl⟩;cases ho;conv=>whnf
    rw[jG (show ¬ 0<(k8:Int) by omega)];conv=>whnf
    exact⟨rfl,_,rfl,j8 (f := .mk 10 0 eB []) rfl⟩
 have hzp:0<z:=by
  by_cases h:0<z
  ·exact h
  ·have:=hn6 (by omega);omega
 obtain⟨e,rfl⟩ : ∃ e,d=e+1:=⟨d-1,by omega⟩
 have ihe:=ih e rfl
 unfold bS at hi
 by_cases hH:n=11
 ·subst hH
  obtain⟨f,i2,hf,g1,g2,w1,hs1⟩ := jhI l 1 hl (i+1) 1 (by omega) (by omega) (by omega) (by omega)
  have w1:=fun κ ka kb=>eD (by omega) (w1 κ ka kb)
  have p3:=fun κ=>gA κ i2
  obtain⟨k,i3,q1,q2,g3,g4,⟨w2,w3⟩,hs2⟩ := ihe hl i2 2 (z-1) (by omega) (by omega) (by omega) (by omega) (by omega)
  refine⟨.mk 3 0 eB [f,wL k],i3,.whi _ _ _ hf q1 q2,by omega,by unfold bS;omega,fun κ ka kb=>by have p0:=p0 κ;have p1:=p1 κ;have pe2:=pe2 κ;have p2:=p2 κ;have w1:=w1 κ ka kb;have w2:=w2 κ ka kb;have p3:=p3 κ;have hm2:=jop (4+4*κ) q1;rw[jrI,jeS];omega,?_⟩;refine gw ?_;refine eN fF (fun _=>[0]) 1 Tryz.func75 rfl ?_;intro hok;conv=>whnf
  refine jS 0 [] hp ?_;rintro o r ⟨ho,rfl⟩;cases ho;conv=>whnf
  by_cases hz0:z<=0
  all_goals
   first
   | (rw[if_pos hz0] at hn;rw[jK hz0];(conv=>whnf);refine⟨by decide,?_⟩;rw[Int.tmod_eq_emod_of_nonneg (by omega),show (n0:Int) % 11=((n0 % 11:Nat):Int) by omega,hn])
   | (rw[if_neg hz0] at hn;rw[jG hz0];(conv=>whnf);rw[hn])
   conv=>whnf
  ·exact absurd hz0 (by omega)
  refine jS 0 [] hs1 ?_;rintro o r ⟨ho,rfl⟩;cases ho;conv=>whnf
  refine⟨jJ (by omega),?_⟩;conv=>whnf
  refine jS 0 [] hs2 ?_;rintro o r ⟨ho,rfl⟩;cases ho;conv=>whnf
  exact⟨rfl,_,rfl,by rw[yW];exact qL _⟩
 obtain⟨f,i2,hf,g1,g2,w1,hs1⟩ := jhI l 2 hl (i+1) 2 (by omega) (by omega) (by omega) (by omega)
 have w1:=fun κ ka kb=>eD (by omega) (w1 κ ka kb)
 have p3:=fun κ=>gA κ i2
 obtain⟨k,i3,q1,q2,g3,g4,⟨w2,w3⟩,hs2⟩ := ihe hl i2 2 (z-1) (by omega) (by omega) (by omega) (by omega) (by omega)
 have hp2:=vD l i3 2 (by omega) (by decide)
 have hlt2:=vJ l i3 (m:=2) (by decide)
 generalize pk l i3 2=k8 at *
 by_cases hk:k8=1
 ·have p4:=fun κ=>gA κ i3
  have p5:=fun κ=>gA κ (i3+1)
  obtain⟨m,i4,q3,q4,g5,g6,⟨w4,w5⟩,hs3⟩ := ihe hl (i3+1) 2 (z-1) (by omega) (by omega) (by omega) (by omega) (by omega)
  refine⟨.mk 2 0 eB [f,wL k,wL m],i4,.iff _ _ _ _ hf q1 q2 q3 q4,by omega,by unfold bS;omega,fun κ ka kb=>by have p0:=p0 κ;have p1:=p1 κ;have pe2:=pe2 κ;have p2:=p2 κ;have p3:=p3 κ;have p4:=p4 κ;have p5:=p5 κ;have w1:=w1 κ ka kb;have w2:=w2 κ ka kb;have w4:=w4 κ ka kb;have hif:=jnF κ f k m;have hm2:=jop (4+4*κ) q1;have hm3:=jop (4+4*κ) q3;omega,?_⟩
  rcases (by omega:n=12 ∨ n=13) with rfl | rfl
  all_goals
   refine gw ?_;refine eN fF (fun _=>[0]) 1 Tryz.func75 rfl ?_;intro hok;conv=>whnf
   refine jS 0 [] hp ?_;rintro o r ⟨ho,rfl⟩;cases ho;conv=>whnf
   by_cases hz0:z<=0
   all_goals
    first
    | (rw[if_pos hz0] at hn;rw[jK hz0];(conv=>whnf);refine⟨by decide,?_⟩;rw[Int.tmod_eq_emod_of_nonneg (by omega),show (n0:Int) % 11=((n0 % 11:Nat):Int) by omega,hn])
    | (rw[if_neg hz0] at hn;rw[jG hz0];(conv=>whnf);rw[hn])
    conv=>whnf
   ·exact absurd hz0 (by omega)
   refine jS 0 [] hs1 ?_;rintro o r ⟨ho,rfl⟩;cases ho;conv=>whnf
   refine⟨jJ (by omega),?_⟩;conv=>whnf
   refine jS 0 [] hs2 ?_;rintro o r ⟨ho,rfl⟩;cases ho;conv=>whnf
   refine jS 0 [] hp2 ?_;rintro o r ⟨ho,rfl⟩;cases ho;conv=>whnf
   rw[jK (show (k8:Int)=1 by omega)];conv=>whnf
   refine⟨jJ (by omega),?_⟩;conv=>whnf
   refine jS 0 [] hs3 ?_;rintro o r ⟨ho,rfl⟩;cases ho;conv=>whnf
   exact⟨rfl,_,rfl,by rw[yV];exact qL _⟩
 ·have p4:=fun κ=>gA κ i3
  refine⟨.mk 2 0 eB [f,wL k,wL []],i3+1,.iff _ _ _ _ hf q1 q2 (by decide) (by simp),by omega,by unfold bS;omega,fun κ ka kb=>by have p0:=p0 κ;have p1:=p1 κ;have pe2:=pe2 κ;have p2:=p2 κ;have p3:=p3 κ;have p4:=p4 κ;have w1:=w1 κ ka kb;have w2:=w2 κ ka kb;have hif:=(jnF κ f k []).2 rfl;have hm2:=jop (4+4*κ) q1;omega,?_⟩
  rcases (by omega:n=12 ∨ n=13) with rfl | rfl
  all_goals
   refine gw ?_;refine eN fF (fun _=>[0]) 1 Tryz.func75 rfl ?_;intro hok;conv=>whnf
   refine jS 0 [] hp ?_;rintro o r ⟨ho,rfl⟩;cases ho;conv=>whnf
   by_cases hz0:z<=0
   all_goals
    first
    | (rw[if_pos hz0] at hn;rw[jK hz0];(conv=>whnf);refine⟨by decide,?_⟩;rw[Int.tmod_eq_emod_of_nonneg (by omega),show (n0:Int) % 11=((n0 % 11:Nat):Int) by omega,hn])
    | (rw[if_neg hz0] at hn;rw[jG hz0];(conv=>whnf);rw[hn])
    conv=>whnf
   ·exact absurd hz0 (by omega)
   refine jS 0 [] hs1 ?_;rintro o r ⟨ho,rfl⟩;cases ho;conv=>whnf
   refine⟨jJ (by omega),?_⟩;conv=>whnf
   refine jS 0 [] hs2 ?_;rintro o r ⟨ho,rfl⟩;cases ho;conv=>whnf
   refine jS 0 [] hp2 ?_;rintro o r ⟨ho,rfl⟩;cases ho;conv=>whnf
   rw[jG (show ¬ (k8:Int)=1 by omega)];conv=>whnf
   exact⟨rfl,_,rfl,by rw[yV];exact jnK f (wL k)⟩
inductive Chn (l:List Int) (z:Int):Nat->List Nt->Nat->Prop
 | nil (i:Nat):Chn l z i [] i
 | cons (i i1 i2:Nat) (f:Nt) (ss:List Nt) (h:Spec Tryz.prog 75 [bxG l i] [.box 0 0,.v (.int .i64 z)] fun o r=>o=[bxG l i1]/\r = .agg (ntA f)) (k:Chn l z i1 ss i2):Chn l z i (f :: ss) i2
theorem jlx {l:List Int} {d:Nat} (hS:jl3 l d) (hl:l.length<=70) {z:Int} (hz:z.toNat=d) (h1:0<=z) (h2:z<=5):∀ (k i:Nat),i+k*bS d<=1000000000 -> ∃ ss i',ss.length=k/\(∀ s ∈ ss,ES d s)/\i<=i'/\i'<=i+k*bS d/\(∀ κ,1<=κ->κ<=7->wSs κ ss+rV κ i<=(4+4*κ)*k+rV κ i')/\Chn l z i ss i'
 | 0,i,_=>⟨[],i,rfl,by simp,Nat.le_refl _,by omega,fun κ ka kb=>by show 0+rV κ i<=_;omega,.nil i⟩
 | k+1,i,hb=>by
  rw[Nat.succ_mul] at hb
  obtain⟨f,i1,hf,g1,g2,w1,hs⟩ := hS hl i z hz h1 h2 (by omega)
  obtain⟨ss,i2,e1,e2,g3,g4,w2,hc⟩ := jlx hS hl hz h1 h2 k i1 (by omega)
  refine⟨f :: ss,i2,by rw[List.length_cons,e1],fun s hs => ?_,by omega,by rw[Nat.succ_mul];omega,fun κ ka kb=>by have w1:=w1 κ ka kb;have w2:=w2 κ ka kb;rw[wSs,Nat.mul_succ];omega,.cons _ _ _ _ _ hs hc⟩
  rcases List.mem_cons.1 hs with rfl | hs
  ·exact hf
  ·exact e2 s hs
theorem jsa (l:List Int) (d:Nat) (hS:jl3 l d):jpL l d:=fun hl i m z hz h1 h2 hm hi=>by
 have hp:=vD l i (m+1) (by omega) (by omega)
 have hlt:=vJ l i (m:=m+1) (by omega)
 have ho:=oU l i (m+1) hl
 generalize pk l i (m+1)=k at *
 have hkm:k*bS d<=m*bS d:=Nat.mul_le_mul_right _ (by omega)
 obtain⟨ss,i2,e1,e2,g3,g4,w2,hc⟩ := jlx hS hl hz h1 h2 k (i+1) (by omega)
 refine⟨ss,i2,by omega,e2,by omega,by omega,⟨fun κ ka kb=>by rw[e1];exact w2 κ ka kb,by omega⟩,?_⟩;refine eN jsE (fun _=>[0]) 1 Tryz.func38 rfl ?_;intro hok;conv=>whnf
 refine⟨jJ (by omega),?_⟩;conv=>whnf
 refine jS 0 [] hp ?_;rintro o r ⟨ho,rfl⟩;cases ho;conv=>whnf
 refine qS 65 4 [] [(2,3)] ?_;conv=>whnf
 refine⟨trivial,?_⟩;conv=>whnf
 refine jB [0,1,6,7] ?_;conv=>whnf
 refine jH (fun x:List Nt × List Nt × Nat=>[(8,.v (.int .i64 x.2.1.length))]) (fun x=>[bxG l x.2.2,jbY,[intA 11,intA 0,jX ⟨#[]⟩,.own 0]]) (fun x=>[.live 65 4 x.1.length (qX x.1)]) (fun x=>x.1++x.2.1=ss/\Chn l z x.2.2 x.2.1 i2) (fun x=>x.2.1.length) ([],ss,i+1) ?_ ⟨rfl,hc⟩ ?_
 ·rw[<- e1]
  repeat' constructor
  show Row.live _ _ _ _=Row.live _ 4 0 (qX [])
  rw[kR]
 rintro⟨acc,rem,j⟩ ⟨hacc,hch⟩
 simp only at hacc hch
 conv=>whnf
 cases hch with
 | nil =>
  rw[List.append_nil] at hacc;conv=>whnf
  rw[<- hacc];exact⟨rfl,rfl⟩
 | cons _ i1 _ f rem hs hch =>
  have hln:acc.length+(rem.length+1)=ss.length:=by rw[<- hacc,List.length_append,List.length_cons]
  rw[show ((f :: rem).length:Int)=(rem.length:Int)+1 by simp];rw[jK (show 0<(rem.length:Int)+1 by omega)];conv=>whnf
  refine jS 0 [] hs ?_;rintro o r ⟨ho,rfl⟩;cases ho;conv=>whnf
  refine⟨⟨by simp only;unfold maxLen;omega,by simp only;omega⟩,?_⟩;conv=>whnf
  refine⟨jJ (by omega),?_⟩;rw[show (rem.length:Int)+1-1=rem.length by omega];conv=>whnf
  refine⟨(acc++[f],rem,i1),jE [0] ?_,⟨by simp only;rw[List.append_assoc];exact hacc,hch⟩,by simp only[List.length_cons];omega⟩;conv=>whnf
  simp only[List.length_append,List.length_cons,List.length_nil];rw[lP]
  repeat' constructor
theorem jsR (l:List Int) (most:Nat) (hm:most<=1000):Spec Tryz.prog 36 [] [.sl 1 l.length (jV l),.v (.int .i64 most)] fun _ r=>r = .sl 1 (l.take most).length (jV (l.take most)):=by
 refine eN jR j5 0 Tryz.func36 rfl ?_;intro hok
 have e1:(min (l.length:Int) (most:Int)).toNat-Int.toNat 0=(l.take most).length:=by rw[List.length_take];omega
 have e2:List.take ((l.take most).length*1) (List.drop (Int.toNat 0*1) (jV l))=jV (l.take most):=by
  rw[Nat.mul_one,List.length_take];simp only[jV,Int.toNat_zero,Nat.zero_mul,List.drop_zero];rw[<- List.map_take]
  congr 1
  rcases Nat.le_total most l.length with h | h
  ·rw[Nat.min_eq_left h]
  ·rw[Nat.min_eq_right h,List.take_of_length_le h,List.take_of_length_le (Nat.le_refl _)]
 have e3:(l.take most).length<=most:=by rw[List.length_take];omega
 conv=>whnf
 (refine fN ?_;try with_reducible exact trivial)
 rw[e1,e2];generalize l.take most=L at *;refine⟨⟨by unfold maxLen;omega,by omega⟩,?_⟩;conv=>whnf
 rfl
theorem js9 (l:List Int):∀ d,jl3 l d/\jpL l d
 | 0=>⟨jqC l 0 fun e h=>by omega,jsa l 0 (jqC l 0 fun e h=>by omega)⟩
 | d+1=>by
  have h1:jl3 l (d+1):=jqC l (d+1) fun e h=>by
   obtain rfl:d=e:=by omega
   exact (js9 l d).2
  exact⟨h1,jsa l (d+1) h1⟩
def hnG (l:List Int) (j i:Nat):Int:=match j with
 | 0=>0
 | 1=>1
 | 2=>2+pk l (i+1) 8
 | _=>10+pk l (i+1+1) 30
inductive PCh (l:List Int):Nat->Nat->List (Int × Nt)->Prop
 | nil (i:Nat):PCh l 4 i []
 | skip (j i:Nat) (hs:List (Int × Nt)) (hj:j<4) (hi:i<=900000000) (hp:pk l i 5=0) (k:PCh l (j+1) (i+1) hs):PCh l j i hs
 | take (j i i2:Nat) (b:Nt) (hs:List (Int × Nt)) (hj:j<4) (hi:i<=900000000) (hp:0<pk l i 5) (h:Spec Tryz.prog 38 [bxG l (i+1+1+1)] [.box 0 0,.v (.int .i64 2),.v (.int .i64 3)] fun o r=>o=[bxG l i2]/\r = .agg (ntA b)) (k:PCh l (j+1) i2 hs):PCh l j i ((hnG l j i,b) :: hs)
def EK (b:Nt):Prop := ∃ k,b=wL k/\k.length<=3 /\ ∀ s ∈ k,ES 2 s
def loG:Nat->Int
 | 0=>0
 | 1=>1
 | 2=>2
 | 3=>10
 | _=>40
def EHs (j:Nat) (hs:List (Int × Nt)):Prop:=(∀ h ∈ hs,loG j<=h.1/\h.1<40/\EK h.2)/\hs.Pairwise (fun a b=>a.1<b.1)/\hs.length+j<=4
theorem jte (c:Nat) {n:Nat} (h:n<=3):(n=0/\c*n=0) ∨ (n ≠ 0/\c*n<=3*c):=by
 rcases (by omega:n=0 ∨ n=1 ∨ n=2 ∨ n=3) with rfl | rfl | rfl | rfl <;> omega
theorem jic (l:List Int) (hl:l.length<=70):∀ (k j i:Nat),j+k=4->i+k*5000<=800000000 -> ∃ hs,EHs j hs/\(∀ κ,1<=κ->κ<=7->wHs κ hs+rV κ i<=(4*κ+12)*70+6*κ+18)/\PCh l j i hs
 | 0,j,i,hj,hb=>by
  obtain rfl:j=4:=by omega
  exact⟨[],⟨by simp,.nil,by decide⟩,fun κ ka kb=>by have:=(jex κ i).1;show 0+rV κ i<=_;omega,.nil i⟩
 | k+1,j,i,hj,hb=>by
  rw[Nat.succ_mul] at hb
  have hjs:j=0 ∨ j=1 ∨ j=2 ∨ j=3:=by omega
  have hlo:loG j<=loG (j+1):=by rcases hjs with rfl | rfl | rfl | rfl <;> decide
  by_cases hp:pk l i 5=0
  ·obtain⟨hs,⟨e1,e2,e3⟩,w1,hc⟩ := jic l hl k (j+1) (i+1) (by omega) (by omega)
   exact⟨hs,⟨fun h hh=>⟨by have:=(e1 h hh).1;omega,(e1 h hh).2⟩,e2,by omega⟩,fun κ ka kb=>by have:=(gA κ i).1;have w1:=w1 κ ka kb;omega,.skip _ _ _ (by omega) (by omega) hp hc⟩
  ·have hS:bS 2=1270:=rfl
   have ho:=oU l i 5 hl
   obtain⟨b,i2,q1,q2,g1,g2,⟨w2,w3⟩,hs⟩ := (js9 l 2).2 hl (i+1+1+1) 3 2 rfl (by decide) (by decide) (by decide) (by omega)
   obtain⟨hs2,⟨e1,e2,e3⟩,w1,hc⟩ := jic l hl k (j+1) i2 (by omega) (by omega)
   have hn:loG j<=hnG l j i/\hnG l j i<loG (j+1):=by
    have p8:=vJ l (i+1) (m:=8) (by decide)
    have p30:=vJ l (i+1+1) (m:=30) (by decide)
    rcases hjs with rfl | rfl | rfl | rfl <;> simp only[loG,hnG] <;> omega
   have hl4:loG (j+1)<=40:=by rcases hjs with rfl | rfl | rfl | rfl <;> decide
   refine⟨_,⟨fun h hh => ?_,List.pairwise_cons.2 ⟨fun b hb => ?_,e2⟩,by rw[List.length_cons];omega⟩,fun κ ka kb=>by have p0:=gA κ i;have p1:=gA κ (i+1);have p2:=gA κ (i+1+1);have p3:=gA κ (i+1+1+1);have p4:=jex κ i;have p5:=jex κ (i+1+1+1+1);have w1:=w1 κ ka kb;have w2:=w2 κ ka kb;have hm:=jte (4+4*κ) q1;rw[wHs,jeS];omega,.take j i i2 (wL b) hs2 (by omega) (by omega) (by omega) hs hc⟩
   ·rcases List.mem_cons.1 hh with rfl | hh
    ·exact⟨hn.1,by simp only;omega,b,rfl,q1,q2⟩
    ·exact⟨by have:=(e1 h hh).1;omega,(e1 h hh).2⟩
   ·have:=(e1 b hb).1
    simp only;omega
def duL:List ByteArray:=[⟨#[100]⟩,⟨#[100,100,49]⟩]
def voL:List ByteArray:=[⟨#[118]⟩,⟨#[119,50]⟩]
def GU (u:Ut):Prop:=u.du=duL/\u.vo=voL/\EHs 0 u.on
def GW (u:Ut):Prop:=GU u /\ ∀ κ,1<=κ->κ<=7->wHs κ u.on<=(4*κ+12)*70+6*κ+18
theorem jqB (l:List Int):∃ u,GW u/\Spec Tryz.prog 11 [] [.sl 1 l.length (jV l)] fun _ r=>r = .agg (eZ u):=by
 have hin:=jsR l 70 (by decide)
 obtain⟨hs,hE,hW,hc⟩ := jic (l.take 70) (by rw[List.length_take];omega) 4 0 0 rfl (by decide)
 refine⟨⟨duL,voL,hs⟩,⟨⟨rfl,rfl,hE⟩,fun κ ka kb=>by have:=hW κ ka kb;show wHs κ hs<=_;omega⟩,?_⟩;clear hW
 have hlen:=hE.2.2
 generalize l.take 70=L at *;refine eN jsy (fun _=>[1]) 0 Tryz.func11 rfl ?_;intro hok;conv=>whnf
 refine kU [] hin ?_;rintro r rfl;conv=>whnf
 refine qS 67 5 [] [(2,2)] ?_;conv=>whnf
 refine⟨trivial,?_⟩;conv=>whnf
 refine jB [2,3,4] ?_;conv=>whnf
 refine jH (fun x:Nat × Nat × List (Int × Nt) × List (Int × Nt)=>[(5,.v (.int .i64 x.1))]) (fun x=>[bW,bxG L x.2.1,[.own 0,.own 1,.own 2]]) (fun x=>[.live 9 1 2 (vV duL),.live 9 1 2 (vV voL),.live 67 5 x.2.2.1.length (z6 x.2.2.1)]) (fun x=>x.2.2.1++x.2.2.2=hs/\PCh L x.1 x.2.1 x.2.2.2) (fun x=>4-x.1) (0,0,[],hs) ?_ ⟨rfl,hc⟩ ?_
 ·repeat' constructor
  show Row.live _ _ _ _=Row.live _ 5 0 (z6 [])
  rw[gT]
 rintro⟨j,i,acc,rem⟩ ⟨hacc,hch⟩
 simp only at hacc hch
 have hal:acc.length<=4:=by
  have:=congrArg List.length hacc
  rw[List.length_append] at this;omega
 clear hin hc;conv=>whnf
 cases hch with
 | nil =>
  conv=>whnf
  rw[List.append_nil] at hacc;rw[<- hacc];rfl
 | skip _ _ _ hj hi hp hch =>
  have hpk:=vD L i 5 (by omega) (by decide)
  rw[hp] at hpk;rw[jK (show (j:Int)<4 by omega)];conv=>whnf
  refine jS 1 [] hpk ?_;rintro o r ⟨ho,rfl⟩;cases ho;conv=>whnf
  refine⟨jJ (by omega),?_⟩;conv=>whnf
  refine⟨(j+1,i+1,acc,rem),jE [0,1,2] ?_,⟨hacc,hch⟩,by simp only;omega⟩;conv=>whnf
  repeat' constructor
 | take _ _ i2 b rem hj hi hp hs hch =>
  have hpk:=vD L i 5 (by omega) (by decide)
  have hp8:=vD L (i+1) 8 (by omega) (by decide)
  have hp30:=vD L (i+1+1) 30 (by omega) (by decide)
  have l8:=vJ L (i+1) (m:=8) (by decide)
  have l30:=vJ L (i+1+1) (m:=30) (by decide)
  obtain⟨nn,hnn⟩ : ∃ nn,hnG L j i=nn:=⟨_,rfl⟩
  rw[hnn] at hacc;unfold hnG at hnn;generalize pk L i 5=k5 at *;generalize pk L (i+1) 8=k8 at *;generalize pk L (i+1+1) 30=k30 at *;rw[jK (show (j:Int)<4 by omega)];conv=>whnf
  refine jS 1 [] hpk ?_;rintro o r ⟨ho,rfl⟩;cases ho;conv=>whnf
  rw[jK (show 0<(k5:Int) by omega)];conv=>whnf
  refine jS 1 [] hp8 ?_;rintro o r ⟨ho,rfl⟩;cases ho;conv=>whnf
  refine⟨jJ (by omega),?_⟩;conv=>whnf
  refine jS 1 [] hp30 ?_;rintro o r ⟨ho,rfl⟩;cases ho;conv=>whnf
  refine⟨jJ (by omega),?_⟩;conv=>whnf
  refine⟨⟨by omega,by omega⟩,?_⟩
  rcases (by omega:j=0 ∨ j=1 ∨ j=2 ∨ j=3) with rfl | rfl | rfl | rfl
  all_goals
   simp only at hnn
   conv=>whnf
   refine jS 1 [] hs ?_;rintro o r ⟨ho,rfl⟩;cases ho;conv=>whnf
   refine⟨⟨by simp only;unfold maxLen;omega,by simp only;omega⟩,?_⟩;conv=>whnf
   refine⟨jJ (by simp only;omega),?_⟩;conv=>whnf
   subst hnn;refine⟨(_,i2,acc++[(_,b)],rem),jE [0,1,2] ?_,⟨by simp only;rw[List.append_assoc];exact hacc,hch⟩,by simp only;omega⟩;conv=>whnf
   repeat' constructor
   rw[List.length_append,cQ];rfl
theorem jjt {l:List ByteArray} {s:ByteArray} (h:s ∈ l):(l.any fun x=>decide (s=x))=true:=List.any_eq_true.2 ⟨s,h,jK rfl⟩
theorem ji8 {s:ByteArray} (h:s ∈ opL ∨ s ∈ bolL ∨ s ∈ cmpL):(opAll.any fun x=>decide (s=x))=true:=by
 apply jjt
 unfold opAll
 rcases h with h | h | h
 ·unfold opL at h;simp only[List.mem_cons,List.not_mem_nil,or_false] at h ⊢
  rcases h with h | h | h | h <;> simp[h]
 ·unfold bolL at h;simp only[List.mem_cons,List.not_mem_nil,or_false] at h ⊢
  rcases h with h | h <;> simp[h]
 ·unfold cmpL at h;simp only[List.mem_cons,List.not_mem_nil,or_false] at h ⊢
  rcases h with h | h | h | h | h | h <;> simp[h]
theorem sz1 (k n:Int) (s:ByteArray) (f:Nt):qW (.mk k n s [f])=3+qW f:=rfl
theorem sz2 (k n:Int) (s:ByteArray) (f g:Nt):qW (.mk k n s [f,g])=3+(qW f+qW g):=rfl
theorem sz3 (k n:Int) (s:ByteArray) (f g h:Nt):qW (.mk k n s [f,g,h])=3+(qW f+(qW g+qW h)):=rfl
theorem sz0 (k n:Int) (s:ByteArray):qW (.mk k n s [])=3:=rfl
theorem jgj (d:Nat):2 ^ (d+1)=2*2 ^ d:=by rw[Nat.pow_succ,Nat.mul_comm]
theorem rU {d:Nat} {f:Nt} (h:EI d f):Wc true f/\qW f+3<=12*2 ^ d:=by
 have hp:=fun d:Nat=>Nat.one_le_two_pow (n:=d)
 induction h with
 | lit d n h=>exact⟨⟨wx0 rfl,rfl⟩,by rw[sz0];have:=hp d;omega⟩
 | var d s h=>exact⟨⟨wx0 rfl,rfl⟩,by rw[sz0];have:=hp d;omega⟩
 | nam d s h =>
  refine⟨⟨wx0 ?_,rfl⟩,by rw[sz0];have:=hp d;omega⟩
  show (decide (0=0) && _)=true
  rw[jjt h];rfl
 | drw d f h ih=>exact⟨⟨wx1 rfl (by decide) ih.1,rfl⟩,by rw[sz1,jgj];have:=hp d;omega⟩
 | neg d f h ih=>exact⟨⟨wx1 (jlh (.inl rfl)) (by decide) ih.1,rfl⟩,by rw[sz1,jgj];have:=hp d;omega⟩
 | bin d s f g hs h1 h2 i1 i2=>exact⟨⟨wx2 (jad (ji8 (.inl hs))) (by decide) i1.1 i2.1,rfl⟩,by rw[sz2,jgj];have:=hp d;omega⟩
theorem jpI {d:Nat} {f:Nt} (h:EB d f):Wc true f/\qW f+3<=24*2 ^ d:=by
 have hp:=fun d:Nat=>Nat.one_le_two_pow (n:=d)
 induction h with
 | lit d n h=>exact⟨⟨wx0 rfl,rfl⟩,by rw[sz0];have:=hp d;omega⟩
 | nt d f h ih=>exact⟨⟨wx1 (jlh (.inr rfl)) (by decide) ih.1,rfl⟩,by rw[sz1,jgj];have:=hp d;omega⟩
 | bin d s f g hs h1 h2 i1 i2=>exact⟨⟨wx2 (jad (ji8 (.inr (.inl hs)))) (by decide) i1.1 i2.1,rfl⟩,by rw[sz2,jgj];have:=hp d;omega⟩
 | cmp d s f g hs h1 h2 =>
  obtain⟨w1,s1⟩ := rU h1
  obtain⟨w2,s2⟩ := rU h2
  have hle:2 ^ (d-1)<=2 ^ d:=Nat.pow_le_pow_right (by decide) (by omega)
  exact⟨⟨wx2 (jad (ji8 (.inr (.inr hs)))) (by decide) w1 w2,rfl⟩,by rw[sz2];omega⟩
theorem jjV (B:Nat):∀ l:List Nt,(∀ f ∈ l,qW f<=B)->zF l<=l.length*B
 | [],_=>Nat.zero_le _
 | f :: l,h=>by
  have h1:=h f List.mem_cons_self
  have h2:=jjV B l fun g hg=>h g (List.mem_cons_of_mem _ hg)
  show qW f+zF l<=(l.length+1)*B
  rw[Nat.succ_mul];omega
def sB:Nat->Nat
 | 0=>54
 | d+1=>102+4*sB d
theorem tY:∀ d,54<=sB d
 | 0=>Nat.le_refl _
 | d+1=>by unfold sB;omega
theorem jeU {l:List Nt} {m B:Nat} (hm:l.length<=m) (h3:m<=3000) (h:∀ s ∈ l,Wc false s/\qW s<=B):Wc false (wL l)/\qW (wL l)<=3+m*B:=by
 refine⟨wbk (by omega) fun f hf=>(h f hf).1,?_⟩
 ·have h1:=jjV B l fun f hf=>(h f hf).2
  have h2:l.length*B<=m*B:=Nat.mul_le_mul_right _ hm
  show 3+zF l<=_
  omega
theorem jsZ {d:Nat} {f:Nt} (h:ES d f):Wc false f/\qW f<=sB d:=by
 induction h with
 | asg d e s f hs h he =>
  obtain⟨w,z⟩ := rU h
  have hle:2 ^ e<=2 ^ 2:=Nat.pow_le_pow_right (by decide) he
  have:=tY d
  exact⟨⟨wx1 rfl (by decide) w,rfl⟩,by rw[sz1];omega⟩
 | snd d n f g h hn h1 h2 h3 =>
  obtain⟨w1,z1⟩ := rU h1
  obtain⟨w2,z2⟩ := rU h2
  obtain⟨w3,z3⟩ := rU h3
  have:=tY d
  exact⟨⟨wx3 rfl (by decide) w1 w2 w3,rfl⟩,by rw[sz3];omega⟩
 | tim d n hn=>exact⟨⟨wx0 rfl,rfl⟩,by rw[sz0];have:=tY d;omega⟩
 | can d n hn=>exact⟨⟨wx0 rfl,rfl⟩,by rw[sz0];have:=tY d;omega⟩
 | syn d=>exact⟨⟨wx0 rfl,rfl⟩,by rw[sz0];have:=tY d;omega⟩
 | rep d f g h1 h2 =>
  obtain⟨w1,z1⟩ := rU h1
  obtain⟨w2,z2⟩ := rU h2
  have:=tY d
  exact⟨⟨wx2 rfl (by decide) w1 w2,rfl⟩,by rw[sz2];omega⟩
 | fai d f h1 =>
  obtain⟨w1,z1⟩ := rU h1
  have:=tY d
  exact⟨⟨wx1 rfl (by decide) w1,rfl⟩,by rw[sz1];omega⟩
 | stp d=>exact⟨⟨wx0 rfl,rfl⟩,by rw[sz0];have:=tY d;omega⟩
 | whi d c l h1 h2 h3 ih =>
  obtain⟨w1,z1⟩ := jpI h1
  obtain⟨w2,z2⟩ := jeU h2 (by decide) ih
  have e:sB (d+1)=102+4*sB d:=rfl
  exact⟨wi2 w1 w2,by rw[sz2,e];omega⟩
 | iff d c l m h1 h2 h3 h4 h5 ih1 ih2 =>
  obtain⟨w1,z1⟩ := jpI h1
  obtain⟨w2,z2⟩ := jeU h2 (by decide) ih1
  obtain⟨w3,z3⟩ := jeU h4 (by decide) ih2
  have e:sB (d+1)=102+4*sB d:=rfl
  exact⟨wi3 w1 w2 w3,by rw[sz3,e];omega⟩
theorem jnn (B:Nat):∀ l:List (Int × Nt),(∀ h ∈ l,qW h.2<=B)->mW l<=l.length*(B+1)
 | [],_=>Nat.zero_le _
 | x :: l,h=>by
  have h1:=h x List.mem_cons_self
  have h2:=jnn B l fun g hg=>h g (List.mem_cons_of_mem _ hg)
  show qW x.2+1+mW l<=(l.length+1)*(B+1)
  rw[Nat.succ_mul];omega
theorem jsc {u:Ut} (h:GU u):uH u/\mW u.on<=900000 /\ ∀ x ∈ u.on,qW x.2<=5000:=by
 obtain⟨h1,h2,h3,h4,h5⟩ := h
 have hb:∀ x ∈ u.on,Wc false x.2/\qW x.2<=5000:=fun x hx=>by
  obtain⟨_,_,k,hk,hl,hs⟩ := h3 x hx
  rw[hk]
  have:=jeU (B:=sB 2) hl (by decide) fun s hs' => jsZ (hs s hs')
  exact⟨this.1,by have:=this.2;have e:sB 2=1374:=rfl;omega⟩
 refine⟨⟨by rw[h1,h2];decide,fun x hx=>⟨(h3 x hx).1,(h3 x hx).2.1,(hb x hx).1.1⟩,fun x hx=>(hb x hx).1.2,h4.imp fun h=>by omega,by omega⟩,?_,fun x hx=>(hb x hx).2⟩
 have:=jnn 5000 u.on fun x hx=>(hb x hx).2
 have h6:u.on.length*(5000+1)<=4*(5000+1):=Nat.mul_le_mul_right _ (by omega)
 omega
theorem code_law_spec (l:List Int) (n:Int):Spec Tryz.prog 3 [] [.sl 1 l.length (jV l),intA n] fun _ r=>r=qR true:=by
 obtain⟨u,⟨hgu,-⟩,hprog⟩ := jqB l
 obtain⟨hu,hz,-⟩ := jsc hgu
 obtain⟨c1,e1',d1,v1,E1,w1⟩ := jfn u
 have p1:=w1.prog hu hz
 have q1:=w1.ref hu hz
 have hsr:=jgL n
 have hlv:=jhV
 have hs1:=sW c1 e1' d1 v1 (by have:=w1.1;omega)
 refine eN jR j5 0 Tryz.func3 rfl ?_;intro hok;conv=>whnf
 refine kU [] hprog ?_;rintro r rfl;conv=>whnf
 refine kU [] p1 ?_;rintro r rfl;conv=>whnf
 refine kU [] q1 ?_;rintro r rfl;conv=>whnf
 refine kU [] hsr ?_;rintro r ⟨s,hs,rfl⟩
 have hps:=jgy s (by omega)
 conv=>whnf
 refine kU [] hps ?_;rintro r ⟨v,x,e,hv,hzv,rfl⟩
 obtain⟨c2,e2',d2,v2,E2,w2⟩ := jfn v
 have p2:=w2.prog hv hzv
 have q2:=w2.ref hv hzv
 have hs2:=sW c2 e2' d2 v2 (by have:=w2.1;omega)
 clear w1 w2 hu hv hz hzv hgu hs;conv=>whnf
 refine kU [] p2 ?_;rintro r rfl;conv=>whnf
 refine kU [] q2 ?_;rintro r rfl;conv=>whnf
 rw[jK (rfl:E1=E1)];conv=>whnf
 (refine kU [] hs1 ?_;rintro r rfl;conv=>whnf)
 rw[jK (rfl:E2=E2)];conv=>whnf
 (refine kU [] hs2 ?_;rintro r rfl;conv=>whnf)
 (refine kU [] hlv ?_;rintro r rfl;conv=>whnf)
 rfl
end Go.Proofs.YtfbifdccmabdbaaGreatDoor.Vm
