/- Part 6 of the proof. -/
import Derived.Test.YtdnnmiemgmgffaaGreatDoorK5
set_option maxRecDepth 100000
set_option linter.unusedSimpArgs false
set_option linter.unusedVariables false
set_option maxHeartbeats 4000000
namespace Go.Proofs.YtdnnmiemgmgffaaGreatDoor.Vm
open Go.RowKit Go.Shelf
section
variable{T:List Tk}
def tK:List ByteArray:=[wIf,wWhile,gC,wTimer,kN,wSync,yJ,wFail,wStop]
theorem joa:∀w∈tK,∃c r,w.data.toList=c::r/\isL c=true:=by
 intro w hw;simp only[tK,List.mem_cons,List.not_mem_nil,or_false] at hw
 rcases hw with rfl|rfl|rfl|rfl|rfl|rfl|rfl|rfl|rfl <;> exact⟨_,_,rfl,by decide⟩
theorem je0{t:Tk}(h:K6 t){w:ByteArray}(hw:∃c r,w.data.toList=c::r/\isL c=true)(e:t.text=w):t.kind=1:=by
 obtain⟨c,r,h1,h2⟩:=hw;rw[<- e] at h1;rcases h with ⟨hk,_⟩|⟨_,d,r',h3,h4⟩|⟨_,h3⟩|⟨_,d,r',h3,h4⟩
 ·exact hk
 ·rw[h1] at h3;cases h3;unfold wD at h4;rw[h2] at h4;cases h4
 ·rw[h1] at h3;cases h3
 ·rw[h1] at h3;cases h3;rw[jqH h2] at h4;cases h4
theorem jsK(ex bl:List Tk->Pn)(ts:List Tk)(hn:wQ ts=false)(hw:qD tK (hd ts).text=false):stG ex bl ts=synE ts:=by
 refine jhh ex bl ts hn fun h=>?_
 have:qD tK (hd ts).text=true:=by
  unfold qD tK;rw[List.any_eq_true]
  rcases h with e|e|e|e|e|e|e|e|e <;> exact⟨_,by simp,jJ e.symm⟩
 rw[hw] at this;cases this
theorem jnK{lv:Int}{ex:List Tk->Pn}(hT:Ks T)(hx:aD T lv 1 ex)(s:S6)(hi:s.i<T.length)(h0:s.e=0)(hn:wQ (T.drop s.i)=true) :
  SpecU 47 (wP T s) [.box 0 0,intA lv] (RU T s fun ts=>xpt pEq ts.tail fun r=>(ex r).andThen fun e r=>xpt jO r fun r=>.ok (.mk 1 0 (hd ts).text [e]) r):=fun y hy=>by
 have hnx:=xT hi y hy;have hnm:=jbw hi y hy;have hta:=n8 hT hi y hy;rw[hn] at hnm
 have hk:(qG T s).kind≠0:=by
  have:=yW hn
  change (qG T s).kind=1 at this
  rw[this];decide
 have hi1:=nT hi
 have hxe:=fun s2 (h2:s2.i<T.length)=>hx s2 h2 y hy
 obtain⟨t,ht⟩:∃t,(qG T s).text=t:=⟨_,rfl⟩
 rw[ht] at hnx;refine eN jns (fun _=>[0]) 1 Tryz.func47 rfl ?_;intro _;conv=>whnf
 refine jT 0 [] hnx ?_;rintro o r ⟨c,ho,rfl,rfl⟩;cases ho;conv=>whnf
 refine jT 0 [] hnm ?_;rintro o r ⟨c,ho,rfl,rfl⟩;cases ho;conv=>whnf
 refine jT 0 [] hta ?_;rintro o r ⟨c,ho,rfl,rfl⟩;cases ho;conv=>whnf
 refine jT 0 [] (qO hT hi1 pEq y hy) ?_;rintro o r ⟨c,ho,rfl,rfl⟩;cases ho;conv=>whnf
 have hi2:=vU hi1 pEq;refine cZ 0 [] rfl rfl rfl rfl (fun _=>hxe _ hi2) ?_;rintro o r ⟨c,ho,s3,f,hq,rfl,rfl⟩;cases ho;conv=>whnf
 refine jT 0 [] (qO hT hq.1 jO y hy) ?_;rintro o r ⟨c,ho,rfl,rfl⟩;cases ho;conv=>whnf
 have hi4:=vU hq.1 jO;refine⟨_,rfl,bW T s3 jO,.mk 1 0 t [f],?_,rfl,by rw[wH];rfl⟩
 exact rH hT hi h0 hk (P:=fun ts=>xpt pEq ts fun r=>(ex r).andThen fun e r=>xpt jO r fun r=>.ok (.mk 1 0 t [e]) r) (yF hT hi1 (xQ (by decide)) (zM hq (yF hT hq.1 (xQ (by decide)) (yE hi4 _)))) |> fun h=>by
  have e:(hd (T.drop s.i)).text=t:=ht;simp only[e];exact h
theorem jnL{lv:Int}(hT:Ks T)(s:S6)(hi:s.i<T.length)(h0:s.e=0)(hn:wQ (T.drop s.i)=false)(hw:qD tK (qG T s).text=false) :
  SpecU 47 (wP T s) [.box 0 0,intA lv] (RU T s synE):=jkh fun y hy=>by
 have hnx:=xT hi y hy;have hnm:=jbw hi y hy;have hfl:=nY s.i hi 10 (s:=s) y hy;have hhs:=xZ tK (qG T s).text (by decide);rw[hn] at hnm;rw[hw] at hhs;unfold stF at hfl;rw[if_pos h0] at hfl;refine eN jns (fun _=>[0]) 1 Tryz.func47 rfl ?_;intro _;conv=>whnf
 refine jT 0 [] hnx ?_;rintro o r ⟨c,ho,rfl,rfl⟩;cases ho;conv=>whnf
 refine jT 0 [] hnm ?_;rintro o r ⟨c,ho,rfl,rfl⟩;cases ho;conv=>whnf
 (refine kL [0] hhs ?_;rintro r rfl;conv=>whnf)
 conv=>whnf
 refine jT 0 [] hfl ?_;rintro o r ⟨c,ho,rfl,rfl⟩;cases ho;conv=>whnf
 exact⟨_,rfl,_,.mk 0 0 eB [],_,jmw (s':=⟨s.i,(hd (T.drop s.i)).pos,10⟩) hi h0 (show(10:Int)≠0 by decide) rfl rfl _,rfl,rfl,qC (f:=.mk 0 0 eB []) rfl⟩
end
section
variable{T:List Tk}
theorem jtt(hT:Ks T){s s2:S6}(hi:s.i<T.length)(h0:s.e=0){P:Pn}{f:Nt}(h2:Dq T (xC T s) s2 P f):Dq T s s2 P f :=
 jex h2 (fun h=>absurd h0 h) fun _=>.inl ⟨by rw[(vB s).1];exact h0,(vB s).2,rfl⟩
theorem jmy(hT:Ks T){s s2:S6}(hi:s.i<T.length){K:Int->List Tk->Pn}{f:Nt}(h2:Dq T (mU T s 29) s2 (K (vaN T s 29) (T.drop (mU T s 29).i)) f):Dq T s s2 (nX 30 (T.drop s.i) K) f:=jmx hT hi (m:=29) h2
theorem jjC(hT:Ks T){s s2:S6}(hi:s.i<T.length){K:Int->List Tk->Pn}{f:Nt}(h2:Dq T (mU T s 7) s2 (K (vaN T s 7) (T.drop (mU T s 7).i)) f):Dq T s s2 (nX 8 (T.drop s.i) K) f:=jmx hT hi (m:=7) h2
theorem joM(f b:Nt):WkL [intA 2,intA 0,jX eB,.sl 4 3 (ntA f++(ntA b++jpG (wO [])))] [intA 2,intA 0,jX eB,.sl 4 3 (ntA f++(ntA b++ntA (wO [])))] :=
 .cons (.refl _) (.cons (.refl _) (.cons (.refl _) (.cons (.sl 4 3 (WkL.app (WkL.refl (ntA f)) (WkL.app (WkL.refl (ntA b)) (qC (f:=wO []) rfl)))) .nil)))
theorem jnM{lv:Int}{ex bl:List Tk->Pn}(hlv:0<=lv/\lv<=20)(hT:Ks T)(hx:aD T lv 1 ex)(hb:tR T 19 (lv+1) bl)(s:S6)(hi:s.i<T.length)(h0:s.e=0)(hn:wQ (T.drop s.i)=false)(hw:qD tK (qG T s).text=true) :
  SpecU 47 (wP T s) [.box 0 0,intA lv] (RU T s fun ts=>stK ex bl (hd ts).text ts.tail):=jkh fun y hy=>by
 have hnx:=xT hi y hy;have hnm:=jbw hi y hy;have hta:=n8 hT hi y hy;rw[hn] at hnm;have hhs:=xZ tK (qG T s).text (by decide);rw[hw] at hhs
 have hk:(qG T s).kind≠0:=by
  obtain⟨w,hw1,hw2⟩:=List.any_eq_true.1 hw;have hk1:(qG T s).kind=1:=je0 (hT.hd hi) (joa w hw1) (of_decide_eq_true hw2).symm;rw[hk1];decide
 have hi1:=nT hi
 have hxe:=fun s2 (h2:s2.i<T.length)=>hx s2 h2 y hy
 have hbe:=fun s2 (h2:s2.i<T.length)=>hb s2 h2 y hy
 obtain⟨P,hP⟩:∃P,stK ex bl (qG T s).text (T.drop s.i).tail=P:=⟨_,rfl⟩
 change Spec _ _ _ _ fun o r=>∃c,o=[c++[.v y]]/\∃s' f l,Dq T s s' (stK ex bl (qG T s).text (T.drop s.i).tail) f/\c=wP T s'/\r=.agg l/\WkL l (ntA f)
 rw[hP];unfold stK at hP;rw[<- zH hT hi hk] at hP
 have hup:=fun s2 f (h2:Dq T (xC T s) s2 P f)=>jtt hT hi h0 h2
 generalize (qG T s).text=t at *;refine eN jns (fun _=>[0]) 1 Tryz.func47 rfl ?_;intro _;conv=>whnf
 refine jT 0 [] hnx ?_;rintro o r ⟨c,ho,rfl,rfl⟩;cases ho;conv=>whnf
 refine jT 0 [] hnm ?_;rintro o r ⟨c,ho,rfl,rfl⟩;cases ho;conv=>whnf
 (refine kL [0] hhs ?_;rintro r rfl;conv=>whnf)
 conv=>whnf
 refine jT 0 [] hta ?_;rintro o r ⟨c,ho,rfl,rfl⟩;cases ho;conv=>whnf
 by_cases g0:t=wIf
 ·rw[jJ (p:=t=⟨_⟩) g0];conv=>whnf
  rw[if_pos g0] at hP;refine cZ 0 [] rfl rfl rfl rfl (fun _=>hxe _ hi1) ?_;rintro o r ⟨c,ho,s2,f,hq2,rfl,rfl⟩;cases ho;conv=>whnf
  refine⟨jH (by omega),?_⟩;conv=>whnf
  refine cZ 0 [] rfl rfl rfl rfl (fun _=>hbe _ hq2.1) ?_;rintro o r ⟨c,ho,s3,b,hq3,rfl,rfl⟩;cases ho;conv=>whnf
  have g1:¬t=wWhile:=fun e=>by rw[g0] at e;exact absurd e (by decide)
  rw[jG (p:=t=⟨_⟩) g1];conv=>whnf
  by_cases e3:s3.e=0
  ·rw[jJ e3];conv=>whnf
   refine jT 0 [] (xT hq3.1 y hy) ?_;rintro o r ⟨c,ho,rfl,rfl⟩;cases ho;conv=>whnf
   by_cases we:(qG T s3).text=f9
   ·rw[jJ (p:=(qG T s3).text=⟨_⟩) we];have hk3:=vC hT hq3.1 (xQ (by decide)) we;conv=>whnf
    refine jT 0 [] (n8 hT hq3.1 y hy) ?_;rintro o r ⟨c,ho,rfl,rfl⟩;cases ho;conv=>whnf
    refine⟨jH (by omega),?_⟩;conv=>whnf
    refine cZ 0 [] rfl rfl rfl rfl (fun _=>hbe _ (nT hq3.1)) ?_;rintro o r ⟨c,ho,s4,d,hq4,rfl,rfl⟩;cases ho;conv=>whnf
    refine⟨⟨by unfold maxLen;omega,by omega⟩,?_⟩;conv=>whnf
    exact⟨_,rfl,s4,(.mk 2 0 eB [f,b,d]),_,hup _ _ (by rw[<- hP];exact zM hq2 (zM hq3 (by rw[zF hT hq3.1 (w:=f9) (xQ (by decide)),if_pos (jJ we)];exact rH hT hq3.1 e3 hk3 (P:=fun r=>(bl r).andThen fun o r=>.ok (.mk 2 0 eB [f,b,o]) r) (zM hq4 (yE hq4.1 _))))),rfl,rfl,by rw[yY];exact qQ _⟩
   ·rw[jG (p:=(qG T s3).text=⟨_⟩) we];conv=>whnf
    refine⟨⟨by unfold maxLen;omega,by omega⟩,?_⟩;conv=>whnf
    exact⟨_,rfl,s3,(.mk 2 0 eB [f,b,wO []]),_,hup _ _ (by rw[<- hP];exact zM hq2 (zM hq3 (by rw[zF hT hq3.1 (w:=f9) (xQ (by decide)),if_neg (by rw[jG we];simp)];exact yE hq3.1 _))),rfl,rfl,by rw[yY];exact joM f b⟩
  ·rw[jG e3];conv=>whnf
   refine⟨⟨by unfold maxLen;omega,by omega⟩,?_⟩;conv=>whnf
   exact⟨_,rfl,s3,(.mk 2 0 eB [f,b,wO []]),_,hup _ _ (by rw[<- hP];exact zM hq2 (zM hq3 (sQ hq3.1 e3 rfl rfl _ _))),rfl,rfl,by rw[yY];exact joM f b⟩
 rw[jG (p:=t=⟨_⟩) g0];conv=>whnf
 rw[if_neg g0] at hP;by_cases g1:t=wWhile
 ·rw[jJ (p:=t=⟨_⟩) g1];conv=>whnf
  rw[if_pos g1] at hP;refine cZ 0 [] rfl rfl rfl rfl (fun _=>hxe _ hi1) ?_;rintro o r ⟨c,ho,s2,f,hq2,rfl,rfl⟩;cases ho;conv=>whnf
  refine⟨jH (by omega),?_⟩;conv=>whnf
  refine cZ 0 [] rfl rfl rfl rfl (fun _=>hbe _ hq2.1) ?_;rintro o r ⟨c,ho,s3,b,hq3,rfl,rfl⟩;cases ho;conv=>whnf
  rw[jJ (p:=t=⟨_⟩) g1];conv=>whnf
  exact⟨_,rfl,s3,(.mk 3 0 eB [f,b]),_,hup _ _ (by rw[<- hP];exact zM hq2 (zM hq3 (yE hq3.1 _))),rfl,rfl,by rw[yZ];exact qQ _⟩
 rw[jG (p:=t=⟨_⟩) g1];conv=>whnf
 rw[if_neg g1] at hP;by_cases g2:t=gC
 ·rw[jJ (p:=t=⟨_⟩) g2];conv=>whnf
  rw[if_pos g2] at hP;simp only[lL] at hP;refine cZ 0 [] rfl rfl rfl rfl (fun _=>hxe _ hi1) ?_;rintro o r ⟨c,ho,s2,f,hq2,rfl,rfl⟩;cases ho;conv=>whnf
  refine jT 0 [] (qO hT hq2.1 jZ y hy) ?_;rintro o r ⟨c,ho,rfl,rfl⟩;cases ho;conv=>whnf
  have hi3:=vU hq2.1 jZ
  obtain⟨s3,hs3⟩:∃s3,bW T s2 jZ=s3:=⟨_,rfl⟩
  rw[hs3] at hi3;rw[hs3];refine jT 0 [] (jgX hT hi3 29 y hy) ?_;rintro o r ⟨c,ho,rfl,rfl⟩;cases ho;conv=>whnf
  refine jT 0 [] (qO hT (oJ hi3 29) jZ y hy) ?_;rintro o r ⟨c,ho,rfl,rfl⟩;cases ho;conv=>whnf
  have hi4:=vU (oJ hi3 29) jZ;refine cZ 0 [] rfl rfl rfl rfl (fun _=>hxe _ hi4) ?_;rintro o r ⟨c,ho,s5,d,hq5,rfl,rfl⟩;cases ho;conv=>whnf
  refine jT 0 [] (qO hT hq5.1 jZ y hy) ?_;rintro o r ⟨c,ho,rfl,rfl⟩;cases ho;conv=>whnf
  refine cZ 0 [] rfl rfl rfl rfl (fun _=>hxe _ (vU hq5.1 jZ)) ?_;rintro o r ⟨c,ho,s6,g,hq6,rfl,rfl⟩;cases ho;conv=>whnf
  refine jT 0 [] (qO hT hq6.1 jO y hy) ?_;rintro o r ⟨c,ho,rfl,rfl⟩;cases ho;conv=>whnf
  have hf:=vU hq6.1 jO
  have hup':=fun f2 (h2:Dq T (bW T s2 jZ) (bW T s6 jO) (nX 30 (T.drop (bW T s2 jZ).i) fun n r=>xpt jZ r fun r=>(ex r).andThen fun a r=>xpt jZ r fun r=>(ex r).andThen fun a2 r=>xpt jO r fun r=>.ok (.mk 4 n eB ([f]++[a]++[a2])) r) f2)=>hup _ f2 (by rw[<- hP];exact zM hq2 (yF hT hq2.1 (xQ (by decide)) h2))
  rw[hs3] at hup';refine⟨_,rfl,_,.mk 4 (vaN T s3 29) eB [f,d,g],_,hup' _ (jmy hT hi3 (yF hT (oJ hi3 29) (xQ (by decide)) (zM hq5 (yF hT hq5.1 (xQ (by decide)) (zM hq6 (yF hT hq6.1 (xQ (by decide)) (yE hf _))))))),rfl,rfl,?_⟩;rw[yY];exact qQ _
 rw[jG (p:=t=⟨_⟩) g2];conv=>whnf
 rw[if_neg g2] at hP;by_cases g3:t=wTimer
 ·rw[jJ (p:=t=⟨_⟩) g3];conv=>whnf
  rw[if_pos g3] at hP;refine jT 0 [] (jgX hT hi1 7 y hy) ?_;rintro o r ⟨c,ho,rfl,rfl⟩;cases ho;conv=>whnf
  refine jT 0 [] (qO hT (oJ hi1 7) jO y hy) ?_;rintro o r ⟨c,ho,rfl,rfl⟩;cases ho;conv=>whnf
  exact⟨_,rfl,bW T (mU T (xC T s) 7) jO,(.mk 5 (vaN T (xC T s) 7) eB []),_,hup _ _ (by rw[<- hP];exact jjC hT hi1 (yF hT (oJ hi1 7) (xQ (by decide)) (yE (vU (oJ hi1 7) _) _))),rfl,rfl,qC (f:=.mk 5 (vaN T (xC T s) 7) eB []) rfl⟩
 rw[jG (p:=t=⟨_⟩) g3];conv=>whnf
 rw[if_neg g3] at hP;by_cases g4:t=kN
 ·rw[jJ (p:=t=⟨_⟩) g4];conv=>whnf
  rw[if_pos g4] at hP;refine jT 0 [] (jgX hT hi1 7 y hy) ?_;rintro o r ⟨c,ho,rfl,rfl⟩;cases ho;conv=>whnf
  refine jT 0 [] (qO hT (oJ hi1 7) jO y hy) ?_;rintro o r ⟨c,ho,rfl,rfl⟩;cases ho;conv=>whnf
  exact⟨_,rfl,bW T (mU T (xC T s) 7) jO,(.mk 6 (vaN T (xC T s) 7) eB []),_,hup _ _ (by rw[<- hP];exact jjC hT hi1 (yF hT (oJ hi1 7) (xQ (by decide)) (yE (vU (oJ hi1 7) _) _))),rfl,rfl,qC (f:=.mk 6 (vaN T (xC T s) 7) eB []) rfl⟩
 rw[jG (p:=t=⟨_⟩) g4];conv=>whnf
 rw[if_neg g4] at hP;by_cases g7:t=yJ
 ·rw[jJ (p:=t=⟨_⟩) g7];conv=>whnf
  have n5:¬t=wSync:=fun e=>by rw[g7] at e;exact absurd e (by decide)
  have n6:¬t=wStop:=fun e=>by rw[g7] at e;exact absurd e (by decide)
  rw[if_neg n5] at hP;rw[if_neg n6] at hP;rw[if_pos g7] at hP;refine cZ 0 [] rfl rfl rfl rfl (fun _=>hxe _ hi1) ?_;rintro o r ⟨c,ho,s2,f,hq2,rfl,rfl⟩;cases ho;conv=>whnf
  refine jT 0 [] (qO hT hq2.1 jZ y hy) ?_;rintro o r ⟨c,ho,rfl,rfl⟩;cases ho;conv=>whnf
  have hi3:=vU hq2.1 jZ;refine cZ 0 [] rfl rfl rfl rfl (fun _=>hxe _ hi3) ?_;rintro o r ⟨c,ho,s4,d,hq4,rfl,rfl⟩;cases ho;conv=>whnf
  refine jT 0 [] (qO hT hq4.1 jO y hy) ?_;rintro o r ⟨c,ho,rfl,rfl⟩;cases ho;conv=>whnf
  exact⟨_,rfl,bW T s4 jO,(.mk 8 0 eB [f,d]),_,hup _ _ (by rw[<- hP];exact zM hq2 (yF hT hq2.1 (xQ (by decide)) (zM hq4 (yF hT hq4.1 (xQ (by decide)) (yE (vU hq4.1 _) _))))),rfl,rfl,by rw[yZ];exact qQ _⟩
 rw[jG (p:=t=⟨_⟩) g7];conv=>whnf
 by_cases g8:t=wFail
 ·rw[jJ (p:=t=⟨_⟩) g8];conv=>whnf
  have n5:¬t=wSync:=fun e=>by rw[g8] at e;exact absurd e (by decide)
  have n6:¬t=wStop:=fun e=>by rw[g8] at e;exact absurd e (by decide)
  rw[if_neg n5] at hP;rw[if_neg n6] at hP;rw[if_neg g7] at hP;refine cZ 0 [] rfl rfl rfl rfl (fun _=>hxe _ hi1) ?_;rintro o r ⟨c,ho,s2,f,hq2,rfl,rfl⟩;cases ho;conv=>whnf
  refine jT 0 [] (qO hT hq2.1 jO y hy) ?_;rintro o r ⟨c,ho,rfl,rfl⟩;cases ho;conv=>whnf
  exact⟨_,rfl,bW T s2 jO,(.mk 9 0 eB [f]),_,hup _ _ (by rw[<- hP];exact zM hq2 (yF hT hq2.1 (xQ (by decide)) (yE (vU hq2.1 _) _))),rfl,rfl,by rw[wH];exact qQ _⟩
 rw[jG (p:=t=⟨_⟩) g8];conv=>whnf
 by_cases g5:t=wSync
 ·rw[jJ (p:=t=⟨_⟩) g5];conv=>whnf
  rw[if_pos g5] at hP;refine jT 0 [] (qO hT hi1 jO y hy) ?_;rintro o r ⟨c,ho,rfl,rfl⟩;cases ho;conv=>whnf
  exact⟨_,rfl,bW T (xC T s) jO,(.mk 7 0 eB []),_,hup _ _ (by rw[<- hP];exact yF hT hi1 (xQ (by decide)) (yE (vU hi1 _) _)),rfl,rfl,qC (f:=.mk 7 0 eB []) rfl⟩
 rw[jG (p:=t=⟨_⟩) g5];conv=>whnf
 rw[if_neg g5] at hP
 have g6:t=wStop:=by
  obtain⟨w,hw1,hw2⟩:=List.any_eq_true.1 hw;have hw2:=(of_decide_eq_true hw2).symm;simp only[tK,List.mem_cons,List.not_mem_nil,or_false] at hw1
  rcases hw1 with e|e|e|e|e|e|e|e|e <;> rw[e] at hw2 <;> first|exact hw2|contradiction
 rw[if_pos g6] at hP;refine jT 0 [] (qO hT hi1 jO y hy) ?_;rintro o r ⟨c,ho,rfl,rfl⟩;cases ho;conv=>whnf
 exact⟨_,rfl,bW T (xC T s) jO,(.mk 10 0 eB []),_,hup _ _ (by rw[<- hP];exact yF hT hi1 (xQ (by decide)) (yE (vU hi1 _) _)),rfl,rfl,qC (f:=.mk 10 0 eB []) rfl⟩
end
section
variable{T:List Tk}
theorem jpX{t:ByteArray}(h:qD tK t=true):t=wIf∨t=wWhile∨t=gC∨t=wTimer∨t=kN∨t=wSync∨t=wStop∨t=yJ∨t=wFail:=by
 obtain⟨w,hw1,hw2⟩:=List.any_eq_true.1 h;have hw2:=(of_decide_eq_true hw2).symm;simp only[tK,List.mem_cons,List.not_mem_nil,or_false] at hw1
 rcases hw1 with e|e|e|e|e|e|e|e|e <;> rw[e] at hw2 <;> simp only[hw2,true_or,or_true]
theorem jiV{lv:Int}{ex bl:List Tk->Pn}(hlv:0<=lv/\lv<=20)(hT:Ks T)(hx:aD T lv 1 ex)(hb:tR T 19 (lv+1) bl)(s:S6)(hi:s.i<T.length)(h0:s.e=0) :
  SpecU 47 (wP T s) [.box 0 0,intA lv] (RU T s (stG ex bl)):=by
 cases hn:wQ (T.drop s.i) with
 |true =>
  have e:stG ex bl (T.drop s.i)=(fun ts=>xpt pEq ts.tail fun r=>(ex r).andThen fun e r=>xpt jO r fun r=>.ok (.mk 1 0 (hd ts).text [e]) r) (T.drop s.i):=by
   unfold stG;rw[if_pos hn]
  have:=jnK hT hx s hi h0 hn;unfold RU at this ⊢;rw[e];exact this
 |false =>
  cases hw:qD tK (qG T s).text with
  |true =>
   have hk:(qG T s).kind=1:=by
    obtain⟨w,hw1,hw2⟩:=List.any_eq_true.1 hw;exact je0 (hT.hd hi) (joa w hw1) (of_decide_eq_true hw2).symm
   have e:=jhi ex bl (T.drop s.i) hn (jpX hw);rw[if_neg (show ¬(hd (T.drop s.i)).kind≠1 from fun h=>h hk)] at e;have:=jnM hlv hT hx hb s hi h0 hn hw;unfold RU at this ⊢;rw[<- e];exact this
  |false =>
   have e:=jsK ex bl (T.drop s.i) hn hw;have:=jnL (lv:=lv) hT s hi h0 hn hw;unfold RU at this ⊢;rw[e];exact this
theorem jlc{lv:Int}(hlv:0<=lv/\lv<=20)(hT:Ks T){st:List Tk->Pn}(hst:∀s:S6,s.i<T.length->s.e=0->SpecU 47 (wP T s) [.box 0 0,intA lv] (RU T s st))(gst:GoesS st):tR T 19 lv (bkF st):=fun s0 hi0 y hy=>by
 obtain⟨P,hP⟩:∃P,bkF st (T.drop s0.i)=P:=⟨_,rfl⟩
 unfold RU;rw[hP];have hop:=jf4 hT hi0 pLb lv y hy
 have hst:=fun s h1 h2=>hst s h1 h2 y hy
 have hn0:=hT.n;rw[jj4 hlv.2] at hop;unfold bkF at hP;have hi1:=vU hi0 pLb
 have hup:=fun s2 f (h:Dq T (bW T s0 pLb) s2 (cY st (T.drop (bW T s0 pLb).i).length [] (T.drop (bW T s0 pLb).i)) f)=>yF (w:=pLb) (K:=fun r=>cY st r.length [] r) hT hi0 (xQ (by decide)) h
 rw[hP] at hup;clear hP;generalize bW T s0 pLb=s1 at *;refine eN jqO (fun _=>[0]) 1 Tryz.func19 rfl ?_;intro _;conv=>whnf
 refine jT 0 [] hop ?_;rintro o r ⟨c,ho,rfl,rfl⟩;cases ho;conv=>whnf
 refine qU 45 4 [] [(2,3)] ?_;conv=>whnf
 refine⟨trivial,?_⟩;conv=>whnf
 refine jC [0,1,4,5] ?_;conv=>whnf
 refine jI (fun _:Nat×List Nt×S6=>[]) (fun x=>[wP T x.2.2++[.v y],jc7,[intA 11,intA 0,jX ⟨#[]⟩,.own 0]]) (fun x=>[.live 45 4 x.2.1.length (qW x.2.1)]) (fun x=>x.2.2.i<T.length/\(x.2.2.e=0->(T.drop x.2.2.i).length<=x.1/\x.2.1.length+(T.drop x.2.2.i).length<=1000001)/\∀s' f',Dq T x.2.2 s' (cY st x.1 x.2.1 (T.drop x.2.2.i)) f'->Dq T s0 s' P f') (fun x=>if x.2.2.e=0 then T.length-x.2.2.i+1 else 0) ((T.drop s1.i).length,[],s1) ?_ ⟨hi1,fun _=>⟨Nat.le_refl _,by simp only[List.length_nil,List.length_drop];omega⟩,hup⟩ ?_
 ·repeat' constructor
  show Row.live _ _ _ _=Row.live _ 4 0 (qW []);rw[kY]
 rintro⟨n,acc,s⟩ ⟨hi,hn,hinv⟩
 simp only at hi hn hinv
 have hnx:=xT hi y hy;have htk:=n8 hT hi y hy;have hxp:=qO hT hi pRb y hy;conv=>whnf
 by_cases h0:s.e=0
 ·rw[jJ h0];conv=>whnf
  refine jT 0 [] hnx ?_;rintro o r ⟨c,ho,rfl,rfl⟩;cases ho;conv=>whnf
  obtain⟨hn1,hn2⟩:=hn h0;have hln:(T.drop s.i).length=T.length-s.i:=List.length_drop
  obtain⟨m,rfl⟩:∃m,n=m+1:=⟨n-1,by omega⟩
  rw[cY] at hinv;have hip:=zF hT hi (w:=pRb) (xQ (by decide));by_cases h1:(qG T s).text=pRb
  ·rw[jJ (p:=(qG T s).text=⟨_⟩) h1];rw[if_pos (by rw[hip];exact jJ h1)] at hinv;conv=>whnf
   refine jT 0 [] hxp ?_;rintro o r ⟨c,ho,rfl,rfl⟩;cases ho;conv=>whnf
   have hd:Dq T s (bW T s pRb) (xpt pRb (T.drop s.i) fun r=>.ok (wO acc) r) (wO acc):=yF hT hi (xQ (by decide)) (yE (vU hi _) _);unfold xpt at hd;rw[if_pos (by rw[hip];exact jJ h1)] at hd;exact⟨_,rfl,_,wO acc,hinv _ _ hd,rfl,rfl⟩
  ·rw[jG (p:=(qG T s).text=⟨_⟩) h1];rw[if_neg (by rw[hip,jG h1];simp)] at hinv;have hs:=hst s hi h0;conv=>whnf
   refine jT 0 [] hs ?_;rintro o r ⟨c,ho,s2,f2,hq2,rfl,rfl⟩;cases ho
   have hlt:s2.e=0->(T.drop s2.i).length+1<=(T.drop s.i).length:=fun e2=>by
    have h5:=hq2.2.2 h0
    cases hop:st (T.drop s.i) with
    |ok g r =>
     rw[hop] at h5;have h6:=(gst _ _ _ (hT.p hi) hop).2;rw[h5.2.2.2];omega
    |bad x e =>
     rw[hop] at h5;exact absurd (h5.2.1.symm.trans e2) h5.1
   conv=>whnf
   refine⟨⟨by simp only;unfold maxLen;omega,by simp only;omega⟩,?_⟩;conv=>whnf
   refine⟨(m,acc++[f2],s2),jF [0] ?_,⟨hq2.1,fun e2=>?_,fun s' f' h=>hinv s' f' (zM hq2 h)⟩,?_⟩
   ·conv=>whnf
    repeat' constructor
    simp only[List.length_append,List.length_cons,List.length_nil];rw[mG];rfl
   ·have:=hlt e2;simp only[List.length_append,List.length_cons,List.length_nil];omega
   ·simp only
    rw[if_pos h0];by_cases e2:s2.e=0
    ·have h6:=hlt e2;rw[List.length_drop,List.length_drop] at h6;rw[if_pos e2];omega
    ·rw[if_neg e2];omega
 ·rw[jG h0];conv=>whnf
  refine jT 0 [] hxp ?_;rintro o r ⟨c,ho,rfl,rfl⟩;cases ho;conv=>whnf
  rw[mV h0];exact⟨_,rfl,s,wO acc,hinv _ _ (sQ hi h0 rfl rfl _ _),rfl,rfl⟩
theorem jgP(hT:Ks T):tR T 19 21 bkN:=fun s0 hi0 y hy=>by
 have hop:=jf4 hT hi0 pLb 21 y hy;have he:=jbK (T:=T) s0 pLb;have hi1:=jhj hi0 pLb 21
 have hup:=fun f=>jer (w:=pLb) hT hi0 (xQ (by decide)) (s2:=sA T s0 pLb 21) (s3:=sA T s0 pLb 21) (sQ hi1 he rfl rfl (.bad 0 1) (wO [])) ⟨hi1,fun _=>⟨rfl,rfl⟩⟩ f
 change ∀f,Dq T s0 (sA T s0 pLb 21) (bkN (T.drop s0.i)) f at hup
 generalize sA T s0 pLb 21=s at *;have hxp:=qO hT hi1 pRb y hy;refine eN jqO (fun _=>[0]) 1 Tryz.func19 rfl ?_;intro _;conv=>whnf
 refine jT 0 [] hop ?_;rintro o r ⟨c,ho,rfl,rfl⟩;cases ho;conv=>whnf
 refine qU 45 4 [] [(2,3)] ?_;conv=>whnf
 refine⟨trivial,?_⟩;conv=>whnf
 refine jC [0,1,4,5] ?_;conv=>whnf
 refine jI (fun _:Unit=>[]) (fun _=>[wP T s++[.v y],jc7,[intA 11,intA 0,jX ⟨#[]⟩,.own 0]]) (fun _=>[.live 45 4 0 (qW [])]) (fun _=>True) (fun _=>0) () ?_ trivial ?_
 ·repeat' constructor
  show Row.live _ _ _ _=Row.live _ 4 0 (qW []);rw[kY]
 rintro _ _;conv=>whnf
 rw[jG he];conv=>whnf
 refine jT 0 [] hxp ?_;rintro o r ⟨c,ho,rfl,rfl⟩;cases ho;conv=>whnf
 rw[mV he];exact⟨_,rfl,s,wO [],hup _,rfl,rfl⟩
theorem jqV{lv:Int}{low:Option Pa}(hT:Ks T)(h:LowR6 T lv low):tR T 19 (lv+1) (jna low):=by
 obtain⟨h0,⟨rfl,rfl⟩|⟨p,rfl,h1,a,b,c,d⟩⟩:=h
 ·exact jgP hT
 ·exact d
theorem jdB{lv:Int}{low:Option Pa}(hT:Ks T)(h0:0<=lv)(h1:lv+1<=20)(hg:cT low)(h:LowR6 T (lv+1) low):LowR6 T lv (some (paG low)):=by
 obtain⟨x7,x3,x1⟩:=jsC hT hg h
 have hst:=fun s=>jiV (lv:=lv+1) ⟨by omega,h1⟩ hT x1 (jqV hT h) s
 exact⟨h0,.inr ⟨_,rfl,h1,x3,x7,x1,jlc ⟨by omega,h1⟩ hT hst (rL (nF hg) (gI hg))⟩⟩
theorem jkg(hT:Ks T):∀d:Nat,d<=19->LowR6 T (19-d) (some (pa d))
 |0,_=>jdB hT (by decide) (by decide) (fun p h=>by cases h) ⟨by decide,.inl ⟨rfl,rfl⟩⟩
 |d+1,h=>by
  have ih:=jkg hT d (by omega);refine jdB hT (by omega) (by omega) (jeT [] d (by omega)).goes ?_;rw[show(19-((d+1:Nat):Int)+1)=19-(d:Int) by push_cast;omega];exact ih
theorem jka(hT:Ks T):tR T 19 1 (pa 19).bl:=jqV hT (jkg hT 19 (by decide))
end
section
variable{T:List Tk}
def jud(id:Nat):Tr:=match Nat.beq id 6 with
 |true=>.q 0 3 (.q 1 3 (.q 2 3 (.q 4 3 (.alt 3 2 (.alt 5 2 (.alt 6 2 .nil .nil) .nil) (.alt 5 2 (.alt 3 2 (.alt 6 2 .nil .nil) .nil) .nil)))))
 |false=>match Nat.beq id 12 with
  |true=>.q 0 3 (.q 1 3 (.q 2 3 (.q 3 3 (.q 5 3 (.alt 4 2 (.alt 6 2 (.alt 7 2 (.alt 8 2 (.q 9 3 (.q 10 3 (.alt 11 2 .nil .nil))) .nil) .nil) .nil) (.alt 6 2 (.alt 4 2 (.alt 7 2 (.alt 8 2 (.q 9 3 (.q 10 3 (.alt 11 2 .nil .nil))) .nil) .nil) (.alt 7 2 (.alt 4 2 (.alt 8 2 (.q 9 3 (.q 10 3 (.alt 11 2 .nil .nil))) .nil) .nil) .nil)) .nil))))))
  |false=>.nil
def deB(n:Nat)(nm out:List ByteArray)(us:List Tk):Pd :=
 if wQ us=false then .bad (hd us).pos 10
 else if qD nm (hd us).text=true then .bad (hd us).pos 4
 else if nm.length=16 then .bad (hd us).pos 2
 else deH n (nm++[(hd us).text]) (out++[(hd us).text]) us.tail
theorem jml(n:Nat)(nm out:List ByteArray)(ts:List Tk):gG (n+1) nm out ts=deB n nm out ts.tail:=rfl
def Dd(T:List Tk)(s':S6)(P:Pd)(nm out:List ByteArray):Prop:=s'.i<T.length/\match P with
 |.ok n o r=>s'.e=0/\nm=n/\out=o/\T.drop s'.i=r
 |.bad x e=>e≠0/\s'.e=e/\s'.a=x
theorem juk(hT:Ks T)(nm0:List ByteArray)(s0:S6)(hi0:s0.i<T.length)(h0:s0.e=0)(hk0:(qG T s0).kind≠0)(hl16:nm0.length<=16) :
  iH Tryz.prog 16 [wP T s0++[.own 0]] 9 1 nm0.length (gB nm0) [.box 0 0]
   (fun o n cs r=>∃s' nm out,o=[wP T s'++[.own 0]]/\n=nm.length/\cs=gB nm/\r=.sl 1 out.length (gB out)/\nm.length<=16/\nm0.length+out.length<=nm.length/\Dd T s' (gG (T.drop s0.i).length nm0 [] (T.drop s0.i)) nm out) (fun _=>False):=by
 obtain⟨P,hP⟩:∃P,gG (T.drop s0.i).length nm0 [] (T.drop s0.i)=P:=⟨_,rfl⟩
 rw[hP];have hn0:=hT.n;have hln0:(T.drop s0.i).length=T.length-s0.i:=List.length_drop;have htk0:=n8 hT hi0;have hi1:=nT hi0;have hdn:=zH hT hi0 hk0;have hse:=(vB (T:=T) s0).1;have hst:=bN hT hi0 hk0
 obtain⟨n0,hn0'⟩:∃n0,(T.drop s0.i).length=n0+1:=⟨(T.drop s0.i).length-1,by omega⟩
 rw[hn0',jml,<- hdn] at hP
 have hl1:(T.drop (xC T s0).i).length<=n0:=by rw[hst,List.length_drop];simp only;omega
 rw[h0] at hse;generalize xC T s0=s1 at *;refine qP (wJ jud (fun _=>[0]) 1 (fun ch _=>False)) (fun _ _ h=>h) Tryz.func16 rfl (by kernel_rfl) rfl (by kernel_rfl) ?_;intro _;conv=>whnf
 refine zD 0 0 (cA:=wP T (s0)) rfl rfl (Nat.zero_lt_succ _) rfl rfl (htk0).v (fun _ _ h=>h.elim) ?_;rintro c r ⟨rfl,rfl⟩;conv=>whnf
 refine qU 9 1 [3] [] ?_;conv=>whnf
 refine⟨trivial,?_⟩;conv=>whnf
 refine jC [0,3] ?_;conv=>whnf
 refine jI (fun x:Nat×List ByteArray×List ByteArray×S6=>[]) (fun x=>[wP T x.2.2.2++[.own 0]]) (fun x=>[.live 9 1 x.2.1.length (gB x.2.1),.live 9 1 x.2.2.1.length (gB x.2.2.1)])
  (fun x=>x.2.2.2.i<T.length/\x.2.2.2.e=0/\(T.drop x.2.2.2.i).length<=x.1/\x.2.1.length<=16/\nm0.length+x.2.2.1.length<=x.2.1.length/\deB x.1 x.2.1 x.2.2.1 (T.drop x.2.2.2.i)=P) (fun x=>T.length-x.2.2.2.i) (n0,nm0,[],s1) ?_ ⟨hi1,hse,hl1,hl16,Nat.le_refl _,hP⟩ ?_
 ·repeat' constructor
 clear hP hse hl1 hi1 hn0' hdn;rintro⟨n,nm,out,s⟩ ⟨hi,he,g3,g4,g5,hP⟩
 simp only at hi he g3 g4 g5 hP
 have hnx:=xT hi;have hnm:=jbw hi;have htk:=n8 hT hi
 have hfl:∀x:Int,SpecU 43 (wP T s) [.box 0 0,intA x,.v (.int .i64 s.i)] fun c r=>c=wP T ⟨s.i,(qG T s).pos,x⟩/\r=.tup []:=fun x=>by
  have:=nY s.i hi x (s:=s);unfold stF at this;rw[if_pos he] at this;exact this
 have hxe:∀x:Int,x≠0->SpecU 17 (wP T ⟨s.i,(qG T s).pos,x⟩) [.box 0 0,jX jO] fun c r=>c=wP T ⟨s.i,(qG T s).pos,x⟩/\r=.tup []:=fun x h=>by
  have:=qO hT (s:=⟨s.i,(qG T s).pos,x⟩) hi jO;rw[mV h] at this;exact this
 conv=>whnf
 rw[jJ he];conv=>whnf
 refine zD 0 0 (cA:=wP T (s)) rfl rfl (Nat.zero_lt_succ _) rfl rfl (hnm).v (fun _ _ h=>h.elim) ?_;rintro c r ⟨rfl,rfl⟩;conv=>whnf
 cases hn:wQ (T.drop s.i) with
 |false =>
  unfold deB at hP;rw[if_pos hn] at hP;conv=>whnf
  refine zD 0 0 (cA:=wP T (s)) rfl rfl (Nat.zero_lt_succ _) rfl rfl (hfl 10).v (fun _ _ h=>h.elim) ?_;rintro c r ⟨rfl,rfl⟩;conv=>whnf
  refine zD 0 0 (cA:=wP T (⟨s.i,(qG T s).pos,10⟩)) rfl rfl (Nat.zero_lt_succ _) rfl rfl (hxe 10 (by decide)).v (fun _ _ h=>h.elim) ?_;rintro c r ⟨rfl,rfl⟩;conv=>whnf
  subst hP;refine⟨0,?_⟩;conv=>whnf
  exact⟨⟨s.i,(qG T s).pos,10⟩,nm,out,rfl,rfl,rfl,rfl,g4,g5,hi,show(10:Int)≠0 by decide,rfl,rfl⟩
 |true =>
  have hk:(qG T s).kind≠0:=by
   have:=yW hn
   change (qG T s).kind=1 at this
   rw[this];decide
  have hdn:=zH hT hi hk;have hi1:=nT hi;have he1:=(vB (T:=T) s).1;have hst:=bN hT hi hk;rw[he] at he1;unfold deB at hP;rw[if_neg (by rw[hn];simp)] at hP;conv=>whnf
  have hct:=xZ nm (qG T s).text (by omega);apply cB
  ·conv=>whnf
   refine⟨?_,?_⟩
   ·conv=>whnf
    refine zD 0 0 (cA:=wP T (s)) rfl rfl (Nat.zero_lt_succ _) rfl rfl (hnx).v (fun _ _ h=>h.elim) ?_;rintro c r ⟨rfl,rfl⟩;conv=>whnf
    refine jju [0] rfl (fun _=>hct) ?_;rintro r rfl;refine⟨_,rfl,?_⟩;conv=>whnf
   ·conv=>whnf
    refine zD 0 0 (cA:=wP T (s)) rfl rfl (Nat.zero_lt_succ _) rfl rfl (hnx).v (fun _ _ h=>h.elim) ?_;rintro c r ⟨rfl,rfl⟩;conv=>whnf
    refine jju [0] rfl (fun _=>hct) ?_;rintro r rfl;refine⟨_,rfl,?_⟩;conv=>whnf
  conv=>whnf
  cases hh:qD nm (qG T s).text with
  |true =>
   change qD nm (hd (T.drop s.i)).text=true at hh
   rw[if_pos hh] at hP;conv=>whnf
   refine zD 0 0 (cA:=wP T (s)) rfl rfl (Nat.zero_lt_succ _) rfl rfl (hfl 4).v (fun _ _ h=>h.elim) ?_;rintro c r ⟨rfl,rfl⟩;conv=>whnf
   refine zD 0 0 (cA:=wP T (⟨s.i,(qG T s).pos,4⟩)) rfl rfl (Nat.zero_lt_succ _) rfl rfl (hxe 4 (by decide)).v (fun _ _ h=>h.elim) ?_;rintro c r ⟨rfl,rfl⟩;conv=>whnf
   subst hP;refine⟨0,?_⟩;conv=>whnf
   exact⟨⟨s.i,(qG T s).pos,4⟩,nm,out,rfl,rfl,rfl,rfl,g4,g5,hi,show(4:Int)≠0 by decide,rfl,rfl⟩
  |false =>
   change qD nm (hd (T.drop s.i)).text=false at hh
   rw[if_neg (by rw[hh];simp)] at hP;conv=>whnf
   by_cases h16:nm.length=16
   ·rw[if_pos h16] at hP;rw[jJ (show 16<=(nm.length:Int) by omega)];conv=>whnf
    refine zD 0 0 (cA:=wP T (s)) rfl rfl (Nat.zero_lt_succ _) rfl rfl (hfl 2).v (fun _ _ h=>h.elim) ?_;rintro c r ⟨rfl,rfl⟩;conv=>whnf
    refine zD 0 0 (cA:=wP T (⟨s.i,(qG T s).pos,2⟩)) rfl rfl (Nat.zero_lt_succ _) rfl rfl (hxe 2 (by decide)).v (fun _ _ h=>h.elim) ?_;rintro c r ⟨rfl,rfl⟩;conv=>whnf
    subst hP;refine⟨0,?_⟩;conv=>whnf
    exact⟨⟨s.i,(qG T s).pos,2⟩,nm,out,rfl,rfl,rfl,rfl,g4,g5,hi,show(2:Int)≠0 by decide,rfl,rfl⟩
   ·rw[if_neg h16] at hP;rw[jG (show ¬16<=(nm.length:Int) by omega)];conv=>whnf
    rw[jJ he];conv=>whnf
    refine zD 0 0 (cA:=wP T (s)) rfl rfl (Nat.zero_lt_succ _) rfl rfl (hnx).v (fun _ _ h=>h.elim) ?_;rintro c r ⟨rfl,rfl⟩;conv=>whnf
    refine⟨⟨by simp only;unfold maxLen;omega,by simp only;omega⟩,?_⟩;conv=>whnf
    apply cB
    ·conv=>whnf
     refine⟨?_,?_⟩
     ·conv=>whnf
      refine zD 0 0 (cA:=wP T (s)) rfl rfl (Nat.zero_lt_succ _) rfl rfl (hnx).v (fun _ _ h=>h.elim) ?_;rintro c r ⟨rfl,rfl⟩;conv=>whnf
      refine⟨⟨by simp only;unfold maxLen;omega,by simp only;omega⟩,?_⟩;conv=>whnf
      try rfl
     ·conv=>whnf
      refine zD 0 0 (cA:=wP T (s)) rfl rfl (Nat.zero_lt_succ _) rfl rfl (hnx).v (fun _ _ h=>h.elim) ?_;rintro c r ⟨rfl,rfl⟩;conv=>whnf
      refine⟨?_,?_⟩
      ·conv=>whnf
       refine⟨⟨by simp only;unfold maxLen;omega,by simp only;omega⟩,?_⟩;conv=>whnf
       try rfl
      ·conv=>whnf
       refine⟨⟨by simp only;unfold maxLen;omega,by simp only;omega⟩,?_⟩;conv=>whnf
       try rfl
    conv=>whnf
    refine zD 0 0 (cA:=wP T (s)) rfl rfl (Nat.zero_lt_succ _) rfl rfl (htk).v (fun _ _ h=>h.elim) ?_;rintro c r ⟨rfl,rfl⟩;conv=>whnf
    rw[<- hdn] at hP
    have hln1:(T.drop (xC T s).i).length+1=(T.drop s.i).length:=by
     have:s.i+1<T.length:=by
      rw[hst] at hi1;exact hi1
     rw[hst,List.length_drop,List.length_drop]
     simp only
     omega
    have hl2:nm.length+1<=16:=by omega
    have htt:(hd (T.drop s.i)).text=(qG T s).text:=rfl;rw[htt] at hP;clear hfl hxe hct hnx hnm htk;generalize htx:(qG T s).text=tx at *;generalize hs1:xC T s=s2 at *;have hnx:=xT hi1;have htk:=n8 hT hi1;have hxp:=qO hT hi1 jO;refine zD 0 0 (cA:=wP T (s2)) rfl rfl (Nat.zero_lt_succ _) rfl rfl (hnx).v (fun _ _ h=>h.elim) ?_;rintro c r ⟨rfl,rfl⟩;conv=>whnf
    unfold deH at hP;rw[zF hT hi1 (w:=jZ) (xQ (by decide)),zF hT hi1 (w:=jO) (xQ (by decide))] at hP;by_cases hc:(qG T s2).text=jZ
    ·rw[jJ (p:=(qG T s2).text=⟨_⟩) hc];rw[if_pos (jJ hc)] at hP;have hk2:=vC hT hi1 (w:=jZ) (xQ (by decide)) hc;have hdn2:=zH hT hi1 hk2;have he2:=(vB (T:=T) s2).1;have hi2:=nT hi1;have hst2:=bN hT hi1 hk2
     obtain⟨m,rfl⟩:∃m,n=m+1:=⟨n-1,by rw[List.length_drop] at hln1;omega⟩
     rw[jml,<- hdn2] at hP
     have hln2:(T.drop (xC T s2).i).length+1=(T.drop s2.i).length:=by
      rw[hst2] at hi2;rw[hst2,List.length_drop,List.length_drop]
      simp only at hi2 ⊢
      omega
     rw[he1] at he2;generalize xC T s2=s3 at *;conv=>whnf
     refine zD 0 0 (cA:=wP T (s2)) rfl rfl (Nat.zero_lt_succ _) rfl rfl (htk).v (fun _ _ h=>h.elim) ?_;rintro c r ⟨rfl,rfl⟩;conv=>whnf
     refine⟨(m,nm++[tx],out++[tx],s3),jF [0,1] ?_,⟨hi2,he2,by simp only;omega,by simp only[List.length_append,List.length_cons,List.length_nil];omega,by simp only[List.length_append,List.length_cons,List.length_nil];omega,hP⟩,by simp only[List.length_drop] at hln1 hln2 ⊢;omega⟩;conv=>whnf
     simp only[List.length_append,List.length_cons,List.length_nil,lR];repeat' constructor
    ·rw[jG (p:=(qG T s2).text=⟨_⟩) hc];rw[if_neg (by rw[jG hc];simp)] at hP;conv=>whnf
     refine zD 0 0 (cA:=wP T (s2)) rfl rfl (Nat.zero_lt_succ _) rfl rfl (hxp).v (fun _ _ h=>h.elim) ?_;rintro c r ⟨rfl,rfl⟩;conv=>whnf
     refine⟨0,?_⟩;conv=>whnf
     refine⟨bW T s2 jO,nm++[tx],out++[tx],rfl,by rw[List.length_append];rfl,by rw[lR];rfl,by rw[List.length_append,lR];rfl,by simp only[List.length_append,List.length_cons,List.length_nil];omega,by simp only[List.length_append,List.length_cons,List.length_nil];omega,vU hi1 _,?_⟩;subst hP;by_cases hs:(qG T s2).text=jO
     ·rw[if_pos (jJ hs)]
      have e1:bW T s2 jO=xC T s2:=by unfold bW;rw[if_pos he1,if_pos hs]
      rw[e1];exact⟨by rw[(vB s2).1];exact he1,rfl,rfl,zH hT hi1 (vC hT hi1 (xQ (by decide)) hs)⟩
     ·rw[if_neg (by rw[jG hs];simp)]
      have e1:bW T s2 jO=⟨s2.i,(qG T s2).pos,10⟩:=by unfold bW;rw[if_pos he1,if_neg hs]
      rw[e1];exact⟨show(10:Int)≠0 by decide,rfl,rfl⟩
end
section
variable{T:List Tk}
def jaV:List ByteArray:=[aB,wRequest,wTimer,wMessage]
def Dh(T:List Tk)(s':S6)(P:Ph)(k:Int):Prop:=s'.i<T.length/\match P with
 |.ok n r=>s'.e=0/\k=n/\T.drop s'.i=r
 |.bad x e=>e≠0/\s'.e=e/\s'.a=x
def stD(T:List Tk)(s:S6)(p:Int)(b:Bool):S6:=if s.e=0/\b=true then ⟨s.i,p,4⟩ else s
theorem jes{hs:List (Int×Nt)}{us:List Tk}{s:S6}{k:Int}(h:Dh T s (sH us) k):Dh T (stD T s (hd us).pos (hs.any fun h=>decide (h.1=k))) (t7 hs us) k:=by
 obtain⟨hi,h⟩:=h;unfold t7 stD
 cases hP:sH us with
 |ok n r =>
  rw[hP] at h;obtain⟨h1,rfl,h2⟩:=h
  simp only
  by_cases hd:(hs.any fun h=>decide (h.1=k))=true
  ·rw[if_pos hd,if_pos ⟨h1,hd⟩];exact⟨hi,show(4:Int)≠0 by decide,rfl,rfl⟩
  ·rw[if_neg hd,if_neg (fun h=>hd h.2)];exact⟨hi,h1,rfl,h2⟩
 |bad x e =>
  rw[hP] at h;obtain⟨h1,h2,h3⟩:=h;rw[if_neg (fun h=>h1 (h2.symm.trans h.1))];exact⟨hi,h1,h2,h3⟩
theorem jmo(hT:Ks T){s:S6}(hi:s.i<T.length)(h0:s.e=0)(m off:Int):Dh T (mU T s m) (iB (m+1) off (T.drop s.i)) (off+vaN T s m):=by
 refine⟨oJ hi m,?_⟩;unfold iB;have e0:hd (T.drop s.i)=qG T s:=rfl;rw[e0];by_cases hk:(qG T s).kind=2
 ·have hk':¬(qG T s).kind≠2:=fun h=>h hk
  rw[if_neg hk'];by_cases hm:m<(qG T s).n
  ·have e1:mU T s m=⟨s.i,(qG T s).pos,6⟩:=by unfold mU;rw[if_pos h0,if_neg hk',if_pos hm]
   rw[e1,if_pos (by omega)];exact⟨show(6:Int)≠0 by decide,rfl,rfl⟩
  ·have e1:mU T s m=xC T s:=by unfold mU;rw[if_pos h0,if_neg hk',if_neg hm]
   have e2:vaN T s m=(qG T s).n:=by unfold vaN;rw[if_pos ⟨h0,hk,by omega⟩]
   rw[e1,e2,if_neg (by omega)];exact⟨by rw[(vB s).1];exact h0,rfl,zH hT hi (by rw[hk];decide)⟩
 ·have e1:mU T s m=⟨s.i,(qG T s).pos,10⟩:=by unfold mU;rw[if_pos h0,if_pos hk]
  rw[e1,if_pos hk];exact⟨show(10:Int)≠0 by decide,rfl,rfl⟩
theorem jfi(hT:Ks T){s:S6}(hi:s.i<T.length){m:Int}(hm:0<=m):0<=vaN T s m/\vaN T s m<=m:=by
 unfold vaN;have:=(hT.p hi).good.2.2.2.1
 change 0<=(qG T s).n at this
 split
 ·omega
 ·omega
theorem r9{T:List Tk}{s:S6}{k0:Nat}{b c:Bool}:(if c=true then stF T (stD T s (hd (T.drop k0)).pos b) 4 k0 else stD T s (hd (T.drop k0)).pos b)=stD T s (hd (T.drop k0)).pos (b||c):=by
 unfold stF stD;by_cases h0:s.e=0
 ·cases b <;> cases c <;> simp[h0]
 ·cases b <;> cases c <;> simp[h0]
theorem p7(p:Int×Nt->Bool)(l:List (Int×Nt))(j:Nat)(h:j<l.length):(l.take (j+1)).any p=((l.take j).any p||p l[j]):=by
 rw[List.take_succ_eq_append_getElem h,List.any_append,List.any_cons,List.any_nil,Bool.or_false]
theorem jrS(hT:Ks T){s:S6}(hi:s.i<T.length)(h:qD jaV (qG T s).text=false):sH (T.drop s.i)=.bad (hd (T.drop s.i)).pos 10:=by
 have hn:∀w∈jaV,Ws6 w->¬q8 w (T.drop s.i)=true:=fun w hw h6 e=>by
  rw[zF hT hi h6] at e;have e2:qD jaV (qG T s).text=true:=List.any_eq_true.2 ⟨w,hw,jJ (of_decide_eq_true e).symm⟩;rw[h] at e2;cases e2
 unfold sH;rw[if_neg (hn aB (by simp[jaV]) (xQ (by decide))),if_neg (hn wRequest (by simp[jaV]) (xQ (by decide))),if_neg (hn wTimer (by simp[jaV]) (xQ (by decide))),if_neg (hn wMessage (by simp[jaV]) (xQ (by decide)))]
theorem jgW(hT:Ks T)(hs:List (Int×Nt))(hlen:hs.length<=1000000)(s0:S6)(hi0:s0.i<T.length)(h0:s0.e=0) :
  SpecU 18 (wP T s0) [.box 0 0,.sl 5 hs.length (kH hs)] fun c r=>∃s' k,c=wP T s'/\r=intA k/\0<=k/\k<=100/\Dh T s' (t7 hs (T.drop s0.i)) k:=fun y hy=>by
 have hnx:=xT hi0 y hy;have hta:=n8 hT hi0 y hy;have hhs:=xZ jaV (qG T s0).text (by decide)
 obtain⟨P,hP⟩:∃P,t7 hs (T.drop s0.i)=P:=⟨_,rfl⟩
 rw[hP];unfold t7 at hP;have hfl:=nY s0.i hi0 10 (s:=s0) y hy
 obtain⟨t,ht⟩:∃t,(qG T s0).text=t:=⟨_,rfl⟩
 rw[ht] at hnx hhs;refine eN jR (fun _=>[0]) 1 Tryz.func18 rfl ?_;intro _;conv=>whnf
 refine jT 0 [] hnx ?_;rintro o r ⟨c,ho,rfl,rfl⟩;cases ho;conv=>whnf
 (refine kL [0] hhs ?_;rintro r rfl;conv=>whnf)
 conv=>whnf
 cases hw:qD jaV t with
 |false =>
  unfold stF at hfl;rw[if_pos h0] at hfl;conv=>whnf
  refine jT 0 [] hfl ?_;rintro o r ⟨c,ho,rfl,rfl⟩;cases ho;conv=>whnf
  refine⟨_,rfl,⟨s0.i,(hd (T.drop s0.i)).pos,10⟩,0,rfl,rfl,by omega,by omega,hi0,?_⟩;rw[jrS hT hi0 (by rw[ht];exact hw)] at hP;subst hP;exact⟨show(10:Int)≠0 by decide,rfl,rfl⟩
 |true =>
  have hkd:(qG T s0).kind≠0:=by
   obtain⟨w,hw1,hw2⟩:=List.any_eq_true.1 hw;have hw2:=(of_decide_eq_true hw2).symm;refine vC hT hi0 (w:=w) ?_ (ht.trans hw2);simp only[jaV,List.mem_cons,List.not_mem_nil,or_false] at hw1
   rcases hw1 with e|e|e|e <;> rw[e] <;> exact xQ (by decide)
  conv=>whnf
  refine jT 0 [] hta ?_;rintro o r ⟨c,ho,rfl,rfl⟩;cases ho;conv=>whnf
  by_cases g1:t=aB
  ·have n1:¬t=wRequest:=fun e=>by rw[g1] at e;exact absurd e (by decide)
   have n2:¬t=wTimer:=fun e=>by rw[g1] at e;exact absurd e (by decide)
   have n3:¬t=wMessage:=fun e=>by rw[g1] at e;exact absurd e (by decide)
   rw[jG (p:=t=⟨_⟩) n1];conv=>whnf
   rw[jG (p:=t=⟨_⟩) n2];conv=>whnf
   rw[jG (p:=t=⟨_⟩) n3];conv=>whnf
   have hs1:Dh T (xC T s0) (sH (T.drop s0.i)) 0:=by
    unfold sH;rw[zF hT hi0 (w:=aB) (xQ (by decide)),if_pos (jJ (ht.trans g1))];exact⟨nT hi0,by rw[(vB s0).1];exact h0,rfl,zH hT hi0 hkd⟩
   refine nM [] ?_;conv=>whnf
   refine jC [0,1,5,7] ?_;conv=>whnf
   have hdh:=jes (hs:=hs) hs1;unfold t7 at hdh;rw[hP] at hdh;refine jI (fun x:Nat×S6=>[(8,.v (.int .i64 x.1))]) (fun x=>[wP T x.2++[.v y]]) (fun _=>[]) (fun x=>x.1<=hs.length/\x.2=stD T (xC T s0) (hd (T.drop s0.i)).pos ((hs.take x.1).any fun h=>decide (h.1=0))) (fun x=>hs.length-x.1) (0,xC T s0) ?_ ⟨Nat.zero_le _,by unfold stD;rw[if_neg (fun h=>by simp at h)]⟩ ?_
   ·repeat' constructor
   rintro⟨j,s2⟩ ⟨hj,hs2⟩
   simp only at hj hs2
   conv=>whnf
   by_cases hlt:j<hs.length
   ·rw[jJ (show(j:Int)<hs.length by omega)];have hrow:=gQ hs j hlt;have hst:=r9 (T:=T) (s:=xC T s0) (k0:=s0.i) (b:=(hs.take j).any fun h=>decide (h.1=0)) (c:=decide (hs[j].1=0));rw[<- p7 (fun h=>decide (h.1=0)) hs j hlt,<- hs2] at hst;generalize hs[j]=h at *;have hf4:=nY s0.i hi0 4 (s:=s2) y hy;conv=>whnf
    refine⟨by omega,?_⟩;conv=>whnf
    (generalize hrq:jD _ _ (kH hs)=rq;obtain rfl:rq=hnA h:=hrq.symm.trans (hrow);clear hrq;conv=>whnf)
    by_cases hk:h.1=0
    ·rw[jJ (show _=_ from hk)];rw[if_pos (jJ hk)] at hst;conv=>whnf
     refine jT 0 [] hf4 ?_;rintro o r ⟨c,ho,rfl,rfl⟩;cases ho;conv=>whnf
     refine⟨jH (by omega),?_⟩;conv=>whnf
     refine⟨(j+1,stF T s2 4 s0.i),jF [] ?_,⟨hlt,hst⟩,by simp only;omega⟩;conv=>whnf
     repeat' constructor
    ·rw[jG (show ¬_=_ from hk)];rw[if_neg (by rw[jG hk];simp)] at hst;conv=>whnf
     refine⟨jH (by omega),?_⟩;conv=>whnf
     refine⟨(j+1,s2),jF [] ?_,⟨hlt,hst⟩,by simp only;omega⟩;conv=>whnf
     repeat' constructor
   ·rw[jG (show ¬(j:Int)<hs.length by omega)];rw[show j=hs.length by omega,List.take_length] at hs2;rw[<- hs2] at hdh;conv=>whnf
    exact⟨_,rfl,s2,0,rfl,rfl,by omega,by omega,hdh⟩
  have h1:¬q8 aB (T.drop s0.i)=true:=by rw[zF hT hi0 (w:=aB) (xQ (by decide)),ht,jG g1];simp
  by_cases g2:t=wRequest
  ·have n2:¬t=wTimer:=fun e=>by rw[g2] at e;exact absurd e (by decide)
   have n3:¬t=wMessage:=fun e=>by rw[g2] at e;exact absurd e (by decide)
   rw[jJ (p:=t=⟨_⟩) g2];conv=>whnf
   rw[jG (p:=t=⟨_⟩) n2];conv=>whnf
   rw[jG (p:=t=⟨_⟩) n3];conv=>whnf
   have hs1:Dh T (xC T s0) (sH (T.drop s0.i)) 1:=by
    unfold sH;rw[if_neg h1,zF hT hi0 (w:=wRequest) (xQ (by decide)),if_pos (jJ (ht.trans g2))];exact⟨nT hi0,by rw[(vB s0).1];exact h0,rfl,zH hT hi0 hkd⟩
   refine nM [] ?_;conv=>whnf
   refine jC [0,1,5,7] ?_;conv=>whnf
   have hdh:=jes (hs:=hs) hs1;unfold t7 at hdh;rw[hP] at hdh;refine jI (fun x:Nat×S6=>[(8,.v (.int .i64 x.1))]) (fun x=>[wP T x.2++[.v y]]) (fun _=>[]) (fun x=>x.1<=hs.length/\x.2=stD T (xC T s0) (hd (T.drop s0.i)).pos ((hs.take x.1).any fun h=>decide (h.1=1))) (fun x=>hs.length-x.1) (0,xC T s0) ?_ ⟨Nat.zero_le _,by unfold stD;rw[if_neg (fun h=>by simp at h)]⟩ ?_
   ·repeat' constructor
   rintro⟨j,s2⟩ ⟨hj,hs2⟩
   simp only at hj hs2
   conv=>whnf
   by_cases hlt:j<hs.length
   ·rw[jJ (show(j:Int)<hs.length by omega)];have hrow:=gQ hs j hlt;have hst:=r9 (T:=T) (s:=xC T s0) (k0:=s0.i) (b:=(hs.take j).any fun h=>decide (h.1=1)) (c:=decide (hs[j].1=1));rw[<- p7 (fun h=>decide (h.1=1)) hs j hlt,<- hs2] at hst;generalize hs[j]=h at *;have hf4:=nY s0.i hi0 4 (s:=s2) y hy;conv=>whnf
    refine⟨by omega,?_⟩;conv=>whnf
    (generalize hrq:jD _ _ (kH hs)=rq;obtain rfl:rq=hnA h:=hrq.symm.trans (hrow);clear hrq;conv=>whnf)
    by_cases hk:h.1=1
    ·rw[jJ (show _=_ from hk)];rw[if_pos (jJ hk)] at hst;conv=>whnf
     refine jT 0 [] hf4 ?_;rintro o r ⟨c,ho,rfl,rfl⟩;cases ho;conv=>whnf
     refine⟨jH (by omega),?_⟩;conv=>whnf
     refine⟨(j+1,stF T s2 4 s0.i),jF [] ?_,⟨hlt,hst⟩,by simp only;omega⟩;conv=>whnf
     repeat' constructor
    ·rw[jG (show ¬_=_ from hk)];rw[if_neg (by rw[jG hk];simp)] at hst;conv=>whnf
     refine⟨jH (by omega),?_⟩;conv=>whnf
     refine⟨(j+1,s2),jF [] ?_,⟨hlt,hst⟩,by simp only;omega⟩;conv=>whnf
     repeat' constructor
   ·rw[jG (show ¬(j:Int)<hs.length by omega)];rw[show j=hs.length by omega,List.take_length] at hs2;rw[<- hs2] at hdh;conv=>whnf
    exact⟨_,rfl,s2,1,rfl,rfl,by omega,by omega,hdh⟩
  rw[jG (p:=t=⟨_⟩) g2];conv=>whnf
  have h2:¬q8 wRequest (T.drop s0.i)=true:=by rw[zF hT hi0 (w:=wRequest) (xQ (by decide)),ht,jG g2];simp
  have hi1:=nT hi0;by_cases g3:t=wTimer
  ·have n3:¬t=wMessage:=fun e=>by rw[g3] at e;exact absurd e (by decide)
   have hnx2:sH (T.drop s0.i)=iB 8 2 (T.drop s0.i).tail:=by
    unfold sH;rw[if_neg h1,if_neg h2,zF hT hi0 (w:=wTimer) (xQ (by decide)),if_pos (jJ (ht.trans g3))]
   rw[jJ (p:=t=⟨_⟩) g3];conv=>whnf
   refine jT 0 [] (jgX hT hi1 7 y hy) ?_;rintro o r ⟨c,ho,rfl,rfl⟩;cases ho;conv=>whnf
   refine⟨jH (by have:=jfi hT hi1 (m:=7) (by decide);omega),?_⟩;conv=>whnf
   have hvb:=jfi hT hi1 (m:=7) (by decide)
   have hs1:Dh T (mU T (xC T s0) 7) (sH (T.drop s0.i)) (2+vaN T (xC T s0) 7):=by
    have hd:=jmo hT hi1 (by rw[(vB s0).1];exact h0) 7 2;rw[zH hT hi0 hkd] at hd;rw[hnx2];exact hd
   generalize vaN T (xC T s0) 7=v at *;rw[jG (p:=t=⟨_⟩) n3];conv=>whnf
   refine nM [] ?_;conv=>whnf
   refine jC [0,1,5,7] ?_;conv=>whnf
   have hdh:=jes (hs:=hs) hs1;unfold t7 at hdh;rw[hP] at hdh;refine jI (fun x:Nat×S6=>[(8,.v (.int .i64 x.1))]) (fun x=>[wP T x.2++[.v y]]) (fun _=>[]) (fun x=>x.1<=hs.length/\x.2=stD T (mU T (xC T s0) 7) (hd (T.drop s0.i)).pos ((hs.take x.1).any fun h=>decide (h.1=(2+v)))) (fun x=>hs.length-x.1) (0,mU T (xC T s0) 7) ?_ ⟨Nat.zero_le _,by unfold stD;rw[if_neg (fun h=>by simp at h)]⟩ ?_
   ·repeat' constructor
   rintro⟨j,s2⟩ ⟨hj,hs2⟩
   simp only at hj hs2
   conv=>whnf
   by_cases hlt:j<hs.length
   ·rw[jJ (show(j:Int)<hs.length by omega)];have hrow:=gQ hs j hlt;have hst:=r9 (T:=T) (s:=mU T (xC T s0) 7) (k0:=s0.i) (b:=(hs.take j).any fun h=>decide (h.1=(2+v))) (c:=decide (hs[j].1=(2+v)));rw[<- p7 (fun h=>decide (h.1=(2+v))) hs j hlt,<- hs2] at hst;generalize hs[j]=h at *;have hf4:=nY s0.i hi0 4 (s:=s2) y hy;conv=>whnf
    refine⟨by omega,?_⟩;conv=>whnf
    (generalize hrq:jD _ _ (kH hs)=rq;obtain rfl:rq=hnA h:=hrq.symm.trans (hrow);clear hrq;conv=>whnf)
    by_cases hk:h.1=(2+v)
    ·rw[jJ (show _=_ from hk)];rw[if_pos (jJ hk)] at hst;conv=>whnf
     refine jT 0 [] hf4 ?_;rintro o r ⟨c,ho,rfl,rfl⟩;cases ho;conv=>whnf
     refine⟨jH (by omega),?_⟩;conv=>whnf
     refine⟨(j+1,stF T s2 4 s0.i),jF [] ?_,⟨hlt,hst⟩,by simp only;omega⟩;conv=>whnf
     repeat' constructor
    ·rw[jG (show ¬_=_ from hk)];rw[if_neg (by rw[jG hk];simp)] at hst;conv=>whnf
     refine⟨jH (by omega),?_⟩;conv=>whnf
     refine⟨(j+1,s2),jF [] ?_,⟨hlt,hst⟩,by simp only;omega⟩;conv=>whnf
     repeat' constructor
   ·rw[jG (show ¬(j:Int)<hs.length by omega)];rw[show j=hs.length by omega,List.take_length] at hs2;rw[<- hs2] at hdh;conv=>whnf
    exact⟨_,rfl,s2,(2+v),rfl,rfl,by omega,by omega,hdh⟩
  rw[jG (p:=t=⟨_⟩) g3];conv=>whnf
  have h3:¬q8 wTimer (T.drop s0.i)=true:=by rw[zF hT hi0 (w:=wTimer) (xQ (by decide)),ht,jG g3];simp
  clear g3
  have g3:t=wMessage:=by
   obtain⟨w,hw1,hw2⟩:=List.any_eq_true.1 hw;have hw2:=(of_decide_eq_true hw2).symm;simp only[jaV,List.mem_cons,List.not_mem_nil,or_false] at hw1
   rcases hw1 with e|e|e|e <;> rw[e] at hw2 <;> first|exact hw2|contradiction|skip
   exact absurd (by rw[zF hT hi0 (w:=wTimer) (xQ (by decide)),ht];exact jJ hw2) h3
  have hnx2:sH (T.drop s0.i)=iB 30 10 (T.drop s0.i).tail:=by
   unfold sH;rw[if_neg h1,if_neg h2,if_neg h3,zF hT hi0 (w:=wMessage) (xQ (by decide)),if_pos (jJ (ht.trans g3))]
  rw[jJ (p:=t=⟨_⟩) g3];conv=>whnf
  refine jT 0 [] (jgX hT hi1 29 y hy) ?_;rintro o r ⟨c,ho,rfl,rfl⟩;cases ho;conv=>whnf
  refine⟨jH (by have:=jfi hT hi1 (m:=29) (by decide);omega),?_⟩;conv=>whnf
  have hvb:=jfi hT hi1 (m:=29) (by decide)
  have hs1:Dh T (mU T (xC T s0) 29) (sH (T.drop s0.i)) (10+vaN T (xC T s0) 29):=by
   have hd:=jmo hT hi1 (by rw[(vB s0).1];exact h0) 29 10;rw[zH hT hi0 hkd] at hd;rw[hnx2];exact hd
  generalize vaN T (xC T s0) 29=v at *;refine nM [] ?_;conv=>whnf
  refine jC [0,1,5,7] ?_;conv=>whnf
  have hdh:=jes (hs:=hs) hs1;unfold t7 at hdh;rw[hP] at hdh;refine jI (fun x:Nat×S6=>[(8,.v (.int .i64 x.1))]) (fun x=>[wP T x.2++[.v y]]) (fun _=>[]) (fun x=>x.1<=hs.length/\x.2=stD T (mU T (xC T s0) 29) (hd (T.drop s0.i)).pos ((hs.take x.1).any fun h=>decide (h.1=(10+v)))) (fun x=>hs.length-x.1) (0,mU T (xC T s0) 29) ?_ ⟨Nat.zero_le _,by unfold stD;rw[if_neg (fun h=>by simp at h)]⟩ ?_
  ·repeat' constructor
  rintro⟨j,s2⟩ ⟨hj,hs2⟩
  simp only at hj hs2
  conv=>whnf
  by_cases hlt:j<hs.length
  ·rw[jJ (show(j:Int)<hs.length by omega)];have hrow:=gQ hs j hlt;have hst:=r9 (T:=T) (s:=mU T (xC T s0) 29) (k0:=s0.i) (b:=(hs.take j).any fun h=>decide (h.1=(10+v))) (c:=decide (hs[j].1=(10+v)));rw[<- p7 (fun h=>decide (h.1=(10+v))) hs j hlt,<- hs2] at hst;generalize hs[j]=h at *;have hf4:=nY s0.i hi0 4 (s:=s2) y hy;conv=>whnf
   refine⟨by omega,?_⟩;conv=>whnf
   (generalize hrq:jD _ _ (kH hs)=rq;obtain rfl:rq=hnA h:=hrq.symm.trans (hrow);clear hrq;conv=>whnf)
   by_cases hk:h.1=(10+v)
   ·rw[jJ (show _=_ from hk)];rw[if_pos (jJ hk)] at hst;conv=>whnf
    refine jT 0 [] hf4 ?_;rintro o r ⟨c,ho,rfl,rfl⟩;cases ho;conv=>whnf
    refine⟨jH (by omega),?_⟩;conv=>whnf
    refine⟨(j+1,stF T s2 4 s0.i),jF [] ?_,⟨hlt,hst⟩,by simp only;omega⟩;conv=>whnf
    repeat' constructor
   ·rw[jG (show ¬_=_ from hk)];rw[if_neg (by rw[jG hk];simp)] at hst;conv=>whnf
    refine⟨jH (by omega),?_⟩;conv=>whnf
    refine⟨(j+1,s2),jF [] ?_,⟨hlt,hst⟩,by simp only;omega⟩;conv=>whnf
    repeat' constructor
  ·rw[jG (show ¬(j:Int)<hs.length by omega)];rw[show j=hs.length by omega,List.take_length] at hs2;rw[<- hs2] at hdh;conv=>whnf
   exact⟨_,rfl,s2,(10+v),rfl,rfl,by omega,by omega,hdh⟩
end
theorem jpj(h:Int×Nt)(l:List (Int×Nt))(j:Nat)(hj:j<l.length)(hlt:l[j].1<h.1)(e:nJ h l=l.take j++nJ h (l.drop j)):nJ h l=l.take (j+1)++nJ h (l.drop (j+1)):=by
 rw[e,List.drop_eq_getElem_cons hj,List.take_succ_eq_append_getElem hj,List.append_assoc]
 congr 1
 rw[nJ,if_neg (by omega)];rfl
theorem jgf(h:Int×Nt)(l:List (Int×Nt))(j:Nat)(hs:∀hj:j<l.length,¬l[j].1<h.1)(e:nJ h l=l.take j++nJ h (l.drop j)):nJ h l=l.take j++[h]++l.drop j:=by
 rw[e,List.append_assoc]
 congr 1
 by_cases hj:j<l.length
 ·rw[List.drop_eq_getElem_cons hj,nJ,if_pos (by have:=hs hj;omega)];rfl
 ·rw[List.drop_of_length_le (by omega)];rfl
theorem jaW(l m:List (Int×Nt)):kH (l++m)=kH l++kH m:=by unfold kH;rw[List.flatMap_append]
theorem jcZ(l:List (Int×Nt))(j:Nat):((kH l).drop (j*5)).take ((l.drop j).length*5)=kH (l.drop j):=by
 have e:kH l=kH (l.take j)++kH (l.drop j):=by rw[<- jaW,List.take_append_drop]
 by_cases hj:j<=l.length
 ·rw[e,List.drop_left' (by rw[jga,List.length_take];omega),List.take_of_length_le (by rw[jga];exact Nat.le_refl _)]
 ·rw[List.drop_of_length_le (show l.length<=j by omega),List.length_nil,Nat.zero_mul,List.take_zero,nI]
theorem jul(l:List (Int×Nt))(h:Int×Nt)(hlen:l.length<=1000000):Spec Tryz.prog 20 [] [.sl 5 l.length (kH l),.agg (hnA h)] fun _ r=>r=.sl 5 (nJ h l).length (kH (nJ h l)):=by
 refine eN jtY qB 0 Tryz.func20 rfl ?_;intro _;conv=>whnf
 refine qU 47 5 [5] [] ?_;conv=>whnf
 refine⟨trivial,?_⟩;conv=>whnf
 refine jC [0,3,5] ?_;conv=>whnf
 refine jI (fun j:Nat=>[(6,.v (.int .i64 j))]) (fun j=>[hnA h]) (fun j=>[.live 47 5 (l.take j).length (kH (l.take j))]) (fun j=>j<=l.length/\nJ h l=l.take j++nJ h (l.drop j)) (fun j=>l.length-j) 0 ?_ ⟨Nat.zero_le _,rfl⟩ ?_
 ·repeat' constructor
  show Row.live _ _ _ _=Row.live _ 5 0 (kH []);rw[nI]
 rintro j ⟨hj,hin⟩;conv=>whnf
 by_cases hlt:j<l.length
 ·rw[jJ (show(j:Int)<l.length by omega)];have hrow:=gQ l j hlt;have hnext:=jpj h l j hlt
  have hstop:=fun(k:¬l[j].1<h.1)=>jgf h l j (fun _=>k) hin
  have htk:l.take (j+1)=l.take j++[l[j]]:=List.take_succ_eq_append_getElem hlt;generalize l[j]=g at *;conv=>whnf
  refine⟨by omega,?_⟩;conv=>whnf
  (generalize hrq:jD _ _ (kH l)=rq;obtain rfl:rq=hnA g:=hrq.symm.trans (hrow);clear hrq;conv=>whnf)
  by_cases hg:g.1<h.1
  ·rw[jJ (show _<_ from hg)];conv=>whnf
   refine⟨by omega,?_⟩;conv=>whnf
   (generalize hrq:jD _ _ (kH l)=rq;obtain rfl:rq=hnA g:=hrq.symm.trans (hrow);clear hrq;conv=>whnf)
   refine⟨⟨by rw[List.length_take];unfold maxLen;omega,by rw[List.length_take];omega⟩,?_⟩;conv=>whnf
   refine⟨jH (by omega),?_⟩;conv=>whnf
   refine⟨j+1,jF [0] ?_,⟨hlt,hnext hg hin⟩,by omega⟩;conv=>whnf
   rw[htk];repeat' constructor
   show Row.live _ 5 _ _=Row.live _ 5 (l.take j++[g]).length (kH (l.take j++[g]));rw[dG,List.length_append];rfl
  ·rw[jG (show ¬_<_ from hg)];conv=>whnf
   refine⟨⟨by rw[List.length_take];unfold maxLen;omega,by rw[List.length_take];omega⟩,?_⟩;conv=>whnf
   refine⟨by omega,?_⟩;conv=>whnf
   refine⟨⟨by rw[List.length_take];unfold maxLen;omega,by rw[List.length_take];omega⟩,?_⟩;conv=>whnf
   have hres:=hstop hg
   have e0:(((l.length:Int).toNat-(j:Int).toNat):Nat)=(l.drop j).length:=by rw[List.length_drop];omega
   rw[e0,show(j:Int).toNat=j by omega,jcZ,hres];show A.sl 5 _ (kH (l.take j)++hnA h++_)=_;rw[jaW,dG,List.length_append,List.length_append];rfl
 ·rw[jG (show ¬(j:Int)<l.length by omega)];have hstop:=jgf h l j (fun k=>absurd k hlt) hin;conv=>whnf
  refine⟨⟨by rw[List.length_take];unfold maxLen;omega,by rw[List.length_take];omega⟩,?_⟩;conv=>whnf
  refine⟨by omega,?_⟩;conv=>whnf
  refine⟨⟨by rw[List.length_take];unfold maxLen;omega,by rw[List.length_take];omega⟩,?_⟩;conv=>whnf
  have hres:=hstop
  have e0:(((l.length:Int).toNat-(j:Int).toNat):Nat)=(l.drop j).length:=by rw[List.length_drop];omega
  rw[e0,show(j:Int).toNat=j by omega,jcZ,hres];show A.sl 5 _ (kH (l.take j)++hnA h++_)=_;rw[jaW,dG,List.length_append,List.length_append];rfl
theorem jjP:∀{l:List (Int×Nt)},(l.map (·.1)).Nodup->∀a∈l,∀b∈l,a.1=b.1->a=b
 |x::l,h,a,ha,b,hb,e=>by
  rw[List.map_cons,List.nodup_cons] at h;rcases List.mem_cons.1 ha with rfl|ha'
  ·rcases List.mem_cons.1 hb with rfl|hb'
   ·rfl
   ·exact absurd (List.mem_map.2 ⟨b,hb',e.symm⟩) h.1
  ·rcases List.mem_cons.1 hb with rfl|hb'
   ·exact absurd (List.mem_map.2 ⟨a,ha',e⟩) h.1
   ·exact jjP h.2 a ha' b hb' e
theorem jbJ{hs:List (Int×Nt)}{h:Int×Nt}(hn:((hs++[h]).map (·.1)).Nodup):nJ h (vS hs)=vS (hs++[h]):=by
 have p1:(nJ h (vS hs)).Perm (hs++[h]):=(aX h _).trans (((wX hs).cons h).trans (List.perm_append_comm (l₁:=[h]) (l₂:=hs)));have p2:=wX (hs++[h]);refine List.Perm.eq_of_pairwise (le:=fun a b=>a.1<=b.1) (fun a b ha hb h1 h2=>?_) (iV h _ (aT hs)) (aT _) (p1.trans p2.symm);exact jjP hn a (p1.mem_iff.1 ha) b (p2.mem_iff.1 hb) (Int.le_antisymm h1 h2)
theorem jg9{l m:List (Int×Nt)}(h:l.Perm m)(ts:List Tk):t7 l ts=t7 m ts:=by
 unfold t7
 cases sH ts with
 |bad x e=>rfl
 |ok k r =>
  simp only
  have:(l.any fun h=>decide (h.1=k))=(m.any fun h=>decide (h.1=k)):=by
   rw[Bool.eq_iff_iff,List.any_eq_true,List.any_eq_true];exact⟨fun ⟨x,h1,h2⟩=>⟨x,h.mem_iff.1 h1,h2⟩,fun ⟨x,h1,h2⟩=>⟨x,h.mem_iff.2 h1,h2⟩⟩
  rw[this]
def juY(id:Nat):List Nat:=match Nat.beq id 19 with
 |true=>[0]
 |false=>match Nat.beq id 12 with
  |true=>[]
  |false=>[1]
def juh(id:Nat):Tr:=match Nat.beq id 10||Nat.beq id 11 with
 |true=>.q 0 3 (.q 2 3 (.alt 1 2 (.alt 3 2 (.alt 4 2 (.q 5 3 (.alt 6 2 .nil .nil)) .nil) .nil) (.alt 3 2 (.alt 1 2 (.alt 4 2 (.q 5 3 (.alt 6 2 .nil .nil)) .nil) .nil) .nil)))
 |false=>juR id
theorem jjK{T:List Tk}(hT:Ks T){du vo:List ByteArray}{m:Nat}{hs:List (Int×Nt)}{s3 s4 s5:S6}(hi:s3.i<T.length){k:Int}{b:Nt}{R:PU}(hdh:Dh T s4 (t7 hs (T.drop s3.i)) k)(hq:Dq T s4 s5 ((pa 19).bl (T.drop s4.i)) b)
  (hP:(match t7 hs (T.drop s3.i) with
   |.bad x e=>.bad x e
   |.ok k r=>match (pa 19).bl r with
    |.bad x e=>.bad x e
    |.ok b r=>o5 du vo m (hs++[(k,b)]) r)=R) :
  (s5.e=0->(T.drop s5.i).length+1<=(T.drop s3.i).length/\(∀p∈hs,k≠p.1)/\o5 du vo m (hs++[(k,b)]) (T.drop s5.i)=R)/\(s5.e≠0->R=.bad s5.a s5.e):=by
 obtain⟨h1,h2⟩:=hdh;obtain⟨h3,h4,h5⟩:=hq
 cases hh:t7 hs (T.drop s3.i) with
 |bad x e =>
  rw[hh] at h2 hP;obtain⟨q1,q2,q3⟩:=h2;obtain⟨q4,q5⟩:=h4 (by rw[q2];exact q1);refine⟨fun h=>absurd (q2.symm.trans (q5.symm.trans h)) q1,fun _=>?_⟩;rw[q4,q5,q2,q3];exact hP.symm
 |ok k2 r =>
  rw[hh] at h2 hP;obtain⟨q1,rfl,rfl⟩:=h2;obtain⟨y1,y2,y3⟩:=jif (hT.p hi) hh;have h5:=h5 q1
  simp only at hP
  cases hb:(pa 19).bl (T.drop s4.i) with
  |bad x e =>
   rw[hb] at h5 hP;obtain⟨q4,q5,q6⟩:=h5;refine⟨fun h=>absurd (q5.symm.trans h) q4,fun _=>?_⟩;rw[q5,q6];exact hP.symm
  |ok b2 r2 =>
   rw[hb] at h5 hP;obtain⟨q4,q5,rfl,rfl⟩:=h5;obtain⟨y4,y5⟩:=iL _ _ _ y2 hb;exact⟨fun _=>⟨by omega,y1,hP⟩,fun h=>absurd q4 h⟩
theorem uY{T:List Tk}(hT:Ks T){s1 s2:S6}(hi:s1.i<T.length)(hk:(qG T s1).kind≠0){nm nm2 out:List ByteArray}(g1:nm.length<=16){F:List ByteArray->List ByteArray->List Tk->PU}{R:PU}
  (k:match gG (T.drop s1.i).length nm [] (T.drop s1.i) with
   |.ok n o r=>s2.e=0/\nm2=n/\out=o/\T.drop s2.i=r
   |.bad x e=>e≠0/\s2.e=e/\s2.a=x)
  (hP:(match gG (T.drop s1.i).length nm [] (T.drop s1.i) with
   |.bad x e=>.bad x e
   |.ok n o r=>F n o r)=R) :
  (s2.e=0->(T.drop s2.i).length+1<=(T.drop s1.i).length/\F nm2 out (T.drop s2.i)=R)/\(s2.e≠0->R=.bad s2.a s2.e):=by
 cases hd:gG (T.drop s1.i).length nm [] (T.drop s1.i) with
 |ok n o r =>
  rw[hd] at k hP;obtain⟨q1,rfl,rfl,rfl⟩:=k;exact⟨fun _=>⟨(xX _ _ _ _ _ _ _ (hT.p hi) hk g1 hd).2.1,hP⟩,fun h=>absurd q1 h⟩
 |bad x e =>
  rw[hd] at k hP;obtain⟨q1,q2,q3⟩:=k;refine⟨fun h=>absurd (q2.symm.trans h) q1,fun _=>?_⟩;rw[q2,q3];exact hP.symm
theorem jiT(s:ByteArray)(hs:s.size<=1000000000):Spec Tryz.prog 4 [] [jX s] fun _ r=>r=jk9 (eA s):=by
 obtain⟨R,hR⟩:∃R,eA s=R:=⟨_,rfl⟩
 rw[hR];have htk:=jf6 s hs;refine eN juh juY 0 Tryz.func4 rfl ?_;intro _;conv=>whnf
 unfold eA at hR;by_cases hbig:3000<s.size
 ·rw[if_pos hbig] at hR;rw[jJ (by omega)];conv=>whnf
  subst hR;rfl
 rw[if_neg hbig] at hR;rw[jG (by omega)];conv=>whnf
 refine kL [] htk ?_;rintro r rfl
 have htb:=fun h=>jkf (s:=s) (by omega) h
 have hk6:=fun h=>jnI (s:=s) h
 unfold s7
 cases herr:(qM s).err with
 |some pe =>
  obtain⟨p,e⟩:=pe;rw[herr] at hR
  simp only at hR
  have hne:=(gZ (s.data.toList.length+1) 0 s.data.toList).2 p e herr;conv=>whnf
  rw[jG hne.2.1];conv=>whnf
  subst hR;rfl
 |none =>
  rw[herr] at hR
  simp only at hR
  have htb:=htb herr;have hk6:=hk6 herr;have hrl:=gR herr;rw[<- hrl]
  have hln:(qM s).toks.length+1=(iD s).length:=by rw[hrl];simp
  rw[hln];generalize iD s=T at *
  have hT:Ks T:=⟨hk6,htb.1.2,htb.1.1⟩
  conv=>whnf
  refine qU 9 1 [] [(1,4)] ?_;conv=>whnf
  refine⟨trivial,?_⟩;conv=>whnf
  refine qU 9 1 [] [(2,0)] ?_;conv=>whnf
  refine⟨trivial,?_⟩;conv=>whnf
  refine qU 9 1 [] [(2,1)] ?_;conv=>whnf
  refine⟨trivial,?_⟩;conv=>whnf
  refine jC [2,8,9] ?_;conv=>whnf
  refine jI (fun x:Nat×List ByteArray×List ByteArray×List ByteArray×S6=>[]) (fun x=>[cK,wP T x.2.2.2.2++[.own 0],[.own 1,.own 2,.v (.slice none 0 0)]]) (fun x=>[.live 9 1 x.2.1.length (gB x.2.1),.live 9 1 x.2.2.1.length (gB x.2.2.1),.live 9 1 x.2.2.2.1.length (gB x.2.2.2.1)])
   (fun x=>x.2.2.2.2.i<T.length/\x.2.1.length<=16/\x.2.2.1.length+x.2.2.2.1.length<=x.2.1.length/\(x.2.2.2.2.e=0->(T.drop x.2.2.2.2.i).length+1<=x.1/\sP x.1 x.2.1 x.2.2.1 x.2.2.2.1 (T.drop x.2.2.2.2.i)=R)/\(x.2.2.2.2.e≠0->R=.bad x.2.2.2.2.a x.2.2.2.2.e)) (fun x=>if x.2.2.2.2.e=0 then(T.drop x.2.2.2.2.i).length+1 else 0) (T.length+1,[],[],[],⟨0,0,0⟩) ?_ ⟨htb.pos,Nat.zero_le _,Nat.le_refl _,fun _=>⟨Nat.le_refl _,hR⟩,fun h=>absurd rfl h⟩ ?_
  ·repeat' constructor
  clear hR htk hrl hln herr hbig;rintro⟨n,nm,du,vo,s1⟩ ⟨hi,g1,g2,g3,g4⟩
  simp only at hi g1 g2 g3 g4
  have hnx:=xT hi;conv=>whnf
  by_cases h0:s1.e=0
  ·rw[jJ h0];obtain⟨hn,hP⟩:=g3 h0
   obtain⟨m,rfl⟩:∃m,n=m+1:=⟨n-1,by omega⟩
   rw[sP,zF hT hi (w:=xL) (xQ (by decide)),zF hT hi (w:=vE) (xQ (by decide))] at hP
   have hde:=fun k=>juk hT nm s1 hi h0 k g1
   conv=>whnf
   refine zD 1 0 (cA:=wP T (s1)) rfl rfl (Nat.zero_lt_succ _) rfl rfl (hnx).v (fun _ _ h=>h.elim) ?_;rintro c r ⟨rfl,rfl⟩;conv=>whnf
   by_cases q1:(qG T s1).text=xL
   ·rw[jJ (p:=(qG T s1).text=⟨_⟩) q1];rw[if_pos (jJ q1)] at hP;have hkd:=vC hT hi (w:=xL) (xQ (by decide)) q1;have hde:=hde hkd;conv=>whnf
    refine zD 1 0 (cA:=wP T (s1)) rfl rfl (Nat.zero_lt_succ _) rfl rfl (hnx).v (fun _ _ h=>h.elim) ?_;rintro c r ⟨rfl,rfl⟩;conv=>whnf
    rw[jJ (p:=(qG T s1).text=⟨_⟩) q1];conv=>whnf
    unfold fU;refine⟨_,?_,fun _ h=>h⟩;conv=>whnf
    refine⟨?_,?_⟩
    ·conv=>whnf
     refine qJ 1 0 3 [] rfl rfl rfl rfl rfl rfl rfl (fun _=>hde) (fun ch bx' hp _ _=>hp.elim) ?_;rintro o n' cs' r ⟨s2,nm2,out,ho,rfl,rfl,rfl,k1,k2,k3,k4⟩;cases ho;conv=>whnf
     obtain⟨z1,z2⟩:=uY hT hi hkd g1 k4 hP;refine⟨⟨by simp only;unfold maxLen;omega,by simp only;omega⟩,?_⟩;conv=>whnf
     refine⟨(m,nm2,du++out,vo,s2),jF [3,1,2] ?_,⟨k3,k1,by simp only[List.length_append];omega,fun e=>⟨by simp only;have:=(z1 e).1;omega,(z1 e).2⟩,z2⟩,?_⟩
     ·conv=>whnf
      simp only[List.length_append,cJ];repeat' constructor
     ·simp only
      rw[if_pos h0];by_cases e2:s2.e=0
      ·rw[if_pos e2];have:=(z1 e2).1;omega
      ·rw[if_neg e2];omega
    ·conv=>whnf
     refine qJ 1 0 3 [] rfl rfl rfl rfl rfl rfl rfl (fun _=>hde) (fun ch bx' hp _ _=>hp.elim) ?_;rintro o n' cs' r ⟨s2,nm2,out,ho,rfl,rfl,rfl,k1,k2,k3,k4⟩;cases ho;conv=>whnf
     obtain⟨z1,z2⟩:=uY hT hi hkd g1 k4 hP;refine⟨⟨by simp only;unfold maxLen;omega,by simp only;omega⟩,?_⟩;conv=>whnf
     refine⟨(m,nm2,du++out,vo,s2),jF [3,1,2] ?_,⟨k3,k1,by simp only[List.length_append];omega,fun e=>⟨by simp only;have:=(z1 e).1;omega,(z1 e).2⟩,z2⟩,?_⟩
     ·conv=>whnf
      simp only[List.length_append,cJ];repeat' constructor
     ·simp only
      rw[if_pos h0];by_cases e2:s2.e=0
      ·rw[if_pos e2];have:=(z1 e2).1;omega
      ·rw[if_neg e2];omega
   ·rw[jG (p:=(qG T s1).text=⟨_⟩) q1];rw[if_neg (by rw[jG q1];simp)] at hP;conv=>whnf
    refine zD 1 0 (cA:=wP T (s1)) rfl rfl (Nat.zero_lt_succ _) rfl rfl (hnx).v (fun _ _ h=>h.elim) ?_;rintro c r ⟨rfl,rfl⟩;conv=>whnf
    by_cases q2:(qG T s1).text=vE
    ·rw[jJ (p:=(qG T s1).text=⟨_⟩) q2];rw[if_pos (jJ q2)] at hP;have hkd:=vC hT hi (w:=vE) (xQ (by decide)) q2;have hde:=hde hkd;conv=>whnf
     refine zD 1 0 (cA:=wP T (s1)) rfl rfl (Nat.zero_lt_succ _) rfl rfl (hnx).v (fun _ _ h=>h.elim) ?_;rintro c r ⟨rfl,rfl⟩;conv=>whnf
     rw[jG (p:=(qG T s1).text=⟨_⟩) q1];conv=>whnf
     unfold fU;refine⟨_,?_,fun _ h=>h⟩;conv=>whnf
     refine⟨?_,?_⟩
     ·conv=>whnf
      refine qJ 1 0 3 [] rfl rfl rfl rfl rfl rfl rfl (fun _=>hde) (fun ch bx' hp _ _=>hp.elim) ?_;rintro o n' cs' r ⟨s2,nm2,out,ho,rfl,rfl,rfl,k1,k2,k3,k4⟩;cases ho;conv=>whnf
      obtain⟨z1,z2⟩:=uY hT hi hkd g1 k4 hP;refine⟨⟨by simp only;unfold maxLen;omega,by simp only;omega⟩,?_⟩;conv=>whnf
      refine⟨(m,nm2,du,vo++out,s2),jF [3,1,2] ?_,⟨k3,k1,by simp only[List.length_append];omega,fun e=>⟨by simp only;have:=(z1 e).1;omega,(z1 e).2⟩,z2⟩,?_⟩
      ·conv=>whnf
       simp only[List.length_append,cJ];repeat' constructor
      ·simp only
       rw[if_pos h0];by_cases e2:s2.e=0
       ·rw[if_pos e2];have:=(z1 e2).1;omega
       ·rw[if_neg e2];omega
     ·conv=>whnf
      refine qJ 1 0 3 [] rfl rfl rfl rfl rfl rfl rfl (fun _=>hde) (fun ch bx' hp _ _=>hp.elim) ?_;rintro o n' cs' r ⟨s2,nm2,out,ho,rfl,rfl,rfl,k1,k2,k3,k4⟩;cases ho;conv=>whnf
      obtain⟨z1,z2⟩:=uY hT hi hkd g1 k4 hP;refine⟨⟨by simp only;unfold maxLen;omega,by simp only;omega⟩,?_⟩;conv=>whnf
      refine⟨(m,nm2,du,vo++out,s2),jF [3,1,2] ?_,⟨k3,k1,by simp only[List.length_append];omega,fun e=>⟨by simp only;have:=(z1 e).1;omega,(z1 e).2⟩,z2⟩,?_⟩
      ·conv=>whnf
       simp only[List.length_append,cJ];repeat' constructor
      ·simp only
       rw[if_pos h0];by_cases e2:s2.e=0
       ·rw[if_pos e2];have:=(z1 e2).1;omega
       ·rw[if_neg e2];omega
    ·rw[jG (p:=(qG T s1).text=⟨_⟩) q2];rw[if_neg (by rw[jG q2];simp)] at hP;conv=>whnf
     clear g3;refine qU 47 5 [] [(2,2)] ?_;conv=>whnf
     refine⟨trivial,?_⟩;conv=>whnf
     refine nL [3] ?_;conv=>whnf
     refine nM [0,1,2] ?_;conv=>whnf
     refine jC [2,8,9] ?_;conv=>whnf
     refine jI (fun x:Nat×List (Int×Nt)×List (Int×Nt)×S6=>[]) (fun x=>[cK,wP T x.2.2.2++[.own 0],[.own 1,.own 2,.sl 5 x.2.2.1.length (kH x.2.2.1)]]) (fun x=>[.live 9 1 nm.length (gB nm),.live 9 1 du.length (gB du),.live 9 1 vo.length (gB vo)])
      (fun x=>x.2.2.2.i<T.length/\x.2.2.1.length<=1000000/\(x.2.2.2.e=0->(T.drop x.2.2.2.i).length+1<=x.1/\(x.2.1.map (·.1)).Nodup/\x.2.2.1=vS x.2.1/\x.2.1.length+(T.drop x.2.2.2.i).length<=1000000/\o5 du vo x.1 x.2.1 (T.drop x.2.2.2.i)=R)/\(x.2.2.2.e≠0->R=.bad x.2.2.2.a x.2.2.2.e)) (fun x=>if x.2.2.2.e=0 then(T.drop x.2.2.2.i).length+1 else 0) ((T.drop s1.i).length+1,[],[],s1) ?_ ⟨hi,Nat.zero_le _,fun _=>⟨Nat.le_refl _,List.nodup_nil,rfl,by simp only[List.length_nil,List.length_drop];have:=hT.n;omega,hP⟩,g4⟩ ?_
     ·repeat' constructor
      show A.sl _ _ _=A.sl 5 0 (kH []);rw[nI]
     clear g4;rintro⟨n,hs,L,s2⟩ ⟨hi,g3,g4,g5⟩
     simp only at hi g3 g4 g5
     conv=>whnf
     by_cases h0:s2.e=0
     ·rw[jJ h0];obtain⟨hn,gnd,gL,g6,hP⟩:=g4 h0
      obtain⟨m,rfl⟩:∃m,n=m+1:=⟨n-1,by omega⟩
      rw[u4] at hP;have hrow:=xV T s2.i hi;have htx0:hd (T.drop s2.i)=qG T s2:=rfl;rw[htx0] at hP hrow;conv=>whnf
      (refine iA ?_;try with_reducible exact trivial)
      (generalize hrq:jD _ _ (z8 T)=rq;obtain rfl:rq=cR (qG T s2):=hrq.symm.trans (hrow);clear hrq;conv=>whnf)
      by_cases hk:(qG T s2).kind=0
      ·rw[jJ hk];rw[if_pos hk] at hP;conv=>whnf
       rw[jJ h0];conv=>whnf
       subst hP;rw[gL];rfl
      ·rw[jG hk];rw[if_neg hk,zF hT hi (w:=wOn) (xQ (by decide))] at hP;have hx:=qO hT hi wOn;by_cases hon:(qG T s2).text=wOn
       ·rw[if_neg (by rw[jJ hon];simp),<- zH hT hi hk] at hP
        have e1:bW T s2 wOn=xC T s2:=by unfold bW;rw[if_pos h0,if_pos hon]
        rw[e1] at hx;have hi3:=nT hi
        have he3:(xC T s2).e=0:=by rw[(vB s2).1];exact h0
        have hl3:(T.drop (xC T s2).i).length+1=(T.drop s2.i).length:=by
         have e2:=bN hT hi hk;rw[e2] at hi3;rw[e2,List.length_drop,List.length_drop]
         simp only at hi3 ⊢
         omega
        clear e1;generalize xC T s2=s3 at *;have hha:=jgW hT L g3 s3 hi3 he3;rw[jg9 (show L.Perm hs by rw[gL];exact wX hs)] at hha;conv=>whnf
        refine zD 1 0 (cA:=wP T (s2)) rfl rfl (Nat.zero_lt_succ _) rfl rfl (hx).v (fun _ _ h=>h.elim) ?_;rintro c r ⟨rfl,rfl⟩;conv=>whnf
        rw[jJ he3];conv=>whnf
        refine zD 1 0 (cA:=wP T s3) rfl rfl (Nat.zero_lt_succ _) rfl rfl hha.v (fun _ _ h=>h.elim) ?_;rintro c r ⟨s4,k,rfl,rfl,hk0,hk1,hdh⟩;conv=>whnf
        refine zD 1 0 (cA:=wP T s4) rfl rfl (Nat.zero_lt_succ _) rfl rfl (jka hT s4 hdh.1).v (fun _ _ h=>h.elim) ?_;rintro c r ⟨s5,b,hq,rfl,rfl⟩;conv=>whnf
        refine kL [] (jul L (k,b) g3) ?_;rintro r rfl;conv=>whnf
        obtain⟨z1,z2⟩:=jjK hT hi3 hdh hq hP;refine⟨(m,hs++[(k,b)],nJ (k,b) L,s5),jF [0,1,2] ?_,⟨hq.1,?_,fun e=>?_,z2⟩,?_⟩
        ·conv=>whnf
         repeat' constructor
        ·simp only
         rw[(aX (k,b) L).length_eq,gL,List.length_cons,(wX hs).length_eq]
         have:0<(T.drop s2.i).length:=by rw[List.length_drop];omega
         omega
        ·obtain⟨y1,y2,y3⟩:=z1 e
         have hnd:((hs++[(k,b)]).map (·.1)).Nodup:=by
          rw[List.map_append,List.nodup_append];refine⟨gnd,by simp,fun a ha c hc e=>?_⟩;simp at hc;subst hc;obtain⟨q,hq,rfl⟩:=List.mem_map.1 ha;exact y2 q hq e.symm
         refine⟨by simp only;omega,hnd,by simp only;rw[gL];exact jbJ hnd,by simp only[List.length_append,List.length_cons,List.length_nil];omega,y3⟩
        ·simp only
         rw[if_pos h0];by_cases e2:s5.e=0
         ·rw[if_pos e2];have:=(z1 e2).1;omega
         ·rw[if_neg e2];omega
       ·rw[if_pos (jG hon)] at hP
        have e1:bW T s2 wOn=⟨s2.i,(qG T s2).pos,10⟩:=by unfold bW;rw[if_pos h0,if_neg hon]
        rw[e1] at hx;conv=>whnf
        refine zD 1 0 (cA:=wP T (s2)) rfl rfl (Nat.zero_lt_succ _) rfl rfl (hx).v (fun _ _ h=>h.elim) ?_;rintro c r ⟨rfl,rfl⟩;conv=>whnf
        subst hP;rfl
     ·rw[jG h0];conv=>whnf
      rw[jG h0];conv=>whnf
      rw[g5 h0];rfl
  ·rw[jG h0];conv=>whnf
   clear g3;refine qU 47 5 [] [(2,2)] ?_;conv=>whnf
   refine⟨trivial,?_⟩;conv=>whnf
   refine nL [3] ?_;conv=>whnf
   refine nM [0,1,2] ?_;conv=>whnf
   refine jC [2,8,9] ?_;conv=>whnf
   refine jI (fun x:Nat×List (Int×Nt)×List (Int×Nt)×S6=>[]) (fun x=>[cK,wP T x.2.2.2++[.own 0],[.own 1,.own 2,.sl 5 x.2.2.1.length (kH x.2.2.1)]]) (fun x=>[.live 9 1 nm.length (gB nm),.live 9 1 du.length (gB du),.live 9 1 vo.length (gB vo)])
    (fun x=>x.2.2.2.i<T.length/\x.2.2.1.length<=1000000/\(x.2.2.2.e=0->(T.drop x.2.2.2.i).length+1<=x.1/\(x.2.1.map (·.1)).Nodup/\x.2.2.1=vS x.2.1/\x.2.1.length+(T.drop x.2.2.2.i).length<=1000000/\o5 du vo x.1 x.2.1 (T.drop x.2.2.2.i)=R)/\(x.2.2.2.e≠0->R=.bad x.2.2.2.a x.2.2.2.e)) (fun x=>if x.2.2.2.e=0 then(T.drop x.2.2.2.i).length+1 else 0) (0,[],[],s1) ?_ ⟨hi,Nat.zero_le _,fun e=>absurd e h0,g4⟩ ?_
   ·repeat' constructor
    show A.sl _ _ _=A.sl 5 0 (kH []);rw[nI]
   clear g4;rintro⟨n,hs,L,s2⟩ ⟨hi,g3,g4,g5⟩
   simp only at hi g3 g4 g5
   conv=>whnf
   by_cases h0:s2.e=0
   ·rw[jJ h0];obtain⟨hn,gnd,gL,g6,hP⟩:=g4 h0
    obtain⟨m,rfl⟩:∃m,n=m+1:=⟨n-1,by omega⟩
    rw[u4] at hP;have hrow:=xV T s2.i hi;have htx0:hd (T.drop s2.i)=qG T s2:=rfl;rw[htx0] at hP hrow;conv=>whnf
    (refine iA ?_;try with_reducible exact trivial)
    (generalize hrq:jD _ _ (z8 T)=rq;obtain rfl:rq=cR (qG T s2):=hrq.symm.trans (hrow);clear hrq;conv=>whnf)
    by_cases hk:(qG T s2).kind=0
    ·rw[jJ hk];rw[if_pos hk] at hP;conv=>whnf
     rw[jJ h0];conv=>whnf
     subst hP;rw[gL];rfl
    ·rw[jG hk];rw[if_neg hk,zF hT hi (w:=wOn) (xQ (by decide))] at hP;have hx:=qO hT hi wOn;by_cases hon:(qG T s2).text=wOn
     ·rw[if_neg (by rw[jJ hon];simp),<- zH hT hi hk] at hP
      have e1:bW T s2 wOn=xC T s2:=by unfold bW;rw[if_pos h0,if_pos hon]
      rw[e1] at hx;have hi3:=nT hi
      have he3:(xC T s2).e=0:=by rw[(vB s2).1];exact h0
      have hl3:(T.drop (xC T s2).i).length+1=(T.drop s2.i).length:=by
       have e2:=bN hT hi hk;rw[e2] at hi3;rw[e2,List.length_drop,List.length_drop]
       simp only at hi3 ⊢
       omega
      clear e1;generalize xC T s2=s3 at *;have hha:=jgW hT L g3 s3 hi3 he3;rw[jg9 (show L.Perm hs by rw[gL];exact wX hs)] at hha;conv=>whnf
      refine zD 1 0 (cA:=wP T (s2)) rfl rfl (Nat.zero_lt_succ _) rfl rfl (hx).v (fun _ _ h=>h.elim) ?_;rintro c r ⟨rfl,rfl⟩;conv=>whnf
      rw[jJ he3];conv=>whnf
      refine zD 1 0 (cA:=wP T s3) rfl rfl (Nat.zero_lt_succ _) rfl rfl hha.v (fun _ _ h=>h.elim) ?_;rintro c r ⟨s4,k,rfl,rfl,hk0,hk1,hdh⟩;conv=>whnf
      refine zD 1 0 (cA:=wP T s4) rfl rfl (Nat.zero_lt_succ _) rfl rfl (jka hT s4 hdh.1).v (fun _ _ h=>h.elim) ?_;rintro c r ⟨s5,b,hq,rfl,rfl⟩;conv=>whnf
      refine kL [] (jul L (k,b) g3) ?_;rintro r rfl;conv=>whnf
      obtain⟨z1,z2⟩:=jjK hT hi3 hdh hq hP;refine⟨(m,hs++[(k,b)],nJ (k,b) L,s5),jF [0,1,2] ?_,⟨hq.1,?_,fun e=>?_,z2⟩,?_⟩
      ·conv=>whnf
       repeat' constructor
      ·simp only
       rw[(aX (k,b) L).length_eq,gL,List.length_cons,(wX hs).length_eq]
       have:0<(T.drop s2.i).length:=by rw[List.length_drop];omega
       omega
      ·obtain⟨y1,y2,y3⟩:=z1 e
       have hnd:((hs++[(k,b)]).map (·.1)).Nodup:=by
        rw[List.map_append,List.nodup_append];refine⟨gnd,by simp,fun a ha c hc e=>?_⟩;simp at hc;subst hc;obtain⟨q,hq,rfl⟩:=List.mem_map.1 ha;exact y2 q hq e.symm
       refine⟨by simp only;omega,hnd,by simp only;rw[gL];exact jbJ hnd,by simp only[List.length_append,List.length_cons,List.length_nil];omega,y3⟩
      ·simp only
       rw[if_pos h0];by_cases e2:s5.e=0
       ·rw[if_pos e2];have:=(z1 e2).1;omega
       ·rw[if_neg e2];omega
     ·rw[if_pos (jG hon)] at hP
      have e1:bW T s2 wOn=⟨s2.i,(qG T s2).pos,10⟩:=by unfold bW;rw[if_pos h0,if_neg hon]
      rw[e1] at hx;conv=>whnf
      refine zD 1 0 (cA:=wP T (s2)) rfl rfl (Nat.zero_lt_succ _) rfl rfl (hx).v (fun _ _ h=>h.elim) ?_;rintro c r ⟨rfl,rfl⟩;conv=>whnf
      subst hP;rfl
   ·rw[jG h0];conv=>whnf
    rw[jG h0];conv=>whnf
    rw[g5 h0];rfl
section
end
section
end
section
end
section
end
end Go.Proofs.YtdnnmiemgmgffaaGreatDoor.Vm
namespace Go.Proofs.YtdnnmiemgmgffaaGreatDoor.Vm
open Go.RowKit
def iI(n:Int):Int:=if n<0 then -(n+1) else n
def qV(n m:Int):Int:=(iI n).tmod m
theorem jfr{n:Int}(hn : -9223372036854775808<=n/\n<=9223372036854775807):0<=iI n/\iI n<=9223372036854775807:=by unfold iI;split <;> omega
theorem b9{n m:Int}(hn : -9223372036854775808<=n/\n<=9223372036854775807)(hm:1<=m):0<=qV n m/\qV n m<m:=by
 have h:=jfr hn;unfold qV;rw[Int.tmod_eq_emod_of_nonneg h.1];exact⟨Int.emod_nonneg _ (by omega),Int.emod_lt_of_pos _ (by omega)⟩
theorem kX(n m:Int)(hm:1<=m/\m<=9223372036854775807):Spec Tryz.prog 9 [] [intA n,intA m] fun _ r=>(-9223372036854775808<=n/\n<=9223372036854775807)/\r=intA (qV n m):=by
 refine eN jR qB 0 Tryz.func9 rfl ?_;intro hok;have hn : -9223372036854775808<=n/\n<=9223372036854775807:=okA_int.1 hok.1;have hab:=jfr hn;conv=>whnf
 by_cases h:n<0
 ·refine j9 (b:=decide (n<0)) (jJ h) ?_;conv=>whnf
  refine⟨jH (by omega),?_⟩;conv=>whnf
  refine⟨jH (by omega),?_⟩;conv=>whnf
  refine⟨by omega,?_⟩;conv=>whnf
  refine⟨hn,?_⟩
  have:0-(n+1)=iI n:=by unfold iI;rw[if_pos h];omega
  rw[this];rfl
 ·refine jW (b:=decide (n<0)) (jG h) ?_;conv=>whnf
  refine⟨by omega,?_⟩;conv=>whnf
  refine⟨hn,?_⟩
  have:n=iI n:=by unfold iI;rw[if_neg h]
  show A.v (.int .i64 (n.tmod m))=intA ((iI n).tmod m);rw[<- this];rfl
end Go.Proofs.YtdnnmiemgmgffaaGreatDoor.Vm
namespace Go.Proofs.YtdnnmiemgmgffaaGreatDoor.Vm
open Go.RowKit Go.Shelf
def phA(κ i:Nat):Nat:=if i<70 then(4*κ+12)*i else(4*κ+12)*70
def sI(κ i:Nat):Nat:=if i<70 then(4*κ+12)*i else(4*κ+12)*70+6*κ+18
theorem pF(κ i:Nat):phA κ i<=phA κ (i+1)/\(i<70->phA κ i+(4*κ+12)<=phA κ (i+1)):=by
 unfold phA;generalize 4*κ+12=c;have e:c*(i+1)=c*i+c:=Nat.mul_succ c i;by_cases h:i<70
 ·rw[if_pos h];by_cases h2:i+1<70
  ·rw[if_pos h2];omega
  ·rw[if_neg h2]
   obtain rfl:i=69:=by omega
   omega
 ·rw[if_neg h,if_neg (by omega)];omega
theorem jds(κ i:Nat):(i<70->sI κ i=phA κ i)/\(70<=i->sI κ i=phA κ i+6*κ+18):=by
 unfold sI phA;by_cases h:i<70
 ·rw[if_pos h,if_pos h];omega
 ·rw[if_neg h,if_neg h];omega
theorem gK(κ i:Nat):sI κ i<=sI κ (i+1)/\(i<70->sI κ i+(4*κ+12)<=sI κ (i+1)):=by
 have h1:=jds κ i;have h2:=jds κ (i+1);have h3:=pF κ i;omega
theorem fE{κ w b i j:Nat}(hij:i<=j)(h:w+phA κ i<=b+phA κ j):w+sI κ i<=b+sI κ j:=by
 have h1:=jds κ i;have h2:=jds κ j;omega
theorem jeV(κ i:Nat):sI κ i<=(4*κ+12)*70+6*κ+18/\(67<=i->i<70->sI κ i+(4*κ+12)<=(4*κ+12)*70)/\(70<=i->sI κ i=(4*κ+12)*70+6*κ+18):=by
 unfold sI;generalize 4*κ+12=c;by_cases h:i<70
 ·rw[if_pos h];have e:c*(i+1)=c*i+c:=Nat.mul_succ c i;have e2:c*(i+1)<=c*70:=Nat.mul_le_mul_left c (by omega);omega
 ·rw[if_neg h];omega
def dgN(n:Int):Nat:=if n<10 then 1 else if n<100 then 2 else if n<1000 then 3 else 10
mutual
def wN(κ:Nat):Nt->Nat
 |.mk k n s kids=>(if k=12 then κ+dgN n else if k=13 then 5+κ else if k=14 then κ+s.size else if k=15 then κ+s.size else if k=16 then 6+3*κ else s.size+(2+3*κ))+wNs κ kids
def wNs(κ:Nat):List Nt->Nat
 |[]=>0
 |f::l=>wN κ f+wNs κ l
end
theorem jsS(κ:Nat)(n:Int):wN κ (.mk 12 n eB [])=κ+dgN n:=rfl
theorem jqf(κ:Nat)(n:Int):wN κ (.mk 13 n eB [])=5+κ:=rfl
theorem jsU(κ:Nat)(s:ByteArray):wN κ (.mk 14 0 s [])=κ+s.size:=rfl
theorem jsT(κ:Nat)(s:ByteArray):wN κ (.mk 15 0 s [])=κ+s.size:=rfl
theorem jsR(κ:Nat)(f:Nt):wN κ (.mk 16 0 eB [f])=6+3*κ+wN κ f:=rfl
theorem joE(κ:Nat)(s:ByteArray)(f:Nt):wN κ (.mk 17 0 s [f])=s.size+(2+3*κ)+wN κ f:=by
 rw[wN,wNs,wNs];simp
theorem jjc(κ:Nat)(s:ByteArray)(f g:Nt):wN κ (.mk 18 0 s [f,g])=s.size+(2+3*κ)+(wN κ f+wN κ g):=by
 rw[wN,wNs,wNs,wNs];simp
def js4(l:List Nt)(i:Nat):Nt:=l.getD i (.mk 0 0 eB [])
mutual
def wS(κ:Nat):Nt->Nat
 |.mk k n s kids=>if k=1 then s.size+2+3*κ+wNs κ kids else if k=4 then 9+6*κ+wNs κ kids else if k=5 then 7+3*κ else if k=6 then 8+3*κ else if k=7 then 5+2*κ else if k=10 then 5+2*κ else if k=8 then 7+3*κ+wNs κ kids else if k=9 then 5+2*κ+wNs κ kids else if k=3 then 5+κ+wN κ (js4 kids 0)+(wBs κ kids).getD 1 0 else 2+κ+wN κ (js4 kids 0)+(wBs κ kids).getD 1 0+(if 0<(js4 kids 2).kids.length then 4+κ+(wBs κ kids).getD 2 0 else 0)
def wB(κ:Nat):Nt->Nat
 |.mk _ _ _ kids=>2+2*κ+wSs κ kids
def wSs(κ:Nat):List Nt->Nat
 |[]=>0
 |f::l=>wS κ f+wSs κ l
def wBs(κ:Nat):List Nt->List Nat
 |[]=>[]
 |f::l=>wB κ f::wBs κ l
end
theorem jfk(κ:Nat)(l:List Nt):wB κ (wO l)=2+2*κ+wSs κ l:=by unfold wO;rw[wB]
theorem joF(κ:Nat)(s:ByteArray)(f:Nt):wS κ (.mk 1 0 s [f])=s.size+2+3*κ+wN κ f:=rfl
theorem jsZ(κ:Nat)(n:Int)(f g h:Nt):wS κ (.mk 4 n eB [f,g,h])=9+6*κ+(wN κ f+(wN κ g+wN κ h)):=rfl
theorem jt2(κ:Nat)(n:Int):wS κ (.mk 5 n eB [])=7+3*κ:=rfl
theorem jsV(κ:Nat)(n:Int):wS κ (.mk 6 n eB [])=8+3*κ:=rfl
theorem jt1(κ:Nat):wS κ (.mk 7 0 eB [])=5+2*κ:=rfl
theorem jt0(κ:Nat):wS κ (.mk 10 0 eB [])=5+2*κ:=rfl
theorem jsY(κ:Nat)(f g:Nt):wS κ (.mk 8 0 eB [f,g])=7+3*κ+(wN κ f+wN κ g):=rfl
theorem jsW(κ:Nat)(f:Nt):wS κ (.mk 9 0 eB [f])=5+2*κ+wN κ f:=rfl
theorem jt3(κ:Nat)(c b:Nt):wS κ (.mk 3 0 eB [c,b])=5+κ+wN κ c+wB κ b:=rfl
theorem jsX(κ:Nat)(c b d:Nt):wS κ (.mk 2 0 eB [c,b,d])=2+κ+wN κ c+wB κ b+(if 0<d.kids.length then 4+κ+wB κ d else 0):=rfl
theorem joG(κ:Nat)(c:Nt)(l m:List Nt):wS κ (.mk 2 0 eB [c,wO l,wO m])<=4+3*κ+wN κ c+wSs κ l+(6+3*κ+wSs κ m)/\(m.length=0->wS κ (.mk 2 0 eB [c,wO l,wO m])=4+3*κ+wN κ c+wSs κ l):=by
 rw[jsX,jfk,jfk];refine⟨by split <;> omega,fun h=>?_⟩;rw[if_neg (by show ¬0<m.length;omega)];omega
def wHs(κ:Nat):List (Int×Nt)->Nat
 |[]=>0
 |x::l=>11+3*κ+wB κ x.2+wHs κ l
def pkF(l:List Int)(i:Nat):Int:=if i<l.length then qV (l.getD i 0) 1000000 else 0
theorem juj(l:List Int)(i:Nat):Spec Tryz.prog 28 [] [.sl 1 l.length (jV l),intA i,intA 1000000] fun _ r=>(0<=pkF l i/\pkF l i<1000000)/\r=intA (pkF l i):=by
 unfold pkF;refine eN jR qB 0 Tryz.func28 rfl ?_;intro hok;conv=>whnf
 rw[jG (show ¬(i:Int)<0 by omega)];conv=>whnf
 by_cases hi:i<l.length
 ·have hr:=pL l i hi
  have e:l.getD i 0=l[i]:=by rw[List.getD_eq_getElem?_getD,List.getElem?_eq_getElem hi];rfl
  rw[<- e] at hr;rw[if_pos hi,jG (show ¬(l.length:Int)<=i by omega)];generalize l.getD i 0=x at *;have ha:=kX x 1000000 (by omega);conv=>whnf
  (refine iA ?_;try with_reducible exact trivial)
  (generalize hrq:jD _ _ (jV l)=rq;obtain rfl:rq=[intA x]:=hrq.symm.trans (hr);clear hrq;conv=>whnf)
  refine kL [] ha ?_;rintro r ⟨hx,rfl⟩;conv=>whnf
  exact⟨b9 hx (by omega),rfl⟩
 ·rw[if_neg hi,jJ (show(l.length:Int)<=i by omega)];conv=>whnf
  exact⟨by omega,rfl⟩
def bxG(l:List Int)(i:Nat):List A:=[.sl 1 l.length (jV l),.v (.int .i64 i)]
def pk(l:List Int)(i m:Nat):Nat:=(pkF l i).toNat % m
theorem vO(l:List Int)(i:Nat){m:Nat}(h:0<m):pk l i m<m:=Nat.mod_lt _ h
theorem vK(l:List Int)(i m:Nat)(hi:i<=1000000000)(hm:1<=m/\m<=1000):Spec Tryz.prog 23 [bxG l i] [.box 0 0,.v (.int .i64 m)] fun o r=>o=[bxG l (i+1)]/\r=.v (.int .i64 (pk l i m)):=by
 unfold pk;refine eN jtZ qB 1 Tryz.func23 rfl ?_;intro hok;conv=>whnf
 refine kL [] (juj l i) ?_;rintro r ⟨hr,rfl⟩
 obtain⟨k,hk⟩:∃k:Nat,pkF l i=(k:Int):=⟨(pkF l i).toNat,by omega⟩
 rw[hk] at hr ⊢;conv=>whnf
 (refine iA ?_;try with_reducible exact trivial)
 have e:((k:Int)).tmod (m:Int)=((k % m:Nat):Int):=by rw[Int.tmod_eq_emod_of_nonneg (by omega)];omega
 exact⟨rfl,by rw[e];rfl⟩
theorem dC{α:Type}(f:α->A)(l:List α)(i:Nat)(h:i<l.length):(l.map f).drop (i*1)=f l[i]::(l.map f).drop (i+1):=by
 rw[Nat.mul_one,List.drop_eq_getElem_cons (by simpa using h),List.getElem_map]
theorem pG(l:List Int)(i m:Nat)(h:l.length<=70):70<=i->pk l i m=0:=fun hi=>by
 unfold pk pkF;rw[if_neg (by omega)];exact Nat.zero_mod m
def varL:List ByteArray:=[⟨#[100]⟩,⟨#[100,100,49]⟩,⟨#[118]⟩,⟨#[119,50]⟩]
theorem jrR(l:List Int)(i:Nat)(hi:i<=1000000000):∃s∈varL,(s.size<=3/\(l.length<=70->70<=i->s.size=1))/\Spec Tryz.prog 68 [bxG l i] [.box 0 0] fun o r=>o=[bxG l (i+1)]/\r=jX s:=by
 have hp:=vK l i 4 hi (by decide);have hlt:=vO l i (m:=4) (by decide);have ho:=pG l i 4;generalize pk l i 4=k at *;refine⟨varL[k]'hlt,List.getElem_mem _,?_,?_⟩
 ·have h4:∀(k:Nat) (h:k<varL.length),(varL[k]'h).size<=3/\(k=0->(varL[k]'h).size=1):=by decide
  exact⟨(h4 k hlt).1,fun a b=>(h4 k hlt).2 (ho a b)⟩
 have hr:=dC jX varL k hlt;generalize varL[k]'hlt=s at *;refine eN jR qB 1 Tryz.func68 rfl ?_;intro hok;conv=>whnf
 refine jT 0 [] hp ?_;rintro o r ⟨ho,rfl⟩;cases ho;conv=>whnf
 refine⟨⟨by omega,by omega⟩,?_⟩;conv=>whnf
 generalize hrq:List.drop (Int.toNat (k:Int)*_) _=rq;obtain rfl:rq=_::_:=hrq.symm.trans hr;clear hrq;conv=>whnf
 exact⟨rfl,rfl⟩
def litL:List Int:=[0,1,2,3,7,100,2147483647,30]
def opL:List ByteArray:=[dQ,pMinus,vZ,yG]
inductive EI:Nat->Nt->Prop
 |lit (d:Nat) (n:Int) (h:n∈litL):EI d (.mk 12 n eB [])
 |var (d:Nat) (s:ByteArray) (h:s∈varL):EI d (.mk 14 0 s [])
 |nam (d:Nat) (s:ByteArray) (h:s∈builtL):EI d (.mk 15 0 s [])
 |drw (d:Nat) (f:Nt) (h:EI d f):EI (d+1) (.mk 16 0 eB [f])
 |neg (d:Nat) (f:Nt) (h:EI d f):EI (d+1) (.mk 17 0 pMinus [f])
 |bin (d:Nat) (s:ByteArray) (f g:Nt) (hs:s∈opL) (h1:EI d f) (h2:EI d g):EI (d+1) (.mk 18 0 s [f,g])
def bI:Nat->Nat
 |0=>2
 |d+1=>2+2*bI d
theorem jqt:∀d,2<=bI d
 |0=>Nat.le_refl _
 |d+1=>by unfold bI;omega
def jr4(l:List Int)(d:Nat):Prop:=l.length<=70->∀(i:Nat) (z:Int),z.toNat=d -> -5<=z->z<=10->i+bI d<=1000000000->∃f i',EI d f/\i<=i'/\i'<=i+bI d/\(∀κ,1<=κ->κ<=7->wN κ f+phA κ i<=1+κ+phA κ i')/\Spec Tryz.prog 69 [bxG l i] [.box 0 0,.v (.int .i64 z)] fun o r=>o=[bxG l i']/\r=.agg (ntA f)
theorem gw{P:Program}{f:Nat}{cs args:List A}{X:List (List A)}{t:Nt}(h:Spec P f [cs] args fun o r=>o=X/\∃l,r=.agg l/\WkL l (ntA t)):Spec P f [cs] args fun o r=>o=X/\r=.agg (ntA t) :=
 Spec.weaken h fun o r ⟨h1,l,h2,h3⟩=>⟨o,.agg (ntA t),⟨h1,rfl⟩,.refl _,by rw[h2];exact .agg h3⟩
theorem jtx(l:List Int)(d:Nat)(ih:∀e,d=e+1->jr4 l e):jr4 l d:=fun hl i z hz h1 h2 hi=>by
 have hge:=jqt d;have hp:=vK l i 12 (by omega) (by decide);have hlt:=vO l i (m:=12) (by decide);have ho:=pG l i 12 hl
 have p0:=fun κ=>pF κ i
 have p1:=fun κ=>pF κ (i+1)
 have pe2:∀κ,phA κ (i+2)=phA κ (i+1+1):=fun _=>rfl
 generalize pk l i 12=n0 at *
 obtain⟨n,hn⟩:∃n,(if z<=0 then n0 % 6 else n0)=n:=⟨_,rfl⟩
 have hn12:n<12:=by split at hn <;> omega
 have hn6:z<=0->n<6:=fun h=>by rw[if_pos h] at hn;omega
 have hlo:n≠0->i<70:=fun h=>by
  by_cases h70:70<=i
  ·have:=ho h70
   split at hn <;> omega
  ·omega
 by_cases hA:n<=1
 ·have hp2:=vK l (i+1) 8 (by omega) (by decide);have hlt2:=vO l (i+1) (m:=8) (by decide);have ho2:=pG l (i+1) 8 hl;generalize pk l (i+1) 8=k8 at *
  have hlw:∀(k:Nat) (h:k<litL.length),dgN (litL[k]'h)<=10/\(k=0->dgN (litL[k]'h)=1):=by decide
  have hlk:=hlw k8 hlt2;refine⟨.mk 12 (litL[k8]'hlt2) eB [],i+2,.lit _ _ (List.getElem_mem _),by omega,by omega,fun κ ka kb=>by have p0:=p0 κ;have p1:=p1 κ;have pe2:=pe2 κ;rw[jsS];omega,?_⟩;clear hlw hlk;have hr:=dC intA litL k8 hlt2;generalize litL[k8]'hlt2=x at *;rcases(by omega:n=0∨n=1) with rfl|rfl
  all_goals
   refine gw ?_;refine eN jdo (fun _=>[0]) 1 Tryz.func69 rfl ?_;intro hok;conv=>whnf
   refine jT 0 [] hp ?_;rintro o r ⟨ho,rfl⟩;cases ho;conv=>whnf
   by_cases hz0:z<=0
   all_goals
    first
    |(rw[if_pos hz0] at hn;rw[jJ hz0];(conv=>whnf);refine⟨by decide,?_⟩;rw[Int.tmod_eq_emod_of_nonneg (by omega),show(n0:Int) % 6=((n0 % 6:Nat):Int) by omega,hn])
    |(rw[if_neg hz0] at hn;rw[jG hz0];(conv=>whnf);rw[hn])
    conv=>whnf
   all_goals
    refine jT 0 [] hp2 ?_;rintro o r ⟨ho,rfl⟩;cases ho;conv=>whnf
    refine⟨⟨by omega,by omega⟩,?_⟩;conv=>whnf
    generalize hrq:List.drop (Int.toNat (k8:Int)*_) _=rq;obtain rfl:rq=_::_:=hrq.symm.trans hr;clear hrq;conv=>whnf
    exact⟨rfl,_,rfl,qC (f:=.mk 12 x eB []) rfl⟩
 by_cases hB:n<=3
 ·obtain⟨s,hs1,hs2,hp2⟩:=jrR l (i+1) (by omega);refine⟨.mk 14 0 s [],i+2,.var _ _ hs1,by omega,by omega,fun κ ka kb=>by have p0:=p0 κ;have p1:=p1 κ;have pe2:=pe2 κ;rw[jsU];omega,?_⟩;rcases(by omega:n=2∨n=3) with rfl|rfl
  all_goals
   refine gw ?_;refine eN jdo (fun _=>[0]) 1 Tryz.func69 rfl ?_;intro hok;conv=>whnf
   refine jT 0 [] hp ?_;rintro o r ⟨ho,rfl⟩;cases ho;conv=>whnf
   by_cases hz0:z<=0
   all_goals
    first
    |(rw[if_pos hz0] at hn;rw[jJ hz0];(conv=>whnf);refine⟨by decide,?_⟩;rw[Int.tmod_eq_emod_of_nonneg (by omega),show(n0:Int) % 6=((n0 % 6:Nat):Int) by omega,hn])
    |(rw[if_neg hz0] at hn;rw[jG hz0];(conv=>whnf);rw[hn])
    conv=>whnf
   all_goals
    refine jT 0 [] hp2 ?_;rintro o r ⟨ho,rfl⟩;cases ho;conv=>whnf
    exact⟨rfl,_,rfl,qC (f:=.mk 14 0 s []) rfl⟩
 by_cases hC:n<=5
 ·have hp2:=vK l (i+1) 9 (by omega) (by decide);have hlt2:=vO l (i+1) (m:=9) (by decide);generalize pk l (i+1) 9=k8 at *
  have hlw:∀(k:Nat) (h:k<builtL.length),(builtL[k]'h).size<=5:=by decide
  have hlk:=hlw k8 hlt2;refine⟨.mk 15 0 (builtL[k8]'hlt2) [],i+2,.nam _ _ (List.getElem_mem _),by omega,by omega,fun κ ka kb=>by have p0:=p0 κ;have p1:=p1 κ;have pe2:=pe2 κ;rw[jsT];omega,?_⟩;clear hlw hlk;have hr:jD 1 k8 (yV builtL)=[jX (builtL[k8]'hlt2)]:=y8 jX builtL k8 hlt2;have hbu:=cL;generalize builtL[k8]'hlt2=s at *;rcases(by omega:n=4∨n=5) with rfl|rfl
  all_goals
   refine gw ?_;refine eN jdo (fun _=>[0]) 1 Tryz.func69 rfl ?_;intro hok;conv=>whnf
   refine jT 0 [] hp ?_;rintro o r ⟨ho,rfl⟩;cases ho;conv=>whnf
   by_cases hz0:z<=0
   all_goals
    first
    |(rw[if_pos hz0] at hn;rw[jJ hz0];(conv=>whnf);refine⟨by decide,?_⟩;rw[Int.tmod_eq_emod_of_nonneg (by omega),show(n0:Int) % 6=((n0 % 6:Nat):Int) by omega,hn])
    |(rw[if_neg hz0] at hn;rw[jG hz0];(conv=>whnf);rw[hn])
    conv=>whnf
   all_goals
    (refine kL [] hbu ?_;rintro r rfl;conv=>whnf)
    refine jT 0 [] hp2 ?_;rintro o r ⟨ho,rfl⟩;cases ho;conv=>whnf
    refine⟨⟨by omega,by show(k8:Int)<9;omega⟩,?_⟩;conv=>whnf
    (generalize hrq:jD _ _ (yV builtL)=rq;obtain rfl:rq=[jX s]:=hrq.symm.trans (hr);clear hrq;conv=>whnf)
    exact⟨rfl,_,rfl,qC (f:=.mk 15 0 s []) rfl⟩
 have hzp:0<z:=by
  by_cases h:0<z
  ·exact h
  ·have:=hn6 (by omega);omega
 obtain⟨e,rfl⟩:∃e,d=e+1:=⟨d-1,by omega⟩
 have ihe:=ih e rfl;unfold bI at hi;by_cases hD:n<=7
 ·obtain⟨f,i2,hf,g1,g2,w1,hs⟩:=ihe hl (i+1) (z-1) (by omega) (by omega) (by omega) (by omega);rcases(by omega:n=6∨n=7) with rfl|rfl
  ·refine⟨.mk 16 0 eB [f],i2,.drw _ _ hf,by omega,by unfold bI;omega,fun κ ka kb=>by have p0:=p0 κ;have p1:=p1 κ;have pe2:=pe2 κ;have w1:=w1 κ ka kb;rw[jsR];omega,?_⟩;refine gw ?_;refine eN jdo (fun _=>[0]) 1 Tryz.func69 rfl ?_;intro hok;conv=>whnf
   refine jT 0 [] hp ?_;rintro o r ⟨ho,rfl⟩;cases ho;conv=>whnf
   by_cases hz0:z<=0
   all_goals
    first
    |(rw[if_pos hz0] at hn;rw[jJ hz0];(conv=>whnf);refine⟨by decide,?_⟩;rw[Int.tmod_eq_emod_of_nonneg (by omega),show(n0:Int) % 6=((n0 % 6:Nat):Int) by omega,hn])
    |(rw[if_neg hz0] at hn;rw[jG hz0];(conv=>whnf);rw[hn])
    conv=>whnf
   ·exact absurd hz0 (by omega)
   refine⟨jH (by omega),?_⟩;conv=>whnf
   refine jT 0 [] hs ?_;rintro o r ⟨ho,rfl⟩;cases ho;conv=>whnf
   exact⟨rfl,_,rfl,by rw[wH];exact qQ _⟩
  ·have hsz:pMinus.size=1:=rfl;refine⟨.mk 17 0 pMinus [f],i2,.neg _ _ hf,by omega,by unfold bI;omega,fun κ ka kb=>by have p0:=p0 κ;have p1:=p1 κ;have pe2:=pe2 κ;have w1:=w1 κ ka kb;rw[joE];omega,?_⟩;refine gw ?_;refine eN jdo (fun _=>[0]) 1 Tryz.func69 rfl ?_;intro hok;conv=>whnf
   refine jT 0 [] hp ?_;rintro o r ⟨ho,rfl⟩;cases ho;conv=>whnf
   by_cases hz0:z<=0
   all_goals
    first
    |(rw[if_pos hz0] at hn;rw[jJ hz0];(conv=>whnf);refine⟨by decide,?_⟩;rw[Int.tmod_eq_emod_of_nonneg (by omega),show(n0:Int) % 6=((n0 % 6:Nat):Int) by omega,hn])
    |(rw[if_neg hz0] at hn;rw[jG hz0];(conv=>whnf);rw[hn])
    conv=>whnf
   ·exact absurd hz0 (by omega)
   refine⟨jH (by omega),?_⟩;conv=>whnf
   refine jT 0 [] hs ?_;rintro o r ⟨ho,rfl⟩;cases ho;conv=>whnf
   exact⟨rfl,_,rfl,by rw[wH];exact qQ _⟩
 have hp2:=vK l (i+1) 4 (by omega) (by decide);have hlt2:=vO l (i+1) (m:=4) (by decide);generalize pk l (i+1) 4=k8 at *;obtain⟨f,i2,hf,g1,g2,w1,hs⟩:=ihe hl (i+1+1) (z-1) (by omega) (by omega) (by omega) (by omega);obtain⟨g,i3,hg,g3,g4,w2,hs2⟩:=ihe hl i2 (z-1) (by omega) (by omega) (by omega) (by omega)
 have hlw:∀(k:Nat) (h:k<opL.length),(opL[k]'h).size=1:=by decide
 have hlk:=hlw k8 hlt2;refine⟨.mk 18 0 (opL[k8]'hlt2) [f,g],i3,.bin _ _ _ _ (List.getElem_mem _) hf hg,by omega,by unfold bI;omega,fun κ ka kb=>by have p0:=p0 κ;have p1:=p1 κ;have pe2:=pe2 κ;have w1:=w1 κ ka kb;have w2:=w2 κ ka kb;rw[jjc];omega,?_⟩;clear hlw hlk;have hr:=dC jX opL k8 hlt2;generalize opL[k8]'hlt2=s at *;rcases(by omega:n=8∨n=9∨n=10∨n=11) with rfl|rfl|rfl|rfl
 all_goals
  refine gw ?_;refine eN jdo (fun _=>[0]) 1 Tryz.func69 rfl ?_;intro hok;conv=>whnf
  refine jT 0 [] hp ?_;rintro o r ⟨ho,rfl⟩;cases ho;conv=>whnf
  by_cases hz0:z<=0
  all_goals
   first
   |(rw[if_pos hz0] at hn;rw[jJ hz0];(conv=>whnf);refine⟨by decide,?_⟩;rw[Int.tmod_eq_emod_of_nonneg (by omega),show(n0:Int) % 6=((n0 % 6:Nat):Int) by omega,hn])
   |(rw[if_neg hz0] at hn;rw[jG hz0];(conv=>whnf);rw[hn])
   conv=>whnf
  ·exact absurd hz0 (by omega)
  refine jT 0 [] hp2 ?_;rintro o r ⟨ho,rfl⟩;cases ho;conv=>whnf
  refine⟨⟨by omega,by omega⟩,?_⟩;conv=>whnf
  generalize hrq:List.drop (Int.toNat (k8:Int)*_) _=rq;obtain rfl:rq=_::_:=hrq.symm.trans hr;clear hrq;conv=>whnf
  refine⟨jH (by omega),?_⟩;conv=>whnf
  refine jT 0 [] hs ?_;rintro o r ⟨ho,rfl⟩;cases ho;conv=>whnf
  refine⟨jH (by omega),?_⟩;conv=>whnf
  refine jT 0 [] hs2 ?_;rintro o r ⟨ho,rfl⟩;cases ho;conv=>whnf
  exact⟨rfl,_,rfl,by rw[yZ];exact qQ _⟩
theorem iS(l:List Int):∀d,jr4 l d
 |0=>jtx l 0 fun e h=>by omega
 |d+1=>jtx l (d+1) fun e h=>by
  obtain rfl:d=e:=by omega
  exact iS l d
def jch(n:Int):Int:=max (-2147483647) (min 2147483647 n)
def flF(b:Bool):Int:=if b=true then 1 else 0
theorem aV(b:Bool):Spec Tryz.prog 33 [] [zK b] fun _ r=>r=intA (flF b):=by
 cases b
 all_goals
  refine eN jR qB 0 Tryz.func33 rfl ?_;intro _;conv=>whnf
  rfl
theorem jjV(n:Int) : -2147483647<=jch n/\jch n<=2147483647:=by unfold jch;omega
theorem eZ(n:Int):Spec Tryz.prog 59 [] [intA n] fun _ r=>r=intA (jch n):=by
 refine eN jR qB 0 Tryz.func59 rfl ?_;intro _;conv=>whnf
 rfl
def xA(op a b:Int):Int :=
 if op=6 then jch (a+b) else if op=7 then jch (a-b) else if op=8 then jch (a*b)
 else if op=9 then(if b=0 then 0 else jch (a.tdiv b))
 else if op=11 then flF (decide (a<b)) else if op=12 then flF (decide (a<=b)) else flF (decide (a=b))
def Sm(n:Int):Prop := -2147483648<=n/\n<=2147483648
theorem jsb{a b:Int}(ha : -2147483648<=a/\a<=2147483648)(hb : -2147483648<=b/\b<=2147483648) : -4611686018427387904<=a*b/\a*b<=4611686018427387904:=by
 have h:=Nat.mul_le_mul (show a.natAbs<=2147483648 by omega) (show b.natAbs<=2147483648 by omega);rw[<- Int.natAbs_mul] at h;omega
theorem jcG(op a b:Int)(ho:6<=op/\op<=13)(ha:Sm a)(hb:Sm b):Spec Tryz.prog 34 [] [intA op,intA a,intA b] fun _ r=>r=intA (xA op a b):=by
 unfold Sm at ha hb;rcases(by omega:op=6∨op=7∨op=8∨op=9∨op=10∨op=11∨op=12∨op=13) with rfl|rfl|rfl|rfl|rfl|rfl|rfl|rfl
 all_goals
  refine eN jR qB 0 Tryz.func34 rfl ?_;intro _;conv=>whnf
 ·refine⟨jH (by omega),?_⟩;conv=>whnf
  (refine kL [] ((eZ (a+b))) ?_;rintro r rfl;conv=>whnf)
  rfl
 ·refine⟨jH (by omega),?_⟩;conv=>whnf
  (refine kL [] ((eZ (a-b))) ?_;rintro r rfl;conv=>whnf)
  rfl
 ·have hm:=jsb ha hb;refine⟨jH (by omega),?_⟩;conv=>whnf
  (refine kL [] ((eZ (a*b))) ?_;rintro r rfl;conv=>whnf)
  rfl
 ·by_cases h0:b=0
  ·rw[jJ h0];conv=>whnf
   show _=intA (if b=0 then 0 else jch (a.tdiv b));rw[if_pos h0];rfl
  ·rw[jG h0]
   have hm : -2147483648<=a.tdiv b/\a.tdiv b<=2147483648:=by
    have h2:(a.tdiv b).natAbs<=a.natAbs:=by rw[Int.natAbs_tdiv];exact Nat.div_le_self _ _
    omega
   conv=>whnf
   refine⟨h0,?_⟩;conv=>whnf
   refine⟨jH (by omega),?_⟩;conv=>whnf
   (refine kL [] ((eZ (a.tdiv b))) ?_;rintro r rfl;conv=>whnf)
   show _=intA (if b=0 then 0 else jch (a.tdiv b));rw[if_neg h0];rfl
 ·(refine kL [] ((aV (decide (a=b)))) ?_;rintro r rfl;conv=>whnf)
  rfl
 ·(refine kL [] ((aV (decide (a<b)))) ?_;rintro r rfl;conv=>whnf)
  rfl
 ·(refine kL [] ((aV (decide (a<=b)))) ?_;rintro r rfl;conv=>whnf)
  rfl
 ·(refine kL [] ((aV (decide (a=b)))) ?_;rintro r rfl;conv=>whnf)
  rfl
def stE(v:Nat->Int)(lg:A)(st dr:Int)(sp:Bool)(sd:Int):List A:=[intA (v 0),intA (v 1),intA (v 2),intA (v 3),intA (v 4),intA (v 5),intA (v 6),intA (v 7),intA (v 8),intA (v 9),intA (v 10),intA (v 11),intA (v 12),intA (v 13),intA (v 14),intA (v 15),lg,intA st,intA dr,zK sp,intA sd]
def vrL(v:Nat->Int):List A:=(List.range 16).map fun i=>intA (v i)
theorem jfe(v:Nat->Int)(lg:A)(st dr:Int)(sp:Bool)(sd:Int):stE v lg st dr sp sd=vrL v++[lg,intA st,intA dr,zK sp,intA sd]:=rfl
theorem joD(v:Nat->Int)(j:Nat)(hj:j<16):(vrL v)[j]?=some (intA (v j)):=by
 unfold vrL;rw[List.getElem?_map,List.getElem?_range hj];rfl
theorem jqe(v v':Nat->Int)(j:Nat)(x:Int)(he:∀i,i<16->(if i=j then x else v i)=v' i):(vrL v).set j (intA x)=vrL v':=by
 unfold vrL;apply List.ext_getElem (by simp);intro i h1 h2
 have hi:i<16:=by simpa using h2
 have:=he i hi;rw[List.getElem_set,List.getElem_map,List.getElem_map,List.getElem_range];by_cases h:j=i
 ·rw[if_pos h.symm] at this;simp only[if_pos h,this]
 ·rw[if_neg fun q:i=j=>h q.symm] at this;simp only[if_neg h,this]
theorem jlt(v:Nat->Int)(x:Value)(st dr:Int)(sp:Bool)(sd:Int):tD (stE v (.v x) st dr sp sd):=fun a ha=>by
 rw[jfe] at ha;rcases List.mem_append.1 ha with ha|ha
 ·obtain⟨i,_,rfl⟩:=List.mem_map.1 ha;exact⟨_,rfl⟩
 ·simp only[List.mem_cons,List.not_mem_nil,or_false] at ha
  rcases ha with rfl|rfl|rfl|rfl|rfl <;> exact⟨_,rfl⟩
theorem r8(v v':Nat->Int)(lg:A)(st dr:Int)(sp:Bool)(sd:Int)(j:Nat)(x:Int)(hj:j<16)(he:∀i,i<16->(if i=j then x else v i)=v' i){K:List A->Prop}(h:K (stE v' lg st dr sp sd)):aS (stE v lg st dr sp sd) (0+j*1) (intA x) K:=by
 have hl:(vrL v).length=16:=by unfold vrL;simp
 refine fP ?_ ?_
 ·rw[jfe,List.length_append,hl];omega
 ·rw[show 0+j*1=j by omega,jfe,List.set_append_left _ _ (by rw[hl];exact hj),jqe v v' j x he];exact h
def bgF(l:List Int)(i:Nat):Int:=(if i<l.length then qV (l.getD i 0) 21 else 0)-10
theorem jpF(l:List Int)(i:Nat):Spec Tryz.prog 28 [] [.sl 1 l.length (jV l),intA i,intA 21] fun _ r=>(-10<=bgF l i/\bgF l i<=10)/\r=intA (bgF l i+10):=by
 unfold bgF;refine eN jR qB 0 Tryz.func28 rfl ?_;intro hok;conv=>whnf
 rw[jG (show ¬(i:Int)<0 by omega)];conv=>whnf
 by_cases hi:i<l.length
 ·have hr:=pL l i hi
  have e:l.getD i 0=l[i]:=by rw[List.getD_eq_getElem?_getD,List.getElem?_eq_getElem hi];rfl
  rw[<- e] at hr;rw[if_pos hi,jG (show ¬(l.length:Int)<=i by omega)];generalize l.getD i 0=x at *;have ha:=kX x 21 (by omega);conv=>whnf
  (refine iA ?_;try with_reducible exact trivial)
  (generalize hrq:jD _ _ (jV l)=rq;obtain rfl:rq=[intA x]:=hrq.symm.trans (hr);clear hrq;conv=>whnf)
  refine kL [] ha ?_;rintro r ⟨hx,rfl⟩;have h2:=b9 hx (show(1:Int)<=21 by omega);conv=>whnf
  exact⟨by omega,by rw[show qV x 21-10+10=qV x 21 by omega];rfl⟩
 ·rw[if_neg hi,jJ (show(l.length:Int)<=i by omega)];conv=>whnf
  exact⟨by omega,rfl⟩
theorem jhT(l:List Int)(seed steps:Int):jlK Tryz.prog 8 [.sl 1 l.length (jV l),intA seed,intA steps] fun cs=>cs=stE (bgF l) (.v (.slice none 0 0)) steps 0 false seed:=by
 refine jo6 (jQ juU qB 0) (fun _ _ h=>h) Tryz.func8 rfl (by kernel_rfl) rfl (by kernel_rfl) ?_;intro hok;conv=>whnf
 refine jC [0,7] ?_;conv=>whnf
 refine jI (fun j:Nat=>[(8,.v (.int .i64 j))]) (fun j=>[stE (fun i=>if i<j then bgF l i else 0) (.v (.slice none 0 0)) steps 0 false seed]) (fun _=>[]) (fun j=>j<=16) (fun j=>16-j) 0 ?_ (Nat.zero_le _) ?_
 ·repeat' constructor
 intro j hj;conv=>whnf
 by_cases hlt:j<16
 ·rw[jJ (show(j:Int)<16 by omega)];have hp:=jpF l j;conv=>whnf
  refine kL [] hp ?_;rintro r ⟨hr,rfl⟩;conv=>whnf
  refine⟨jH (by omega),?_⟩;rw[show bgF l j+10-10=bgF l j by omega];conv=>whnf
  refine⟨⟨by omega,by omega⟩,?_⟩;conv=>whnf
  refine r8 (fun i=>if i<j then bgF l i else 0) (fun i=>if i<j+1 then bgF l i else 0) _ _ _ _ _ j _ hlt (fun i hi=>?_) ?_
  ·by_cases h:i=j
   ·subst h;rw[if_pos rfl,if_pos (by omega)]
   ·rw[if_neg h];by_cases h2:i<j
    ·rw[if_pos h2,if_pos (by omega)]
    ·rw[if_neg h2,if_neg (by omega)]
  conv=>whnf
  refine⟨jH (by omega),?_⟩;conv=>whnf
  refine⟨j+1,jF [] ?_,hlt,by omega⟩;conv=>whnf
  repeat' constructor
 ·rw[jG (show ¬(j:Int)<16 by omega)]
  obtain rfl:j=16:=by omega
  conv=>whnf
  exact⟨0,_,rfl,rfl,jlt (fun i=>if i<16 then bgF l i else 0) _ _ _ _ _,rfl⟩
def drF(sd dr k:Int):Int:=qV (sd+5*dr) (max 1 (min 4 k))
theorem ji4{sd dr k:Int}(h1:0<=sd/\sd<=1000)(h2:0<=dr/\dr<=1000000):0<=drF sd dr k/\drF sd dr k<4:=by
 have h:=b9 (n:=sd+5*dr) (m:=max 1 (min 4 k)) (by omega) (by omega);unfold drF;omega
def zY(f:Nat)(v:Nat->Int)(lg:List Int)(st dr:Int)(sp:Bool)(sd:Int)(args:List A)(post:(Nat->Int)->List Int->Int->Int->Bool->A->Prop):Prop :=
 m8 Tryz.prog f [stE v (.own 0) st dr sp sd] 3 1 lg.length (jV lg) args fun o n cs r=>∃v' lg' st' dr' sp',o=[stE v' (.own 0) st' dr' sp' sd]/\n=lg'.length/\cs=jV lg'/\post v' lg' st' dr' sp' r
theorem jcQ(v:Nat->Int)(lg:List Int)(st dr:Int)(sp:Bool)(sd k:Int)(hl:lg.length<=1000000)(h1:0<=sd/\sd<=1000)(h2:0<=dr/\dr<=1000000):zY 32 v lg st dr sp sd [.box 0 0,intA k] fun v' lg' st' dr' sp' r=>v'=v/\lg'=lg++[1,k,drF sd dr k]/\st'=st/\dr'=dr+1/\sp'=sp/\r=intA (drF sd dr k):=by
 have ha:=kX (sd+5*dr) (max 1 (min 4 k)) (by omega);have hrg:=ji4 (k:=k) h1 h2;unfold drF at hrg ⊢;generalize qV (sd+5*dr) (max 1 (min 4 k))=y at *;unfold zY;refine qP (jQ ju1 qB 1) (fun _ _ h=>h.elim) Tryz.func32 rfl (by kernel_rfl) rfl (by kernel_rfl) ?_;intro _;conv=>whnf
 refine⟨jH (by omega),?_⟩;conv=>whnf
 refine⟨jH (by omega),?_⟩;conv=>whnf
 refine kL [] ha ?_;rintro r ⟨_,rfl⟩;conv=>whnf
 refine⟨jH (by omega),?_⟩;conv=>whnf
 refine⟨⟨by unfold maxLen;omega,by omega⟩,?_⟩;conv=>whnf
 refine⟨0,?_⟩;conv=>whnf
 exact⟨v,lg++[1,k,y],st,dr+1,sp,rfl,by simp,by simp[jV,intA],rfl,rfl,rfl,rfl,rfl,rfl⟩
theorem jgy(v l k:Int){K:A->Prop}{n:Prop}(h:match (shL v l).find? (fun p=>decide (k=p.1)) with|some p=>K (shA p.2)|none=>n):g9 false (u9 (shP v l)) (pX (shP v l)) (.int .i64 k) K n:=by
 refine kI _ _ ?_
 have e:wK (shP v l) k=((shL v l).find? fun p=>decide (k=p.1)).map fun p=>shA p.2:=by
  unfold wK shP;rw[List.find?_map];show((((shL v l).find? fun p=>decide (k=p.1)).map _).map _)=_
  cases (shL v l).find? fun p=>decide (k=p.1) <;> rfl
 rw[e]
 revert h
 cases (shL v l).find? fun p=>decide (k=p.1) <;> exact id
theorem jsg{v l:Int}{i:Ic}(h:okI v l i=true):(1<=i.1/\i.1<=23)/\(i.1=15∨i.1=16->0<=i.2):=by
 unfold okI at h;rcases tC ((shL v l).find? fun p=>decide (i.1=p.1)) with hf|⟨p,hf⟩
 ·rw[hf] at h;cases h
 rw[hf] at h;have hk:=List.find?_some hf;have hm:=List.mem_of_find?_eq_some hf;simp only[decide_eq_true_eq] at hk;simp only[Bool.and_eq_true,decide_eq_true_eq] at h;obtain⟨a,b⟩:=i
 simp only at hk h ⊢
 subst hk;unfold shL at hm;simp only[List.mem_cons,List.not_mem_nil,or_false] at hm;rcases hm with rfl|rfl|rfl|rfl|rfl|rfl|rfl|rfl|rfl|rfl|rfl|rfl|rfl|rfl|rfl|rfl|rfl|rfl|rfl|rfl|rfl|rfl|rfl
 all_goals(simp only at h ⊢;omega)
theorem jfs(p:Int->Bool)(e:Nat->Int):∀(m j:Nat),pZ p e j m=true->∀i,j<=i->i<j+m->p (e i)=true
 |0,j,h,i,h1,h2=>by omega
 |m+1,j,h,i,h1,h2=>by
  unfold pZ at h;rw[Bool.and_eq_true] at h;by_cases q:i=j
  ·rw[q];exact h.1
  ·exact jfs p e m (j+1) h.2 i (by omega) (by omega)
theorem jhA(code:List Ic)(e:Nat->Int)(du vo:Int)(hl:code.length<=1000000):Spec Tryz.prog 38 [] [pgA code e du vo] fun _ r=>r=intA (jqd code e du vo):=by
 obtain⟨R,hR⟩:∃R,jqd code e du vo=R:=⟨_,rfl⟩
 rw[hR];unfold jqd at hR;refine eN jR qB 0 Tryz.func38 rfl ?_;intro _;conv=>whnf
 by_cases h0:400<code.length
 ·rw[jJ (show(400:Int)<(code.length:Int) by omega)];rw[if_pos h0] at hR;conv=>whnf
  rw[<- hR];rfl
 rw[jG (show ¬(400:Int)<(code.length:Int) by omega)];rw[if_neg h0] at hR;conv=>whnf
 by_cases h1:du<0
 ·rw[jJ h1];rw[if_pos (.inl h1)] at hR;conv=>whnf
  rw[<- hR];rfl
 rw[jG h1];conv=>whnf
 by_cases h2:vo<0
 ·rw[jJ h2];rw[if_pos (.inr (.inl h2))] at hR;conv=>whnf
  rw[<- hR];rfl
 rw[jG h2];conv=>whnf
 by_cases h3:16<du
 ·rw[jJ h3];rw[if_pos (.inr (.inr (.inl h3)))] at hR;conv=>whnf
  rw[<- hR];rfl
 rw[jG h3];conv=>whnf
 refine⟨jH (by omega),?_⟩;conv=>whnf
 by_cases h4:16-du<vo
 ·rw[jJ h4];rw[if_pos (.inr (.inr (.inr h4)))] at hR;conv=>whnf
  rw[<- hR];rfl
 rw[jG h4];rw[if_neg (by omega)] at hR;have hsh:=uL code e du vo (by omega) (by omega) hl;conv=>whnf
 refine kL [] hsh ?_;rintro r rfl;conv=>whnf
 refine jC [1,3,42,43] ?_;conv=>whnf
 refine jI (fun j:Nat=>[(44,.v (.int .i64 j))]) (fun _=>[pgL code e du vo]) (fun _=>[]) (fun j=>j<=code.length/\(code.take j).all (okI (du+vo-1) (code.length-1))=true) (fun j=>code.length-j) 0 ?_ ⟨Nat.zero_le _,by rw[List.take_zero];rfl⟩ ?_
 ·repeat' constructor
 rintro j ⟨hj,hall⟩;conv=>whnf
 rcases Nat.lt_or_ge j code.length with hlt|hge
 ·have hrow:jD 2 j (wA code)=icA code[j]:=mO code j hlt
  have htk:(code.take (j+1)).all (okI (du+vo-1) (code.length-1))=okI (du+vo-1) (code.length-1) code[j]:=by
   rw[List.take_succ_eq_append_getElem hlt,List.all_append,hall,Bool.true_and,List.all_cons,List.all_nil,Bool.and_true]
  have hcn:okI (du+vo-1) (code.length-1) code[j]=false->R=12:=fun hb=>by
   have h5:code.all (okI (du+vo-1) (code.length-1))=false:=by
    rw[List.all_eq_false];exact⟨code[j],List.getElem_mem hlt,by rw[hb];simp⟩
   rw[<- hR,if_pos h5]
  unfold okI at htk hcn;generalize code[j]=i at hrow htk hcn;obtain⟨op,n⟩:=i;unfold icA at hrow
  simp only at hrow
  rw[jJ (show(j:Int)<(code.length:Int) by omega)];conv=>whnf
  refine⟨show(0:Int)<=(j:Int)/\(j:Int)<(code.length:Nat) from ⟨by omega,by omega⟩,?_⟩;conv=>whnf
  (generalize hrq:jD _ _ (wA code)=rq;obtain rfl:rq=[intA op,intA n]:=hrq.symm.trans (hrow);clear hrq;conv=>whnf)
  refine jgy _ _ _ ?_;rcases tC ((shL (du+vo-1) (code.length-1)).find? fun p=>decide (op=p.1)) with hf|⟨⟨pk,po,pu,plo,sI⟩,hf⟩
  ·rw[hf] at hcn ⊢;have hcn:=hcn rfl;conv=>whnf
   rw[hcn];rfl
  rw[hf] at htk hcn ⊢
  simp only at htk hcn
  conv=>whnf
  by_cases hlo:n<plo
  ·rw[jJ hlo];have hcn:=hcn (by rw[jG (by omega)];rfl);conv=>whnf
   rw[hcn];rfl
  rw[jG hlo];conv=>whnf
  by_cases hhi:sI<n
  ·rw[jJ hhi];have hcn:=hcn (by rw[jG (show ¬n<=sI by omega),Bool.and_false]);conv=>whnf
   rw[hcn];rfl
  rw[jG hhi];conv=>whnf
  refine jN j (by omega) ?_;conv=>whnf
  refine⟨j+1,jF [] ?_,⟨show j+1<=code.length by omega,htk.trans (by rw[jJ (show plo<=n by omega),jJ (show n<=sI by omega)];rfl)⟩,show code.length-(j+1)<code.length-j by omega⟩;conv=>whnf
  repeat' constructor
 rw[jG (show ¬(j:Int)<(code.length:Int) by omega)]
 have hall2:code.all (okI (du+vo-1) (code.length-1))=true:=by
  have:=hall;rw[List.take_of_length_le hge] at this;exact this
 rw[hall2,if_neg (by decide)] at hR
 have hops:=fun i hi=>jsg (List.all_eq_true.1 hall2 i hi)
 clear hall;conv=>whnf
 refine jC [1,73] ?_;conv=>whnf
 refine jI (fun j:Nat=>[(74,.v (.int .i64 j))]) (fun _=>[pgL code e du vo]) (fun _=>[]) (fun j=>j<=40/\pZ (m5 code.length) e j (40-j)=pZ (m5 code.length) e 0 40) (fun j=>40-j) 0 ?_ ⟨Nat.zero_le _,rfl⟩ ?_
 ·repeat' constructor
 clear hge hj j;rintro j ⟨hj,hall⟩;conv=>whnf
 rcases Nat.lt_or_ge j 40 with hlt|hge
 ·rw[jJ (show(j:Int)<40 by omega)]
  have hst:pZ (m5 code.length) e j (40-j)=(m5 code.length (e j)&&pZ (m5 code.length) e (j+1) (40-(j+1))):=by
   rw[show 40-j=(40-(j+1))+1 by omega];rfl
  have hall':pZ (m5 code.length) e j (40-j)=pZ (m5 code.length) e 0 40:=hall;conv=>whnf
  refine⟨⟨show(0:Int)<=(j:Int) by omega,show(j:Int)<((40:Nat):Int) by omega⟩,intA (e j),jey e j hlt,?_⟩;conv=>whnf
  by_cases hlo:e j < -1
  ·rw[jJ hlo];rw[if_pos (by rw[<- hall',hst];unfold m5;rw[jG (show ¬ -1<=e j by omega)];rfl)] at hR;conv=>whnf
   rw[<- hR];rfl
  rw[jG hlo];conv=>whnf
  by_cases hhi:(code.length:Int)<=e j
  ·rw[jJ hhi];rw[if_pos (by rw[<- hall',hst];unfold m5;rw[jG (show ¬e j<code.length by omega),Bool.and_false];rfl)] at hR;conv=>whnf
   rw[<- hR];rfl
  rw[jG hhi];conv=>whnf
  refine jN j (by omega) ?_;conv=>whnf
  refine⟨j+1,jF [] ?_,⟨show j+1<=40 by omega,?_⟩,show 40-(j+1)<40-j by omega⟩
  ·conv=>whnf
   repeat' constructor
  ·show pZ (m5 code.length) e (j+1) (40-(j+1))=_;rw[<- hall',hst];unfold m5;rw[jJ (show -1<=e j by omega),jJ (show e j<code.length by omega)];rfl
 obtain rfl:j=40:=by omega
 have hall2:pZ (m5 code.length) e 0 40=true:=by
  have:pZ (m5 code.length) e 40 (40-40)=pZ (m5 code.length) e 0 40:=hall;rw[<- this];rfl
 rw[jG (show ¬((40:Nat):Int)<40 by omega)];rw[hall2,if_neg (by decide)] at hR;have hent:=jfs _ _ _ _ hall2;clear hall hge hj;conv=>whnf
 refine jC [1,88] ?_;conv=>whnf
 refine jI (fun x:Nat×Int=>[(10,intA x.2),(89,.v (.int .i64 x.1))]) (fun _=>[pgL code e du vo]) (fun _=>[]) (fun x=>x.1<=40/\jqc code e x.1 (40-x.1) x.2=R) (fun x=>40-x.1) (0,0) ?_ ⟨Nat.zero_le _,hR⟩ ?_
 ·repeat' constructor
 rintro⟨j,q⟩ ⟨hj,hv⟩
 simp only at hj hv
 conv=>whnf
 rcases Nat.lt_or_ge j 40 with hlt|hge
 ·rw[jJ (show(j:Int)<40 by omega)];rw[show 40-j=(40-(j+1))+1 by omega] at hv;unfold jqc at hv;have hq:=hent j (by omega) (by omega);unfold m5 at hq;rw[Bool.and_eq_true,decide_eq_true_eq,decide_eq_true_eq] at hq;have hfo:=tZ code e du vo (e j) (by omega) (by omega) hl (fun i hi=>(hops i hi).2) (fun i hi=>(hops i hi).1) hq.2;conv=>whnf
  refine⟨⟨show(0:Int)<=(j:Int) by omega,show(j:Int)<((40:Nat):Int) by omega⟩,intA (e j),jey e j hlt,?_⟩;conv=>whnf
  refine kL [] hfo ?_;rintro r rfl;generalize aK code (e j)=f at hv;conv=>whnf
  by_cases h12:f=12
  ·rw[jJ h12];rw[if_pos h12] at hv;conv=>whnf
   rw[<- hv,<- h12];rfl
  rw[jG h12];rw[if_neg h12] at hv;conv=>whnf
  by_cases h13:f=13
  ·rw[jJ h13];rw[if_pos h13] at hv;conv=>whnf
   refine jN j (by omega) ?_;conv=>whnf
   refine⟨(j+1,13),jF [] ?_,⟨show j+1<=40 by omega,hv⟩,show 40-(j+1)<40-j by omega⟩;conv=>whnf
   repeat' constructor
   rw[h13]
  rw[jG h13];rw[if_neg h13] at hv;conv=>whnf
  refine jN j (by omega) ?_;conv=>whnf
  refine⟨(j+1,q),jF [] ?_,⟨show j+1<=40 by omega,hv⟩,show 40-(j+1)<40-j by omega⟩;conv=>whnf
  repeat' constructor
 obtain rfl:j=40:=by omega
 rw[jG (show ¬((40:Nat):Int)<40 by omega)];conv=>whnf
 rw[<- hv];rfl
theorem jrl(s:ByteArray)(hs:s.size<=1000000000)(u:Ut)(hp:eA s=.ok u)(hc:eO (toU u)=0):Spec Tryz.prog 36 [] [jX s] fun _ r=>r=jkN u:=by
 have h1:=jiH s hs;rw[hp] at h1;unfold jk9 at h1
 simp only at h1
 obtain⟨hu,hz⟩:=jkx hp;have h2:=jsL u hu;rw[hc] at h2;have h3:=rF u hu (by omega);unfold jkN at h3 ⊢;refine eN jR qB 0 Tryz.func36 rfl ?_;intro _;conv=>whnf
 (refine kL [] h1 ?_;rintro r rfl;conv=>whnf)
 (refine kL [] h2 ?_;rintro r rfl;conv=>whnf)
 by_cases he:jep u=0
 ·rw[if_pos he] at h3 ⊢
  (refine kL [] h3 ?_;rintro r rfl;conv=>whnf)
  rfl
 ·rw[if_neg he] at h3 ⊢
  (refine kL [] h3 ?_;rintro r rfl;conv=>whnf)
  rfl
def exS:ByteArray:=⟨#[100,117,114,97,98,108,101,32,120,59,32,111,110,32,115,116,97,114,116,32,123,32,120,32,61,32,49,32,43,32,50,59,32,125]⟩
def exX:ByteArray:=⟨#[120]⟩
def exU:Ut:=⟨[exX],[],[(0,.mk 11 0 eB [.mk 1 0 exX [.mk 18 0 dQ [jtP 1,jtP 2]]])]⟩
def exI:List Ic:=[(1,1),(1,2),(6,0),(3,0),(23,0)]
def exE:Nat->Int:=fun j=>if j=0 then 0 else -1
theorem jrJ:eA exS=.ok exU:=by kernel_rfl
theorem jpc:eO (toU exU)=0:=by kernel_rfl
theorem jpd:aJ exU=(exI,exE):=by kernel_rfl
theorem jpe:jep exU=0:=by kernel_rfl
theorem jrK:jqd exI exE 1 0=0:=by kernel_rfl
theorem jmI:Spec Tryz.prog 36 [] [jX exS] fun _ r=>r=.tup [pgA exI exE 1 0,intA 0]:=by
 have h:=jrl exS (by decide) exU jrJ jpc;unfold jkN at h;rw[jpe,jpd,if_pos rfl] at h;exact h
def e2(j:Nat):Nat->Int:=fun i=>if 1<=i/\i<j then -1 else 0
theorem jip:Spec Tryz.prog 13 [] [] fun _ r=>r=zK true:=by
 have h1:=jmI;have h2:=jlm exI exE 1 0 (by decide);have h3:=jhA exI exE 1 0 (by decide);rw[jrK] at h3
 have hpe:pgE exE 1 0=pgE (e2 40) 1 0:=jpC (fun i hi=>by
  unfold exE e2;by_cases h:i=0
  ·rw[if_pos h,if_neg (by omega)]
  ·rw[if_neg h,if_pos (by omega)]) 1 0
 have hpa:pgA exI exE 1 0=pgA exI (e2 40) 1 0:=by unfold pgA pgL;rw[hpe]
 rw[show [pgA exI exE 1 0,pgA exI exE 1 0]=[pgA exI exE 1 0,pgA exI (e2 40) 1 0] by rw[<- hpa]] at h2;clear hpe hpa;refine eN jR qB 0 Tryz.func13 rfl ?_;intro _;conv=>whnf
 (refine kL [] h1 ?_;rintro r rfl;conv=>whnf)
 refine nL [0] ?_;conv=>whnf
 refine jC [1,2,3] ?_;conv=>whnf
 refine jI (fun j:Nat=>[(4,.v (.int .i64 j))]) (fun j=>[pgL exI exE 1 0,pgL exI (e2 j) 1 0]) (fun _=>[]) (fun j=>1<=j/\j<=40) (fun j=>40-j) 1 ?_ ⟨by omega,by omega⟩ ?_
 ·repeat' constructor
  unfold wA;rfl
 rintro j ⟨hj1,hj⟩;conv=>whnf
 rcases Nat.lt_or_ge j 40 with hlt|hge
 ·rw[jJ (show(j:Int)<40 by omega)];conv=>whnf
  refine⟨show(0:Int)<=(j:Int)/\(j:Int)<((40:Nat):Int) from ⟨by omega,by omega⟩,?_⟩;conv=>whnf
  refine jbH (.sl 2 5 (wA exI)) (e2 j) (e2 (j+1)) 1 0 (-1) j hlt (fun i hi=>?_) ?_
  ·unfold e2;by_cases h:i=j
   ·rw[if_pos h,if_pos (by omega)]
   ·rw[if_neg h];by_cases h2:1<=i/\i<j
    ·rw[if_pos h2,if_pos (by omega)]
    ·rw[if_neg h2,if_neg (by omega)]
  conv=>whnf
  refine jN j (by omega) ?_;conv=>whnf
  refine⟨j+1,jF [] ?_,⟨show 1<=j+1 by omega,show j+1<=40 by omega⟩,show 40-(j+1)<40-j by omega⟩;conv=>whnf
  repeat' constructor
 rw[jG (show ¬(j:Int)<40 by omega)]
 obtain rfl:j=40:=by omega
 conv=>whnf
 (refine kL [] h2 ?_;rintro r rfl;conv=>whnf)
 (refine kL [] h3 ?_;rintro r rfl;conv=>whnf)
 rfl
theorem oT(x s:ByteArray):(x==s)=decide (x=s):=by
 cases x with
 |mk a=>cases s with
  |mk b =>
   show(a==b)=_;rw[Bool.eq_iff_iff,decide_eq_true_eq,beq_iff_eq];exact⟨fun h=>by rw[h],fun h=>by injection h⟩
theorem r7(l:List ByteArray)(i:Nat)(hi:i<l.length):jD 1 i (gB l)=[jX l[i]]:=y8 jX l i hi
theorem jgV(l:List ByteArray)(s:ByteArray)(hl:l.length<=1000000):Spec Tryz.prog 56 [] [.sl 1 l.length (gB l),jX s] fun _ r=>r=intA (gM l s):=by
 refine eN jR qB 0 Tryz.func56 rfl ?_;intro _;conv=>whnf
 refine jC [0,1] ?_;conv=>whnf
 refine jI (fun j:Nat=>[(5,.v (.int .i64 j))]) (fun _=>[]) (fun _=>[]) (fun j=>j<=l.length/\∀i (h:i<l.length),i<j->(l[i]==s)=false) (fun j=>l.length-j) 0 ?_ ⟨Nat.zero_le _,fun i h h2=>by omega⟩ ?_
 ·repeat' constructor
 rintro j ⟨hj,hn⟩;conv=>whnf
 rcases Nat.lt_or_ge j l.length with hlt|hge
 ·have hrow:=r7 l j hlt;rw[jJ (show(j:Int)<(l.length:Int) by omega)];conv=>whnf
  refine⟨show(0:Int)<=(j:Int)/\(j:Int)<(l.length:Nat) from ⟨by omega,by omega⟩,?_⟩;conv=>whnf
  (generalize hrq:jD _ _ (gB l)=rq;obtain rfl:rq=[jX l[j]]:=hrq.symm.trans (hrow);clear hrq;conv=>whnf)
  by_cases he:l[j]=s
  ·rw[jJ he];rw[rX hlt (fun i h h2=>hn i h h2) (by rw[oT,he,jJ rfl])];conv=>whnf
   rfl
  rw[jG he];conv=>whnf
  refine jN j (by omega) ?_;conv=>whnf
  refine⟨j+1,jF [] ?_,⟨show j+1<=l.length by omega,fun i h h2=>?_⟩,show l.length-(j+1)<l.length-j by omega⟩
  ·conv=>whnf
   repeat' constructor
  ·by_cases q:i=j
   ·subst q;rw[oT,jG he]
   ·exact hn i h (by omega)
 rw[mJ fun i h=>hn i h (by omega)];rw[jG (show ¬(j:Int)<(l.length:Int) by omega)];conv=>whnf
 rfl
theorem jbq:Spec Tryz.prog 57 [] [] fun _ r=>r=.sl 1 9 (gB builtL):=by
 refine eN jR qB 0 Tryz.func57 rfl ?_;intro _;conv=>whnf
 rfl
theorem jm2(s:ByteArray):gM builtL s=biF s:=by
 unfold gM biF;rw[show(fun x:ByteArray=>x==s)=fun x=>decide (x=s) from funext fun x=>oT x s]
 cases builtL.findIdx? (fun x=>decide (x=s)) <;> rfl
theorem uS(s:ByteArray)(h:(opBin.any fun x=>decide (s=x))=true):jad Tryz.prog 80 [jX s] fun e k n cs r=>e=84/\k=2/\n=(opC s).length/\cs=wA (opC s)/\r=.own 0:=by
 have h:=lV h;unfold opBin at h;simp only[List.mem_cons,List.not_mem_nil,or_false] at h;rcases h with rfl|rfl|rfl|rfl|rfl|rfl|rfl|rfl|rfl|rfl
 all_goals
  refine eNF jR qB Tryz.func80 rfl ?_;intro _;conv=>whnf
  refine⟨0,?_⟩;conv=>whnf
  exact⟨rfl,rfl,rfl,by unfold wA;rfl,rfl⟩
theorem r6(u:Ut)(hu:eD u)(s:ByteArray):Spec Tryz.prog 30 [] [.agg (iE u),jX s] fun _ r=>r=intA (jS u s):=by
 have hdv:=hu.du
 obtain⟨R,hR⟩:∃R,jS u s=R:=⟨_,rfl⟩
 rw[hR];unfold jS vM at hR;refine eN jR qB 0 Tryz.func30 rfl ?_;intro _;conv=>whnf
 refine jC [1,2] ?_;conv=>whnf
 refine jI (fun j:Nat=>[(5,.v (.int .i64 j))]) (fun _=>[iE u]) (fun _=>[]) (fun j=>j<=u.du.length/\∀i (h:i<u.du.length),i<j->(u.du[i]==s)=false) (fun j=>u.du.length-j) 0 ?_ ⟨Nat.zero_le _,fun i h h2=>by omega⟩ ?_
 ·repeat' constructor
 rintro j ⟨hj,hn⟩;conv=>whnf
 rcases Nat.lt_or_ge j u.du.length with hlt|hge
 ·have hrow:=r7 u.du j hlt;rw[jJ (show(j:Int)<(u.du.length:Int) by omega)];conv=>whnf
  refine⟨show(0:Int)<=(j:Int)/\(j:Int)<(u.du.length:Nat) from ⟨by omega,by omega⟩,?_⟩;conv=>whnf
  (generalize hrq:jD _ _ (gB u.du)=rq;obtain rfl:rq=[jX u.du[j]]:=hrq.symm.trans (hrow);clear hrq;conv=>whnf)
  by_cases he:u.du[j]=s
  ·rw[jJ he];have hp:=rX hlt (fun i h h2=>hn i h h2) (show(u.du[j]==s)=true by rw[oT,he,jJ rfl]);rw[hp,if_pos (by omega)] at hR;conv=>whnf
   rw[<- hR];rfl
  rw[jG he];conv=>whnf
  refine jN j (by omega) ?_;conv=>whnf
  refine⟨j+1,jF [] ?_,⟨show j+1<=u.du.length by omega,fun i h h2=>?_⟩,show u.du.length-(j+1)<u.du.length-j by omega⟩
  ·conv=>whnf
   repeat' constructor
  ·by_cases q:i=j
   ·subst q;rw[oT,jG he]
   ·exact hn i h (by omega)
 have m1:=mJ (l:=u.du) (s:=s) fun i h=>hn i h (by omega)
 rw[jG (show ¬(j:Int)<(u.du.length:Int) by omega)];clear hn hj hge;conv=>whnf
 rw[m1,if_neg (by omega)] at hR;refine jC [1,2] ?_;conv=>whnf
 refine jI (fun j:Nat=>[(6,.v (.int .i64 j))]) (fun _=>[iE u]) (fun _=>[]) (fun j=>j<=u.vo.length/\∀i (h:i<u.vo.length),i<j->(u.vo[i]==s)=false) (fun j=>u.vo.length-j) 0 ?_ ⟨Nat.zero_le _,fun i h h2=>by omega⟩ ?_
 ·repeat' constructor
 rintro j ⟨hj,hn⟩;conv=>whnf
 rcases Nat.lt_or_ge j u.vo.length with hlt|hge
 ·have hrow:=r7 u.vo j hlt;rw[jJ (show(j:Int)<(u.vo.length:Int) by omega)];conv=>whnf
  refine⟨show(0:Int)<=(j:Int)/\(j:Int)<(u.vo.length:Nat) from ⟨by omega,by omega⟩,?_⟩;conv=>whnf
  (generalize hrq:jD _ _ (gB u.vo)=rq;obtain rfl:rq=[jX u.vo[j]]:=hrq.symm.trans (hrow);clear hrq;conv=>whnf)
  by_cases he:u.vo[j]=s
  ·rw[jJ he];have hp:=rX hlt (fun i h h2=>hn i h h2) (show(u.vo[j]==s)=true by rw[oT,he,jJ rfl]);rw[hp,if_pos (by omega)] at hR;conv=>whnf
   refine⟨jH (by omega),?_⟩;conv=>whnf
   rw[<- hR];rfl
  rw[jG he];conv=>whnf
  refine jN j (by omega) ?_;conv=>whnf
  refine⟨j+1,jF [] ?_,⟨show j+1<=u.vo.length by omega,fun i h h2=>?_⟩,show u.vo.length-(j+1)<u.vo.length-j by omega⟩
  ·conv=>whnf
   repeat' constructor
  ·by_cases q:i=j
   ·subst q;rw[oT,jG he]
   ·exact hn i h (by omega)
 have m2:=mJ (l:=u.vo) (s:=s) fun i h=>hn i h (by omega)
 rw[jG (show ¬(j:Int)<(u.vo.length:Int) by omega)];clear hn hj hge;conv=>whnf
 rw[m2,if_neg (by omega)] at hR;rw[<- hR];rfl
def apF(s:ByteArray)(a b:Int):Int:=if 1<(opC s).length then 1-xA ((opC s).getD 0 (0,0)).1 a b else xA ((opC s).getD 0 (0,0)).1 a b
theorem jsl(s:ByteArray)(h:(opBin.any fun x=>decide (s=x))=true):∃o,(6<=o/\o<=13)/\(opC s=[(o,0)]∨opC s=[(o,0),(14,0)]):=by
 have h:=lV h;unfold opBin at h;simp only[List.mem_cons,List.not_mem_nil,or_false] at h;rcases h with rfl|rfl|rfl|rfl|rfl|rfl|rfl|rfl|rfl|rfl
 ·exact⟨6,by decide,.inl (by decide)⟩
 ·exact⟨7,by decide,.inl (by decide)⟩
 ·exact⟨8,by decide,.inl (by decide)⟩
 ·exact⟨9,by decide,.inl (by decide)⟩
 ·exact⟨11,by decide,.inl (by decide)⟩
 ·exact⟨12,by decide,.inl (by decide)⟩
 ·exact⟨13,by decide,.inl (by decide)⟩
 ·exact⟨12,by decide,.inr (by decide)⟩
 ·exact⟨11,by decide,.inr (by decide)⟩
 ·exact⟨13,by decide,.inr (by decide)⟩
theorem jfW(b:Bool):0<=flF b/\flF b<=1:=by unfold flF;split <;> omega
theorem jem{o a b:Int} : -2147483648<=xA o a b/\xA o a b<=2147483648:=by
 have l:=fun n=>jjV n
 have f:=fun b=>jfW b
 unfold xA
 repeat' split
 all_goals first
  |omega
  |(have:=l (a+b);omega)
  |(have:=l (a-b);omega)
  |(have:=l (a*b);omega)
  |(have:=l (a.tdiv b);omega)
  |(have:=f (decide (a<b));omega)
  |(have:=f (decide (a<=b));omega)
  |(have:=f (decide (a=b));omega)
theorem jhP(s:ByteArray)(a b:Int)(h:(opBin.any fun x=>decide (s=x))=true)(ha:Sm a)(hb:Sm b):Spec Tryz.prog 58 [] [jX s,intA a,intA b] fun _ r=>r=intA (apF s a b):=by
 have hop:=uS s h;obtain⟨o,ho,hm⟩:=jsl s h;unfold apF;rcases hm with hm|hm
 all_goals
  rw[hm] at hop;rw[hm];have hc:=jcG o a b ho ha hb;refine eN jR qB 0 Tryz.func58 rfl ?_;intro _;conv=>whnf
  refine jqx 0 [] rfl rfl (fun _=>hop) ?_;rintro e k n cs r ⟨rfl,rfl,rfl,rfl,rfl⟩;conv=>whnf
  refine⟨⟨by omega,by simp⟩,?_⟩;unfold wA;conv=>whnf
  (refine kL [] hc ?_;rintro r rfl;conv=>whnf)
 ·rfl
 ·have hr : -2147483648<=xA o a b/\xA o a b<=2147483648:=jem;refine⟨jH (by omega),?_⟩;conv=>whnf
  rfl
structure Ms where
 v:Nat->Int
 lg:List Int
 st:Int
 dr:Int
 sp:Bool
def vIx(u:Ut)(s:ByteArray):Nat:=((max (jS u s) 0).tmod 16).toNat
def Ev:=Ms->Int×Ms
def jl3:Ev:=fun t=>(0,t)
def jrn(u:Ut)(sd:Int)(k n:Int)(s:ByteArray)(g:List Ev):Ev:=fun t0 =>
 let t:Ms:=⟨t0.v,t0.lg,t0.st-1,t0.dr,t0.sp⟩
 if k=14 then(t.v (vIx u s),t)
 else if k=15 then(gM builtL s+3,t)
 else if k=16 then
  let r:=g.getD 0 jl3 t
  let y:=drF sd r.2.dr r.1
  (y,⟨r.2.v,r.2.lg++[1,r.1,y],r.2.st,r.2.dr+1,r.2.sp⟩)
 else if k=17 then
  let r:=g.getD 0 jl3 t
  if s=pMinus then(-r.1,r.2) else(flF (decide (r.1=0)),r.2)
 else if k=18 then
  let r:=g.getD 0 jl3 t
  if s=k9/\r.1=0 then(0,r.2)
  else if s=pOr/\r.1≠0 then(1,r.2)
  else
   let q:=g.getD 1 jl3 r.2
   if s=k9∨s=pOr then(q.1,q.2) else(apF s r.1 q.1,q.2)
 else(n,t)
mutual
def qL(u:Ut)(sd:Int):Nt->Ev
 |.mk k n s kids=>jrn u sd k n s (jmE u sd kids)
def jmE(u:Ut)(sd:Int):List Nt->List Ev
 |[]=>[]
 |f::l=>qL u sd f::jmE u sd l
end
structure OkM(t:Ms)(m:Int):Prop where
 v:∀i,i<16->Sm (t.v i)
 lg:(t.lg.length:Int)+3*m<=900000
 st : -100000000<=t.st-m/\t.st<=100000
 dr:0<=t.dr/\t.dr+m<=900000
def sL(u:Ut)(sd:Int)(f:Nt):Prop:=∀t:Ms,OkM t (j6 f)->zY 29 t.v t.lg t.st t.dr t.sp sd [.box 0 0,.agg (iE u),.agg (ntA f)] fun v' lg' st' dr' sp' r=>let q:=qL u sd f t;v'=q.2.v/\lg'=q.2.lg/\st'=q.2.st/\dr'=q.2.dr/\sp'=q.2.sp/\r=intA q.1
mutual
def kS:Nt->Prop
 |.mk k n _ kids=>(k=12∨k=13->Sm n)/\dK kids/\(k=7∨k=8∨k=9->n=0)
def dK:List Nt->Prop
 |[]=>True
 |f::l=>kS f/\dK l
end
theorem OkM.mono{t:Ms}{m m':Int}(h:OkM t m)(hm:m'<=m):OkM t m':=by
 obtain⟨h1,h2,h3,h4⟩:=h;exact⟨h1,by omega,by omega,by omega⟩
theorem jj9(u:Ut)(s:ByteArray):vIx u s<16:=by
 unfold vIx
 have h0:0<=max (jS u s) 0:=by omega
 rw[Int.tmod_eq_emod_of_nonneg h0];omega
theorem jth{s:ByteArray}{a b:Int}:Sm (apF s a b):=by
 have h:∀o,-2147483648<=xA o a b/\xA o a b<=2147483648:=fun o=>jem
 have h2:∀o,xA o a b<=2147483647 /\ -2147483647<=xA o a b:=fun o=>by
  have l:=fun n=>jjV n
  have f:=fun b=>jfW b
  unfold xA
  repeat' split
  all_goals first
   |omega
   |(have:=l (a+b);omega)
   |(have:=l (a-b);omega)
   |(have:=l (a*b);omega)
   |(have:=l (a.tdiv b);omega)
   |(have:=f (decide (a<b));omega)
   |(have:=f (decide (a<=b));omega)
   |(have:=f (decide (a=b));omega)
 unfold apF Sm;have:=h2 ((opC s).getD 0 (0,0)).1
 split <;> omega
def EvR(u:Ut)(sd:Int)(f:Nt):Prop:=∀(t:Ms) (m:Int),(j6 f:Int)<=m->OkM t m->Sm (qL u sd f t).1/\OkM (qL u sd f t).2 (m-j6 f)
theorem mY{k n:Int}{s:ByteArray}{kids:List Nt}(h:xD (.mk k n s kids))(hx:isX (.mk k n s kids)=true):((k=12∨k=13∨k=14∨k=15)/\kids=[])∨((k=16∨k=17)/\∃f,kids=[f])∨(k=18/\∃f g,kids=[f,g]):=by
 unfold xD at h;have h1:=h.1;have hk:12<=k:=of_decide_eq_true hx;unfold arN at h1;rw[if_neg (by omega)] at h1;by_cases c1:k=12∨k=13∨k=14∨k=5∨k=6∨k=7∨k=10
 ·rw[if_pos c1,decide_eq_true_eq] at h1;exact .inl ⟨by omega,List.eq_nil_of_length_eq_zero h1⟩
 rw[if_neg c1] at h1;by_cases c2:k=15
 ·rw[if_pos c2,Bool.and_eq_true,decide_eq_true_eq] at h1;exact .inl ⟨by omega,List.eq_nil_of_length_eq_zero h1.1⟩
 rw[if_neg c2] at h1;by_cases c3:k=16∨k=1∨k=9
 ·rw[if_pos c3,decide_eq_true_eq] at h1;exact .inr (.inl ⟨by omega,List.length_eq_one_iff.1 h1⟩)
 rw[if_neg c3] at h1;by_cases c4:k=17
 ·rw[if_pos c4,Bool.and_eq_true,decide_eq_true_eq] at h1;exact .inr (.inl ⟨by omega,List.length_eq_one_iff.1 h1.1⟩)
 rw[if_neg c4] at h1;by_cases c5:k=18
 ·rw[if_pos c5,Bool.and_eq_true,decide_eq_true_eq] at h1;refine .inr (.inr ⟨c5,?_⟩)
  match kids,h1.1 with
  |[f,g],_=>exact⟨f,g,rfl⟩
 rw[if_neg c5] at h1
 exfalso
 rw[if_neg (by omega),if_neg (by omega)] at h1;exact absurd h1 (by simp)
theorem oE{k n:Int}{s:ByteArray}{kids:List Nt}(h:xD (.mk k n s kids))(hk:16<=k):∀f∈kids,xD f/\isX f=true:=fun f hf=>by
 unfold xD at h;obtain⟨_,h2,h3⟩:=h;refine⟨xN h2 hf,?_⟩;rw[jmf ⟨by omega,by omega,by omega⟩] at h3;exact List.all_eq_true.1 h3 f hf
theorem jY:∀{l:List Nt} {f:Nt},dK l->f∈l->kS f
 |x::r,f,h,hf=>by
  unfold dK at h;rcases List.mem_cons.1 hf with rfl|hf
  ·exact h.1
  ·exact jY h.2 hf
theorem jmF{u:Ut}{sd:Int}(hs:0<=sd/\sd<=1000){f:Nt}(ih:EvR u sd f){t:Ms}{m:Int}(hm:3+(j6 f:Int)<=m)(ht:OkM t m):Sm (qL u sd f ⟨t.v,t.lg,t.st-1,t.dr,t.sp⟩).1/\OkM (qL u sd f ⟨t.v,t.lg,t.st-1,t.dr,t.sp⟩).2 (m-1-j6 f):=by
 obtain⟨h1,h2,h3,h4⟩:=ht;exact ih ⟨t.v,t.lg,t.st-1,t.dr,t.sp⟩ (m-1) (by omega) ⟨h1,show(t.lg.length:Int)+3*(m-1)<=900000 by omega,show -100000000<=t.st-1-(m-1)/\t.st-1<=100000 by omega,show 0<=t.dr/\t.dr+(m-1)<=900000 by omega⟩
theorem jpb{u:Ut}{sd:Int}(hs:0<=sd/\sd<=1000){k n:Int}{s:ByteArray}{kids:List Nt}(hw:xD (.mk k n s kids))(hx:isX (.mk k n s kids)=true)(hl:kS (.mk k n s kids))(hu:eD u)(ih:∀f∈kids,EvR u sd f):EvR u sd (.mk k n s kids):=fun t m hm ht=>by
 unfold kS at hl;have hsz:j6 (.mk k n s kids)=3+qF kids:=rfl;rw[hsz] at hm ⊢;obtain⟨h1,h2,h3,h4⟩:=id ht
 have hm0:∀(m':Int),m'<=m-1->OkM ⟨t.v,t.lg,t.st-1,t.dr,t.sp⟩ m':=fun m' hm'=>⟨h1,show(t.lg.length:Int)+3*m'<=900000 by omega,show -100000000<=t.st-1-m'/\t.st-1<=100000 by omega,show 0<=t.dr/\t.dr+m'<=900000 by omega⟩
 rcases mY hw hx with ⟨hk,rfl⟩|⟨hk,f,rfl⟩|⟨rfl,f,g,rfl⟩
 ·have hz:qF []=0:=rfl;rcases hk with rfl|rfl|rfl|rfl
  ·exact⟨hl.1 (.inl rfl),hm0 _ (by omega)⟩
  ·exact⟨hl.1 (.inr rfl),hm0 _ (by omega)⟩
  ·exact⟨h1 _ (jj9 u s),hm0 _ (by omega)⟩
  ·refine⟨?_,hm0 _ (by omega)⟩;have hb:=lD builtL s;have hb9:builtL.length=9:=rfl;show Sm (gM builtL s+3);unfold Sm;omega
 ·have hz:qF [f]=j6 f+0:=rfl;obtain⟨g1,g2⟩:=jmF hs (ih f List.mem_cons_self) (by omega) ht;rcases hk with rfl|rfl
  ·obtain⟨r,hr⟩:∃r,qL u sd f ⟨t.v,t.lg,t.st-1,t.dr,t.sp⟩=r:=⟨_,rfl⟩
   have e:qL u sd (.mk 16 n s [f]) t=(drF sd r.2.dr r.1,⟨r.2.v,r.2.lg++[1,r.1,drF sd r.2.dr r.1],r.2.st,r.2.dr+1,r.2.sp⟩):=by rw[<- hr];rfl
   rw[e];rw[hr] at g1 g2;obtain⟨q1,q2,q3,q4⟩:=g2;have hd:=ji4 (k:=r.1) (dr:=r.2.dr) hs (by omega);refine⟨by unfold Sm;simp only;omega,q1,?_,?_,?_⟩
   ·simp only[List.length_append,List.length_cons,List.length_nil];omega
   ·simp only;omega
   ·simp only;omega
  ·by_cases hp:s=pMinus
   ·have e:qL u sd (.mk 17 n s [f]) t=(-(qL u sd f ⟨t.v,t.lg,t.st-1,t.dr,t.sp⟩).1,(qL u sd f ⟨t.v,t.lg,t.st-1,t.dr,t.sp⟩).2):=by
     show(if s=pMinus then _ else _)=_;rw[if_pos hp];rfl
    rw[e];unfold Sm at g1 ⊢;exact⟨by simp only;omega,g2.mono (by omega)⟩
   ·have e:qL u sd (.mk 17 n s [f]) t=(flF (decide ((qL u sd f ⟨t.v,t.lg,t.st-1,t.dr,t.sp⟩).1=0)),(qL u sd f ⟨t.v,t.lg,t.st-1,t.dr,t.sp⟩).2):=by
     show(if s=pMinus then _ else _)=_;rw[if_neg hp];rfl
    rw[e];have:=jfW (decide ((qL u sd f ⟨t.v,t.lg,t.st-1,t.dr,t.sp⟩).1=0));exact⟨by unfold Sm;simp only;omega,g2.mono (by omega)⟩
 ·have hz:qF [f,g]=j6 f+(j6 g+0):=rfl;obtain⟨g1,g2⟩:=jmF hs (ih f List.mem_cons_self) (by omega) ht;have g3:=ih g (by simp) (qL u sd f ⟨t.v,t.lg,t.st-1,t.dr,t.sp⟩).2 _ (by omega) g2
  obtain⟨r,hr⟩:∃r,qL u sd f ⟨t.v,t.lg,t.st-1,t.dr,t.sp⟩=r:=⟨_,rfl⟩
  have e:qL u sd (.mk 18 n s [f,g]) t=if s=k9/\r.1=0 then(0,r.2) else if s=pOr/\r.1≠0 then(1,r.2) else if s=k9∨s=pOr then((qL u sd g r.2).1,(qL u sd g r.2).2) else(apF s r.1 (qL u sd g r.2).1,(qL u sd g r.2).2):=by
   rw[<- hr];rfl
  rw[e];rw[hr] at g1 g2 g3
  repeat' split
  ·exact⟨by unfold Sm;simp only;omega,g2.mono (by omega)⟩
  ·exact⟨by unfold Sm;simp only;omega,g2.mono (by omega)⟩
  ·exact⟨g3.1,g3.2.mono (by omega)⟩
  ·exact⟨jth,g3.2.mono (by omega)⟩
mutual
theorem jmH{u:Ut}{sd:Int}(hs:0<=sd/\sd<=1000)(hu:eD u):∀f:Nt,xD f->isX f=true->kS f->EvR u sd f
 |.mk k n s kids,hw,hx,hl=>jpb hs hw hx hl hu (fun f hf=>by
   have hl2:dK kids:=by unfold kS at hl;exact hl.2.1
   have hk:16<=k:=by
    rcases mY hw hx with ⟨_,rfl⟩|⟨h,_⟩|⟨h,_⟩
    ·cases hf
    ·omega
    ·omega
   exact ji8 hs hu kids f hf (oE hw hk f hf).1 (oE hw hk f hf).2 (jY hl2 hf))
theorem ji8{u:Ut}{sd:Int}(hs:0<=sd/\sd<=1000)(hu:eD u):∀l:List Nt,∀f∈l,xD f->isX f=true->kS f->EvR u sd f
 |[]=>fun _ h=>by cases h
 |x::l =>
  have h1:=jmH hs hu x;have h2:=ji8 hs hu l
  fun f hf=>(List.mem_cons.1 hf).elim (fun e=>e ▸ h1) (h2 f)
end
theorem jkr(v:Nat->Int)(lg:A)(st dr:Int)(sp:Bool)(sd:Int){j:Nat}(hj:j<16):(stE v lg st dr sp sd).drop (0+0+(j:Int).toNat*1)=intA (v j)::(stE v lg st dr sp sd).drop (j+1):=by
 have hl:(stE v lg st dr sp sd).length=21:=rfl
 have hv:(vrL v).length=16:=by unfold vrL;simp
 rw[show 0+0+(j:Int).toNat*1=j by omega,List.drop_eq_getElem_cons (by omega)]
 congr 1
 have h:=joD v j hj
 have h2:(stE v lg st dr sp sd)[j]?=some (intA (v j)):=by
  rw[jfe,List.getElem?_append_left (by omega)];exact h
 rw[List.getElem?_eq_getElem (by omega)] at h2;exact Option.some.inj h2
theorem joB(u:Ut)(hu:eD u)(sd k n:Int)(s:ByteArray)(hk:k=12∨k=13∨k=14∨k=15):sL u sd (.mk k n s []):=fun t ht=>by
 obtain⟨h1,h2,h3,h4⟩:=ht;have hsz:j6 (.mk k n s [])=3:=rfl;rw[hsz] at h2 h3 h4;have hix:=r6 u hu s;rcases hk with rfl|rfl|rfl|rfl
 ·unfold zY;refine qP (jQ jbh qB 1) (fun _ _ h=>h.elim) Tryz.func29 rfl (by kernel_rfl) rfl (by kernel_rfl) ?_;intro _;conv=>whnf
  refine⟨jH (by omega),?_⟩;conv=>whnf
  refine⟨0,?_⟩;conv=>whnf
  exact⟨_,_,_,_,_,rfl,rfl,rfl,rfl,rfl,rfl,rfl,rfl,rfl⟩
 ·unfold zY;refine qP (jQ jbh qB 1) (fun _ _ h=>h.elim) Tryz.func29 rfl (by kernel_rfl) rfl (by kernel_rfl) ?_;intro _;conv=>whnf
  refine⟨jH (by omega),?_⟩;conv=>whnf
  refine⟨0,?_⟩;conv=>whnf
  exact⟨_,_,_,_,_,rfl,rfl,rfl,rfl,rfl,rfl,rfl,rfl,rfl⟩
 ·unfold zY;refine qP (jQ jbh qB 1) (fun _ _ h=>h.elim) Tryz.func29 rfl (by kernel_rfl) rfl (by kernel_rfl) ?_;intro _;conv=>whnf
  refine⟨jH (by omega),?_⟩;conv=>whnf
  refine kL [] hix ?_;rintro r rfl;conv=>whnf
  refine⟨by decide,?_⟩
  have hj:(max (jS u s) 0).tmod 16=((vIx u s:Nat):Int):=by
   unfold vIx
   have h0:0<=max (jS u s) 0:=by omega
   rw[Int.tmod_eq_emod_of_nonneg h0];omega
  have hlt:=jj9 u s;have hg:=joD t.v (vIx u s) hlt;rw[hj];conv=>whnf
  refine⟨⟨by omega,by omega⟩,?_⟩;conv=>whnf
  generalize hrq:List.drop _ [intA (t.v 0),_,_,_,_,_,_,_,_,_,_,_,_,_,_,_,_,_,_,_,_]=rq;obtain rfl:rq=intA (t.v (vIx u s))::_:=hrq.symm.trans (jkr t.v (.own 0) (t.st-1) t.dr t.sp sd hlt);clear hrq;conv=>whnf
  refine⟨0,?_⟩;conv=>whnf
  exact⟨_,_,_,_,_,rfl,rfl,rfl,rfl,rfl,rfl,rfl,rfl,rfl⟩
 ·unfold zY;refine qP (jQ jbh qB 1) (fun _ _ h=>h.elim) Tryz.func29 rfl (by kernel_rfl) rfl (by kernel_rfl) ?_;intro _;conv=>whnf
  refine⟨jH (by omega),?_⟩;conv=>whnf
  have hfi:=jgV builtL s (by decide);have hbu:=jbq;have hpb:=lD builtL s;have hb9:builtL.length=9:=rfl;refine kL [] hbu ?_;rintro r rfl;conv=>whnf
  refine kL [] hfi ?_;rintro r rfl;conv=>whnf
  refine⟨jH (by omega),?_⟩;conv=>whnf
  refine⟨0,?_⟩;conv=>whnf
  exact⟨_,_,_,_,_,rfl,rfl,rfl,rfl,rfl,rfl,rfl,rfl,rfl⟩
theorem jbf{t:Ms}{m:Int}(h:OkM t m):OkM ⟨t.v,t.lg,t.st-1,t.dr,t.sp⟩ (m-1):=by
 obtain⟨h1,h2,h3,h4⟩:=h;exact⟨h1,show(t.lg.length:Int)+3*(m-1)<=900000 by omega,show -100000000<=t.st-1-(m-1)/\t.st-1<=100000 by omega,show 0<=t.dr/\t.dr+(m-1)<=900000 by omega⟩
theorem joA(u:Ut)(hu:eD u)(sd n:Int)(hs:0<=sd/\sd<=1000)(s:ByteArray)(f:Nt)(ih:sL u sd f)(ir:EvR u sd f):sL u sd (.mk 16 n s [f]):=fun t ht=>by
 have hsz:j6 (.mk 16 n s [f])=3+(j6 f+0):=rfl;have hst:=ht.st;rw[hsz] at ht hst;have h0:=(jbf ht).mono (m':=(j6 f:Int)) (by omega);have h00:=ir _ _ (Int.le_refl _) h0;have hv:=ih _ h0;have h5:=ir _ ((j6 f:Int)+2) (by omega) ((jbf ht).mono (by omega))
 obtain⟨r0,hr0⟩:∃r0,qL u sd f ⟨t.v,t.lg,t.st-1,t.dr,t.sp⟩=r0:=⟨_,rfl⟩
 have e:qL u sd (.mk 16 n s [f]) t=(drF sd r0.2.dr r0.1,⟨r0.2.v,r0.2.lg++[1,r0.1,drF sd r0.2.dr r0.1],r0.2.st,r0.2.dr+1,r0.2.sp⟩):=by rw[<- hr0];rfl
 rw[e];rw[hr0] at hv h5;obtain⟨a,v1,lg1,st1,dr1,sp1⟩:=r0;have hrow:jD 4 0 (qW [f])=ntA f:=qT [f] 0 (by simp);have hd:=jcQ v1 lg1 st1 dr1 sp1 sd a (by have:=h5.2.lg;simp only at this;omega) hs (by have:=h5.2.dr;simp only at this;omega);unfold zY at hv hd;unfold zY;refine qP (jQ jbh qB 1) (fun _ _ h=>h.elim) Tryz.func29 rfl (by kernel_rfl) rfl (by kernel_rfl) ?_;intro _;conv=>whnf
 refine⟨jH (by omega),?_⟩;conv=>whnf
 refine⟨⟨by omega,by show(0:Int)<1;decide⟩,?_⟩;conv=>whnf
 generalize hrq:jD 4 (Int.toNat 0) _=rq;obtain rfl:rq=ntA f:=hrq.symm.trans hrow;clear hrq;conv=>whnf
 refine wE 0 0 1 [] hv ?_;rintro o n' cs' r ⟨v2,lg2,st2,dr2,sp2,ho,rfl,rfl,e1,e2,e3,e4,e5,rfl⟩;cases ho;subst e1 e2 e3 e4 e5;conv=>whnf
 refine wE 0 1 2 [] hd ?_;rintro o n' cs' r ⟨v2,lg2,st2,dr2,sp2,ho,rfl,rfl,e1,e2,e3,e4,e5,rfl⟩;cases ho;subst e1 e2 e3 e4 e5;conv=>whnf
 refine⟨2,?_⟩;conv=>whnf
 exact⟨_,_,_,_,_,rfl,rfl,rfl,rfl,rfl,rfl,rfl,rfl,rfl⟩
theorem jqb(u:Ut)(hu:eD u)(sd n:Int)(hs:0<=sd/\sd<=1000)(s:ByteArray)(f:Nt)(ih:sL u sd f)(ir:EvR u sd f):sL u sd (.mk 17 n s [f]):=fun t ht=>by
 have hsz:j6 (.mk 17 n s [f])=3+(j6 f+0):=rfl;have hst:=ht.st;rw[hsz] at ht hst;have h0:=(jbf ht).mono (m':=(j6 f:Int)) (by omega);have hv:=ih _ h0;have h5:=ir _ (j6 f) (by omega) h0
 obtain⟨r0,hr0⟩:∃r0,qL u sd f ⟨t.v,t.lg,t.st-1,t.dr,t.sp⟩=r0:=⟨_,rfl⟩
 have e:qL u sd (.mk 17 n s [f]) t=if s=pMinus then(-r0.1,r0.2) else(flF (decide (r0.1=0)),r0.2):=by rw[<- hr0];rfl
 rw[e];rw[hr0] at hv h5;obtain⟨a,v1,lg1,st1,dr1,sp1⟩:=r0;have ha:Sm a:=h5.1;unfold Sm at ha;have hrow:jD 4 0 (qW [f])=ntA f:=qT [f] 0 (by simp);have hfl:=aV (decide (a=0));unfold zY at hv
 simp only at hv ⊢
 rw[show ntA (.mk 17 n s [f])=[intA 17,intA n,jX s,.sl 4 1 (qW [f])] from rfl];unfold zY;refine qP (jQ jbh qB 1) (fun _ _ h=>h.elim) Tryz.func29 rfl (by kernel_rfl) rfl (by kernel_rfl) ?_;intro _;conv=>whnf
 refine⟨jH (by omega),?_⟩;conv=>whnf
 refine⟨⟨by omega,by show(0:Int)<1;decide⟩,?_⟩;conv=>whnf
 generalize hrq:jD 4 (Int.toNat 0) _=rq;obtain rfl:rq=ntA _:=hrq.symm.trans hrow;clear hrq;conv=>whnf
 refine wE 0 0 1 [] hv ?_;rintro o n' cs' r ⟨v2,lg2,st2,dr2,sp2,ho,rfl,rfl,e1,e2,e3,e4,e5,rfl⟩;cases ho;subst e1 e2 e3 e4 e5;conv=>whnf
 by_cases hm:s=pMinus
 ·rw[if_pos hm,jJ (p:=s=⟨_⟩) hm];conv=>whnf
  refine⟨jH (by omega),?_⟩;rw[show(0:Int)-a = -a by omega];conv=>whnf
  refine⟨1,?_⟩;conv=>whnf
  exact⟨_,_,_,_,_,rfl,rfl,rfl,rfl,rfl,rfl,rfl,rfl,rfl⟩
 ·rw[if_neg hm,jG (p:=s=⟨_⟩) hm];conv=>whnf
  refine kL [] hfl ?_;rintro r rfl;conv=>whnf
  refine⟨1,?_⟩;conv=>whnf
  exact⟨_,_,_,_,_,rfl,rfl,rfl,rfl,rfl,rfl,rfl,rfl,rfl⟩
theorem jqa(u:Ut)(hu:eD u)(sd n:Int)(hs:0<=sd/\sd<=1000)(s:ByteArray)(hop:(opAll.any fun x=>decide (s=x))=true)(f g:Nt)(ih:sL u sd f)(ir:EvR u sd f)(ih2:sL u sd g)(ir2:EvR u sd g):sL u sd (.mk 18 n s [f,g]):=fun t ht=>by
 have hsz:j6 (.mk 18 n s [f,g])=3+(j6 f+(j6 g+0)):=rfl;have hst:=ht.st;rw[hsz] at ht hst;have hv:=ih _ ((jbf ht).mono (m':=(j6 f:Int)) (by omega));have h5:=ir _ ((j6 f:Int)+j6 g) (by omega) ((jbf ht).mono (by omega))
 obtain⟨r0,hr0⟩:∃r0,qL u sd f ⟨t.v,t.lg,t.st-1,t.dr,t.sp⟩=r0:=⟨_,rfl⟩
 have e:qL u sd (.mk 18 n s [f,g]) t=if s=k9/\r0.1=0 then(0,r0.2) else if s=pOr/\r0.1≠0 then(1,r0.2) else if s=k9∨s=pOr then((qL u sd g r0.2).1,(qL u sd g r0.2).2) else(apF s r0.1 (qL u sd g r0.2).1,(qL u sd g r0.2).2):=by rw[<- hr0];rfl
 rw[e];clear e;rw[hr0] at hv h5;have hv2:=ih2 r0.2 (h5.2.mono (by omega));have h6:=ir2 r0.2 (j6 g) (by omega) (h5.2.mono (by omega));clear hr0
 obtain⟨q,hq⟩:∃q,qL u sd g r0.2=q:=⟨_,rfl⟩
 rw[hq] at hv2 h6 ⊢;clear hq;obtain⟨a,v1,lg1,st1,dr1,sp1⟩:=r0;obtain⟨b,v3,lg3,st3,dr3,sp3⟩:=q;have ha:Sm a:=h5.1;have hb:Sm b:=h6.1;have hrow:jD 4 0 (qW [f,g])=ntA f:=qT [f,g] 0 (by simp);have hrow2:jD 4 1 (qW [f,g])=ntA g:=qT [f,g] 1 (by simp);unfold zY at hv hv2
 simp only at hv hv2 ⊢
 rw[show ntA (.mk 18 n s [f,g])=[intA 18,intA n,jX s,.sl 4 2 (qW [f,g])] from rfl];unfold zY;refine qP (jQ jbh qB 1) (fun _ _ h=>h.elim) Tryz.func29 rfl (by kernel_rfl) rfl (by kernel_rfl) ?_;intro _;conv=>whnf
 refine⟨jH (by omega),?_⟩;conv=>whnf
 refine⟨⟨by omega,by show(0:Int)<2;decide⟩,?_⟩;conv=>whnf
 generalize hrq:jD 4 (Int.toNat 0) _=rq;obtain rfl:rq=ntA _:=hrq.symm.trans hrow;clear hrq;conv=>whnf
 refine wE 0 0 1 [] hv ?_;rintro o n' cs' r ⟨v2,lg2,st2,dr2,sp2,ho,rfl,rfl,e1,e2,e3,e4,e5,rfl⟩;cases ho;subst e1 e2 e3 e4 e5;conv=>whnf
 by_cases hA:s=k9
 ·rw[jJ (p:=s=⟨_⟩) hA];conv=>whnf
  by_cases h0:a=0
  ·rw[jJ h0,if_pos ⟨hA,h0⟩];conv=>whnf
   refine⟨1,?_⟩;conv=>whnf
   exact⟨_,_,_,_,_,rfl,rfl,rfl,rfl,rfl,rfl,rfl,rfl,rfl⟩
  have hO:s≠pOr:=by rw[hA];decide
  rw[jG h0,if_neg (fun h=>h0 h.2),if_neg (fun h=>hO h.1),if_pos (.inl hA)];conv=>whnf
  rw[jG (p:=s=⟨_⟩) hO];conv=>whnf
  refine⟨⟨by omega,by show(1:Int)<2;decide⟩,?_⟩;conv=>whnf
  generalize hrq:jD 4 (Int.toNat 1) _=rq;obtain rfl:rq=ntA _:=hrq.symm.trans hrow2;clear hrq;conv=>whnf
  refine wE 0 1 2 [] hv2 ?_;rintro o n' cs' r ⟨v2,lg2,st2,dr2,sp2,ho,rfl,rfl,e1,e2,e3,e4,e5,rfl⟩;cases ho;subst e1 e2 e3 e4 e5;conv=>whnf
  rw[jJ (p:=s=⟨_⟩) hA];conv=>whnf
  refine⟨2,?_⟩;conv=>whnf
  exact⟨_,_,_,_,_,rfl,rfl,rfl,rfl,rfl,rfl,rfl,rfl,rfl⟩
 rw[jG (p:=s=⟨_⟩) hA,if_neg (fun h=>hA h.1)];conv=>whnf
 by_cases hO:s=pOr
 ·rw[jJ (p:=s=⟨_⟩) hO];conv=>whnf
  by_cases h0:a=0
  ·rw[jJ h0,if_neg (fun h=>h.2 h0),if_pos (.inr hO)];conv=>whnf
   refine⟨⟨by omega,by show(1:Int)<2;decide⟩,?_⟩;conv=>whnf
   generalize hrq:jD 4 (Int.toNat 1) _=rq;obtain rfl:rq=ntA _:=hrq.symm.trans hrow2;clear hrq;conv=>whnf
   refine wE 0 1 2 [] hv2 ?_;rintro o n' cs' r ⟨v2,lg2,st2,dr2,sp2,ho,rfl,rfl,e1,e2,e3,e4,e5,rfl⟩;cases ho;subst e1 e2 e3 e4 e5;conv=>whnf
   rw[jG (p:=s=⟨_⟩) hA];conv=>whnf
   rw[jJ (p:=s=⟨_⟩) hO];conv=>whnf
   refine⟨2,?_⟩;conv=>whnf
   exact⟨_,_,_,_,_,rfl,rfl,rfl,rfl,rfl,rfl,rfl,rfl,rfl⟩
  ·rw[jG h0,if_pos ⟨hO,h0⟩];conv=>whnf
   refine⟨1,?_⟩;conv=>whnf
   exact⟨_,_,_,_,_,rfl,rfl,rfl,rfl,rfl,rfl,rfl,rfl,rfl⟩
 have hb2:(opBin.any fun x=>decide (s=x))=true:=by
  have h:=lV hop;unfold opAll at h;unfold opBin;simp only[List.mem_cons,List.not_mem_nil,or_false] at h;rcases h with h|h|h|h|h|h|h|h|h|h|h|h
  ·exact absurd h hA
  ·exact absurd h hO
  all_goals(rw[h];decide)
 have hap:=jhP s a b hb2 ha hb;rw[jG (p:=s=⟨_⟩) hO,if_neg (fun h=>hO h.1),if_neg (fun h=>h.elim hA hO)];conv=>whnf
 refine⟨⟨by omega,by show(1:Int)<2;decide⟩,?_⟩;conv=>whnf
 generalize hrq:jD 4 (Int.toNat 1) _=rq;obtain rfl:rq=ntA _:=hrq.symm.trans hrow2;clear hrq;conv=>whnf
 refine wE 0 1 2 [] hv2 ?_;rintro o n' cs' r ⟨v2,lg2,st2,dr2,sp2,ho,rfl,rfl,e1,e2,e3,e4,e5,rfl⟩;cases ho;subst e1 e2 e3 e4 e5;conv=>whnf
 rw[jG (p:=s=⟨_⟩) hA];conv=>whnf
 rw[jG (p:=s=⟨_⟩) hO];conv=>whnf
 refine kL [] hap ?_;rintro r rfl;conv=>whnf
 refine⟨2,?_⟩;conv=>whnf
 exact⟨_,_,_,_,_,rfl,rfl,rfl,rfl,rfl,rfl,rfl,rfl,rfl⟩
theorem jqs{n:Int}{s:ByteArray}{kids:List Nt}(h:xD (.mk 18 n s kids)):(opAll.any fun x=>decide (s=x))=true:=by
 unfold xD at h;have h1:=h.1;unfold arN at h1;rw[if_neg (by decide),if_neg (by decide),if_neg (by decide),if_neg (by decide),if_neg (by decide),if_pos rfl,Bool.and_eq_true] at h1;exact h1.2
mutual
theorem ja8{u:Ut}(hu:eD u){sd:Int}(hs:0<=sd/\sd<=1000):∀f:Nt,xD f->isX f=true->kS f->sL u sd f
 |.mk k n s kids,hw,hx,hl=>by
  have hl2:dK kids:=by unfold kS at hl;exact hl.2.1
  have ihs:=jhz hu hs kids;have irs:=ji8 hs hu kids;rcases mY hw hx with ⟨hk,rfl⟩|⟨hk,f,rfl⟩|⟨rfl,f,g,rfl⟩
  ·exact joB u hu sd k n s hk
  ·have hf:=oE hw (by omega) f List.mem_cons_self;have hlf:=jY hl2 (f:=f) List.mem_cons_self;have h1:=ihs f List.mem_cons_self hf.1 hf.2 hlf;have h2:=irs f List.mem_cons_self hf.1 hf.2 hlf;rcases hk with rfl|rfl
   ·exact joA u hu sd n hs s f h1 h2
   ·exact jqb u hu sd n hs s f h1 h2
  ·have hf:=oE hw (by omega) f List.mem_cons_self;have hg:=oE hw (by omega) g (by simp);have hlf:=jY hl2 (f:=f) List.mem_cons_self;have hlg:=jY hl2 (f:=g) (by simp);exact jqa u hu sd n hs s (jqs hw) f g (ihs f List.mem_cons_self hf.1 hf.2 hlf) (irs f List.mem_cons_self hf.1 hf.2 hlf) (ihs g (by simp) hg.1 hg.2 hlg) (irs g (by simp) hg.1 hg.2 hlg)
theorem jhz{u:Ut}(hu:eD u){sd:Int}(hs:0<=sd/\sd<=1000):∀l:List Nt,∀f∈l,xD f->isX f=true->kS f->sL u sd f
 |[]=>fun _ h=>by cases h
 |x::l =>
  have h1:=ja8 hu hs x;have h2:=jhz hu hs l
  fun f hf=>(List.mem_cons.1 hf).elim (fun e=>e ▸ h1) (h2 f)
end
def Sv:=Ms->Ms
def jse:Sv:=fun t=>t
def bX(e:Ev)(b:Sv):Nat->Sv
 |0,t=>t
 |m+1,t=>if 0<t.st/\t.sp=false then(if (e t).1=0 then(e t).2 else bX e b m (b (e t).2)) else t
def kG:List Ev->Ms->List Int×Ms
 |[],t=>([],t)
 |e::l,t=>((e t).1::(kG l (e t).2).1,(kG l (e t).2).2)
def tU(u:Ut)(k n:Int)(s:ByteArray)(es:List Ev)(bs:List Sv):Sv:=fun t0 =>
 let t:Ms:=⟨t0.v,t0.lg,t0.st-1,t0.dr,t0.sp⟩
 if t.sp=true∨t.st<0 then t
 else if k=2 then
  let r:=es.getD 0 jl3 t
  if r.1≠0 then bs.getD 1 jse r.2 else bs.getD 2 jse r.2
 else if k=3 then bX (es.getD 0 jl3) (bs.getD 1 jse) t.st.toNat t
 else if k=11 then bs.foldl (fun t b=>b t) t
 else if k=10 then ⟨t.v,t.lg,t.st,t.dr,true⟩
 else
  let r:=kG es t
  if k=1 then ⟨fun i=>if i=vIx u s then r.1.getD 0 0 else r.2.v i,r.2.lg,r.2.st,r.2.dr,r.2.sp⟩
  else ⟨r.2.v,r.2.lg++[2,k,n]++r.1,r.2.st,r.2.dr,r.2.sp⟩
mutual
def j7(u:Ut)(sd:Int):Nt->Sv
 |.mk k n s kids=>tU u k n s (jmE u sd kids) (jjA u sd kids)
def jjA(u:Ut)(sd:Int):List Nt->List Sv
 |[]=>[]
 |f::l=>j7 u sd f::jjA u sd l
end
theorem jaG(u:Ut)(sd:Int):∀l:List Nt,jmE u sd l=l.map (qL u sd)
 |[]=>rfl
 |f::l=>by rw[jmE,jaG u sd l];rfl
theorem jcO(u:Ut)(sd:Int):∀l:List Nt,jjA u sd l=l.map (j7 u sd)
 |[]=>rfl
 |f::l=>by rw[jjA,jcO u sd l];rfl
structure EvP(z:Int)(t q:Ms):Prop where
 v:q.v=t.v
 sp:q.sp=t.sp
 hi:q.st<=t.st-1
 lo:t.st-z<=q.st
 d0:t.dr<=q.dr
 dr:q.dr+q.st<=t.dr+t.st
 lg:(q.lg.length:Int)+3*q.st<=t.lg.length+3*t.st
def EvQ(u:Ut)(sd:Int)(f:Nt):Prop:=∀t,EvP (j6 f) t (qL u sd f t).2
theorem jmG{u:Ut}{sd k n:Int}{s:ByteArray}{kids:List Nt}(hw:xD (.mk k n s kids))(hx:isX (.mk k n s kids)=true)(ih:∀f∈kids,EvQ u sd f):EvQ u sd (.mk k n s kids):=fun t=>by
 have hsz:j6 (.mk k n s kids)=3+qF kids:=rfl;rw[hsz];rcases mY hw hx with ⟨hk,rfl⟩|⟨hk,f,rfl⟩|⟨rfl,f,g,rfl⟩
 ·have hz:qF []=0:=rfl
  have e:(qL u sd (.mk k n s []) t).2=⟨t.v,t.lg,t.st-1,t.dr,t.sp⟩:=by rcases hk with rfl|rfl|rfl|rfl <;> rfl
  rw[e];exact⟨rfl,rfl,by simp only;omega,by simp only;omega,by simp only;omega,by simp only;omega,by simp only;omega⟩
 ·have hz:qF [f]=j6 f+0:=rfl;have g:=ih f List.mem_cons_self ⟨t.v,t.lg,t.st-1,t.dr,t.sp⟩
  obtain⟨r,hr⟩:∃r,qL u sd f ⟨t.v,t.lg,t.st-1,t.dr,t.sp⟩=r:=⟨_,rfl⟩
  rw[hr] at g;obtain⟨g1,g2,g3,g4,g5,g6,g7⟩:=g
  simp only at g1 g2 g3 g4 g5 g6 g7
  rcases hk with rfl|rfl
  ·have e:(qL u sd (.mk 16 n s [f]) t).2=⟨r.2.v,r.2.lg++[1,r.1,drF sd r.2.dr r.1],r.2.st,r.2.dr+1,r.2.sp⟩:=by rw[<- hr];rfl
   rw[e];refine⟨g1,g2,by simp only;omega,by simp only;omega,by simp only;omega,by simp only;omega,?_⟩;simp only[List.length_append,List.length_cons,List.length_nil];omega
  ·have e:(qL u sd (.mk 17 n s [f]) t).2=r.2:=by
    rw[<- hr];show(if s=pMinus then _ else _:Int×Ms).2=_
    split <;> rfl
   rw[e];exact⟨g1,g2,by omega,by omega,by omega,by omega,by omega⟩
 ·have hz:qF [f,g]=j6 f+(j6 g+0):=rfl;have g0:=ih f List.mem_cons_self ⟨t.v,t.lg,t.st-1,t.dr,t.sp⟩
  obtain⟨r,hr⟩:∃r,qL u sd f ⟨t.v,t.lg,t.st-1,t.dr,t.sp⟩=r:=⟨_,rfl⟩
  rw[hr] at g0;have q0:=ih g (by simp) r.2;obtain⟨g1,g2,g3,g4,g5,g6,g7⟩:=g0;obtain⟨q1,q2,q3,q4,q5,q6,q7⟩:=q0
  simp only at g1 g2 g3 g4 g5 g6 g7
  have e:(qL u sd (.mk 18 n s [f,g]) t).2=r.2∨(qL u sd (.mk 18 n s [f,g]) t).2=(qL u sd g r.2).2:=by
   rw[show qL u sd (.mk 18 n s [f,g]) t=if s=k9/\r.1=0 then(0,r.2) else if s=pOr/\r.1≠0 then(1,r.2) else if s=k9∨s=pOr then((qL u sd g r.2).1,(qL u sd g r.2).2) else(apF s r.1 (qL u sd g r.2).1,(qL u sd g r.2).2) by rw[<- hr];rfl]
   repeat' split
   ·exact .inl rfl
   ·exact .inl rfl
   ·exact .inr rfl
   ·exact .inr rfl
  rcases e with e|e
  ·rw[e];exact⟨g1,g2,by omega,by omega,by omega,by omega,by omega⟩
  ·rw[e];exact⟨q1.trans g1,q2.trans g2,by omega,by omega,by omega,by omega,by omega⟩
mutual
theorem sR{u:Ut}{sd:Int}:∀f:Nt,xD f->isX f=true->EvQ u sd f
 |.mk k n s kids,hw,hx=>jmG hw hx (fun f hf=>by
   have hk:16<=k:=by
    rcases mY hw hx with ⟨_,rfl⟩|⟨h,_⟩|⟨h,_⟩
    ·cases hf
    ·omega
    ·omega
   exact jqD kids f hf (oE hw hk f hf).1 (oE hw hk f hf).2)
theorem jqD{u:Ut}{sd:Int}:∀l:List Nt,∀f∈l,xD f->isX f=true->EvQ u sd f
 |[]=>fun _ h=>by cases h
 |x::l =>
  have h1:=sR x;have h2:=jqD l
  fun f hf=>(List.mem_cons.1 hf).elim (fun e=>e ▸ h1) (h2 f)
end
structure OkJ(t:Ms)(m:Int):Prop where
 v:∀i,i<16->Sm (t.v i)
 lg:(t.lg.length:Int)+4*t.st<=2000
 st : -60000<=min t.st 0-m
 s2:t.st<=300
 dr:0<=t.dr/\t.dr+t.st<=400
theorem OkJ.mono{t:Ms}{m m':Int}(h:OkJ t m)(hm:m'<=m):OkJ t m':=⟨h.v,h.lg,by have:=h.st;omega,h.s2,h.dr⟩
theorem OkJ.okM{t:Ms}{m z:Int}(h:OkJ t m)(hm:0<=m)(hz:z<=60000):OkM t z:=by
 obtain⟨h1,h2,h3,h4,h5⟩:=h;exact⟨h1,by omega,by omega,by omega⟩
theorem OkJ.dec{t:Ms}{m:Int}(h:OkJ t m):OkJ ⟨t.v,t.lg,t.st-1,t.dr,t.sp⟩ (m-1):=by
 obtain⟨h1,h2,h3,h4,h5⟩:=h;exact⟨h1,by simp only;omega,by simp only;omega,by simp only;omega,by simp only;omega⟩
theorem OkJ.ev{t q:Ms}{m z:Int}(h:OkJ t m)(hz:0<=z)(e:EvP z t q):OkJ q (m-z):=by
 obtain⟨h1,h2,h3,h4,h5⟩:=h;obtain⟨e1,e2,e3,e4,e5,e6,e7⟩:=e;exact⟨by rw[e1];exact h1,by omega,by omega,by omega,by omega⟩
theorem OkJ.up{t:Ms}{m:Int}(h:OkJ t m)(hs:0<t.st):OkJ t 60000:=⟨h.v,h.lg,by omega,h.s2,h.dr⟩
def DoR(u:Ut)(sd:Int)(f:Nt):Prop:=∀(t:Ms) (m:Int),(j6 f:Int)<=m->OkJ t m->OkJ (j7 u sd f t) (m-j6 f)/\(j7 u sd f t).st<=t.st-1
structure jtd(n:Nat)(z:Int)(t:Ms)(r:List Int×Ms):Prop where
 len:r.1.length=n
 sm:∀x∈r.1,Sm x
 v:r.2.v=t.v
 sp:r.2.sp=t.sp
 hi:r.2.st<=t.st-n
 lo:t.st-z<=r.2.st
 d0:t.dr<=r.2.dr
 dr:r.2.dr+r.2.st<=t.dr+t.st
 lg:(r.2.lg.length:Int)+3*r.2.st<=t.lg.length+3*t.st
theorem jja{u:Ut}{sd:Int}(hs:0<=sd/\sd<=1000)(hu:eD u):∀(l:List Nt),(∀f∈l,xD f/\isX f=true/\kS f)->∀(t:Ms) (m:Int),(qF l:Int)<=m->OkM t m->jtd l.length (qF l) t (kG (l.map (qL u sd)) t)
 |[],_,t,m,_,ht=>⟨rfl,by simp[kG],rfl,rfl,by simp[kG],by simp[kG,qF],Int.le_refl _,Int.le_refl _,Int.le_refl _⟩
 |f::l,h,t,m,hm,ht=>by
  obtain⟨h1,h2,h3⟩:=h f List.mem_cons_self;have hsz:qF (f::l)=j6 f+qF l:=rfl;rw[hsz] at hm;have r1:=jmH hs hu f h1 h2 h3 t m (by omega) ht;have p1:=sR (u:=u) (sd:=sd) f h1 h2 t;have r2:=jja hs hu l (fun g hg=>h g (List.mem_cons_of_mem _ hg)) (qL u sd f t).2 (m-j6 f) (by omega) r1.2;rw[hsz,List.map_cons,kG,List.length_cons];obtain⟨a1,a2,a3,a4,a5,a6,a7⟩:=p1;obtain⟨b0,b1,b2,b3,b4,b5,b6,b7,b8⟩:=r2;refine⟨by simp only[List.length_cons];omega,fun x hx=>?_,b2.trans a1,b3.trans a2,by simp only;omega,by simp only;omega,by simp only;omega,by simp only;omega,by simp only;omega⟩;rcases List.mem_cons.1 hx with rfl|hx
  ·exact r1.1
  ·exact b1 x hx
theorem jr1{e:Ev}{b:Sv}{M c d:Int}(hM:M<=60000-c-d)(hc:0<=c)(hd:0<=d)(he:∀t,EvP c t (e t).2)(hb:∀t,OkJ t (60000-c)->OkJ (b t) (60000-c-d)/\(b t).st<=t.st-1):∀(n:Nat) (t:Ms),OkJ t M->OkJ (bX e b n t) M/\(bX e b n t).st<=t.st
 |0,t,h=>⟨h,Int.le_refl _⟩
 |n+1,t,h=>by
  rw[bX];split
  ·rename_i h0;have p:=he t;have p1:=(h.up h0.1).ev hc p;have p2:=p.hi;split
   ·exact⟨p1.mono (by omega),by omega⟩
   ·obtain⟨p3,p4⟩:=hb _ p1;obtain⟨i1,i2⟩:=jr1 hM hc hd he hb n _ (p3.mono hM);exact⟨i1,by omega⟩
  ·exact⟨h,Int.le_refl _⟩
theorem jqv{u:Ut}{sd:Int}:∀(l:List Nt),(∀f∈l,DoR u sd f)->∀(t:Ms) (m:Int),(qF l:Int)<=m->OkJ t m->OkJ ((l.map (j7 u sd)).foldl (fun t b=>b t) t) (m-qF l)/\((l.map (j7 u sd)).foldl (fun t b=>b t) t).st<=t.st
 |[],_,t,m,_,h=>⟨by simpa [qF] using h,Int.le_refl _⟩
 |f::l,hk,t,m,hm,h=>by
  have hsz:qF (f::l)=j6 f+qF l:=rfl;rw[hsz] at hm ⊢;obtain⟨a1,a2⟩:=hk f List.mem_cons_self t m (by omega) h;obtain⟨b1,b2⟩:=jqv l (fun g hg=>hk g (List.mem_cons_of_mem _ hg)) (j7 u sd f t) (m-j6 f) (by omega) a1;rw[List.map_cons,List.foldl_cons];exact⟨b1.mono (by omega),by omega⟩
def arS(k:Int):Nat:=if k=1∨k=9 then 1 else if k=8 then 2 else if k=4 then 3 else 0
theorem ja4{k n:Int}{s:ByteArray}{kids:List Nt}(h:xD (.mk k n s kids))(hx:isX (.mk k n s kids)=false) :
  (k=11/\∀f∈kids,xD f/\isX f=false) ∨
  (k=2/\∃c b o,kids=[c,b,o]/\(xD c/\isX c=true)/\(xD b/\isX b=false)/\(xD o/\isX o=false)) ∨
  (k=3/\∃c b,kids=[c,b]/\(xD c/\isX c=true)/\(xD b/\isX b=false)) ∨
  (k=10/\kids=[]) ∨
  ((k=1∨k=4∨k=5∨k=6∨k=7∨k=8∨k=9)/\kids.length=arS k/\∀f∈kids,xD f/\isX f=true):=by
 unfold xD at h;obtain⟨h1,h2,h3⟩:=h;have hk:¬12<=k:=of_decide_eq_false hx
 have all:∀{k:Int},k≠11/\k≠2/\k≠3->clN k kids=true->∀f∈kids,xD f/\isX f=true:=fun e h f hf=>by
  rw[jmf e] at h;exact⟨xN h2 hf,List.all_eq_true.1 h f hf⟩
 unfold arN at h1;by_cases c0:k=11
 ·subst c0;refine .inl ⟨rfl,fun f hf=>⟨xN h2 hf,?_⟩⟩;unfold clN at h3;rw[if_pos rfl] at h3;simpa using List.all_eq_true.1 h3 f hf
 rw[if_neg c0] at h1;by_cases c1:k=12∨k=13∨k=14∨k=5∨k=6∨k=7∨k=10
 ·rw[if_pos c1,decide_eq_true_eq] at h1;by_cases c2:k=10
  ·exact .inr (.inr (.inr (.inl ⟨c2,List.eq_nil_of_length_eq_zero h1⟩)))
  ·refine .inr (.inr (.inr (.inr ⟨by omega,?_,all (by omega) h3⟩)));unfold arS;rw[if_neg (by omega),if_neg (by omega),if_neg (by omega)];exact h1
 rw[if_neg c1] at h1;rw[if_neg (by omega)] at h1;by_cases c3:k=16∨k=1∨k=9
 ·rw[if_pos c3,decide_eq_true_eq] at h1;refine .inr (.inr (.inr (.inr ⟨by omega,?_,all (by omega) h3⟩)));unfold arS;rw[if_pos (by omega)];exact h1
 rw[if_neg c3,if_neg (by omega),if_neg (by omega)] at h1;by_cases c6:k=8∨k=3
 ·rw[if_pos c6,decide_eq_true_eq] at h1;rcases c6 with rfl|rfl
  ·exact .inr (.inr (.inr (.inr ⟨by omega,h1,all (by omega) h3⟩)))
  ·refine .inr (.inr (.inl ⟨rfl,?_⟩))
   match kids,h1,h2,h3 with
   |[c,b],_,h2,h3 =>
    unfold clN at h3;rw[if_neg (show ¬(3:Int)=11 by decide),if_pos (show(3:Int)=2∨(3:Int)=3 from .inr rfl)] at h3;simp only[List.take,List.drop,List.all_cons,List.all_nil,Bool.and_true,Bool.and_eq_true,Bool.not_eq_true'] at h3;exact⟨c,b,rfl,⟨xN h2 (by simp),h3.1⟩,⟨xN h2 (by simp),h3.2⟩⟩
 rw[if_neg c6] at h1;by_cases c7:k=2∨k=4
 ·rw[if_pos c7,decide_eq_true_eq] at h1;rcases c7 with rfl|rfl
  ·refine .inr (.inl ⟨rfl,?_⟩)
   match kids,h1,h2,h3 with
   |[c,b,o],_,h2,h3 =>
    unfold clN at h3;rw[if_neg (show ¬(2:Int)=11 by decide),if_pos (show(2:Int)=2∨(2:Int)=3 from .inl rfl)] at h3;simp only[List.take,List.drop,List.all_cons,List.all_nil,Bool.and_true,Bool.and_eq_true,Bool.not_eq_true'] at h3;exact⟨c,b,o,rfl,⟨xN h2 (by simp),h3.1⟩,⟨xN h2 (by simp),h3.2.1⟩,⟨xN h2 (by simp),h3.2.2⟩⟩
  ·exact .inr (.inr (.inr (.inr ⟨by omega,h1,all (by omega) h3⟩)))
 rw[if_neg c7] at h1;cases h1
theorem nV{u:Ut}{sd k n:Int}{s:ByteArray}{kids:List Nt}{t:Ms}(h:t.sp=true∨t.st-1<0):j7 u sd (.mk k n s kids) t=⟨t.v,t.lg,t.st-1,t.dr,t.sp⟩:=by
 rw[j7];unfold tU;exact if_pos h
theorem jev{u:Ut}{sd n:Int}{s:ByteArray}{c b o:Nt}{t:Ms}(h:¬(t.sp=true∨t.st-1<0)):j7 u sd (.mk 2 n s [c,b,o]) t=if (qL u sd c ⟨t.v,t.lg,t.st-1,t.dr,t.sp⟩).1≠0 then j7 u sd b (qL u sd c ⟨t.v,t.lg,t.st-1,t.dr,t.sp⟩).2 else j7 u sd o (qL u sd c ⟨t.v,t.lg,t.st-1,t.dr,t.sp⟩).2:=by
 rw[j7];unfold tU;exact if_neg h
theorem jew{u:Ut}{sd n:Int}{s:ByteArray}{c b:Nt}{t:Ms}(h:¬(t.sp=true∨t.st-1<0)):j7 u sd (.mk 3 n s [c,b]) t=bX (qL u sd c) (j7 u sd b) (t.st-1).toNat ⟨t.v,t.lg,t.st-1,t.dr,t.sp⟩:=by
 rw[j7];unfold tU;exact if_neg h
theorem jeu{u:Ut}{sd n:Int}{s:ByteArray}{kids:List Nt}{t:Ms}(h:¬(t.sp=true∨t.st-1<0)):j7 u sd (.mk 11 n s kids) t=(kids.map (j7 u sd)).foldl (fun t b=>b t) ⟨t.v,t.lg,t.st-1,t.dr,t.sp⟩:=by
 rw[j7,jcO];unfold tU;exact if_neg h
theorem ji3{u:Ut}{sd n:Int}{s:ByteArray}{kids:List Nt}{t:Ms}(h:¬(t.sp=true∨t.st-1<0)):j7 u sd (.mk 10 n s kids) t=⟨t.v,t.lg,t.st-1,t.dr,true⟩:=by
 rw[j7];unfold tU;exact if_neg h
theorem jet{u:Ut}{sd n:Int}{s:ByteArray}{kids:List Nt}{t:Ms}{r:List Int×Ms}(h:¬(t.sp=true∨t.st-1<0))(hr:kG (kids.map (qL u sd)) ⟨t.v,t.lg,t.st-1,t.dr,t.sp⟩=r):j7 u sd (.mk 1 n s kids) t=⟨fun i=>if i=vIx u s then r.1.getD 0 0 else r.2.v i,r.2.lg,r.2.st,r.2.dr,r.2.sp⟩:=by
 rw[j7,jaG];unfold tU;rw[<- hr];exact if_neg h
theorem eR{u:Ut}{sd k n:Int}{s:ByteArray}{kids:List Nt}{t:Ms}{r:List Int×Ms}(hk:k=4∨k=5∨k=6∨k=7∨k=8∨k=9)(h:¬(t.sp=true∨t.st-1<0))(hr:kG (kids.map (qL u sd)) ⟨t.v,t.lg,t.st-1,t.dr,t.sp⟩=r):j7 u sd (.mk k n s kids) t=⟨r.2.v,r.2.lg++[2,k,n]++r.1,r.2.st,r.2.dr,r.2.sp⟩:=by
 rw[j7,jaG];unfold tU;rw[<- hr];rcases hk with rfl|rfl|rfl|rfl|rfl|rfl
 all_goals exact if_neg h
mutual
theorem jp5{u:Ut}{sd:Int}(hs:0<=sd/\sd<=1000)(hu:eD u):∀f:Nt,xD f->isX f=false->kS f->DoR u sd f
 |.mk k n s kids,hw,hx,hl=>fun t m hm ht=>by
  have hl2:dK kids:=by unfold kS at hl;exact hl.2.1
  have ih:=jqC hs hu kids;have hsz:j6 (.mk k n s kids)=3+qF kids:=rfl;rw[hsz] at hm ⊢;have h1:=ht.dec;by_cases h0:t.sp=true∨t.st-1<0
  ·rw[nV h0];exact⟨h1.mono (by omega),Int.le_refl _⟩
  rcases ja4 hw hx with ⟨rfl,hk⟩|⟨rfl,c,b,o,rfl,hc,hb,ho⟩|⟨rfl,c,b,rfl,hc,hb⟩|⟨rfl,rfl⟩|⟨hk,hlen,hkx⟩
  ·rw[jeu h0];obtain⟨a1,a2⟩:=jqv kids (fun f hf=>ih f hf (hk f hf).1 (hk f hf).2 (jY hl2 hf)) _ (m-1) (by omega) h1;exact⟨a1.mono (by omega),a2⟩
  ·have e1:qF [c,b,o]=j6 c+(j6 b+(j6 o+0)):=rfl;rw[e1] at hm ⊢;rw[jev h0];have p:=sR (u:=u) (sd:=sd) c hc.1 hc.2 ⟨t.v,t.lg,t.st-1,t.dr,t.sp⟩;have h2:=h1.ev (by omega) p;have p2:=p.hi
   simp only at p2
   split
   ·obtain⟨a1,a2⟩:=ih b (by simp) hb.1 hb.2 (jY hl2 (by simp)) _ _ (by omega) h2;exact⟨a1.mono (by omega),by omega⟩
   ·obtain⟨a1,a2⟩:=ih o (by simp) ho.1 ho.2 (jY hl2 (by simp)) _ _ (by omega) h2;exact⟨a1.mono (by omega),by omega⟩
  ·have e1:qF [c,b]=j6 c+(j6 b+0):=rfl;rw[e1] at hm ⊢;rw[jew h0];have h60:=ht.st;obtain⟨a1,a2⟩:=jr1 (M:=m-(3+(j6 c+(j6 b+0)):Nat)) (c:=j6 c) (d:=j6 b) (e:=qL u sd c) (b:=j7 u sd b) (by omega) (by omega) (by omega) (fun t=>sR c hc.1 hc.2 t) (fun t h=>ih b (by simp) hb.1 hb.2 (jY hl2 (by simp)) t _ (by omega) h) (t.st-1).toNat _ (h1.mono (by omega));exact⟨a1,a2⟩
  ·rw[ji3 h0];have hz:qF []=0:=rfl;have h2:=h1.mono (m':=m-(3+qF []:Nat)) (by omega);exact⟨⟨h2.v,h2.lg,h2.st,h2.s2,h2.dr⟩,Int.le_refl _⟩
  ·have h60:=ht.st;have hv:=jja hs hu kids (fun f hf=>⟨(hkx f hf).1,(hkx f hf).2,jY hl2 hf⟩) ⟨t.v,t.lg,t.st-1,t.dr,t.sp⟩ 60000 (by omega) (h1.okM (by omega) (by omega))
   obtain⟨r,hr⟩:∃r,kG (kids.map (qL u sd)) ⟨t.v,t.lg,t.st-1,t.dr,t.sp⟩=r:=⟨_,rfl⟩
   rw[hr] at hv;obtain⟨v0,v1,v2,v3,v4,v5,v6,v7,v8⟩:=hv;obtain⟨t1,t2,t3,t4,t5⟩:=ht
   simp only at v2 v3 v4 v5 v6 v7 v8
   by_cases k1:k=1
   ·subst k1;rw[jet h0 hr];refine⟨⟨fun i hi=>?_,by simp only;omega,by simp only;omega,by simp only;omega,by simp only;omega⟩,by simp only;omega⟩
    simp only
    split
    ·have h3:r.1.length=1:=by rw[v0,hlen];rfl
     match r.1,h3,v1 with
     |[x],_,v1=>exact v1 x (by simp)
    ·rw[v2];exact t1 i hi
   ·rw[eR (by omega) h0 hr];refine⟨⟨fun i hi=>by rw[v2];exact t1 i hi,?_,by simp only;omega,by simp only;omega,by simp only;omega⟩,by simp only;omega⟩;simp only[List.length_append,List.length_cons,List.length_nil];omega
theorem jqC{u:Ut}{sd:Int}(hs:0<=sd/\sd<=1000)(hu:eD u):∀l:List Nt,∀f∈l,xD f->isX f=false->kS f->DoR u sd f
 |[]=>fun _ h=>by cases h
 |x::l =>
  have h1:=jp5 hs hu x;have h2:=jqC hs hu l
  fun f hf=>(List.mem_cons.1 hf).elim (fun e=>e ▸ h1) (h2 f)
end
def opI(code:List Ic)(a:Int):Int:=(code.getD a.toNat (0,0)).1
def sc(code:List Ic)(a:Int):List Int:=nxI a (code.getD a.toNat (0,0))
def lv(code:List Ic)(a d:Int):Int:=d-kJ (opI code a)+vP (opI code a)
inductive Rch(code:List Ic)(x:Int):Int->Prop
 |here:Rch code x x
 |next {a k:Int} (h:Rch code x a) (hk:k∈sc code a) (hn:k<code.length):Rch code x k
structure joR(code:List Ic)(x:Int)(D:Int->Int):Prop where
 st:D x=0
 po:∀a,Rch code x a->kJ (opI code a)<=D a
 nx:∀a,Rch code x a->∀k∈sc code a,k<code.length->D k=lv code a (D a)
def juy(code:List Ic)(x:Int)(D:Int->Int):Prop:=joR code x D/\∀a,Rch code x a->lv code a (D a)<=16
structure Fi(code:List Ic)(x:Int)(s:Fs):Prop where
 ok:jlD code.length s
 rc:∀p∈s.dm,Rch code x p.1
 st:(x,0)∈s.dm
 pr:∀p∈s.dm,p.1∉s.wk->∀k∈sc code p.1,k<code.length/\∃d,(k,d)∈s.dm
 gd:s.er=false->∀p∈s.dm,p.1∉s.wk->kJ (opI code p.1)<=p.2/\lv code p.1 p.2<=16/\∀k∈sc code p.1,(k,lv code p.1 p.2)∈s.dm
 gu:∀D,juy code x D->s.er=false/\∀p∈s.dm,p.2=D p.1
def shI(a:Int)(i:Ic):Ic:=if i.1=15∨i.1=16 then(i.1,i.2+a) else i
theorem jjL(ix:ByteArray->Int):∀(l m:List (Int×Nt)) (c:List Ic) (e:Nat->Int),t6 ix (l++m) c e=t6 ix m (t6 ix l c e).1 (t6 ix l c e).2
 |[],m,c,e=>rfl
 |(h,b)::l,m,c,e=>by rw[List.cons_append,t6,t6,jjL ix l m]
theorem jjM(ix:ByteArray->Int):∀(l:List (Int×Nt)) (c:List Ic) (e:Nat->Int),∃t,(t6 ix l c e).1=c++t
 |[],c,e=>⟨[],by rw[List.append_nil];rfl⟩
 |(h,b)::l,c,e=>by
  obtain⟨t,ht⟩:=jjM ix l (c++jB ix b c.length++[(23,0)]) (fun j=>if j=h.toNat then(c.length:Int) else e j);exact⟨jB ix b c.length++[(23,0)]++t,by rw[t6,ht];simp⟩
theorem jg7(ix:ByteArray->Int)(j:Nat):∀(l:List (Int×Nt)) (c:List Ic) (e:Nat->Int),(∀p∈l,p.1.toNat≠j)->(t6 ix l c e).2 j=e j
 |[],c,e,_=>rfl
 |(h,b)::l,c,e,hn=>by
  rw[t6,jg7 ix j l _ _ fun p hp=>hn p (List.mem_cons_of_mem _ hp)];have:=hn _ List.mem_cons_self;exact if_neg (Ne.symm this)
theorem jmQ(u:Ut)(k:Nat)(hk:k<u.on.length)(hnn:∀p∈u.on,0<=p.1)(hnd:u.on.Pairwise fun a b=>a.1≠b.1):∃c1 t,(aJ u).1=c1++(jB (jS u) (u.on[k]).2 c1.length++[(23,0)])++t/\(aJ u).2 (u.on[k]).1.toNat=(c1.length:Int):=by
 have hsp:u.on=u.on.take k++u.on[k]::u.on.drop (k+1):=by
  rw[<- List.drop_eq_getElem_cons hk,List.take_append_drop]
 have hd:∀p∈u.on.drop (k+1),p.1.toNat≠(u.on[k]).1.toNat:=fun p hp=>by
  have h1:=hnn p (List.mem_of_mem_drop hp);have h2:=hnn _ (List.getElem_mem hk);rw[hsp,List.pairwise_append] at hnd;have h3:=hnd.2.1;rw[List.pairwise_cons] at h3;have h4:=h3.1 p hp;omega
 obtain⟨x,hx⟩:∃x,u.on[k]=x:=⟨_,rfl⟩
 rw[hx] at hsp hd ⊢;obtain⟨h,b⟩:=x;unfold aJ;rw[show t6 (jS u) u.on [] noE=t6 (jS u) (u.on.take k++(h,b)::u.on.drop (k+1)) [] noE by rw[<- hsp],jjL,t6];obtain⟨t,ht⟩:=jjM (jS u) (u.on.drop (k+1)) ((t6 (jS u) (u.on.take k) [] noE).1++jB (jS u) b (t6 (jS u) (u.on.take k) [] noE).1.length++[(23,0)]) (fun j=>if j=h.toNat then((t6 (jS u) (u.on.take k) [] noE).1.length:Int) else(t6 (jS u) (u.on.take k) [] noE).2 j);refine⟨(t6 (jS u) (u.on.take k) [] noE).1,t,by rw[ht];simp,?_⟩;rw[jg7 (jS u) h.toNat _ _ _ hd];exact if_pos rfl
structure jv0(code sub:List Ic)(a:Nat):Prop where
 sp:∃c1 t,c1.length=a/\code=c1++sub.map (shI a)++t
 cl:∀x:Int,0<=x->x<sub.length->∀k∈sc sub x,0<=k/\k<sub.length
section
structure Cs where
 v:Nat->Int
 lg:List Int
 dr:Int
def Ms.cs(t:Ms):Cs:=⟨t.v,t.lg,t.dr⟩
def vN(n:Int):Nat:=(qV n 16).toNat
def jjS(k:Int):Int:=if k=17 then 4 else if k=18 then 5 else if k=19 then 6 else if k=20 then 7 else if k=21 then 8 else 9
def xR(sd:Int)(i:Ic)(pc:Int)(vs:List Int)(c:Cs):Int×List Int×Cs :=
 if i.1=1 then(pc+1,[i.2],c)
 else if i.1=2 then(pc+1,[c.v (vN i.2)],c)
 else if i.1=4 then(pc+1,[i.2+3],c)
 else if i.1=5 then(pc+1,[drF sd c.dr (vs.getD 0 0)],⟨c.v,c.lg++[1,vs.getD 0 0,drF sd c.dr (vs.getD 0 0)],c.dr+1⟩)
 else if i.1=10 then(pc+1,[-(vs.getD 0 0)],c)
 else if i.1=14 then(pc+1,[flF (decide (vs.getD 0 0=0))],c)
 else if 6<=i.1/\i.1<=13 then(pc+1,[xA i.1 (vs.getD 0 0) (vs.getD 1 0)],c)
 else if i.1=3 then(pc+1,[],⟨fun j=>if j=vN i.2 then vs.getD 0 0 else c.v j,c.lg,c.dr⟩)
 else if i.1=15 then(i.2,[],c)
 else if i.1=16 then(if vs.getD 0 0=0 then i.2 else pc+1,[],c)
 else(pc+1,[],⟨c.v,c.lg++[2,jjS i.1,i.2]++vs,c.dr⟩)
inductive Hlt(code:List Ic)(sd:Int)(Q:Cs):Nat->Int->List Int->Cs->Prop
 |stop (pc:Int) (n:Int) (h0:0<=pc) (h:code[pc.toNat]?=some (23,n)):Hlt code sd Q 1 pc [] Q
 |step (m:Nat) (pc:Int) (i:Ic) (stk vs:List Int) (c:Cs) (h0:0<=pc) (h:code[pc.toNat]?=some i) (hi:1<=i.1/\i.1<=22) (hl:(vs.length:Int)=kJ i.1) (k:Hlt code sd Q m (xR sd i pc vs c).1 (stk++(xR sd i pc vs c).2.1) (xR sd i pc vs c).2.2):Hlt code sd Q (m+1) pc (stk++vs) c
def Seg(code:List Ic)(at':Int)(l:List Ic):Prop:=∃a b,code=a++l++b/\(a.length:Int)=at'
theorem Seg.left{code:List Ic}{at':Int}{l m:List Ic}(h:Seg code at' (l++m)):Seg code at' l:=by
 obtain⟨a,b,h1,h2⟩:=h;exact⟨a,m++b,by rw[h1];simp only[List.append_assoc],h2⟩
theorem Seg.right{code:List Ic}{at':Int}{l m:List Ic}(h:Seg code at' (l++m)):Seg code (at'+l.length) m:=by
 obtain⟨a,b,h1,h2⟩:=h;exact⟨a++l,b,by rw[h1];simp only[List.append_assoc],by rw[List.length_append];omega⟩
theorem Seg.head{code:List Ic}{at':Int}{i:Ic}{l:List Ic}(h:Seg code at' (i::l)):0<=at'/\code[at'.toNat]?=some i/\Seg code (at'+1) l:=by
 have h2:=Seg.right (l:=[i]) (m:=l) h;obtain⟨a,b,h1,rfl⟩:=h;refine⟨by omega,?_,h2⟩;rw[h1,Int.toNat_natCast,List.append_assoc,List.getElem?_append_right (Nat.le_refl _),Nat.sub_self];rfl
section
variable{code:List Ic}{sd:Int}{Q:Cs}
theorem Hlt.st0{m:Nat}{pc:Int}{i:Ic}{l:List Ic}{stk:List Int}{c:Cs}{pc':Int}{ps:List Int}{c':Cs}(hs:Seg code pc (i::l))(hi:1<=i.1/\i.1<=22)(hl:kJ i.1=0)(e:xR sd i pc [] c=(pc',ps,c'))(k:Hlt code sd Q m pc' (stk++ps) c'):Hlt code sd Q (m+1) pc stk c:=by
 have h:=Hlt.step (sd:=sd) (Q:=Q) m pc i stk [] c hs.head.1 hs.head.2.1 hi (by rw[hl];rfl) (by rw[e];exact k);rwa [List.append_nil] at h
theorem Hlt.stv{m:Nat}{pc:Int}{i:Ic}{l:List Ic}{stk:List Int}{c:Cs}{pc':Int}{vs ps:List Int}{c':Cs}(hs:Seg code pc (i::l))(hi:1<=i.1/\i.1<=22)(hl:(vs.length:Int)=kJ i.1)(e:xR sd i pc vs c=(pc',ps,c'))(k:Hlt code sd Q m pc' (stk++ps) c'):Hlt code sd Q (m+1) pc (stk++vs) c :=
 Hlt.step (sd:=sd) (Q:=Q) m pc i stk vs c hs.head.1 hs.head.2.1 hi hl (by rw[e];exact k)
end
section
variable(ix:ByteArray->Int)(n:Int)(s:ByteArray)(at':Int)
theorem jrA(f:Nt):jB ix (.mk 17 n s [f]) at'=jB ix f at'++(if s=pMinus then [(10,0)] else [(14,0)]):=by
 rw[jB];show zW [jB ix f] at'++_=_;rw[zW,zW,List.append_nil];rfl
theorem jrx(f:Nt):jB ix (.mk 16 n s [f]) at'=jB ix f at'++[(5,0)]:=by
 rw[jB];show zW [jB ix f] at'++_=_;rw[zW,zW,List.append_nil];rfl
theorem jru(f g:Nt):jB ix (.mk 18 n k9 [f,g]) at'=pW (jB ix f) (jB ix g) (fun _=>[(1,0)]) at':=by
 rw[jB];rfl
theorem jto(f g:Nt):jB ix (.mk 18 n pOr [f,g]) at'=pW (jB ix f) (fun _=>[(1,1)]) (jB ix g) at':=by
 rw[jB];rfl
theorem jrv(f g:Nt)(h1:s≠k9)(h2:s≠pOr):jB ix (.mk 18 n s [f,g]) at'=jB ix f at'++(jB ix g (at'+(jB ix f at').length)++opC s):=by
 rw[jB];unfold xF;rw[if_neg (by decide),if_neg (by decide),if_neg (by decide),if_neg (by decide),if_neg (by decide),if_neg (by decide),if_neg (by decide),if_neg (by decide),if_neg (by decide),if_neg (fun h=>h1 h.2),if_neg (fun h=>h2 h.2),if_pos rfl,yQ];show(jB ix f at'++(jB ix g _++[]))++opC s=_;rw[List.append_nil,List.append_assoc]
theorem jry(f g h:Nt):jB ix (.mk 2 n s [f,g,h]) at'=pW (jB ix f) (jB ix g) (jB ix h) at':=by
 rw[jB];rfl
theorem jma(f g:Nt):jB ix (.mk 3 n s [f,g]) at'=jB ix f at'++(16,at'+(jB ix f at').length+(jB ix g (at'+(jB ix f at').length+1)).length+2)::(jB ix g (at'+(jB ix f at').length+1)++[(15,at')]):=by
 rw[jB];rfl
theorem jrw(kids:List Nt):jB ix (.mk 11 n s kids) at'=zW (kids.map (jB ix)) at':=by
 rw[jB,yQ];show zW _ at'++[]=_;rw[List.append_nil]
def uQ(k n:Int):Ic:=if k=1 then(3,ix s) else if k=4 then(17,n) else if k=5 then(18,n) else if k=6 then(19,n) else if k=7 then(20,0) else if k=8 then(21,0) else(22,0)
theorem jrt(k:Int)(kids:List Nt)(hk:k=1∨k=4∨k=5∨k=6∨k=7∨k=8∨k=9)(hl:kids.length=arS k):jB ix (.mk k n s kids) at'=zW (kids.map (jB ix)) at'++[uQ ix s k n]:=by
 rw[jB,yQ];rcases hk with rfl|rfl|rfl|rfl|rfl|rfl|rfl
 ·rfl
 ·rfl
 ·obtain rfl:=List.eq_nil_of_length_eq_zero hl;rfl
 ·obtain rfl:=List.eq_nil_of_length_eq_zero hl;rfl
 ·obtain rfl:=List.eq_nil_of_length_eq_zero hl;rfl
 ·rfl
 ·rfl
theorem jrz(kids:List Nt):jB ix (.mk 10 n s kids) at'=[(23,0)]:=by
 rw[jB];rfl
end
end
section
theorem jqZ{u:Ut}(hu:eD u)(s:ByteArray):vN (jS u s)=vIx u s:=by
 have h:=jjO hu s;unfold vN vIx qV iI;by_cases h0:jS u s<0
 ·rw[if_pos h0,show jS u s = -1 by omega];decide
 ·rw[if_neg h0,show max (jS u s) 0=jS u s by omega]
theorem ji7(u:Ut)(sd n:Int)(s:ByteArray)(f g:Nt)(t:Ms){r:Int×Ms}(hr:qL u sd f ⟨t.v,t.lg,t.st-1,t.dr,t.sp⟩=r):qL u sd (.mk 18 n s [f,g]) t=if s=k9/\r.1=0 then(0,r.2) else if s=pOr/\r.1≠0 then(1,r.2) else if s=k9∨s=pOr then((qL u sd g r.2).1,(qL u sd g r.2).2) else(apF s r.1 (qL u sd g r.2).1,(qL u sd g r.2).2):=by
 rw[<- hr];rfl
def XOk(u:Ut)(sd:Int)(code:List Ic)(Q:Cs)(f:Nt):Prop:=∀(at':Int) (stk:List Int) (t:Ms) (m:Nat),Seg code at' (jB (jS u) f at')->Hlt code sd Q m (at'+(jB (jS u) f at').length) (stk++[(qL u sd f t).1]) (qL u sd f t).2.cs->∃m':Nat,(m':Int)<=m+4*(t.st-(qL u sd f t).2.st)/\Hlt code sd Q m' at' stk t.cs
section
variable{u:Ut}{sd:Int}{code:List Ic}{Q:Cs}
theorem jt5(hu:eD u){k n:Int}{s:ByteArray}(hk:k=12∨k=13∨k=14∨k=15):XOk u sd code Q (.mk k n s []):=fun at' stk t m hs h=>by
 have hx:∃i x,jB (jS u) (.mk k n s []) at'=[i]/\qL u sd (.mk k n s []) t=(x,⟨t.v,t.lg,t.st-1,t.dr,t.sp⟩)/\(1<=i.1/\i.1<=22)/\kJ i.1=0/\xR sd i at' [] t.cs=(at'+1,[x],t.cs):=by
  rcases hk with rfl|rfl|rfl|rfl
  ·exact⟨(1,n),n,rfl,rfl,by simp,rfl,rfl⟩
  ·exact⟨(1,n),n,rfl,rfl,by simp,rfl,rfl⟩
  ·refine⟨(2,jS u s),t.v (vIx u s),rfl,rfl,by simp,rfl,?_⟩;show(at'+1,[t.v (vN (jS u s))],t.cs)=_;rw[jqZ hu]
  ·refine⟨(4,biF s),gM builtL s+3,rfl,rfl,by simp,rfl,?_⟩;rw[jm2];rfl
 obtain⟨i,x,e1,e2,e3,e4,e5⟩:=hx;rw[e1] at hs h;rw[e2] at h ⊢;refine⟨m+1,by simp only;omega,Hlt.st0 hs e3 e4 e5 ?_⟩;exact h
theorem juu{n:Int}{s:ByteArray}{f:Nt}(ih:XOk u sd code Q f):XOk u sd code Q (.mk 16 n s [f]):=fun at' stk t m hs h=>by
 rw[jrx] at hs h
 obtain⟨r,hr⟩:∃r,qL u sd f ⟨t.v,t.lg,t.st-1,t.dr,t.sp⟩=r:=⟨_,rfl⟩
 have e:qL u sd (.mk 16 n s [f]) t=(drF sd r.2.dr r.1,⟨r.2.v,r.2.lg++[1,r.1,drF sd r.2.dr r.1],r.2.st,r.2.dr+1,r.2.sp⟩):=by rw[<- hr];rfl
 rw[e] at h ⊢;rw[List.length_append] at h
 have h2:Hlt code sd Q (m+1) (at'+(jB (jS u) f at').length) (stk++[r.1]) r.2.cs:=Hlt.stv (i:=(5,0)) (vs:=[r.1]) (c:=r.2.cs) hs.right (by decide) rfl rfl (by
  rw[show at'+((jB (jS u) f at').length:Int)+1=at'+((jB (jS u) f at').length+[((5,0):Ic)].length:Nat) by simp only[List.length_singleton];omega];exact h)
 have:=ih at' stk ⟨t.v,t.lg,t.st-1,t.dr,t.sp⟩ (m+1) hs.left (by rw[hr];exact h2);rw[hr] at this;obtain⟨m',a1,a2⟩:=this
 simp only at a1
 exact⟨m',by simp only;omega,a2⟩
theorem juw{n:Int}{s:ByteArray}{f:Nt}(ih:XOk u sd code Q f):XOk u sd code Q (.mk 17 n s [f]):=fun at' stk t m hs h=>by
 rw[jrA] at hs h
 obtain⟨r,hr⟩:∃r,qL u sd f ⟨t.v,t.lg,t.st-1,t.dr,t.sp⟩=r:=⟨_,rfl⟩
 have e:qL u sd (.mk 17 n s [f]) t=if s=pMinus then(-r.1,r.2) else(flF (decide (r.1=0)),r.2):=by rw[<- hr];rfl
 rw[e] at h ⊢;rw[List.length_append] at h
 have h2:Hlt code sd Q (m+1) (at'+(jB (jS u) f at').length) (stk++[r.1]) r.2.cs:=by
  by_cases hp:s=pMinus
  ·rw[if_pos hp] at hs h;rw[if_pos hp] at h;refine Hlt.stv (i:=(10,0)) (vs:=[r.1]) (c:=r.2.cs) hs.right (by decide) rfl rfl ?_;rw[show at'+((jB (jS u) f at').length:Int)+1=at'+((jB (jS u) f at').length+[((10,0):Ic)].length:Nat) by simp only[List.length_singleton];omega];exact h
  ·rw[if_neg hp] at hs h;rw[if_neg hp] at h;refine Hlt.stv (i:=(14,0)) (vs:=[r.1]) (c:=r.2.cs) hs.right (by decide) rfl rfl ?_;rw[show at'+((jB (jS u) f at').length:Int)+1=at'+((jB (jS u) f at').length+[((14,0):Ic)].length:Nat) by simp only[List.length_singleton];omega];exact h
 have:=ih at' stk ⟨t.v,t.lg,t.st-1,t.dr,t.sp⟩ (m+1) hs.left (by rw[hr];exact h2);rw[hr] at this;obtain⟨m',a1,a2⟩:=this
 simp only at a1
 refine⟨m',?_,a2⟩
 split <;> (simp only;omega)
theorem jek(c y n:Int->List Ic)(at':Int):((pW c y n at').length:Int)=(c at').length+1+(y (at'+(c at').length+1)).length+1+(n (at'+(c at').length+1+(y (at'+(c at').length+1)).length+1)).length:=by
 unfold pW;simp only[List.length_append,List.length_cons];omega
theorem jcF{c y n:Int->List Ic}{at':Int}{stk:List Int}(hs:Seg code at' (pW c y n at')){m:Nat}{x:Int}{c0:Cs}
  (h1:x≠0->∃k:Nat,Hlt code sd Q k (at'+(c at').length+1) stk c0/\k<=m)
  (h2:x=0->∃k:Nat,Hlt code sd Q k (at'+(c at').length+1+(y (at'+(c at').length+1)).length+1) stk c0/\k<=m) :
  ∃k:Nat,Hlt code sd Q k (at'+(c at').length) (stk++[x]) c0/\k<=m+1:=by
 unfold pW at hs;have hr:=hs.right;by_cases hx:x=0
 ·obtain⟨k,a,b⟩:=h2 hx;refine⟨k+1,Hlt.stv (i:=(16,at'+(c at').length+1+(y (at'+(c at').length+1)).length+1)) (vs:=[x]) hr (by simp) rfl (pc':=at'+(c at').length+1+(y (at'+(c at').length+1)).length+1) (ps:=[]) (c':=c0) ?_ (by rw[List.append_nil];exact a),by omega⟩;unfold xR;simp[hx]
 ·obtain⟨k,a,b⟩:=h1 hx;refine⟨k+1,Hlt.stv (i:=(16,at'+(c at').length+1+(y (at'+(c at').length+1)).length+1)) (vs:=[x]) hr (by simp) rfl (pc':=at'+(c at').length+1) (ps:=[]) (c':=c0) ?_ (by rw[List.append_nil];exact a),by omega⟩;unfold xR;simp[hx]
theorem jhY{c y n:Int->List Ic}{at':Int}{stk:List Int}(hs:Seg code at' (pW c y n at')){m:Nat}{c0:Cs}(h:Hlt code sd Q m (at'+(pW c y n at').length) stk c0):Hlt code sd Q (m+1) (at'+(c at').length+1+(y (at'+(c at').length+1)).length) stk c0:=by
 rw[jek] at h;unfold pW at hs;have hr:=hs.right.head.2.2.right;refine Hlt.st0 (i:=(15,at'+(c at').length+1+(y (at'+(c at').length+1)).length+1+(n (at'+(c at').length+1+(y (at'+(c at').length+1)).length+1)).length)) hr (by simp) rfl (pc':=at'+(c at').length+1+(y (at'+(c at').length+1)).length+1+(n (at'+(c at').length+1+(y (at'+(c at').length+1)).length+1)).length) (ps:=[]) (c':=c0) rfl ?_;rw[List.append_nil];rw[show at'+(((c at').length:Int)+1+(y (at'+(c at').length+1)).length+1+(n (at'+(c at').length+1+(y (at'+(c at').length+1)).length+1)).length)=at'+((c at').length:Int)+1+(y (at'+(c at').length+1)).length+1+(n (at'+(c at').length+1+(y (at'+(c at').length+1)).length+1)).length by omega] at h;exact h
theorem jel{c y n:Int->List Ic}{at':Int}(hs:Seg code at' (pW c y n at')):Seg code at' (c at')/\Seg code (at'+(c at').length+1) (y (at'+(c at').length+1))/\Seg code (at'+(c at').length+1+(y (at'+(c at').length+1)).length+1) (n (at'+(c at').length+1+(y (at'+(c at').length+1)).length+1)):=by
 unfold pW at hs;exact⟨hs.left,hs.right.head.2.2.left,hs.right.head.2.2.right.head.2.2⟩
theorem jus{n:Int}{f g:Nt}(pf:EvQ u sd f)(pg:EvQ u sd g)(ih:XOk u sd code Q f)(ih2:XOk u sd code Q g):XOk u sd code Q (.mk 18 n k9 [f,g]):=fun at' stk t m hs h=>by
 rw[jru] at hs h;have p1:=pf ⟨t.v,t.lg,t.st-1,t.dr,t.sp⟩
 obtain⟨r,hr⟩:∃r,qL u sd f ⟨t.v,t.lg,t.st-1,t.dr,t.sp⟩=r:=⟨_,rfl⟩
 have e:qL u sd (.mk 18 n k9 [f,g]) t=if r.1=0 then(0,r.2) else qL u sd g r.2:=by
  rw[ji7 u sd n k9 f g t hr];by_cases h0:r.1=0
  ·rw[if_pos ⟨rfl,h0⟩,if_pos h0]
  ·rw[if_neg (fun h=>h0 h.2),if_neg (fun h=>absurd h.1 (by decide)),if_pos (.inl rfl),if_neg h0]
 rw[e] at h ⊢;rw[hr] at p1;have p2:=p1.hi
 simp only at p2
 obtain⟨s1,s2,s3⟩:=jel hs;have hl:=jek (jB (jS u) f) (jB (jS u) g) (fun _=>[((1,0):Ic)]) at';simp only[List.length_singleton] at hl
 have key:∃k:Nat,Hlt code sd Q k (at'+(jB (jS u) f at').length) (stk++[r.1]) r.2.cs/\(k:Int)<=m+3+4*(r.2.st-(if r.1=0 then(0,r.2) else qL u sd g r.2).2.st):=by
  by_cases h0:r.1=0
  ·rw[if_pos h0] at h ⊢
   obtain⟨k,a,b⟩:=jcF hs (m:=m+1) (x:=r.1) (c0:=r.2.cs) (stk:=stk) (sd:=sd) (Q:=Q) (fun h=>absurd h0 h) (fun _=>⟨m+1,Hlt.st0 (i:=(1,0)) s3 (by decide) rfl rfl (by
    rw[hl] at h;rw[show at'+(((jB (jS u) f at').length:Int)+1+(jB (jS u) g (at'+(jB (jS u) f at').length+1)).length+1+(1:Nat))=at'+((jB (jS u) f at').length:Int)+1+(jB (jS u) g (at'+(jB (jS u) f at').length+1)).length+1+1 by omega] at h
    exact h),Nat.le_refl _⟩)
   exact⟨k,a,by simp only;omega⟩
  ·rw[if_neg h0] at h ⊢;have q2:=(pg r.2).hi;obtain⟨m1,b1,b2⟩:=ih2 _ stk r.2 (m+1) s2 (jhY hs h);obtain⟨k,a,b⟩:=jcF hs (m:=m1) (x:=r.1) (c0:=r.2.cs) (stk:=stk) (sd:=sd) (Q:=Q) (fun _=>⟨m1,b2,Nat.le_refl _⟩) (fun h=>absurd h h0);exact⟨k,a,by omega⟩
 obtain⟨k,a,b⟩:=key;have:=ih at' stk ⟨t.v,t.lg,t.st-1,t.dr,t.sp⟩ k s1 (by rw[hr];exact a);rw[hr] at this;obtain⟨m',a1,a2⟩:=this
 simp only at a1
 exact⟨m',by omega,a2⟩
theorem juW{n:Int}{f g:Nt}(pf:EvQ u sd f)(pg:EvQ u sd g)(ih:XOk u sd code Q f)(ih2:XOk u sd code Q g):XOk u sd code Q (.mk 18 n pOr [f,g]):=fun at' stk t m hs h=>by
 rw[jto] at hs h;have p1:=pf ⟨t.v,t.lg,t.st-1,t.dr,t.sp⟩
 obtain⟨r,hr⟩:∃r,qL u sd f ⟨t.v,t.lg,t.st-1,t.dr,t.sp⟩=r:=⟨_,rfl⟩
 have e:qL u sd (.mk 18 n pOr [f,g]) t=if r.1=0 then qL u sd g r.2 else(1,r.2):=by
  rw[ji7 u sd n pOr f g t hr,if_neg (fun h=>absurd h.1 (by decide))];by_cases h0:r.1=0
  ·rw[if_neg (fun h=>h.2 h0),if_pos (.inr rfl),if_pos h0]
  ·rw[if_pos ⟨rfl,h0⟩,if_neg h0]
 rw[e] at h ⊢;rw[hr] at p1;have p2:=p1.hi
 simp only at p2
 obtain⟨s1,s2,s3⟩:=jel hs
 have key:∃k:Nat,Hlt code sd Q k (at'+(jB (jS u) f at').length) (stk++[r.1]) r.2.cs/\(k:Int)<=m+3+4*(r.2.st-(if r.1=0 then qL u sd g r.2 else(1,r.2)).2.st):=by
  by_cases h0:r.1=0
  ·rw[if_pos h0] at h ⊢;have hl:=jek (jB (jS u) f) (fun _=>[((1,1):Ic)]) (jB (jS u) g) at';simp only[List.length_singleton] at hl;rw[hl] at h
   obtain⟨m1,b1,b2⟩:=ih2 _ stk r.2 m s3 (by
    simp only[List.length_singleton];rw[<- Int.add_assoc,<- Int.add_assoc,<- Int.add_assoc,<- Int.add_assoc] at h
    exact h)
   obtain⟨k,a,b⟩:=jcF hs (m:=m1) (x:=r.1) (c0:=r.2.cs) (stk:=stk) (sd:=sd) (Q:=Q) (fun h=>absurd h0 h) (fun _=>⟨m1,b2,Nat.le_refl _⟩);have q2:=(pg r.2).hi;exact⟨k,a,by omega⟩
  ·rw[if_neg h0] at h ⊢;obtain⟨k,a,b⟩:=jcF hs (m:=m+2) (x:=r.1) (c0:=r.2.cs) (stk:=stk) (sd:=sd) (Q:=Q) (fun _=>⟨m+2,Hlt.st0 (i:=(1,1)) s2 (by decide) rfl rfl (jhY hs h),Nat.le_refl _⟩) (fun h=>absurd h h0);exact⟨k,a,by simp only;omega⟩
 obtain⟨k,a,b⟩:=key;have:=ih at' stk ⟨t.v,t.lg,t.st-1,t.dr,t.sp⟩ k s1 (by rw[hr];exact a);rw[hr] at this;obtain⟨m',a1,a2⟩:=this
 simp only at a1
 exact⟨m',by omega,a2⟩
theorem jro{o a b:Int}(h:o=11∨o=12∨o=13):flF (decide (xA o a b=0))=1-xA o a b:=by
 have f:=fun b=>jfW b
 have hh:∀x:Int,0<=x/\x<=1->flF (decide (x=0))=1-x:=fun x hx=>by
  rcases(by omega:x=0∨x=1) with rfl|rfl <;> decide
 refine hh _ ?_;rcases h with rfl|rfl|rfl
 ·exact f _
 ·exact f _
 ·exact f _
theorem jsk(s:ByteArray)(h:(opBin.any fun x=>decide (s=x))=true):(∃o,(6<=o/\o<=13/\o≠10)/\opC s=[(o,0)])∨∃o,(o=11∨o=12∨o=13)/\opC s=[(o,0),(14,0)]:=by
 have h:=lV h;unfold opBin at h;simp only[List.mem_cons,List.not_mem_nil,or_false] at h;rcases h with rfl|rfl|rfl|rfl|rfl|rfl|rfl|rfl|rfl|rfl
 ·exact .inl ⟨6,by decide,by decide⟩
 ·exact .inl ⟨7,by decide,by decide⟩
 ·exact .inl ⟨8,by decide,by decide⟩
 ·exact .inl ⟨9,by decide,by decide⟩
 ·exact .inl ⟨11,by decide,by decide⟩
 ·exact .inl ⟨12,by decide,by decide⟩
 ·exact .inl ⟨13,by decide,by decide⟩
 ·exact .inr ⟨12,by decide,by decide⟩
 ·exact .inr ⟨11,by decide,by decide⟩
 ·exact .inr ⟨13,by decide,by decide⟩
theorem jgg{o:Int}(h:6<=o/\o<=13/\o≠10)(pc a b:Int)(c:Cs):xR sd (o,0) pc [a,b] c=(pc+1,[xA o a b],c)/\kJ o=2:=by
 unfold xR kJ
 simp only
 refine⟨?_,by rw[if_neg (by omega),if_pos (by omega)]⟩;rw[if_neg (by omega),if_neg (by omega),if_neg (by omega),if_neg (by omega),if_neg (by omega),if_neg (by omega),if_pos (by omega)];rfl
theorem jut{n:Int}{s:ByteArray}{f g:Nt}(hop:(opBin.any fun x=>decide (s=x))=true)(h1:s≠k9)(h2:s≠pOr)(ih:XOk u sd code Q f)(ih2:XOk u sd code Q g):XOk u sd code Q (.mk 18 n s [f,g]):=fun at' stk t m hs h=>by
 rw[jrv _ _ _ _ _ _ h1 h2] at hs h
 obtain⟨r,hr⟩:∃r,qL u sd f ⟨t.v,t.lg,t.st-1,t.dr,t.sp⟩=r:=⟨_,rfl⟩
 obtain⟨q,hq⟩:∃q,qL u sd g r.2=q:=⟨_,rfl⟩
 have e:qL u sd (.mk 18 n s [f,g]) t=(apF s r.1 q.1,q.2):=by
  rw[ji7 u sd n s f g t hr,if_neg (fun h=>h1 h.1),if_neg (fun h=>h2 h.1),if_neg (fun h=>h.elim h1 h2),hq]
 rw[e] at h ⊢;have s2:=hs.right.left;have s3:=hs.right.right
 obtain⟨p,hp⟩:∃p,at'+((jB (jS u) f at').length:Int)=p:=⟨_,rfl⟩
 rw[List.length_append,List.length_append,show at'+(((jB (jS u) f at').length+((jB (jS u) g (at'+(jB (jS u) f at').length)).length+(opC s).length):Nat):Int)=at'+((jB (jS u) f at').length:Int)+(jB (jS u) g (at'+(jB (jS u) f at').length)).length+(opC s).length by omega] at h;rw[hp] at h s2 s3
 obtain⟨p2,hp2⟩:∃p2,p+((jB (jS u) g p).length:Int)=p2:=⟨_,rfl⟩
 rw[hp2] at h s3
 have key:Hlt code sd Q (m+2) p2 ((stk++[r.1])++[q.1]) q.2.cs∨Hlt code sd Q (m+1) p2 ((stk++[r.1])++[q.1]) q.2.cs:=by
  rw[List.append_assoc,show [r.1]++[q.1]=[r.1,q.1] from rfl];rcases jsk s hop with ⟨o,ho,he⟩|⟨o,ho,he⟩
  ·unfold apF at h;rw[he] at h s3;obtain⟨c1,c2⟩:=jgg (sd:=sd) ho p2 r.1 q.1 q.2.cs;refine .inr (Hlt.stv s3 (by simp only;omega) (by simp only[c2];rfl) c1 ?_);exact h
  ·unfold apF at h;rw[he] at h s3;obtain⟨c1,c2⟩:=jgg (sd:=sd) (o:=o) (by omega) p2 r.1 q.1 q.2.cs;refine .inl (Hlt.stv s3 (by simp only;omega) (by simp only[c2];rfl) c1 ?_);refine Hlt.stv (i:=(14,0)) (vs:=[xA o r.1 q.1]) s3.head.2.2 (by decide) rfl rfl ?_;rw[if_pos (show 1<([(o,0),(14,0)]:List Ic).length by simp)] at h;show Hlt code sd Q m (p2+1+1) (stk++[flF (decide (xA o r.1 q.1=0))]) q.2.cs;rw[jro ho,show p2+1+1=p2+(2:Nat) by omega];exact h
 have key2:∃k:Nat,(k:Int)<=m+2/\Hlt code sd Q k p2 ((stk++[r.1])++[q.1]) q.2.cs:=key.elim (fun h=>⟨_,by omega,h⟩) (fun h=>⟨_,by omega,h⟩);obtain⟨k,hk1,hk2⟩:=key2;have i2:=ih2 p (stk++[r.1]) r.2 k s2 (by rw[hq,hp2];exact hk2);rw[hq] at i2;obtain⟨k2,j1,j2⟩:=i2;have i1:=ih at' stk ⟨t.v,t.lg,t.st-1,t.dr,t.sp⟩ k2 hs.left (by rw[hr,hp];exact j2);rw[hr] at i1;obtain⟨k3,l1,l2⟩:=i1
 simp only at l1
 exact⟨k3,by simp only;omega,l2⟩
end
mutual
theorem jkC{u:Ut}{sd:Int}{code:List Ic}{Q:Cs}(hu:eD u):∀f:Nt,xD f->isX f=true->XOk u sd code Q f
 |.mk k n s kids,hw,hx=>by
  have ihs:=joP (sd:=sd) (code:=code) (Q:=Q) hu kids;rcases mY hw hx with ⟨hk,rfl⟩|⟨hk,f,rfl⟩|⟨rfl,f,g,rfl⟩
  ·exact jt5 hu hk
  ·have hf:=oE hw (by omega) f List.mem_cons_self;have h1:=ihs f List.mem_cons_self hf.1 hf.2;rcases hk with rfl|rfl
   ·exact juu h1
   ·exact juw h1
  ·have hf:=oE hw (by omega) f List.mem_cons_self;have hg:=oE hw (by omega) g (by simp);have h1:=ihs f List.mem_cons_self hf.1 hf.2;have h2:=ihs g (by simp) hg.1 hg.2;have p1:=sR (u:=u) (sd:=sd) f hf.1 hf.2;have p2:=sR (u:=u) (sd:=sd) g hg.1 hg.2;have hop:=jqs hw;by_cases hA:s=k9
   ·subst hA;exact jus p1 p2 h1 h2
   by_cases hO:s=pOr
   ·subst hO;exact juW p1 p2 h1 h2
   refine jut ?_ hA hO h1 h2;have h:=lV hop;unfold opAll at h;unfold opBin;simp only[List.mem_cons,List.not_mem_nil,or_false] at h;rcases h with h|h|h|h|h|h|h|h|h|h|h|h
   ·exact absurd h hA
   ·exact absurd h hO
   all_goals(rw[h];decide)
theorem joP{u:Ut}{sd:Int}{code:List Ic}{Q:Cs}(hu:eD u):∀l:List Nt,∀f∈l,xD f->isX f=true->XOk u sd code Q f
 |[]=>fun _ h=>by cases h
 |x::l =>
  have h1:=jkC hu x;have h2:=joP hu l
  fun f hf=>(List.mem_cons.1 hf).elim (fun e=>e ▸ h1) (h2 f)
end
end
section
section
variable{u:Ut}{sd:Int}{code:List Ic}{Q:Cs}
theorem jje{e:Ev}{b:Sv}{c:Int}(he:∀t,EvP c t (e t).2)(hb:∀t,(b t).st<=t.st-1):∀(n:Nat) (t:Ms),(bX e b n t).st<=t.st
 |0,t=>Int.le_refl _
 |n+1,t=>by
  rw[bX];have p:=(he t).hi;split
  ·split
   ·omega
   ·have:=jje he hb n (b (e t).2);have:=hb (e t).2;omega
  ·exact Int.le_refl _
theorem jeB:∀(l:List Nt),(∀f∈l,∀t:Ms,(j7 u sd f t).st<=t.st-1)->∀t:Ms,((l.map (j7 u sd)).foldl (fun t b=>b t) t).st<=t.st
 |[],_,t=>Int.le_refl _
 |f::l,h,t=>by
  rw[List.map_cons,List.foldl_cons];have:=h f List.mem_cons_self t;have:=jeB l (fun g hg=>h g (List.mem_cons_of_mem _ hg)) (j7 u sd f t);omega
theorem jfj:∀(l:List Nt),(∀f∈l,xD f/\isX f=true)->∀t,(kG (l.map (qL u sd)) t).2.st<=t.st-l.length/\(kG (l.map (qL u sd)) t).2.sp=t.sp/\(kG (l.map (qL u sd)) t).1.length=l.length
 |[],_,t=>⟨by simp[kG],rfl,rfl⟩
 |f::l,h,t=>by
  have hf:=h f List.mem_cons_self;have p:=sR (u:=u) (sd:=sd) f hf.1 hf.2 t;obtain⟨a,b,c⟩:=jfj l (fun g hg=>h g (List.mem_cons_of_mem _ hg)) (qL u sd f t).2;have p1:=p.hi;rw[List.map_cons,kG,List.length_cons];exact⟨by simp only;omega,b.trans p.sp,by simp only[List.length_cons];omega⟩
mutual
theorem jfR:∀f:Nt,xD f->isX f=false->∀t,(j7 u sd f t).st<=t.st-1
 |.mk k n s kids,hw,hx=>fun t=>by
  have ih:=jmt kids;by_cases h0:t.sp=true∨t.st-1<0
  ·rw[nV h0];exact Int.le_refl _
  rcases ja4 hw hx with ⟨rfl,hk⟩|⟨rfl,c,b,o,rfl,hc,hb,ho⟩|⟨rfl,c,b,rfl,hc,hb⟩|⟨rfl,rfl⟩|⟨hk,hlen,hkx⟩
  ·rw[jeu h0];exact jeB kids (fun f hf=>ih f hf (hk f hf).1 (hk f hf).2) _
  ·rw[jev h0];have p:=(sR (u:=u) (sd:=sd) c hc.1 hc.2 ⟨t.v,t.lg,t.st-1,t.dr,t.sp⟩).hi
   simp only at p
   split
   ·have:=ih b (by simp) hb.1 hb.2 (qL u sd c ⟨t.v,t.lg,t.st-1,t.dr,t.sp⟩).2;omega
   ·have:=ih o (by simp) ho.1 ho.2 (qL u sd c ⟨t.v,t.lg,t.st-1,t.dr,t.sp⟩).2;omega
  ·rw[jew h0];exact jje (fun t=>sR c hc.1 hc.2 t) (fun t=>ih b (by simp) hb.1 hb.2 t) _ _
  ·rw[ji3 h0];exact Int.le_refl _
  ·obtain⟨a,-,-⟩:=jfj (u:=u) (sd:=sd) kids hkx ⟨t.v,t.lg,t.st-1,t.dr,t.sp⟩
   simp only at a
   by_cases k1:k=1
   ·subst k1;rw[jet h0 rfl]
    simp only;omega
   ·rw[eR (by omega) h0 rfl]
    simp only;omega
theorem jmt:∀l:List Nt,∀f∈l,xD f->isX f=false->∀t,(j7 u sd f t).st<=t.st-1
 |[]=>fun _ h=>by cases h
 |x::l =>
  have h1:=jfR x;have h2:=jmt l
  fun f hf=>(List.mem_cons.1 hf).elim (fun e=>e ▸ h1) (h2 f)
end
def jr2(code:List Ic)(sd:Int)(Q:Cs)(m:Nat)(pc:Int)(q:Ms):Prop:=(q.sp=false->Hlt code sd Q m pc [] q.cs)/\(q.sp=true->q.cs=Q)
def SOk(u:Ut)(sd:Int)(code:List Ic)(Q:Cs)(f:Nt):Prop:=∀(at':Int) (t:Ms) (m:Nat),Seg code at' (jB (jS u) f at')->t.sp=false->0<(j7 u sd f t).st->jr2 code sd Q m (at'+(jB (jS u) f at').length) (j7 u sd f t)->∃m':Nat,(m':Int)<=m+6*(t.st-(j7 u sd f t).st)/\Hlt code sd Q m' at' [] t.cs
theorem jg0:∀(l:List Nt) (t:Ms),t.sp=true->((l.map (j7 u sd)).foldl (fun t b=>b t) t).cs=t.cs/\((l.map (j7 u sd)).foldl (fun t b=>b t) t).sp=true
 |[],t,h=>⟨rfl,h⟩
 |.mk k n s kids::l,t,h=>by
  rw[List.map_cons,List.foldl_cons,nV (.inl h)];exact jg0 l _ h
theorem jm3:∀(l:List Nt),(∀f∈l,SOk u sd code Q f/\∀t,(j7 u sd f t).st<=t.st-1)->∀(at':Int) (t:Ms) (m:Nat),Seg code at' (zW (l.map (jB (jS u))) at')->t.sp=false->0<((l.map (j7 u sd)).foldl (fun t b=>b t) t).st->jr2 code sd Q m (at'+(zW (l.map (jB (jS u))) at').length) ((l.map (j7 u sd)).foldl (fun t b=>b t) t)->∃m':Nat,(m':Int)<=m+6*(t.st-((l.map (j7 u sd)).foldl (fun t b=>b t) t).st)/\Hlt code sd Q m' at' [] t.cs
 |[],_,at',t,m,hs,h1,h2,h3=>by
  refine⟨m,by simp only[List.map_nil,List.foldl_nil];omega,?_⟩;have:=h3.1 h1;simpa [zW] using this
 |f::l,hk,at',t,m,hs,h1,h2,h3=>by
  rw[List.map_cons,zW] at hs h3;rw[List.map_cons,List.foldl_cons] at h2 h3 ⊢;obtain⟨hf,hd⟩:=hk f List.mem_cons_self;have hdl:=jeB (u:=u) (sd:=sd) l (fun g hg=>(hk g (List.mem_cons_of_mem _ hg)).2) (j7 u sd f t);rw[List.length_append,show at'+(((jB (jS u) f at').length+(zW (l.map (jB (jS u))) (at'+(jB (jS u) f at').length)).length:Nat):Int)=at'+((jB (jS u) f at').length:Int)+(zW (l.map (jB (jS u))) (at'+(jB (jS u) f at').length)).length by omega] at h3;by_cases hp:(j7 u sd f t).sp=true
  ·obtain⟨o1,o2⟩:=jg0 (u:=u) (sd:=sd) l _ hp;obtain⟨m',a,b⟩:=hf at' t 0 hs.left h1 (by omega) ⟨fun h=>(by rw[hp] at h;cases h),fun _=>o1.symm.trans (h3.2 o2)⟩;exact⟨m',by omega,b⟩
  ·have hp0:(j7 u sd f t).sp=false:=by simpa using hp
   obtain⟨m1,a1,b1⟩:=jm3 l (fun g hg=>hk g (List.mem_cons_of_mem _ hg)) (at'+(jB (jS u) f at').length) (j7 u sd f t) m hs.right hp0 h2 h3;obtain⟨m',a,b⟩:=hf at' t m1 hs.left h1 (by omega) ⟨fun _=>b1,fun h=>absurd h hp⟩;exact⟨m',by omega,b⟩
theorem jky:∀(l:List Nt),(∀f∈l,XOk u sd code Q f)->∀(at':Int) (stk:List Int) (t:Ms) (m:Nat),Seg code at' (zW (l.map (jB (jS u))) at')->Hlt code sd Q m (at'+(zW (l.map (jB (jS u))) at').length) (stk++(kG (l.map (qL u sd)) t).1) (kG (l.map (qL u sd)) t).2.cs->∃m':Nat,(m':Int)<=m+4*(t.st-(kG (l.map (qL u sd)) t).2.st)/\Hlt code sd Q m' at' stk t.cs
 |[],_,at',stk,t,m,hs,h=>by
  refine⟨m,by simp[kG],?_⟩;simpa [zW,kG] using h
 |f::l,hk,at',stk,t,m,hs,h=>by
  rw[List.map_cons,zW] at hs h;rw[List.map_cons,kG] at h ⊢;rw[List.length_append,show at'+(((jB (jS u) f at').length+(zW (l.map (jB (jS u))) (at'+(jB (jS u) f at').length)).length:Nat):Int)=at'+((jB (jS u) f at').length:Int)+(zW (l.map (jB (jS u))) (at'+(jB (jS u) f at').length)).length by omega] at h
  simp only at h ⊢
  obtain⟨m1,a1,b1⟩:=jky l (fun g hg=>hk g (List.mem_cons_of_mem _ hg)) (at'+(jB (jS u) f at').length) (stk++[(qL u sd f t).1]) (qL u sd f t).2 m hs.right (by rw[List.append_assoc];exact h);obtain⟨m',a,b⟩:=hk f List.mem_cons_self at' stk t m1 hs.left b1;exact⟨m',by omega,b⟩
theorem joJ{n:Int}{s:ByteArray}{f g:Nt}{at':Int}(hs:Seg code at' (jB (jS u) (.mk 3 n s [f,g]) at'))(pf:EvQ u sd f)(pg:∀t,(j7 u sd g t).st<=t.st-1)(hx:XOk u sd code Q f)(hg:SOk u sd code Q g):∀(k:Nat) (t:Ms) (m:Nat),t.sp=false->t.st<=k->0<(bX (qL u sd f) (j7 u sd g) k t).st->jr2 code sd Q m (at'+(jB (jS u) (.mk 3 n s [f,g]) at').length) (bX (qL u sd f) (j7 u sd g) k t)->∃m':Nat,(m':Int)<=m+6*(t.st-(bX (qL u sd f) (j7 u sd g) k t).st)/\Hlt code sd Q m' at' [] t.cs
 |0,t,m,h1,h2,h3,h4=>by
  rw[bX] at h3;omega
 |k+1,t,m,h1,h2,h3,h4=>by
  have ih:=joJ hs pf pg hx hg k;have hdn:=jje (e:=qL u sd f) (b:=j7 u sd g) (fun t=>pf t) pg k;have pe:=pf t;rw[bX] at h3 h4 ⊢;by_cases h0:0<t.st/\t.sp=false
  rotate_left
  ·rw[if_neg h0] at h3;exact absurd ⟨h3,h1⟩ h0
  rw[if_pos h0] at h3 h4 ⊢;rw[jma] at hs h4;have s1:=hs.left;have s2:=hs.right;have s3:=s2.head.2.2.left;have s4:=s2.head.2.2.right
  have hlen:at'+((jB (jS u) f at'++(16,at'+(jB (jS u) f at').length+(jB (jS u) g (at'+(jB (jS u) f at').length+1)).length+2)::(jB (jS u) g (at'+(jB (jS u) f at').length+1)++[(15,at')]):List Ic).length:Int)=at'+(jB (jS u) f at').length+(jB (jS u) g (at'+(jB (jS u) f at').length+1)).length+2:=by
   simp only[List.length_append,List.length_cons,List.length_nil];omega
  rw[hlen] at h4;have p1:=pe.hi;by_cases hv:(qL u sd f t).1=0
  ·rw[if_pos hv] at h3 h4 ⊢;have hq:=h4.1 (pe.sp.trans h1);have hu:Hlt code sd Q (m+1) (at'+(jB (jS u) f at').length) ([]++[(qL u sd f t).1]) (qL u sd f t).2.cs:=Hlt.stv (vs:=[(qL u sd f t).1]) s2 (by simp) rfl (pc':=at'+(jB (jS u) f at').length+(jB (jS u) g (at'+(jB (jS u) f at').length+1)).length+2) (ps:=[]) (c':=(qL u sd f t).2.cs) (by unfold xR;simp[hv]) hq;obtain⟨m',a,b⟩:=hx at' [] t (m+1) s1 hu;exact⟨m',by omega,b⟩
  ·rw[if_neg hv] at h3 h4 ⊢;have hd1:=hdn (j7 u sd g (qL u sd f t).2);have hd2:=pg (qL u sd f t).2
   have fin:∀m0:Nat,(m0:Int)<=m+2+6*((qL u sd f t).2.st-(bX (qL u sd f) (j7 u sd g) k (j7 u sd g (qL u sd f t).2)).st)-1->Hlt code sd Q m0 (at'+(jB (jS u) f at').length+1) [] (qL u sd f t).2.cs->∃m':Nat,(m':Int)<=m+6*(t.st-(bX (qL u sd f) (j7 u sd g) k (j7 u sd g (qL u sd f t).2)).st)/\Hlt code sd Q m' at' [] t.cs:=fun m0 hm0 hh=>by
    have hu:Hlt code sd Q (m0+1) (at'+(jB (jS u) f at').length) ([]++[(qL u sd f t).1]) (qL u sd f t).2.cs:=Hlt.stv (vs:=[(qL u sd f t).1]) s2 (by simp) rfl (pc':=at'+(jB (jS u) f at').length+1) (ps:=[]) (c':=(qL u sd f t).2.cs) (by unfold xR;simp[hv]) hh;obtain⟨m',a,b⟩:=hx at' [] t (m0+1) s1 hu;exact⟨m',by omega,b⟩
   by_cases hp:(j7 u sd g (qL u sd f t).2).sp=true
   ·have hw:bX (qL u sd f) (j7 u sd g) k (j7 u sd g (qL u sd f t).2)=j7 u sd g (qL u sd f t).2:=by
     cases k with
     |zero=>rfl
     |succ k=>rw[bX,if_neg (fun h=>by rw[hp] at h;cases h.2)]
    rw[hw] at h3 h4 hd1 fin ⊢;obtain⟨m0,a0,b0⟩:=hg _ (qL u sd f t).2 0 s3 (pe.sp.trans h1) h3 ⟨fun h=>(by rw[hp] at h;cases h),h4.2⟩;exact fin m0 (by omega) b0
   ·have hp0:(j7 u sd g (qL u sd f t).2).sp=false:=by simpa using hp
    rw[<- hlen,<- jma (jS u) n s] at h4;obtain⟨m1,a1,b1⟩:=ih _ m hp0 (by omega) h3 h4;have hj:Hlt code sd Q (m1+1) (at'+(jB (jS u) f at').length+1+(jB (jS u) g (at'+(jB (jS u) f at').length+1)).length) [] (j7 u sd g (qL u sd f t).2).cs:=Hlt.st0 s4 (by simp) rfl (pc':=at') (ps:=[]) (c':=(j7 u sd g (qL u sd f t).2).cs) rfl b1;obtain⟨m0,a0,b0⟩:=hg _ (qL u sd f t).2 (m1+1) s3 (pe.sp.trans h1) (by omega) ⟨fun _=>hj,fun h=>absurd h hp⟩;exact fin m0 (by omega) b0
theorem jrW{n:Int}{s:ByteArray}{c b o:Nt}(pc:EvQ u sd c)(hx:XOk u sd code Q c)(hb:SOk u sd code Q b)(ho:SOk u sd code Q o)(db:∀t,(j7 u sd b t).st<=t.st-1)(dO:∀t,(j7 u sd o t).st<=t.st-1):SOk u sd code Q (.mk 2 n s [c,b,o]):=fun at' t m hs h1 h2 h3=>by
 by_cases h0:t.sp=true∨t.st-1<0
 ·rw[nV h0] at h2;rcases h0 with h0|h0
  ·rw[h1] at h0;cases h0
  ·simp only at h2;omega
 rw[jev h0] at h2 h3 ⊢;rw[jry] at hs h3;obtain⟨s1,s2,s3⟩:=jel hs;have pe:=pc ⟨t.v,t.lg,t.st-1,t.dr,t.sp⟩
 obtain⟨r,hr⟩:∃r,qL u sd c ⟨t.v,t.lg,t.st-1,t.dr,t.sp⟩=r:=⟨_,rfl⟩
 rw[hr] at h2 h3 pe ⊢;have p1:=pe.hi
 simp only at p1
 have hsp:r.2.sp=false:=pe.sp.trans h1
 have fin:∀k:Nat,∀z:Int,(k:Int)<=m+2+6*(r.2.st-z)->Hlt code sd Q k (at'+(jB (jS u) c at').length) ([]++[r.1]) r.2.cs->∃m':Nat,(m':Int)<=m+6*(t.st-z)/\Hlt code sd Q m' at' [] t.cs:=fun k z hk hh=>by
  have:=hx at' [] ⟨t.v,t.lg,t.st-1,t.dr,t.sp⟩ k s1 (by rw[hr];exact hh);rw[hr] at this;obtain⟨m',a,b⟩:=this
  simp only at a
  exact⟨m',by omega,b⟩
 by_cases hv:r.1=0
 ·rw[if_neg (fun h=>h hv)] at h2 h3 ⊢;have d:=dO r.2;have hl:=jek (jB (jS u) c) (jB (jS u) b) (jB (jS u) o) at';rw[hl,<- Int.add_assoc,<- Int.add_assoc,<- Int.add_assoc,<- Int.add_assoc] at h3;obtain⟨m0,a0,b0⟩:=ho _ r.2 m s3 hsp h2 h3;obtain⟨k,e1,e2⟩:=jcF hs (m:=m0) (x:=r.1) (c0:=r.2.cs) (stk:=[]) (sd:=sd) (Q:=Q) (fun h=>absurd hv h) (fun _=>⟨m0,b0,Nat.le_refl _⟩);exact fin k _ (by omega) e1
 ·rw[if_pos hv] at h2 h3 ⊢;have d:=db r.2;obtain⟨m0,a0,b0⟩:=hb _ r.2 (m+1) s2 hsp h2 ⟨fun h=>jhY hs (h3.1 h),h3.2⟩;obtain⟨k,e1,e2⟩:=jcF hs (m:=m0) (x:=r.1) (c0:=r.2.cs) (stk:=[]) (sd:=sd) (Q:=Q) (fun _=>⟨m0,b0,Nat.le_refl _⟩) (fun h=>absurd h hv);exact fin k _ (by omega) e1
theorem jrc(hu:eD u){k n:Int}{s:ByteArray}{kids:List Nt}(hk:k=1∨k=4∨k=5∨k=6∨k=7∨k=8∨k=9)(hl:kids.length=arS k)(hn:k=7∨k=8∨k=9->n=0)(hx:∀f∈kids,xD f/\isX f=true)(hv:∀f∈kids,XOk u sd code Q f):SOk u sd code Q (.mk k n s kids):=fun at' t m hs h1 h2 h3=>by
 by_cases h0:t.sp=true∨t.st-1<0
 ·rw[nV h0] at h2;rcases h0 with h0|h0
  ·rw[h1] at h0;cases h0
  ·simp only at h2;omega
 rw[jrt _ _ _ _ k kids hk hl] at hs h3;obtain⟨d1,d2,d3⟩:=jfj (u:=u) (sd:=sd) kids hx ⟨t.v,t.lg,t.st-1,t.dr,t.sp⟩
 obtain⟨r,hr⟩:∃r,kG (kids.map (qL u sd)) ⟨t.v,t.lg,t.st-1,t.dr,t.sp⟩=r:=⟨_,rfl⟩
 rw[hr] at d1 d2 d3
 simp only at d1 d2
 rw[hl] at d3
 have e:(j7 u sd (.mk k n s kids) t).sp=r.2.sp/\(j7 u sd (.mk k n s kids) t).st=r.2.st/\kJ (uQ (jS u) s k n).1=arS k/\(1<=(uQ (jS u) s k n).1/\(uQ (jS u) s k n).1<=22)/\∀pc,xR sd (uQ (jS u) s k n) pc r.1 r.2.cs=(pc+1,[],(j7 u sd (.mk k n s kids) t).cs):=by
  rcases hk with rfl|rfl|rfl|rfl|rfl|rfl|rfl
  ·rw[jet h0 hr];refine⟨rfl,rfl,rfl,by simp[uQ],fun pc=>?_⟩;show(pc+1,[],(⟨fun j=>if j=vN (jS u s) then r.1.getD 0 0 else r.2.v j,r.2.lg,r.2.dr⟩:Cs))=_;rw[jqZ hu];rfl
  ·rw[eR (by decide) h0 hr];exact⟨rfl,rfl,rfl,by simp[uQ],fun pc=>rfl⟩
  ·rw[eR (by decide) h0 hr];exact⟨rfl,rfl,rfl,by simp[uQ],fun pc=>rfl⟩
  ·rw[eR (by decide) h0 hr];exact⟨rfl,rfl,rfl,by simp[uQ],fun pc=>rfl⟩
  ·obtain rfl:=hn (.inl rfl);rw[eR (by decide) h0 hr];exact⟨rfl,rfl,rfl,by simp[uQ],fun pc=>rfl⟩
  ·obtain rfl:=hn (.inr (.inl rfl));rw[eR (by decide) h0 hr];exact⟨rfl,rfl,rfl,by simp[uQ],fun pc=>rfl⟩
  ·obtain rfl:=hn (.inr (.inr rfl));rw[eR (by decide) h0 hr];exact⟨rfl,rfl,rfl,by simp[uQ],fun pc=>rfl⟩
 obtain⟨e1,e2,e3,e4,e5⟩:=e;have hq:=h3.1 (by rw[e1,d2];exact h1);rw[List.length_append,List.length_singleton,show at'+(((zW (kids.map (jB (jS u))) at').length+1:Nat):Int)=at'+((zW (kids.map (jB (jS u))) at').length:Int)+1 by omega] at hq;have h4:Hlt code sd Q (m+1) (at'+(zW (kids.map (jB (jS u))) at').length) ([]++r.1) r.2.cs:=Hlt.stv hs.right e4 (by rw[e3,d3]) (e5 _) hq;have:=jky kids hv at' [] ⟨t.v,t.lg,t.st-1,t.dr,t.sp⟩ (m+1) hs.left (by rw[hr];exact h4);rw[hr] at this;obtain⟨m',a,b⟩:=this
 simp only at a
 refine⟨m',?_,b⟩;rw[e2];omega
mutual
theorem jqW(hu:eD u):∀f:Nt,xD f->isX f=false->kS f->SOk u sd code Q f
 |.mk k n s kids,hw,hx,hl=>by
  have hl2:dK kids:=by unfold kS at hl;exact hl.2.1
  have hl3:k=7∨k=8∨k=9->n=0:=by unfold kS at hl;exact hl.2.2
  have ih:=jnP hu kids;rcases ja4 hw hx with ⟨rfl,hk⟩|⟨rfl,c,b,o,rfl,hc,hb,ho⟩|⟨rfl,c,b,rfl,hc,hb⟩|⟨rfl,rfl⟩|⟨hk,hlen,hkx⟩
  ·intro at' t m hs h1 h2 h3;by_cases h0:t.sp=true∨t.st-1<0
   ·rw[nV h0] at h2;rcases h0 with h0|h0
    ·rw[h1] at h0;cases h0
    ·simp only at h2;omega
   rw[jeu h0] at h2 h3 ⊢;rw[jrw] at hs h3;obtain⟨m',a,b⟩:=jm3 kids (fun f hf=>⟨ih f hf (hk f hf).1 (hk f hf).2 (jY hl2 hf),jfR f (hk f hf).1 (hk f hf).2⟩) at' ⟨t.v,t.lg,t.st-1,t.dr,t.sp⟩ m hs h1 h2 h3
   simp only at a
   exact⟨m',by omega,b⟩
  ·exact jrW (sR c hc.1 hc.2) (jkC hu c hc.1 hc.2) (ih b (by simp) hb.1 hb.2 (jY hl2 (by simp))) (ih o (by simp) ho.1 ho.2 (jY hl2 (by simp))) (jfR b hb.1 hb.2) (jfR o ho.1 ho.2)
  ·intro at' t m hs h1 h2 h3;by_cases h0:t.sp=true∨t.st-1<0
   ·rw[nV h0] at h2;rcases h0 with h0|h0
    ·rw[h1] at h0;cases h0
    ·simp only at h2;omega
   rw[jew h0] at h2 h3 ⊢;obtain⟨m',a,b⟩:=joJ hs (sR c hc.1 hc.2) (jfR b hb.1 hb.2) (jkC hu c hc.1 hc.2) (ih b (by simp) hb.1 hb.2 (jY hl2 (by simp))) (t.st-1).toNat ⟨t.v,t.lg,t.st-1,t.dr,t.sp⟩ m h1 (by simp only;omega) h2 h3
   simp only at a
   exact⟨m',by omega,b⟩
  ·intro at' t m hs h1 h2 h3;by_cases h0:t.sp=true∨t.st-1<0
   ·rw[nV h0] at h2;rcases h0 with h0|h0
    ·rw[h1] at h0;cases h0
    ·simp only at h2;omega
   rw[ji3 h0] at h2 h3 ⊢;rw[jrz] at hs;have hq:t.cs=Q:=h3.2 rfl;refine⟨1,by simp only;omega,?_⟩;rw[hq];exact Hlt.stop at' 0 hs.head.1 hs.head.2.1
  ·exact jrc hu hk hlen hl3 hkx (fun f hf=>jkC hu f (hkx f hf).1 (hkx f hf).2)
theorem jnP(hu:eD u):∀l:List Nt,∀f∈l,xD f->isX f=false->kS f->SOk u sd code Q f
 |[]=>fun _ h=>by cases h
 |x::l =>
  have h1:=jqW hu x;have h2:=jnP hu l
  fun f hf=>(List.mem_cons.1 hf).elim (fun e=>e ▸ h1) (h2 f)
end
theorem jsE(hu:eD u){k:Nat}(hk:k<u.on.length)(hl:kS (u.on[k]).2)(t:Ms)(hsp:t.sp=false)(h0:0<(j7 u sd (u.on[k]).2 t).st):∃m:Nat,(m:Int)<=1+6*(t.st-(j7 u sd (u.on[k]).2 t).st)/\Hlt (aJ u).1 sd (j7 u sd (u.on[k]).2 t).cs m ((aJ u).2 (u.on[k]).1.toNat) [] t.cs:=by
 have hmem:=List.getElem_mem hk;obtain⟨o1,o2,o3⟩:=hu.on _ hmem;obtain⟨c1,tl,e1,e2⟩:=jmQ u k hk (fun p hp=>(hu.on p hp).1) hu.nd
 have hseg:Seg (aJ u).1 c1.length (jB (jS u) (u.on[k]).2 c1.length++[(23,0)]):=⟨c1,tl,e1,rfl⟩
 rw[e2];obtain⟨m,a,b⟩:=jqW (sd:=sd) (code:=(aJ u).1) (Q:=(j7 u sd (u.on[k]).2 t).cs) hu _ o3 (hu.st _ hmem) hl c1.length t 1 hseg.left hsp h0 ⟨fun _=>Hlt.stop _ 0 hseg.right.head.1 hseg.right.head.2.1,fun _=>rfl⟩;exact⟨m,by omega,b⟩
end
end
def DoC(u:Ut)(sd:Int)(f:Nt)(B:Ms->Prop):Prop:=∀t:Ms,B t->zY 10 t.v t.lg t.st t.dr t.sp sd [.box 0 0,.agg (iE u),.agg (ntA f)] fun v' lg' st' dr' sp' r=>let q:=j7 u sd f t;v'=q.v/\lg'=q.lg/\st'=q.st/\dr'=q.dr/\sp'=q.sp/\r=.tup []
theorem jp6(u:Ut)(sd n:Int)(s:ByteArray):DoC u sd (.mk 10 n s []) fun t => -100000000<=t.st/\t.st<=100000:=fun t ht=>by
 obtain⟨v,lg,st,dr,sp⟩:=t
 simp only at ht ⊢
 rw[show ntA (.mk 10 n s [])=[intA 10,intA n,jX s,.sl 4 0 (qW [])] from rfl];have e:j7 u sd (.mk 10 n s []) ⟨v,lg,st,dr,sp⟩=if sp=true∨st-1<0 then ⟨v,lg,st-1,dr,sp⟩ else ⟨v,lg,st-1,dr,true⟩:=rfl;rw[e];unfold zY;refine qP (jQ uF qB 1) (fun _ _ h=>h.elim) Tryz.func10 rfl (by kernel_rfl) rfl (by kernel_rfl) ?_;intro _;conv=>whnf
 refine⟨jH (by omega),?_⟩;conv=>whnf
 cases sp
 ·conv=>whnf
  by_cases h0:st-1<0
  ·rw[jJ h0,if_pos (.inr h0)];conv=>whnf
   refine⟨0,?_⟩;conv=>whnf
   exact⟨_,_,_,_,_,rfl,rfl,rfl,rfl,rfl,rfl,rfl,rfl,rfl⟩
  ·rw[jG h0,if_neg (by simp[h0])];conv=>whnf
   refine⟨0,?_⟩;conv=>whnf
   exact⟨_,_,_,_,_,rfl,rfl,rfl,rfl,rfl,rfl,rfl,rfl,rfl⟩
 ·conv=>whnf
  refine⟨0,?_⟩;conv=>whnf
  rw[if_pos (.inl rfl)];exact⟨_,_,_,_,_,rfl,rfl,rfl,rfl,rfl,rfl,rfl,rfl,rfl⟩
def OkN(f:Nt)(t:Ms):Prop:=OkJ t (j6 f)
theorem jbg{t:Ms}{m:Int}(h:OkJ t m)(hm:0<=m) : -100000000<=t.st-1/\t.st<=100000/\(t.lg.length:Int)<=300000:=by
 obtain⟨h1,h2,h3,h4,h5⟩:=h;omega
theorem jmu(u:Ut)(sd n:Int)(s:ByteArray)(c b o:Nt)(hx:xD c/\isX c=true)(vc:sL u sd c)(hb:DoC u sd b (OkN b))(ho:DoC u sd o (OkN o)):DoC u sd (.mk 2 n s [c,b,o]) (OkN (.mk 2 n s [c,b,o])):=fun t ht=>by
 have hsz:j6 (.mk 2 n s [c,b,o])=3+(j6 c+(j6 b+(j6 o+0))):=rfl;unfold OkN at ht;rw[hsz] at ht;have h60:=ht.st;have hrg:=jbg ht (by omega);have hd:=ht.dec;by_cases h0:t.sp=true∨t.st-1<0
 ·rw[nV h0];obtain⟨v,lg,st,dr,sp⟩:=t
  simp only at h0 hrg ⊢
  unfold zY;refine qP (jQ uF qB 1) (fun _ _ h=>h.elim) Tryz.func10 rfl (by kernel_rfl) rfl (by kernel_rfl) ?_;intro _;conv=>whnf
  refine⟨jH (by omega),?_⟩;conv=>whnf
  cases sp
  ·conv=>whnf
   rw[jJ (show st-1<0 by simpa using h0)];conv=>whnf
   refine⟨0,?_⟩;conv=>whnf
   exact⟨_,_,_,_,_,rfl,rfl,rfl,rfl,rfl,rfl,rfl,rfl,rfl⟩
  ·conv=>whnf
   refine⟨0,?_⟩;conv=>whnf
   exact⟨_,_,_,_,_,rfl,rfl,rfl,rfl,rfl,rfl,rfl,rfl,rfl⟩
 rw[jev h0];have hv:=vc _ (hd.okM (z:=j6 c) (by omega) (by omega));have p:=sR (u:=u) (sd:=sd) c hx.1 hx.2 ⟨t.v,t.lg,t.st-1,t.dr,t.sp⟩;have h2:=hd.ev (by omega) p;have psp:=p.sp
 obtain⟨q,hq⟩:∃q,qL u sd c ⟨t.v,t.lg,t.st-1,t.dr,t.sp⟩=q:=⟨_,rfl⟩
 rw[hq] at hv h2 psp ⊢;have hdb:=hb q.2 (h2.mono (by omega));have hdo:=ho q.2 (h2.mono (by omega));obtain⟨x,q⟩:=q
 obtain⟨R,hR⟩:∃R,(if x≠0 then j7 u sd b q else j7 u sd o q)=R:=⟨_,rfl⟩
 simp only at hv hdb hdo hR psp ⊢
 rw[hR];have hrow:jD 4 0 (qW [c,b,o])=ntA c:=qT [c,b,o] 0 (by simp);have hrow1:jD 4 1 (qW [c,b,o])=ntA b:=qT [c,b,o] 1 (by simp);have hrow2:jD 4 2 (qW [c,b,o])=ntA o:=qT [c,b,o] 2 (by simp);unfold zY at hv hdb hdo;obtain⟨v,lg,st,dr,sp⟩:=t
 simp only at h0 hrg hv ⊢
 rw[show ntA (.mk 2 n s [c,b,o])=[intA 2,intA n,jX s,.sl 4 3 (qW [c,b,o])] from rfl]
 obtain⟨rfl,h1⟩:sp=false/\¬st-1<0:=by
  cases sp
  ·exact⟨rfl,fun h=>h0 (.inr h)⟩
  ·exact absurd (.inl rfl) h0
 unfold zY;refine qP (jQ uF qB 1) (fun _ _ h=>h.elim) Tryz.func10 rfl (by kernel_rfl) rfl (by kernel_rfl) ?_;intro _;conv=>whnf
 refine⟨jH (by omega),?_⟩;conv=>whnf
 rw[jG h1];conv=>whnf
 refine⟨⟨by omega,by show(0:Int)<3;decide⟩,?_⟩;conv=>whnf
 generalize hrq:jD 4 (Int.toNat 0) _=rq;obtain rfl:rq=ntA _:=hrq.symm.trans hrow;clear hrq;conv=>whnf
 refine wE 0 0 1 [] hv ?_;rintro o n' cs' r ⟨v2,lg2,st2,dr2,sp2,ho,rfl,rfl,e1,e2,e3,e4,e5,rfl⟩;cases ho;subst e1 e2 e3 e4 e5;conv=>whnf
 by_cases hx0:x=0
 ·rw[if_neg (fun h=>h hx0)] at hR;subst hR;rw[jJ hx0];conv=>whnf
  refine⟨⟨by omega,by show(2:Int)<3;decide⟩,?_⟩;conv=>whnf
  generalize hrq:jD 4 (Int.toNat 2) _=rq;obtain rfl:rq=ntA _:=hrq.symm.trans hrow2;clear hrq;conv=>whnf
  refine wE 0 1 2 [] hdo ?_;rintro o n' cs' r ⟨v2,lg2,st2,dr2,sp2,ho,rfl,rfl,e1,e2,e3,e4,e5,rfl⟩;cases ho;subst e1 e2 e3 e4 e5;conv=>whnf
  refine⟨2,?_⟩;conv=>whnf
  exact⟨_,_,_,_,_,rfl,rfl,rfl,rfl,rfl,rfl,rfl,rfl,rfl⟩
 ·rw[if_pos hx0] at hR;subst hR;rw[jG hx0];conv=>whnf
  refine⟨⟨by omega,by show(1:Int)<3;decide⟩,?_⟩;conv=>whnf
  generalize hrq:jD 4 (Int.toNat 1) _=rq;obtain rfl:rq=ntA _:=hrq.symm.trans hrow1;clear hrq;conv=>whnf
  refine wE 0 1 2 [] hdb ?_;rintro o n' cs' r ⟨v2,lg2,st2,dr2,sp2,ho,rfl,rfl,e1,e2,e3,e4,e5,rfl⟩;cases ho;subst e1 e2 e3 e4 e5;conv=>whnf
  refine⟨2,?_⟩;conv=>whnf
  exact⟨_,_,_,_,_,rfl,rfl,rfl,rfl,rfl,rfl,rfl,rfl,rfl⟩
theorem jkA{e:Ev}{b:Sv}{t:Ms}(h:¬(0<t.st/\t.sp=false)):∀m,bX e b m t=t
 |0=>rfl
 |m+1=>by rw[bX,if_neg h]
theorem jmv(u:Ut)(sd n:Int)(s:ByteArray)(c b:Nt)(hx:xD c/\isX c=true)(vc:sL u sd c)(rb:DoR u sd b)(hb:DoC u sd b (OkN b)):DoC u sd (.mk 3 n s [c,b]) (OkN (.mk 3 n s [c,b])):=fun t ht=>by
 have hsz:j6 (.mk 3 n s [c,b])=3+(j6 c+(j6 b+0)):=rfl;unfold OkN at ht;rw[hsz] at ht;have h60:=ht.st;have hrg:=jbg ht (by omega);have hd:=ht.dec;by_cases h0:t.sp=true∨t.st-1<0
 ·rw[nV h0];obtain⟨v,lg,st,dr,sp⟩:=t
  simp only at h0 hrg ⊢
  unfold zY;refine qP (jQ uF qB 1) (fun _ _ h=>h.elim) Tryz.func10 rfl (by kernel_rfl) rfl (by kernel_rfl) ?_;intro _;conv=>whnf
  refine⟨jH (by omega),?_⟩;conv=>whnf
  cases sp
  ·conv=>whnf
   rw[jJ (show st-1<0 by simpa using h0)];conv=>whnf
   refine⟨0,?_⟩;conv=>whnf
   exact⟨_,_,_,_,_,rfl,rfl,rfl,rfl,rfl,rfl,rfl,rfl,rfl⟩
  ·conv=>whnf
   refine⟨0,?_⟩;conv=>whnf
   exact⟨_,_,_,_,_,rfl,rfl,rfl,rfl,rfl,rfl,rfl,rfl,rfl⟩
 rw[jew h0];have hpc:=sR (u:=u) (sd:=sd) c hx.1 hx.2
 obtain⟨R,hR⟩:∃R,bX (qL u sd c) (j7 u sd b) (t.st-1).toNat ⟨t.v,t.lg,t.st-1,t.dr,t.sp⟩=R:=⟨_,rfl⟩
 have hrow:jD 4 0 (qW [c,b])=ntA c:=qT [c,b] 0 (by simp);have hrow1:jD 4 1 (qW [c,b])=ntA b:=qT [c,b] 1 (by simp);obtain⟨v,lg,st,dr,sp⟩:=t
 simp only at h0 hrg hR hd ⊢
 rw[hR];rw[show ntA (.mk 3 n s [c,b])=[intA 3,intA n,jX s,.sl 4 2 (qW [c,b])] from rfl]
 obtain⟨rfl,h1⟩:sp=false/\¬st-1<0:=by
  cases sp
  ·exact⟨rfl,fun h=>h0 (.inr h)⟩
  ·exact absurd (.inl rfl) h0
 unfold zY;refine qP (jQ uF qB 1) (fun _ _ h=>h.elim) Tryz.func10 rfl (by kernel_rfl) rfl (by kernel_rfl) ?_;intro _;conv=>whnf
 refine⟨jH (by omega),?_⟩;conv=>whnf
 rw[jG h1];conv=>whnf
 refine jC [0,4,5] ?_;conv=>whnf
 refine jI (fun _:Nat×Ms=>[]) (fun x=>[stE x.2.v (.own 0) x.2.st x.2.dr x.2.sp sd,iE u,[intA 3,intA n,jX s,.sl 4 2 (qW [c,b])]]) (fun x=>[.live 3 1 x.2.lg.length (jV x.2.lg)]) (fun x=>OkJ x.2 0/\bX (qL u sd c) (j7 u sd b) x.1 x.2=R/\x.2.st<=x.1) (fun x=>x.1) ((st-1).toNat,⟨v,lg,st-1,dr,false⟩) ?_ ⟨hd.mono (by omega),hR,by simp only;omega⟩ ?_
 ·repeat' constructor
 rintro⟨m,v1,lg1,st1,dr1,sp1⟩ ⟨ok,hw,hst⟩
 simp only at ok hw hst
 conv=>whnf
 by_cases hs0:0<st1
 rotate_left
 ·rw[jkA (fun h=>hs0 h.1)] at hw;subst hw;rw[jG hs0];conv=>whnf
  refine⟨0,?_⟩;conv=>whnf
  exact⟨_,_,_,_,_,rfl,rfl,rfl,rfl,rfl,rfl,rfl,rfl,rfl⟩
 rw[jJ hs0];cases sp1
 rotate_left
 ·rw[jkA (fun h=>by cases h.2)] at hw;subst hw;conv=>whnf
  refine⟨0,?_⟩;conv=>whnf
  exact⟨_,_,_,_,_,rfl,rfl,rfl,rfl,rfl,rfl,rfl,rfl,rfl⟩
 obtain⟨m,rfl⟩:∃m',m=m'+1:=⟨m-1,by omega⟩
 rw[bX,if_pos ⟨hs0,rfl⟩] at hw;have ok2:=ok.up hs0;have hv:=vc _ (ok2.okM (z:=j6 c) (by omega) (by omega));have p:=hpc ⟨v1,lg1,st1,dr1,false⟩;have h2:=ok2.ev (by omega) p
 obtain⟨q,hq⟩:∃q,qL u sd c ⟨v1,lg1,st1,dr1,false⟩=q:=⟨_,rfl⟩
 rw[hq] at hv hw h2 p;obtain⟨x,q⟩:=q
 simp only at hv hw h2
 have p1:=p.hi;have p2:=p.sp
 simp only at p1 p2
 have hdb:=hb q (h2.mono (by omega));have hrb:=rb q _ (by omega) h2;unfold zY at hv hdb
 simp only at hv hdb
 conv=>whnf
 refine⟨⟨by omega,by show(0:Int)<2;decide⟩,?_⟩;conv=>whnf
 generalize hrq:jD 4 (Int.toNat 0) _=rq;obtain rfl:rq=ntA _:=hrq.symm.trans hrow;clear hrq;conv=>whnf
 refine wE 0 0 1 [] hv ?_;rintro o n' cs' r ⟨v2,lg2,st2,dr2,sp2,ho,rfl,rfl,e1,e2,e3,e4,e5,rfl⟩;cases ho;subst e1 e2 e3 e4 e5;conv=>whnf
 by_cases hx0:x=0
 ·rw[if_pos hx0] at hw;subst hw;rw[jJ hx0];conv=>whnf
  refine⟨1,?_⟩;conv=>whnf
  exact⟨_,_,_,_,_,rfl,rfl,rfl,rfl,rfl,rfl,rfl,rfl,rfl⟩
 ·rw[if_neg hx0] at hw;rw[jG hx0];conv=>whnf
  refine⟨⟨by omega,by show(1:Int)<2;decide⟩,?_⟩;conv=>whnf
  generalize hrq:jD 4 (Int.toNat 1) _=rq;obtain rfl:rq=ntA _:=hrq.symm.trans hrow1;clear hrq;conv=>whnf
  refine wE 0 1 2 [] hdb ?_;rintro o n' cs' r ⟨v2,lg2,st2,dr2,sp2,ho,rfl,rfl,e1,e2,e3,e4,e5,rfl⟩;cases ho;subst e1 e2 e3 e4 e5;conv=>whnf
  refine⟨(m,j7 u sd b q),jF [2] ?_,⟨hrb.1.mono (by omega),hw,by have:=hrb.2;simp only;omega⟩,Nat.lt_succ_self m⟩;conv=>whnf
  repeat' constructor
theorem jms(u:Ut)(sd n:Int)(s:ByteArray)(kids:List Nt)(hlen:kids.length<=3002)(hk:∀f∈kids,DoC u sd f (OkN f)/\DoR u sd f):DoC u sd (.mk 11 n s kids) (OkN (.mk 11 n s kids)):=fun t ht=>by
 have hsz:j6 (.mk 11 n s kids)=3+qF kids:=rfl;unfold OkN at ht;rw[hsz] at ht;have h60:=ht.st;have hrg:=jbg ht (by omega);have hd:=ht.dec;by_cases h0:t.sp=true∨t.st-1<0
 ·rw[nV h0];obtain⟨v,lg,st,dr,sp⟩:=t
  simp only at h0 hrg ⊢
  unfold zY;refine qP (jQ uF qB 1) (fun _ _ h=>h.elim) Tryz.func10 rfl (by kernel_rfl) rfl (by kernel_rfl) ?_;intro _;conv=>whnf
  refine⟨jH (by omega),?_⟩;conv=>whnf
  cases sp
  ·conv=>whnf
   rw[jJ (show st-1<0 by simpa using h0)];conv=>whnf
   refine⟨0,?_⟩;conv=>whnf
   exact⟨_,_,_,_,_,rfl,rfl,rfl,rfl,rfl,rfl,rfl,rfl,rfl⟩
  ·conv=>whnf
   refine⟨0,?_⟩;conv=>whnf
   exact⟨_,_,_,_,_,rfl,rfl,rfl,rfl,rfl,rfl,rfl,rfl,rfl⟩
 rw[jeu h0]
 obtain⟨R,hR⟩:∃R,(kids.map (j7 u sd)).foldl (fun t b=>b t) ⟨t.v,t.lg,t.st-1,t.dr,t.sp⟩=R:=⟨_,rfl⟩
 obtain⟨v,lg,st,dr,sp⟩:=t
 simp only at h0 hrg hR hd ⊢
 rw[hR];rw[show ntA (.mk 11 n s kids)=[intA 11,intA n,jX s,.sl 4 kids.length (qW kids)] from rfl]
 obtain⟨rfl,h1⟩:sp=false/\¬st-1<0:=by
  cases sp
  ·exact⟨rfl,fun h=>h0 (.inr h)⟩
  ·exact absurd (.inl rfl) h0
 unfold zY;refine qP (jQ uF qB 1) (fun _ _ h=>h.elim) Tryz.func10 rfl (by kernel_rfl) rfl (by kernel_rfl) ?_;intro _;conv=>whnf
 refine⟨jH (by omega),?_⟩;conv=>whnf
 rw[jG h1];conv=>whnf
 refine jC [0,4,5] ?_;conv=>whnf
 refine jI (fun x:Nat×Ms=>[(6,.v (.int .i64 x.1))]) (fun x=>[stE x.2.v (.own 0) x.2.st x.2.dr x.2.sp sd,iE u,[intA 11,intA n,jX s,.sl 4 kids.length (qW kids)]]) (fun x=>[.live 3 1 x.2.lg.length (jV x.2.lg)]) (fun x=>OkJ x.2 (qF (kids.drop x.1))/\((kids.drop x.1).map (j7 u sd)).foldl (fun t b=>b t) x.2=R/\x.1<=kids.length) (fun x=>kids.length-x.1) (0,⟨v,lg,st-1,dr,false⟩) ?_ ⟨hd.mono (by simp only[List.drop_zero];omega),hR,Nat.zero_le _⟩ ?_
 ·repeat' constructor
 rintro⟨j,v1,lg1,st1,dr1,sp1⟩ ⟨ok,hw,hj⟩
 simp only at ok hw hj
 conv=>whnf
 rcases Nat.lt_or_ge j kids.length with hlt|hge
 ·have hrow:jD 4 j (qW kids)=ntA kids[j]:=qT kids j hlt;rw[List.drop_eq_getElem_cons hlt] at ok hw;obtain⟨dc,dr'⟩:=hk _ (List.getElem_mem hlt);generalize kids[j]=f at *;have e1:qF (f::kids.drop (j+1))=j6 f+qF (kids.drop (j+1)):=rfl;rw[e1] at ok;rw[List.map_cons,List.foldl_cons] at hw;have hdb:=dc _ (ok.mono (m':=(j6 f:Int)) (by omega));have hrb:=dr' _ _ (by omega) ok;unfold zY at hdb
  simp only at hdb
  rw[jJ (show(j:Int)<(kids.length:Int) by omega)];conv=>whnf
  refine⟨show(0:Int)<=(j:Int)/\(j:Int)<(kids.length:Nat) from ⟨by omega,by omega⟩,?_⟩;conv=>whnf
  (generalize hrq:jD _ _ (qW kids)=rq;obtain rfl:rq=ntA f:=hrq.symm.trans (hrow);clear hrq;conv=>whnf)
  refine wE 0 0 1 [] hdb ?_;rintro o n' cs' r ⟨v2,lg2,st2,dr2,sp2,ho,rfl,rfl,e1,e2,e3,e4,e5,rfl⟩;cases ho;subst e1 e2 e3 e4 e5;conv=>whnf
  refine jN j (by omega) ?_;conv=>whnf
  refine⟨(j+1,j7 u sd f ⟨v1,lg1,st1,dr1,sp1⟩),jF [1] ?_,⟨hrb.1.mono (by simp only;omega),hw,hlt⟩,show kids.length-(j+1)<kids.length-j by omega⟩;conv=>whnf
  repeat' constructor
 ·rw[jG (show ¬(j:Int)<(kids.length:Int) by omega)];rw[List.drop_of_length_le hge] at hw;simp only[List.map_nil,List.foldl_nil] at hw;subst hw;conv=>whnf
  refine⟨0,?_⟩;conv=>whnf
  exact⟨_,_,_,_,_,rfl,rfl,rfl,rfl,rfl,rfl,rfl,rfl,rfl⟩
def jqS(id:Nat):Tr:=match Nat.beq id 25 with
 |true=>.q 0 3 (.q 1 0 (.q 2 3 (.q 3 0 (.q 7 3 (.q 8 3 (.q 10 3 (.q 11 3 (.alt 4 1 (.q 5 3 (.q 6 3 (.alt 9 1 (.q 12 3 (.alt 13 2 .nil .nil)) .nil))) (.alt 9 1 (.alt 4 1 (.q 5 3 (.q 6 3 (.q 12 3 (.alt 13 2 .nil .nil)))) .nil) .nil)))))))))
 |false=>uF id
theorem jc3(e:Ev):∀(l:List Ev) (t:Ms),kG (l++[e]) t=((kG l t).1++[(e (kG l t).2).1],(e (kG l t).2).2)
 |[],t=>rfl
 |a::l,t=>by rw[List.cons_append,kG,jc3 e l,kG];rfl
theorem joC{u:Ut}{sd:Int}(hs:0<=sd/\sd<=1000)(hu:eD u):∀(l:List Nt),(∀f∈l,xD f/\isX f=true/\kS f)->∀(t:Ms) (m:Int),(qF l:Int)<=m->OkM t m->OkM (kG (l.map (qL u sd)) t).2 (m-qF l)
 |[],_,t,m,_,ht=>ht.mono (by simp[qF])
 |f::l,h,t,m,hm,ht=>by
  obtain⟨h1,h2,h3⟩:=h f List.mem_cons_self;have hsz:qF (f::l)=j6 f+qF l:=rfl;rw[hsz] at hm ⊢;have r1:=jmH hs hu f h1 h2 h3 t m (by omega) ht;have r2:=joC hs hu l (fun g hg=>h g (List.mem_cons_of_mem _ hg)) (qL u sd f t).2 (m-j6 f) (by omega) r1.2;rw[List.map_cons,kG];exact r2.mono (by omega)
theorem jmq(u:Ut)(hu:eD u)(sd k n:Int)(hs:0<=sd/\sd<=1000)(s:ByteArray)(kids:List Nt)(hk:k=1∨k=4∨k=5∨k=6∨k=7∨k=8∨k=9)(hlen:kids.length=arS k)(hx:∀f∈kids,xD f/\isX f=true/\kS f)(hv:∀f∈kids,sL u sd f):DoC u sd (.mk k n s kids) (OkN (.mk k n s kids)):=fun t ht=>by
 have hsz:j6 (.mk k n s kids)=3+qF kids:=rfl;unfold OkN at ht;rw[hsz] at ht;have h60:=ht.st;have hrg:=jbg ht (by omega);have hd:=ht.dec
 have hl3:kids.length<=3:=by rw[hlen];unfold arS;(repeat' split) <;> omega
 by_cases h0:t.sp=true∨t.st-1<0
 ·rw[nV h0];obtain⟨v,lg,st,dr,sp⟩:=t
  simp only at h0 hrg ⊢
  unfold zY;refine qP (jQ jqS qB 1) (fun _ _ h=>h.elim) Tryz.func10 rfl (by kernel_rfl) rfl (by kernel_rfl) ?_;intro _;conv=>whnf
  refine⟨jH (by omega),?_⟩;conv=>whnf
  cases sp
  ·conv=>whnf
   rw[jJ (show st-1<0 by simpa using h0)];conv=>whnf
   refine⟨0,?_⟩;conv=>whnf
   exact⟨_,_,_,_,_,rfl,rfl,rfl,rfl,rfl,rfl,rfl,rfl,rfl⟩
  ·conv=>whnf
   refine⟨0,?_⟩;conv=>whnf
   exact⟨_,_,_,_,_,rfl,rfl,rfl,rfl,rfl,rfl,rfl,rfl,rfl⟩
 have hok:=hd.okM (z:=60000) (by omega) (by omega)
 obtain⟨V,hV⟩:∃V:Nat->List Int×Ms,∀j,V j=kG ((kids.take j).map (qL u sd)) ⟨t.v,t.lg,t.st-1,t.dr,t.sp⟩:=⟨_,fun _=>rfl⟩
 have hV0:V 0=([],⟨t.v,t.lg,t.st-1,t.dr,t.sp⟩):=by rw[hV];rfl
 have hVn:∀j (h:j<kids.length),V (j+1)=((V j).1++[(qL u sd kids[j] (V j).2).1],(qL u sd kids[j] (V j).2).2):=fun j h=>by
  rw[hV,hV,List.take_succ_eq_append_getElem h,List.map_append];exact jc3 _ _ _
 have hVr:=fun j=>jja hs hu (kids.take j) (fun f hf=>hx f (List.mem_of_mem_take hf)) ⟨t.v,t.lg,t.st-1,t.dr,t.sp⟩ 60000 (by have:=sC kids j;omega) hok
 have hVm:=fun j=>joC hs hu (kids.take j) (fun f hf=>hx f (List.mem_of_mem_take hf)) ⟨t.v,t.lg,t.st-1,t.dr,t.sp⟩ 60000 (by have:=sC kids j;omega) hok
 simp only[<- hV] at hVr hVm
 have hVe:kG (kids.map (qL u sd)) ⟨t.v,t.lg,t.st-1,t.dr,t.sp⟩=V kids.length:=by rw[hV,List.take_length]
 obtain⟨R,hR⟩:∃R,j7 u sd (.mk k n s kids) t=R:=⟨_,rfl⟩
 have hR1:k=1->R=⟨fun i=>if i=vIx u s then(V kids.length).1.getD 0 0 else(V kids.length).2.v i,(V kids.length).2.lg,(V kids.length).2.st,(V kids.length).2.dr,(V kids.length).2.sp⟩:=fun e=>by
  subst e;rw[<- hR,jet h0 hVe]
 have hR2:¬k=1->R=⟨(V kids.length).2.v,(V kids.length).2.lg++[2,k,n]++(V kids.length).1,(V kids.length).2.st,(V kids.length).2.dr,(V kids.length).2.sp⟩:=fun e=>by
  rw[<- hR,eR (by omega) h0 hVe]
 rw[hR];clear hR hVe hV;obtain⟨v,lg,st,dr,sp⟩:=t
 simp only at h0 hrg hV0 hVr ⊢
 rw[show ntA (.mk k n s kids)=[intA k,intA n,jX s,.sl 4 kids.length (qW kids)] from rfl]
 obtain⟨rfl,h1⟩:sp=false/\¬st-1<0:=by
  cases sp
  ·exact⟨rfl,fun h=>h0 (.inr h)⟩
  ·exact absurd (.inl rfl) h0
 unfold zY;refine qP (jQ jqS qB 1) (fun _ _ h=>h.elim) Tryz.func10 rfl (by kernel_rfl) rfl (by kernel_rfl) ?_;intro _;conv=>whnf
 refine⟨jH (by omega),?_⟩;conv=>whnf
 rw[jG h1];conv=>whnf
 rw[jG (show ¬k=2 by omega)];conv=>whnf
 rw[jG (show ¬k=3 by omega)];conv=>whnf
 rw[jG (show ¬k=11 by omega)];conv=>whnf
 rw[jG (show ¬k=10 by omega)];conv=>whnf
 refine qU 3 1 [7] [] ?_;conv=>whnf
 refine⟨trivial,?_⟩;conv=>whnf
 refine jC [0,4,5,7] ?_;conv=>whnf
 refine jI (fun x:Nat×List Int×Ms=>[(8,.v (.int .i64 x.1))]) (fun x=>[stE x.2.2.v (.own 0) x.2.2.st x.2.2.dr x.2.2.sp sd,iE u,[intA k,intA n,jX s,.sl 4 kids.length (qW kids)]]) (fun x=>[.live 3 1 x.2.2.lg.length (jV x.2.2.lg),.live 3 1 x.2.1.length (jV x.2.1)]) (fun x=>x.1<=kids.length/\V x.1=x.2) (fun x=>kids.length-x.1) (0,[],⟨v,lg,st-1,dr,false⟩) ?_ ⟨Nat.zero_le _,hV0⟩ ?_
 ·repeat' constructor
 rintro⟨j,xs,v1,lg1,st1,dr1,sp1⟩ ⟨hj,hq⟩
 simp only at hj hq
 have hvr:=hVr j;have hvm:=hVm j;have hV1:=hVn j;rw[hq] at hvr hvm hV1;have hxl:xs.length=(kids.take j).length:=hvr.len;rw[List.length_take] at hxl;have hsp1:sp1=false:=hvr.sp;have hst1:=hvr.hi
 simp only at hst1
 have hlg1:=hvm.lg;have hpre:=sC kids j
 simp only at hlg1
 conv=>whnf
 rcases Nat.lt_or_ge j kids.length with hlt|hge
 ·have hrow:jD 4 j (qW kids)=ntA kids[j]:=qT kids j hlt;have hV1:=hV1 hlt;have hvj:=hv _ (List.getElem_mem hlt);have htk:=tM kids j hlt;generalize kids[j]=f at *;have hc:=hvj ⟨v1,lg1,st1,dr1,sp1⟩ (hvm.mono (by omega))
  obtain⟨y,hy⟩:∃y,qL u sd f ⟨v1,lg1,st1,dr1,sp1⟩=y:=⟨_,rfl⟩
  simp only at hV1
  rw[hy] at hc hV1;obtain⟨y,v2,lg2,st2,dr2,sp2⟩:=y;unfold zY at hc
  simp only at hc hV1
  subst hsp1;rw[jJ (show(j:Int)<(kids.length:Int) by omega)];conv=>whnf
  refine⟨show(0:Int)<=(j:Int)/\(j:Int)<(kids.length:Nat) from ⟨by omega,by omega⟩,?_⟩;conv=>whnf
  (generalize hrq:jD _ _ (qW kids)=rq;obtain rfl:rq=ntA f:=hrq.symm.trans (hrow);clear hrq;conv=>whnf)
  refine wE 0 0 2 [] hc ?_;rintro o n' cs' r ⟨v3,lg3,st3,dr3,sp3,ho,rfl,rfl,e1,e2,e3,e4,e5,rfl⟩;cases ho;subst e1 e2 e3 e4 e5;conv=>whnf
  refine⟨⟨by unfold maxLen;simp only[List.length_cons,List.length_nil];omega,by simp only[List.length_cons,List.length_nil];omega⟩,?_⟩;conv=>whnf
  refine jN j (by omega) ?_;conv=>whnf
  refine⟨(j+1,xs++[y],⟨v3,lg3,st3,dr3,sp3⟩),jF [2,1] ?_,⟨hlt,hV1⟩,show kids.length-(j+1)<kids.length-j by omega⟩;conv=>whnf
  repeat' constructor
  exact fM _ xs y
 ·rw[jG (show ¬(j:Int)<(kids.length:Int) by omega)]
  obtain rfl:j=kids.length:=by omega
  rw[hq] at hR1 hR2
  simp only at hR1 hR2
  subst hsp1;conv=>whnf
  by_cases k1:k=1
  ·rw[jJ k1]
   have hx1:xs.length=1:=by rw[hxl,Nat.min_self,hlen,k1];rfl
   have hdr:List.drop (Int.toNat 0*1) (jV xs)=[intA (xs.getD 0 0)]:=by
    obtain⟨x,rfl⟩:=List.length_eq_one_iff.1 hx1;rfl
   obtain rfl:=hR1 k1;have hix:=r6 u hu s
   have hj2:(max (jS u s) 0).tmod 16=((vIx u s:Nat):Int):=by
    unfold vIx
    have h0:0<=max (jS u s) 0:=by omega
    rw[Int.tmod_eq_emod_of_nonneg h0];omega
   have hlt2:=jj9 u s;conv=>whnf
   apply cB
   ·conv=>whnf
    refine⟨⟨by omega,show(0:Int)<(xs.length:Nat) by omega⟩,?_⟩;conv=>whnf
    refine⟨?_,?_⟩
    ·conv=>whnf
     refine kL [] hix ?_;rintro r rfl;conv=>whnf
     refine⟨by decide,?_⟩;conv=>whnf
     rw[hdr];rw[hj2];conv=>whnf
     refine⟨⟨by omega,by omega⟩,?_⟩;conv=>whnf
     refine r8 v1 (fun i=>if i=vIx u s then xs.getD 0 0 else v1 i) _ _ _ _ _ (vIx u s) _ hlt2 (fun i _=>rfl) ?_;conv=>whnf
    ·conv=>whnf
     rw[hdr];conv=>whnf
     refine kL [] hix ?_;rintro r rfl;conv=>whnf
     refine⟨by decide,?_⟩;rw[hj2];conv=>whnf
     refine⟨⟨by omega,by omega⟩,?_⟩;conv=>whnf
     refine r8 v1 (fun i=>if i=vIx u s then xs.getD 0 0 else v1 i) _ _ _ _ _ (vIx u s) _ hlt2 (fun i _=>rfl) ?_;conv=>whnf
   conv=>whnf
   refine⟨0,?_⟩;conv=>whnf
   exact⟨_,_,_,_,_,rfl,rfl,rfl,rfl,rfl,rfl,rfl,rfl,rfl⟩
  ·rw[jG k1];conv=>whnf
   refine⟨⟨show lg1.length+3<=maxLen by unfold maxLen;omega,show(lg1.length+3)*8<=140737488355328 by omega⟩,?_⟩;conv=>whnf
   refine⟨⟨show lg1.length+3+xs.length<=maxLen by unfold maxLen;omega,show(lg1.length+3+xs.length)*8<=140737488355328 by omega⟩,?_⟩;conv=>whnf
   refine⟨0,?_⟩;conv=>whnf
   obtain rfl:=hR2 k1;exact⟨v1,lg1++[2,k,n]++xs,st1,dr1,false,rfl,by simp only[List.length_append,List.length_cons,List.length_nil],by simp[jV,intA],rfl,rfl,rfl,rfl,rfl,rfl⟩
mutual
theorem jmr{u:Ut}(hu:eD u){sd:Int}(hs:0<=sd/\sd<=1000):∀f:Nt,xD f->isX f=false->kS f->DoC u sd f (OkN f)
 |.mk k n s kids,hw,hx,hl=>by
  have hl2:dK kids:=by unfold kS at hl;exact hl.2.1
  have ih:=jjB hu hs kids
  have ar:kids.length<=3002:=by unfold xD at hw;exact jhQ hw.1
  rcases ja4 hw hx with ⟨rfl,hk⟩|⟨rfl,c,b,o,rfl,hc,hb,ho⟩|⟨rfl,c,b,rfl,hc,hb⟩|⟨rfl,rfl⟩|⟨hk,hlen,hkx⟩
  ·exact jms u sd n s kids ar fun f hf=>⟨ih f hf (hk f hf).1 (hk f hf).2 (jY hl2 hf),jp5 hs hu f (hk f hf).1 (hk f hf).2 (jY hl2 hf)⟩
  ·exact jmu u sd n s c b o hc (ja8 hu hs c hc.1 hc.2 (jY hl2 (by simp))) (ih b (by simp) hb.1 hb.2 (jY hl2 (by simp))) (ih o (by simp) ho.1 ho.2 (jY hl2 (by simp)))
  ·exact jmv u sd n s c b hc (ja8 hu hs c hc.1 hc.2 (jY hl2 (by simp))) (jp5 hs hu b hb.1 hb.2 (jY hl2 (by simp))) (ih b (by simp) hb.1 hb.2 (jY hl2 (by simp)))
  ·exact fun t ht=>jp6 u sd n s t (by have:=jbg ht (by omega);omega)
  ·exact jmq u hu sd k n hs s kids hk hlen (fun f hf=>⟨(hkx f hf).1,(hkx f hf).2,jY hl2 hf⟩) fun f hf=>ja8 hu hs f (hkx f hf).1 (hkx f hf).2 (jY hl2 hf)
theorem jjB{u:Ut}(hu:eD u){sd:Int}(hs:0<=sd/\sd<=1000):∀l:List Nt,∀f∈l,xD f->isX f=false->kS f->DoC u sd f (OkN f)
 |[]=>fun _ h=>by cases h
 |x::l =>
  have h1:=jmr hu hs x;have h2:=jjB hu hs l
  fun f hf=>(List.mem_cons.1 hf).elim (fun e=>e ▸ h1) (h2 f)
end
end Go.Proofs.YtdnnmiemgmgffaaGreatDoor.Vm
namespace Go.Proofs.YtdnnmiemgmgffaaGreatDoor.Vm
open Go.RowKit
section
section
variable{c:Cx}{dr:List (Nat×List A)}{w0:W0}{C0:Rd}{β0:List Nat}{s:S}{a:Act}{w:World}{E:Env}{o:Oper}
theorem jbF{ops:List Oper}{Q:Exit->Act->World->Prop}(hc:c.ok)(hdr:∃n,wR n dr=true)(hx:∀ch s' a' w',c.pan ch s'->Inv dr w0 C0 β0 s' a' w'->Q (.panic ch) a' w'){rest:List Oper}:∀{l:List Oper} {s:S} {a:Act} {w:World} {K:S->Prop},Inv dr w0 C0 β0 s a w->bV c ops l s K->(∀s' a' w',K s'->Inv dr w0 C0 β0 s' a' w'->wpList c.P ops.toArray Q rest a' w')->wpList c.P ops.toArray Q (l++rest) a w
 |[],s,a,w,K,hi,h,hk=>hk s a w h hi
 |o::r,s,a,w,K,hi,h,hk=>by
  obtain⟨E,hp,ht,hd⟩:=hi
  change aG ops o s (ado c (fun _=>true) s o fun s'=>bV c ops r s' K) (kP s o.dst (.tup []) fun s'=>bV c ops r s' K) at h
  refine wpList_step fun Kc hKc=>?_
  rcases xP ht h with ⟨h1,h2⟩|⟨h1,h2⟩
  ·rw[if_pos h1]
   exact jcP hc hdr ⟨E,hp,ht,hd⟩ h2 hx fun s' a' w' h3 h4=>hKc _ _ (jbF hc hdr hx h4 h3 hk)
  ·rw[if_neg (by rw[h1];simp)];obtain⟨s2,k1,k2,k3,k4,k5⟩:=qS (a:=a) hp ht hd (kV _) h2;exact hKc _ _ (jbF hc hdr hx ⟨E,by rw[k2,k3];exact hp,k4,k5⟩ k1 hk)
theorem jpZ{t e k n j:Nat}{z:List Value}{b':Nat}{el:Te}{x lo:Operand}{y:Value}{xs:List Value}(hT:Tab.ok c.P c.T)(h1:Tab.get c.T t=some ⟨.slice e,z,b'⟩)(h2:Tab.get c.T e=some el)(hk:el.z.length=k)(ho:o.op=.slice t x (some lo) none none)(hx:a.eval x=y)(hl:a.eval lo=.int .i64 j)(hj:j<=n)(hown:w.ownsRow 0 e k y n xs) :
  ∃p m,(∀w',(execOp a.eval o).run c.P w'=.ok (.value (.slice p (n-j) m)) w')/\(p=none->n-j=0/\m=0)/\∀ad,p=some ad->∀i u,(xs.drop (j*k))[i]?=some u->w.cell? (ad.add i)=some u:=by
 have hu:=hT.slice h1
 have hs:=fun w'=>hT.size h2 w'
 obtain⟨q1,q2,q3⟩:=y6 hown;rcases q3 with ⟨rfl,rfl⟩|⟨b,cap,rfl,q4,q5⟩
 ·obtain rfl:j=0:=by omega
  have e:=fun w'=>gU (P:=c.P) (isS:=true) (len:=0) (cap:=0) (lw:=some (a.eval lo)) (hg:=none) (kl:=.i64) (kh:=.i64) (l:=0) (h:=0) (by rw[hl];rfl) rfl ⟨by omega,by omega,by omega⟩ (Nat.le_refl _) w'
  refine⟨none,0,fun w'=>?_,fun _=>⟨rfl,rfl⟩,fun ad h=>by cases h⟩;have e':=e w';have hs':=hs w';simp only[execOp,ho,hx,Option.map_none];simp[Instr.sliceAt,Instr.slice,underlying,program,hu,e',hs',Result.andThen,Sem.run]
 ·have e:=fun w'=>gU (P:=c.P) (isS:=true) (len:=n) (cap:=cap) (lw:=some (a.eval lo)) (hg:=none) (kl:=.i64) (kh:=.i64) (l:=j) (h:=n) (by rw[hl];rfl) rfl ⟨by omega,by omega,by omega⟩ q4 w'
  refine⟨if cap=j then some ⟨b,0,none⟩ else some ⟨b,j*k,none⟩,cap-j,fun w'=>?_,?_,fun ad h i u hi=>?_⟩
  ·have e':=e w';have hs':=hs w';simp only[execOp,ho,hx,Option.map_none];simp[Instr.sliceAt,Instr.slice,underlying,program,hu,e',hs',hk,Result.andThen,Sem.run,vH]
  ·intro h
   split at h <;> cases h
  ·rw[List.getElem?_drop] at hi;have h5:=q5 _ _ hi;split at h
   ·rename_i hcap;have:=(List.getElem?_eq_some_iff.1 hi).1
    have hjn:j=n:=by omega
    rw[q1,hjn] at this;omega
   ·cases h;rw[vH];simpa using h5
theorem jnE(hc:c.ok){l pre post:List Oper}{oS oA:Oper}{t:Nat}{x lo y:Operand}{d e b bt:Nat}{zt zs:List Value}{z0:Value}{dd:Td}
  (hl:l=pre++oS::oA::post) (gS:oS.guard=none) (gA:oA.guard=none) (hS:oS.op=.slice t x (some lo) none none) (hSd:oS.dst=some d) (hA:oA.op=.call ⟨.builtin .append,#[y,.tmp d],#[t,t]⟩)
  (ht1:Tab.get c.T t=some ⟨.slice e,zt,bt⟩) (ht2:Tab.get c.T e=some ⟨dd,z0::zs,b⟩) {K:S->Prop}
  (h:bV c l pre s fun s1=>∃(g n j:Nat) (cs:List A),ev s1 x=.own g/\s1.rw[g]?=some (.live e (zs.length+1) n cs)/\ev s1 lo=.v (.int .i64 j)/\j<=n/\d<s1.t.length/\(n-j<=maxLen/\(n-j)*b<=140737488355328) ∧
   kP s1 (some d) .dead fun s2=>∃g0,ev s2 y=.own g0/\s2.rw[g0]?=some (.live e (zs.length+1) 0 []) ∧
    aS s2.rw g0 (.live e (zs.length+1) (n-j) (cs.drop (j*(zs.length+1)))) fun r=>rN g0 s2.t fun t'=>o8 g0 s2.bx fun bx=>kP ⟨t',bx,r⟩ oA.dst (.own g0) fun s3=>bV c l post s3 K):joV c l s K:=by
 unfold joV;intro dr w0 C0 β0 a w Q hdr hx hi hk
 have key:wpList c.P l.toArray Q (pre++(oS::oA::post)) a w:=jbF hc hdr hx hi h fun s1 a1 w1 hs1 hi1=>by
  obtain⟨g,n,j,cs,f1,f2,f3,f4,f5,⟨f6,f7⟩,hput⟩:=hs1;obtain⟨E,hp,ht,hd⟩:=hi1;have hxv:=jM ht x;rw[f1] at hxv;unfold A.rep at hxv;obtain⟨xs,⟨hown,_⟩,hrx⟩:=hp.rws g _ _ f2 hxv;have hown:=hown.row (by omega);obtain⟨q1,q2,_⟩:=y6 hown;obtain⟨p,m,run,hpn,hcell⟩:=jpZ (k:=zs.length+1) hc.T ht1 ht2 rfl hS rfl (kM ht f3).1 f4 hown
  refine wpList_step fun Kc hKc=>?_
  rw[if_pos (by simp[Region.wanted,gS])];unfold Oper.wp;rw[run];refine hKc _ _ ?_;rw[hSd];obtain⟨s2,⟨g0,r1,r2,hK⟩,b1,b2,ht2',hd2⟩:=qS (a:=a1) (dst:=some d) (y:=.slice p (n-j) m) hp ht hd (A.rep_dead _ _) hput;rw[<- b1,<- b2] at hp
  have hsz:d<a1.tmps.size:=by
   have:=A.repL_len ht;simp at this;omega
  have hval:(a1.put (some d) (.slice p (n-j) m)).eval (.tmp d)=.slice p (n-j) m:=by
   simp[Act.put,Act.eval,hsz]
  generalize a1.put (some d) (.slice p (n-j) m)=a2 at *
  refine wpList_step fun Kc2 hKc2=>?_
  rw[if_pos (by simp[Region.wanted,gA])];have hy:=jM ht2' y;rw[r1] at hy;unfold A.rep at hy;obtain⟨qB,⟨hown0,_⟩,hr0⟩:=hp.rws g0 _ _ r2 hy;have hown0:=hown0.row (by omega);have hx0:qB=[]:=List.eq_nil_of_length_eq_zero (by simpa using (y6 hown0).1);subst hx0
  have hr:A.repC (cs.drop (j*(zs.length+1))) E.per (xs.drop (j*(zs.length+1))):=A.repC_mk (A.repL_drop _ (A.repC_L hrx)) fun u hu=>A.repC_one hrx u (List.mem_of_mem_drop hu)
  have hnl:(xs.drop (j*(zs.length+1))).length=(n-j)*(zs.length+1):=by
   rw[List.length_drop,q1,Nat.sub_mul]
  obtain⟨i,zv,d',hi1,hi2,hi3,hi4,hi5,hi6,hi7⟩:=hc.T.info ht2
  have hzs:zv.cells.size=(z0::zs).length:=by have:=congrArg List.length hi5;simpa using this
  refine cP (P:=c.P) w1 y (.tmp d) t hA 0 e i zv _ b (hc.T.slice ht1) hi1 hi4 hi6 hi7 hzs (by simp) (a2.eval y) 0 [] rfl hown0 p (n-j) m _ hval hnl hpn hcell (A.repC_one hr) (by omega) (by simpa using f7) (Nat.zero_le _) ?_;intro v' w' hown' hgrow hwh;have hp':=hp.push' r2 hy hown' (by simp) (A.repC_append hr0 hr) hgrow hwh;rw[Nat.zero_add,List.nil_append] at hp';obtain⟨_,hK⟩:=zQ hK;rw[dH,eU] at hK;have hlt:=(List.getElem?_eq_some_iff.1 hy).1;obtain⟨nd,hdr'⟩:=hdr;obtain⟨s3,k1,k2,k3,k4,k5⟩:=qS (a:=a2) (s:=⟨s2.t.map (kill g0),s2.bx.map fun c=>c.map (kill g0),s2.rw.set g0 (.live e (zs.length+1) (n-j) (cs.drop (j*(zs.length+1))))⟩) (y:=v') hp' (dI ht2') (repD.keep (E:=E) (F:=⟨E.C,E.β,E.ρ.set g0 v'⟩) (Sub.refl _) (fun _ _ h=>h) hdr' hd2) (by unfold A.rep;simp[hlt]) hK;exact hKc2 _ _ (jf9 hc ⟨nd,hdr'⟩ hx ⟨_,by rw[k2,k3];exact hp',k4,k5⟩ k1 hk)
 rw[<- hl] at key;exact key
end
end
end Go.Proofs.YtdnnmiemgmgffaaGreatDoor.Vm
