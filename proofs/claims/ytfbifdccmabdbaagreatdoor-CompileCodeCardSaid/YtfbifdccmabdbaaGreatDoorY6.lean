/- Part 6 of the proof. -/
import Derived.Test.YtfbifdccmabdbaaGreatDoorY5
set_option maxRecDepth 100000
set_option linter.unusedSimpArgs false
set_option linter.unusedVariables false
set_option maxHeartbeats 4000000
namespace Go.Proofs.YtfbifdccmabdbaaGreatDoor.Vm
open Go.RowKit Go.Shelf
def jnO (u:Ut) (a:A) (n:Int) (g:Int->List Ic) (z:Nat):Prop:=(∀ at':Int,(g at').length<=z) /\ ∀ at':Int,0<=at'->at'+z<=1000000->bM Tryz.prog 123 [.agg (eZ u),a,intA n,intA at'] (jhf (g at'))
theorem pI (u:Ut) (f:Nt) (hf:zR u f) (hc:yI u f) (n:Int):jnO u (.sl 4 1 (ntA f)) n (jI (jW u) f) (qW f):=⟨hf.1,fun at' h0 hz=>jkB u f hc n at' h0 hz⟩
theorem jf3 (u:Ut) (n:Int):jnO u (.v (.slice none 0 0)) n (fun _=>[(1,n)]) 1:=⟨fun _=>Nat.le_refl _,fun at' h0 hz=>jkA u n at'⟩
theorem eJ (u:Ut) (c:Nt) (hf:zR u c) (hc:yI u c) (ya na:A) (n:Int) (y m:Int->List Ic) (zy zm:Nat) (hy:jnO u ya n y zy) (hn:jnO u na n m zm) (hya:(∃ cs,ya = .sl 4 1 cs) ∨ ya = .v (.slice none 0 0)) (hna:(∃ cs,na = .sl 4 1 cs) ∨ na = .v (.slice none 0 0)) (at':Int) (h0:0<=at') (hz:at'+(qW c+zy+zm+2:Nat)<=1000000):bM Tryz.prog 84 [.agg (eZ u),.agg (ntA c),ya,na,intA n,intA at'] (jhf (pO (jI (jW u) c) y m at')):=by
 have hcode:=hc at' h0 (by omega)
 have hcl:=hf.1 at'
 unfold pO
 simp only
 generalize jI (jW u) c at'=l at hcode hcl
 have hyc:=hy.2 (at'+l.length+1) (by omega) (by omega)
 have hyl:=hy.1 (at'+l.length+1)
 generalize y (at'+l.length+1)=a at hyc hyl
 have hnc:=hn.2 (at'+l.length+1+a.length+1) (by omega) (by omega)
 have hnl:=hn.1 (at'+l.length+1+a.length+1)
 generalize m (at'+l.length+1+a.length+1)=b at hnc hnl;simp only[ntA] at hcode
 rcases hya with ⟨cy,rfl⟩ | rfl
 all_goals rcases hna with ⟨cn,rfl⟩ | rfl
 all_goals
  refine uN jR j5 Tryz.func84 rfl ?_;intro _;conv=>whnf
  refine xA 0 [] rfl rfl (fun _=>hcode) ?_;rintro e k n cs r ⟨rfl,rfl,rfl,rfl,rfl⟩;conv=>whnf
  refine⟨jJ (by omega),?_⟩;conv=>whnf
  refine⟨jJ (by omega),?_⟩;conv=>whnf
  refine xA 1 [] rfl rfl (fun _=>hyc) ?_;rintro e k n cs r ⟨rfl,rfl,rfl,rfl,rfl⟩;conv=>whnf
  refine⟨jJ (by omega),?_⟩;conv=>whnf
  refine⟨jJ (by omega),?_⟩;conv=>whnf
  refine⟨jJ (by omega),?_⟩;conv=>whnf
  refine⟨jJ (by omega),?_⟩;conv=>whnf
  refine xA 2 [] rfl rfl (fun _=>hnc) ?_;rintro e k n cs r ⟨rfl,rfl,rfl,rfl,rfl⟩;conv=>whnf
  refine⟨⟨by unfold maxLen;omega,by omega⟩,?_⟩;conv=>whnf
  refine⟨⟨by unfold maxLen;omega,by omega⟩,?_⟩;conv=>whnf
  refine⟨jJ (by omega),?_⟩;conv=>whnf
  refine⟨⟨by unfold maxLen;omega,by omega⟩,?_⟩;conv=>whnf
  refine⟨⟨by unfold maxLen;omega,by omega⟩,?_⟩;conv=>whnf
  refine⟨0,?_⟩;conv=>whnf
  refine⟨rfl,rfl,?_,?_,rfl⟩
  ·simp only[List.length_append,List.length_cons];omega
  ·rw[kI,v7,kI,v7];simp only[icA,List.append_assoc,List.cons_append,List.nil_append];rfl
theorem rM (u:Ut) (hu:uH u) (s:ByteArray):Spec Tryz.prog 67 [] [.agg (eZ u),jX s] fun _ r=>r=intA (jW u s):=by
 have hdv:=hu.du
 obtain⟨R,hR⟩ : ∃ R,jW u s=R:=⟨_,rfl⟩
 rw[hR];unfold jW vG at hR;refine eN jR j5 0 Tryz.func67 rfl ?_;intro _;conv=>whnf
 refine jB [1,2] ?_;conv=>whnf
 refine jH (fun j:Nat=>[(5,.v (.int .i64 j))]) (fun _=>[eZ u]) (fun _=>[]) (fun j=>j<=u.du.length /\ ∀ i (h:i<u.du.length),i<j->(u.du[i] == s)=false) (fun j=>u.du.length-j) 0 ?_ ⟨Nat.zero_le _,fun i h h2=>by omega⟩ ?_
 ·repeat' constructor
 rintro j ⟨hj,hn⟩;conv=>whnf
 rcases Nat.lt_or_ge j u.du.length with hlt | hge
 ·have hrow:=rN u.du j hlt
  rw[jK (show (j:Int)<(u.du.length:Int) by omega)];conv=>whnf
  refine⟨show (0:Int)<=(j:Int)/\(j:Int)<(u.du.length:Nat) from ⟨by omega,by omega⟩,?_⟩;conv=>whnf
  (generalize hrq:jC _ _ (vV u.du)=rq;obtain rfl:rq=[jX u.du[j]]:=hrq.symm.trans (hrow);clear hrq;conv=>whnf)
  by_cases he:u.du[j]=s
  ·rw[jK he]
   have hp:=rK hlt (fun i h h2=>hn i h h2) (show (u.du[j] == s)=true by rw[m9,he,jK rfl])
   rw[hp,if_pos (by omega)] at hR;conv=>whnf
   rw[<- hR];rfl
  rw[jG he];conv=>whnf
  refine jN j (by omega) ?_;conv=>whnf
  refine⟨j+1,jE [] ?_,⟨show j+1<=u.du.length by omega,fun i h h2 => ?_⟩,show u.du.length-(j+1)<u.du.length-j by omega⟩
  ·conv=>whnf
   repeat' constructor
  ·by_cases q:i=j
   ·subst q;rw[m9,jG he]
   ·exact hn i h (by omega)
 have m1:=lS (l:=u.du) (s:=s) fun i h=>hn i h (by omega)
 rw[jG (show ¬ (j:Int)<(u.du.length:Int) by omega)];clear hn hj hge;conv=>whnf
 rw[m1,if_neg (by omega)] at hR;refine jB [1,2] ?_;conv=>whnf
 refine jH (fun j:Nat=>[(6,.v (.int .i64 j))]) (fun _=>[eZ u]) (fun _=>[]) (fun j=>j<=u.vo.length /\ ∀ i (h:i<u.vo.length),i<j->(u.vo[i] == s)=false) (fun j=>u.vo.length-j) 0 ?_ ⟨Nat.zero_le _,fun i h h2=>by omega⟩ ?_
 ·repeat' constructor
 rintro j ⟨hj,hn⟩;conv=>whnf
 rcases Nat.lt_or_ge j u.vo.length with hlt | hge
 ·have hrow:=rN u.vo j hlt
  rw[jK (show (j:Int)<(u.vo.length:Int) by omega)];conv=>whnf
  refine⟨show (0:Int)<=(j:Int)/\(j:Int)<(u.vo.length:Nat) from ⟨by omega,by omega⟩,?_⟩;conv=>whnf
  (generalize hrq:jC _ _ (vV u.vo)=rq;obtain rfl:rq=[jX u.vo[j]]:=hrq.symm.trans (hrow);clear hrq;conv=>whnf)
  by_cases he:u.vo[j]=s
  ·rw[jK he]
   have hp:=rK hlt (fun i h h2=>hn i h h2) (show (u.vo[j] == s)=true by rw[m9,he,jK rfl])
   rw[hp,if_pos (by omega)] at hR;conv=>whnf
   refine⟨jJ (by omega),?_⟩;conv=>whnf
   rw[<- hR];rfl
  rw[jG he];conv=>whnf
  refine jN j (by omega) ?_;conv=>whnf
  refine⟨j+1,jE [] ?_,⟨show j+1<=u.vo.length by omega,fun i h h2 => ?_⟩,show u.vo.length-(j+1)<u.vo.length-j by omega⟩
  ·conv=>whnf
   repeat' constructor
  ·by_cases q:i=j
   ·subst q;rw[m9,jG he]
   ·exact hn i h (by omega)
 have m2:=lS (l:=u.vo) (s:=s) fun i h=>hn i h (by omega)
 rw[jG (show ¬ (j:Int)<(u.vo.length:Int) by omega)];clear hn hj hge;conv=>whnf
 rw[m2,if_neg (by omega)] at hR;rw[<- hR];rfl
theorem jeo (l:List Nt) (k:Nat) (hk:k<l.length):((qX l).drop (k*4)).take (1*4)=ntA l[k]:=by
 have h:=zX l k hk
 unfold jC at h;rw[Nat.one_mul];exact h
def qZ (u:Ut) (k n:Int) (s:ByteArray) (kids:List Nt) (l:List Ic) (at':Int):Prop:=bM Tryz.prog 42 [.agg (eZ u),.agg [intA k,intA n,jX s,.sl 4 kids.length (qX kids)],intA at'] (jhf l)
theorem jlz (u:Ut) (k n:Int) (s:ByteArray) (kids:List Nt) (at':Int) (hk:k=12 ∨ k=13):qZ u k n s kids [(1,n)] at':=by
 rcases hk with rfl | rfl
 all_goals
  unfold qZ;refine uN vH j5 Tryz.func42 rfl ?_;intro _;conv=>whnf
  refine⟨0,?_⟩;conv=>whnf
  exact⟨rfl,rfl,rfl,by unfold qC;rfl,rfl⟩
theorem jql (u:Ut) (n:Int) (s:ByteArray) (kids:List Nt) (at':Int):qZ u 5 n s kids [(18,n)] at':=by
 unfold qZ;refine uN vH j5 Tryz.func42 rfl ?_;intro _;conv=>whnf
 refine⟨0,?_⟩;conv=>whnf
 exact⟨rfl,rfl,rfl,by unfold qC;rfl,rfl⟩
theorem jqb (u:Ut) (n:Int) (s:ByteArray) (kids:List Nt) (at':Int):qZ u 6 n s kids [(19,n)] at':=by
 unfold qZ;refine uN vH j5 Tryz.func42 rfl ?_;intro _;conv=>whnf
 refine⟨0,?_⟩;conv=>whnf
 exact⟨rfl,rfl,rfl,by unfold qC;rfl,rfl⟩
theorem jqk (u:Ut) (n:Int) (s:ByteArray) (kids:List Nt) (at':Int):qZ u 7 n s kids [(20,0)] at':=by
 unfold qZ;refine uN vH j5 Tryz.func42 rfl ?_;intro _;conv=>whnf
 refine⟨0,?_⟩;conv=>whnf
 exact⟨rfl,rfl,rfl,by unfold qC;rfl,rfl⟩
theorem jqj (u:Ut) (n:Int) (s:ByteArray) (kids:List Nt) (at':Int):qZ u 10 n s kids [(23,0)] at':=by
 unfold qZ;refine uN vH j5 Tryz.func42 rfl ?_;intro _;conv=>whnf
 refine⟨0,?_⟩;conv=>whnf
 exact⟨rfl,rfl,rfl,by unfold qC;rfl,rfl⟩
theorem jqm (u:Ut) (hu:uH u) (n:Int) (s:ByteArray) (kids:List Nt) (at':Int):qZ u 14 n s kids [(2,jW u s)] at':=by
 have hix:=rM u hu s
 unfold qZ;refine uN vH j5 Tryz.func42 rfl ?_;intro _;conv=>whnf
 refine kU [] hix ?_;rintro r rfl;conv=>whnf
 refine⟨0,?_⟩;conv=>whnf
 exact⟨rfl,rfl,rfl,by unfold qC;rfl,rfl⟩
theorem jqf (u:Ut) (n:Int) (s:ByteArray) (kids:List Nt) (at':Int):qZ u 15 n s kids [(4,biF s)] at':=by
 have hbu:=jbj
 have hfi:=jgu builtL s (by decide)
 rw[jpZ] at hfi;unfold qZ;refine uN vH j5 Tryz.func42 rfl ?_;intro _;conv=>whnf
 refine kU [] hbu ?_;rintro r rfl;conv=>whnf
 refine kU [] hfi ?_;rintro r rfl;conv=>whnf
 refine⟨0,?_⟩;conv=>whnf
 exact⟨rfl,rfl,rfl,by unfold qC;rfl,rfl⟩
theorem jqa (u:Ut) (n:Int) (s:ByteArray) (kids:List Nt) (hm:kids.length<=3002) (hf:∀ f ∈ kids,zR u f) (hc:∀ f ∈ kids,yI u f) (at':Int) (h0:0<=at') (hz:at'+zF kids<=1000000):qZ u 11 n s kids (zQ (jF (jW u) kids) at') at':=by
 have hsq:=xW u kids hm hf hc at' h0 hz
 generalize zQ (jF (jW u) kids) at'=l at hsq;unfold qZ;refine uN vH j5 Tryz.func42 rfl ?_;intro _;conv=>whnf
 refine xA 0 [] rfl rfl (fun _=>hsq) ?_;rintro e k n cs r ⟨rfl,rfl,rfl,rfl,rfl⟩;conv=>whnf
 refine⟨0,?_⟩;conv=>whnf
 exact⟨rfl,rfl,rfl,rfl,rfl⟩
theorem jqe (u:Ut) (n:Int) (s:ByteArray) (c y m:Nt) (h1:zR u c/\yI u c) (h2:zR u y/\yI u y) (h3:zR u m/\yI u m) (at':Int) (h0:0<=at') (hz:at'+(qW c+qW y+qW m+2:Nat)<=1000000):qZ u 2 n s [c,y,m] (pO (jI (jW u) c) (jI (jW u) y) (jI (jW u) m) at') at':=by
 have hb:=eJ u c h1.1 h1.2 _ _ 0 _ _ _ _ (pI u y h2.1 h2.2 0) (pI u m h3.1 h3.2 0) (.inl ⟨_,rfl⟩) (.inl ⟨_,rfl⟩) at' h0 hz
 generalize pO (jI (jW u) c) (jI (jW u) y) (jI (jW u) m) at'=l at hb
 have hr0:jC 4 0 (qX [c,y,m])=ntA c:=zX [c,y,m] 0 (by simp)
 unfold qZ;refine uN vH j5 Tryz.func42 rfl ?_;intro _;conv=>whnf
 refine⟨⟨by decide,show (0:Int)<((3:Nat):Int) by decide⟩,?_⟩;conv=>whnf
 (generalize hrq:jC _ _ (qX [c,y,m])=rq;obtain rfl:rq=ntA c:=hrq.symm.trans (hr0);clear hrq;conv=>whnf)
 refine⟨⟨by decide,by decide,show (2:Int)<=((3:Nat):Int) by decide⟩,?_⟩
 have e1:Int.toNat 2-Int.toNat 1=1:=rfl
 have e2:List.take (1*4) (List.drop (Int.toNat 1*4) (qX [c,y,m]))=ntA y:=jeo [c,y,m] 1 (by simp)
 rw[e1,e2];conv=>whnf
 refine⟨⟨by decide,by decide,show (3:Int)<=((3:Nat):Int) by decide⟩,?_⟩
 have e3:Int.toNat 3-Int.toNat 2=1:=rfl
 have e4:List.take (1*4) (List.drop (Int.toNat 2*4) (qX [c,y,m]))=ntA m:=jeo [c,y,m] 2 (by simp)
 rw[e3,e4];conv=>whnf
 refine xA 0 [] rfl rfl (fun _=>hb) ?_;rintro e k n cs r ⟨rfl,rfl,rfl,rfl,rfl⟩;conv=>whnf
 refine⟨0,?_⟩;conv=>whnf
 exact⟨rfl,rfl,rfl,rfl,rfl⟩
theorem jq8 (u:Ut) (n:Int) (c y:Nt) (h1:zR u c/\yI u c) (h2:zR u y/\yI u y) (at':Int) (h0:0<=at') (hz:at'+(qW c+qW y+1+2:Nat)<=1000000):qZ u 18 n vI [c,y] (pO (jI (jW u) c) (jI (jW u) y) (fun _=>[(1,0)]) at') at':=by
 have hb:=eJ u c h1.1 h1.2 _ _ 0 _ _ _ _ (pI u y h2.1 h2.2 0) (jf3 u 0) (.inl ⟨_,rfl⟩) (.inr rfl) at' h0 hz
 generalize pO (jI (jW u) c) (jI (jW u) y) (fun _=>[(1,0)]) at'=l at hb
 have hr0:jC 4 0 (qX [c,y])=ntA c:=zX [c,y] 0 (by simp)
 unfold qZ;refine uN vH j5 Tryz.func42 rfl ?_;intro _;conv=>whnf
 refine⟨⟨by decide,show (0:Int)<((2:Nat):Int) by decide⟩,?_⟩;conv=>whnf
 (generalize hrq:jC _ _ (qX [c,y])=rq;obtain rfl:rq=ntA c:=hrq.symm.trans (hr0);clear hrq;conv=>whnf)
 refine⟨⟨by decide,by decide,show (2:Int)<=((2:Nat):Int) by decide⟩,?_⟩
 have e1:Int.toNat 2-Int.toNat 1=1:=rfl
 have e2:List.take (1*4) (List.drop (Int.toNat 1*4) (qX [c,y]))=ntA y:=jeo [c,y] 1 (by simp)
 rw[e1,e2];conv=>whnf
 refine xA 0 [] rfl rfl (fun _=>hb) ?_;rintro e k n cs r ⟨rfl,rfl,rfl,rfl,rfl⟩;conv=>whnf
 refine⟨0,?_⟩;conv=>whnf
 exact⟨rfl,rfl,rfl,rfl,rfl⟩
theorem js3 (u:Ut) (n:Int) (c y:Nt) (h1:zR u c/\yI u c) (h2:zR u y/\yI u y) (at':Int) (h0:0<=at') (hz:at'+(qW c+1+qW y+2:Nat)<=1000000):qZ u 18 n pOr [c,y] (pO (jI (jW u) c) (fun _=>[(1,1)]) (jI (jW u) y) at') at':=by
 have hb:=eJ u c h1.1 h1.2 _ _ 1 _ _ _ _ (jf3 u 1) (pI u y h2.1 h2.2 1) (.inr rfl) (.inl ⟨_,rfl⟩) at' h0 hz
 generalize pO (jI (jW u) c) (fun _=>[(1,1)]) (jI (jW u) y) at'=l at hb
 have hr0:jC 4 0 (qX [c,y])=ntA c:=zX [c,y] 0 (by simp)
 unfold qZ;refine uN vH j5 Tryz.func42 rfl ?_;intro _;conv=>whnf
 refine⟨⟨by decide,show (0:Int)<((2:Nat):Int) by decide⟩,?_⟩;conv=>whnf
 (generalize hrq:jC _ _ (qX [c,y])=rq;obtain rfl:rq=ntA c:=hrq.symm.trans (hr0);clear hrq;conv=>whnf)
 refine⟨⟨by decide,by decide,show (2:Int)<=((2:Nat):Int) by decide⟩,?_⟩
 have e1:Int.toNat 2-Int.toNat 1=1:=rfl
 have e2:List.take (1*4) (List.drop (Int.toNat 1*4) (qX [c,y]))=ntA y:=jeo [c,y] 1 (by simp)
 rw[e1,e2];conv=>whnf
 refine xA 0 [] rfl rfl (fun _=>hb) ?_;rintro e k n cs r ⟨rfl,rfl,rfl,rfl,rfl⟩;conv=>whnf
 refine⟨0,?_⟩;conv=>whnf
 exact⟨rfl,rfl,rfl,rfl,rfl⟩
theorem jqn (u:Ut) (n:Int) (s:ByteArray) (c b:Nt) (h1:zR u c/\yI u c) (h2:zR u b/\yI u b) (at':Int) (h0:0<=at') (hz:at'+(qW c+qW b+2:Nat)<=1000000):qZ u 3 n s [c,b] (jI (jW u) c at'++(16,at'+(jI (jW u) c at').length+(jI (jW u) b (at'+(jI (jW u) c at').length+1)).length+2) :: (jI (jW u) b (at'+(jI (jW u) c at').length+1)++[(15,at')])) at':=by
 have hcc:=h1.2 at' h0 (by omega)
 have hcl:=h1.1.1 at'
 generalize jI (jW u) c at'=l at hcc hcl
 have hbc:=h2.2 (at'+l.length+1) (by omega) (by omega)
 have hbl:=h2.1.1 (at'+l.length+1)
 generalize jI (jW u) b (at'+l.length+1)=m at hbc hbl
 have hr0:jC 4 0 (qX [c,b])=ntA c:=zX [c,b] 0 (by simp)
 have hr1:jC 4 1 (qX [c,b])=ntA b:=zX [c,b] 1 (by simp)
 unfold qZ;refine uN vH j5 Tryz.func42 rfl ?_;intro _;conv=>whnf
 refine⟨⟨by decide,show (0:Int)<((2:Nat):Int) by decide⟩,?_⟩;conv=>whnf
 (generalize hrq:jC _ _ (qX [c,b])=rq;obtain rfl:rq=ntA c:=hrq.symm.trans (hr0);clear hrq;conv=>whnf)
 refine xA 0 [] rfl rfl (fun _=>hcc) ?_;rintro e k n cs r ⟨rfl,rfl,rfl,rfl,rfl⟩;conv=>whnf
 refine⟨⟨by decide,show (1:Int)<((2:Nat):Int) by decide⟩,?_⟩;conv=>whnf
 (generalize hrq:jC _ _ (qX [c,b])=rq;obtain rfl:rq=ntA b:=hrq.symm.trans (hr1);clear hrq;conv=>whnf)
 refine⟨jJ (by omega),?_⟩;conv=>whnf
 refine⟨jJ (by omega),?_⟩;conv=>whnf
 refine xA 1 [] rfl rfl (fun _=>hbc) ?_;rintro e k n cs r ⟨rfl,rfl,rfl,rfl,rfl⟩;conv=>whnf
 refine⟨jJ (by omega),?_⟩;conv=>whnf
 refine⟨jJ (by omega),?_⟩;conv=>whnf
 refine⟨jJ (by omega),?_⟩;conv=>whnf
 refine⟨⟨by unfold maxLen;omega,by omega⟩,?_⟩;conv=>whnf
 refine⟨⟨by unfold maxLen;omega,by omega⟩,?_⟩;conv=>whnf
 refine⟨⟨by unfold maxLen;omega,by omega⟩,?_⟩;conv=>whnf
 refine⟨0,?_⟩;conv=>whnf
 refine⟨rfl,rfl,?_,?_,rfl⟩
 ·simp only[List.length_append,List.length_cons,List.length_nil];omega
 ·rw[kI,v7,kI,vF];simp only[icA,List.append_assoc,List.cons_append,List.nil_append];rfl
theorem jqc (u:Ut) (n:Int) (s:ByteArray) (kids:List Nt) (hm:kids.length<=3002) (hf:∀ f ∈ kids,zR u f) (hc:∀ f ∈ kids,yI u f) (at':Int) (h0:0<=at') (hz:at'+(zF kids+3:Nat)<=1000000):qZ u 16 n s kids (zQ (jF (jW u) kids) at'++[(5,0)]) at':=by
 have hsq:=xW u kids hm hf hc at' h0 (by omega)
 have hsl:=kS (u:=u) kids at' hf
 generalize zQ (jF (jW u) kids) at'=l at hsq hsl;unfold qZ;refine uN vH j5 Tryz.func42 rfl ?_;intro _;conv=>whnf
 refine xA 0 [] rfl rfl (fun _=>hsq) ?_;rintro e k n cs r ⟨rfl,rfl,rfl,rfl,rfl⟩;conv=>whnf
 refine⟨⟨by unfold maxLen;omega,by omega⟩,?_⟩;conv=>whnf
 refine⟨0,?_⟩;conv=>whnf
 refine⟨rfl,rfl,by rw[List.length_append];rfl,by rw[kI,vF];rfl,rfl⟩
theorem jqi (u:Ut) (n:Int) (s:ByteArray) (kids:List Nt) (hm:kids.length<=3002) (hf:∀ f ∈ kids,zR u f) (hc:∀ f ∈ kids,yI u f) (at':Int) (h0:0<=at') (hz:at'+(zF kids+3:Nat)<=1000000):qZ u 4 n s kids (zQ (jF (jW u) kids) at'++[(17,n)]) at':=by
 have hsq:=xW u kids hm hf hc at' h0 (by omega)
 have hsl:=kS (u:=u) kids at' hf
 generalize zQ (jF (jW u) kids) at'=l at hsq hsl;unfold qZ;refine uN vH j5 Tryz.func42 rfl ?_;intro _;conv=>whnf
 refine xA 0 [] rfl rfl (fun _=>hsq) ?_;rintro e k n cs r ⟨rfl,rfl,rfl,rfl,rfl⟩;conv=>whnf
 refine⟨⟨by unfold maxLen;omega,by omega⟩,?_⟩;conv=>whnf
 refine⟨0,?_⟩;conv=>whnf
 refine⟨rfl,rfl,by rw[List.length_append];rfl,by rw[kI,vF];rfl,rfl⟩
theorem jqh (u:Ut) (n:Int) (s:ByteArray) (kids:List Nt) (hm:kids.length<=3002) (hf:∀ f ∈ kids,zR u f) (hc:∀ f ∈ kids,yI u f) (at':Int) (h0:0<=at') (hz:at'+(zF kids+3:Nat)<=1000000):qZ u 8 n s kids (zQ (jF (jW u) kids) at'++[(21,0)]) at':=by
 have hsq:=xW u kids hm hf hc at' h0 (by omega)
 have hsl:=kS (u:=u) kids at' hf
 generalize zQ (jF (jW u) kids) at'=l at hsq hsl;unfold qZ;refine uN vH j5 Tryz.func42 rfl ?_;intro _;conv=>whnf
 refine xA 0 [] rfl rfl (fun _=>hsq) ?_;rintro e k n cs r ⟨rfl,rfl,rfl,rfl,rfl⟩;conv=>whnf
 refine⟨⟨by unfold maxLen;omega,by omega⟩,?_⟩;conv=>whnf
 refine⟨0,?_⟩;conv=>whnf
 refine⟨rfl,rfl,by rw[List.length_append];rfl,by rw[kI,vF];rfl,rfl⟩
theorem jqd (u:Ut) (n:Int) (s:ByteArray) (kids:List Nt) (hm:kids.length<=3002) (hf:∀ f ∈ kids,zR u f) (hc:∀ f ∈ kids,yI u f) (at':Int) (h0:0<=at') (hz:at'+(zF kids+3:Nat)<=1000000):qZ u 9 n s kids (zQ (jF (jW u) kids) at'++[(22,0)]) at':=by
 have hsq:=xW u kids hm hf hc at' h0 (by omega)
 have hsl:=kS (u:=u) kids at' hf
 generalize zQ (jF (jW u) kids) at'=l at hsq hsl;unfold qZ;refine uN vH j5 Tryz.func42 rfl ?_;intro _;conv=>whnf
 refine xA 0 [] rfl rfl (fun _=>hsq) ?_;rintro e k n cs r ⟨rfl,rfl,rfl,rfl,rfl⟩;conv=>whnf
 refine⟨⟨by unfold maxLen;omega,by omega⟩,?_⟩;conv=>whnf
 refine⟨0,?_⟩;conv=>whnf
 refine⟨rfl,rfl,by rw[List.length_append];rfl,by rw[kI,vF];rfl,rfl⟩
theorem jq9 (u:Ut) (n:Int) (s:ByteArray) (kids:List Nt) (hm:kids.length<=3002) (hf:∀ f ∈ kids,zR u f) (hc:∀ f ∈ kids,yI u f) (at':Int) (h0:0<=at') (hz:at'+(zF kids+3:Nat)<=1000000) (hu:uH u):qZ u 1 n s kids (zQ (jF (jW u) kids) at'++[(3,jW u s)]) at':=by
 have hix:=rM u hu s
 have hsq:=xW u kids hm hf hc at' h0 (by omega)
 have hsl:=kS (u:=u) kids at' hf
 generalize zQ (jF (jW u) kids) at'=l at hsq hsl;unfold qZ;refine uN vH j5 Tryz.func42 rfl ?_;intro _;conv=>whnf
 refine xA 0 [] rfl rfl (fun _=>hsq) ?_;rintro e k n cs r ⟨rfl,rfl,rfl,rfl,rfl⟩;conv=>whnf
 refine kU [] hix ?_;rintro r rfl;conv=>whnf
 refine⟨⟨by unfold maxLen;omega,by omega⟩,?_⟩;conv=>whnf
 refine⟨0,?_⟩;conv=>whnf
 refine⟨rfl,rfl,by rw[List.length_append];rfl,by rw[kI,vF];rfl,rfl⟩
theorem jqg (u:Ut) (n:Int) (s:ByteArray) (kids:List Nt) (hm:kids.length<=3002) (hf:∀ f ∈ kids,zR u f) (hc:∀ f ∈ kids,yI u f) (at':Int) (h0:0<=at') (hz:at'+(zF kids+3:Nat)<=1000000):qZ u 17 n s kids (zQ (jF (jW u) kids) at'++(if s=pMinus then [(10,0)] else [(14,0)])) at':=by
 have hsq:=xW u kids hm hf hc at' h0 (by omega)
 have hsl:=kS (u:=u) kids at' hf
 generalize zQ (jF (jW u) kids) at'=l at hsq hsl;unfold qZ;refine uN vH j5 Tryz.func42 rfl ?_;intro _;conv=>whnf
 refine xA 0 [] rfl rfl (fun _=>hsq) ?_;rintro e k n cs r ⟨rfl,rfl,rfl,rfl,rfl⟩;conv=>whnf
 by_cases hs:s=pMinus
 ·rw[if_pos hs];rw[jK (p:=s = ⟨_⟩) hs];conv=>whnf
  refine⟨⟨by unfold maxLen;omega,by omega⟩,?_⟩;conv=>whnf
  refine⟨0,?_⟩;conv=>whnf
  refine⟨rfl,rfl,by rw[List.length_append];rfl,by rw[kI,vF];rfl,rfl⟩
 ·rw[if_neg hs];rw[jG (p:=s = ⟨_⟩) hs];conv=>whnf
  refine⟨⟨by unfold maxLen;omega,by omega⟩,?_⟩;conv=>whnf
  refine⟨0,?_⟩;conv=>whnf
  refine⟨rfl,rfl,by rw[List.length_append];rfl,by rw[kI,vF];rfl,rfl⟩
theorem js2 (u:Ut) (n:Int) (s:ByteArray) (kids:List Nt) (hm:kids.length<=3002) (hf:∀ f ∈ kids,zR u f) (hc:∀ f ∈ kids,yI u f) (at':Int) (h0:0<=at') (hz:at'+(zF kids+3:Nat)<=1000000) (ho:(opBin.any fun x=>decide (s=x))=true) (hA:s ≠ vI) (hO:s ≠ pOr):qZ u 18 n s kids (zQ (jF (jW u) kids) at'++opC s) at':=by
 have hop:=uE s ho
 have hol:=jgd s
 generalize opC s=m at hop hol
 have hsq:=xW u kids hm hf hc at' h0 (by omega)
 have hsl:=kS (u:=u) kids at' hf
 generalize zQ (jF (jW u) kids) at'=l at hsq hsl;unfold qZ;refine uN vH j5 Tryz.func42 rfl ?_;intro _;conv=>whnf
 rw[jG (p:=s = ⟨_⟩) hA];conv=>whnf
 rw[jG (p:=s = ⟨_⟩) hO];conv=>whnf
 refine xA 0 [] rfl rfl (fun _=>hsq) ?_;rintro e k n cs r ⟨rfl,rfl,rfl,rfl,rfl⟩;conv=>whnf
 refine xA 1 [] rfl rfl (fun _=>hop) ?_;rintro e k n cs r ⟨rfl,rfl,rfl,rfl,rfl⟩;conv=>whnf
 refine⟨⟨by unfold maxLen;omega,by omega⟩,?_⟩;conv=>whnf
 refine⟨0,?_⟩;conv=>whnf
 exact⟨rfl,rfl,by rw[List.length_append],by rw[kI],rfl⟩
theorem jfo (u:Ut) (hu:uH u):∀ f:Nt,rT f->yI u f
 | .mk k n s kids,hw=>by
  unfold rT at hw
  obtain⟨ha,hwk,-⟩ := hw
  have hm:=jhm ha
  have hk:∀ f ∈ kids,zR u f:=fun f hf=>rG u hu f (lB hwk hf)
  have hc:∀ f ∈ kids,yI u f:=fun f hf=>jfo u hu f (lB hwk hf)
  have hss:=jbF kids
  intro at' h0 hz
  have hz:at'+(3+zF kids:Nat)<=1000000:=hz
  show qZ u k n s kids (kQ (jW u) k n s (jF (jW u) kids) at') at'
  have hz3:at'+(zF kids+3:Nat)<=1000000:=by omega
  unfold arN at ha
  by_cases h11:k=11
  ·subst h11
   have he:kQ (jW u) 11 n s (jF (jW u) kids) at'=zQ (jF (jW u) kids) at':=List.append_nil _
   rw[he];exact jqa u n s kids hm hk hc at' h0 (by omega)
  rw[if_neg h11] at ha
  by_cases hl:k=12 ∨ k=13 ∨ k=14 ∨ k=5 ∨ k=6 ∨ k=7 ∨ k=10
  ·rcases hl with rfl | rfl | rfl | rfl | rfl | rfl | rfl
   ·exact jlz u 12 n s kids at' (.inl rfl)
   ·exact jlz u 13 n s kids at' (.inr rfl)
   ·exact jqm u hu n s kids at'
   ·exact jql u n s kids at'
   ·exact jqb u n s kids at'
   ·exact jqk u n s kids at'
   ·exact jqj u n s kids at'
  rw[if_neg hl] at ha
  by_cases h15:k=15
  ·subst h15;exact jqf u n s kids at'
  rw[if_neg h15] at ha
  by_cases h1:k=16 ∨ k=1 ∨ k=9
  ·rcases h1 with rfl | rfl | rfl
   ·exact jqc u n s kids hm hk hc at' h0 hz3
   ·exact jq9 u n s kids hm hk hc at' h0 hz3 hu
   ·exact jqd u n s kids hm hk hc at' h0 hz3
  rw[if_neg h1] at ha
  by_cases h17:k=17
  ·subst h17;exact jqg u n s kids hm hk hc at' h0 hz3
  rw[if_neg h17] at ha
  by_cases h18:k=18
  ·rw[if_pos h18,Bool.and_eq_true,decide_eq_true_eq] at ha;subst h18
   obtain⟨ha,hb⟩ := ha
   by_cases hA:s=vI
   ·subst hA
    match kids,ha,hk,hc,hz with
    | [c,y],_,hk,hc,hz =>
     have q:zF [c,y]=qW c+(qW y+0):=rfl
     exact jq8 u n c y ⟨hk c (by simp),hc c (by simp)⟩ ⟨hk y (by simp),hc y (by simp)⟩ at' h0 (by omega)
   by_cases hO:s=pOr
   ·subst hO
    match kids,ha,hk,hc,hz with
    | [c,y],_,hk,hc,hz =>
     have q:zF [c,y]=qW c+(qW y+0):=rfl
     exact js3 u n c y ⟨hk c (by simp),hc c (by simp)⟩ ⟨hk y (by simp),hc y (by simp)⟩ at' h0 (by omega)
   have he:kQ (jW u) 18 n s (jF (jW u) kids) at'=zQ (jF (jW u) kids) at'++opC s:=by
    unfold kQ;rw[if_neg (by decide),if_neg (by decide),if_neg (by decide),if_neg (by decide),if_neg (by decide),if_neg (by decide),if_neg (by decide),if_neg (by decide),if_neg (by decide),if_neg (fun h=>hA h.2),if_neg (fun h=>hO h.2),if_pos rfl]
   rw[he];exact js2 u n s kids hm hk hc at' h0 hz3 (jd9 hb hA hO) hA hO
  rw[if_neg h18] at ha
  by_cases h8:k=8 ∨ k=3
  ·rw[if_pos h8,decide_eq_true_eq] at ha
   rcases h8 with rfl | rfl
   ·exact jqh u n s kids hm hk hc at' h0 hz3
   ·match kids,ha,hk,hc,hz with
    | [c,b],_,hk,hc,hz =>
     have q:zF [c,b]=qW c+(qW b+0):=rfl
     exact jqn u n s c b ⟨hk c (by simp),hc c (by simp)⟩ ⟨hk b (by simp),hc b (by simp)⟩ at' h0 (by omega)
  rw[if_neg h8] at ha
  by_cases h2:k=2 ∨ k=4
  ·rw[if_pos h2,decide_eq_true_eq] at ha
   rcases h2 with rfl | rfl
   ·match kids,ha,hk,hc,hz with
    | [c,y,m],_,hk,hc,hz =>
     have q:zF [c,y,m]=qW c+(qW y+(qW m+0)):=rfl
     exact jqe u n s c y m ⟨hk c (by simp),hc c (by simp)⟩ ⟨hk y (by simp),hc y (by simp)⟩ ⟨hk m (by simp),hc m (by simp)⟩ at' h0 (by omega)
   ·exact jqi u n s kids hm hk hc at' h0 hz3
  rw[if_neg h2] at ha
  cases ha
theorem jge (k:Int):(k=1 ∨ k=2 ∨ k=3 ∨ k=4 ∨ k=5 ∨ k=6 ∨ k=7 ∨ k=8 ∨ k=9 ∨ k=10 ∨ k=11 ∨ k=12 ∨ k=13 ∨ k=14 ∨ k=15 ∨ k=16 ∨ k=17 ∨ k=18 ∨ k=19 ∨ k=20 ∨ k=21 ∨ k=22 ∨ k=23) ∨ (k<1 ∨ 23<k):=by omega
def joD (k:Int):Int:=if 1<=k/\k<=23 then qG k else -1
theorem jdg (k:Int):Spec Tryz.prog 68 [] [intA k] fun _ r=>r=intA (joD k):=by
 rcases jge k with h | h
 ·rcases h with rfl | rfl | rfl | rfl | rfl | rfl | rfl | rfl | rfl | rfl | rfl | rfl | rfl | rfl | rfl | rfl | rfl | rfl | rfl | rfl | rfl | rfl | rfl
  all_goals
   refine eN jR j5 0 Tryz.func68 rfl ?_;intro _;conv=>whnf
   rfl
 unfold joD;rw[if_neg (by omega)];refine eN jR j5 0 Tryz.func68 rfl ?_;intro _;conv=>whnf
 rw[jG (show ¬ k=1 by omega)];conv=>whnf
 rw[jG (show ¬ k=2 by omega)];conv=>whnf
 rw[jG (show ¬ k=4 by omega)];conv=>whnf
 rw[jG (show ¬ k=15 by omega)];conv=>whnf
 rw[jG (show ¬ k=18 by omega)];conv=>whnf
 rw[jG (show ¬ k=19 by omega)];conv=>whnf
 rw[jG (show ¬ k=20 by omega)];conv=>whnf
 rw[jG (show ¬ k=23 by omega)];conv=>whnf
 rw[jG (show ¬ k=5 by omega)];conv=>whnf
 rw[jG (show ¬ k=10 by omega)];conv=>whnf
 rw[jG (show ¬ k=14 by omega)];conv=>whnf
 rw[jG (show ¬ k=3 by omega)];conv=>whnf
 rw[jG (show ¬ k=16 by omega)];conv=>whnf
 rw[jG (show ¬ k=22 by omega)];conv=>whnf
 rw[jG (show ¬ k=6 by omega)];conv=>whnf
 rw[jG (show ¬ k=7 by omega)];conv=>whnf
 rw[jG (show ¬ k=8 by omega)];conv=>whnf
 rw[jG (show ¬ k=9 by omega)];conv=>whnf
 rw[jG (show ¬ k=11 by omega)];conv=>whnf
 rw[jG (show ¬ k=12 by omega)];conv=>whnf
 rw[jG (show ¬ k=13 by omega)];conv=>whnf
 rw[jG (show ¬ k=21 by omega)];conv=>whnf
 rw[jG (show ¬ k=17 by omega)];conv=>whnf
 rfl
theorem tV (k:Int):Spec Tryz.prog 69 [] [intA k] fun _ r=>r=intA (qD k):=by
 rcases jge k with h | h
 ·rcases h with rfl | rfl | rfl | rfl | rfl | rfl | rfl | rfl | rfl | rfl | rfl | rfl | rfl | rfl | rfl | rfl | rfl | rfl | rfl | rfl | rfl | rfl | rfl
  all_goals
   refine eN jR j5 0 Tryz.func69 rfl ?_;intro _;conv=>whnf
   rfl
 have hp:qD k=0:=by unfold qD;rw[if_neg (by omega)]
 rw[hp];refine eN jR j5 0 Tryz.func69 rfl ?_;intro _;conv=>whnf
 rw[jG (show ¬ k=1 by omega)];conv=>whnf
 rw[jG (show ¬ k=2 by omega)];conv=>whnf
 rw[jG (show ¬ k=4 by omega)];conv=>whnf
 rw[jG (show ¬ k=5 by omega)];conv=>whnf
 rw[jG (show ¬ k=10 by omega)];conv=>whnf
 rw[jG (show ¬ k=14 by omega)];conv=>whnf
 rw[jG (show ¬ k=6 by omega)];conv=>whnf
 rw[jG (show ¬ k=7 by omega)];conv=>whnf
 rw[jG (show ¬ k=8 by omega)];conv=>whnf
 rw[jG (show ¬ k=9 by omega)];conv=>whnf
 rw[jG (show ¬ k=11 by omega)];conv=>whnf
 rw[jG (show ¬ k=12 by omega)];conv=>whnf
 rw[jG (show ¬ k=13 by omega)];conv=>whnf
 rfl
theorem jkv (code:List Ic) (e:Nat->Int) (du vo:Int) (hl:code.length<=1000000) (i:Nat) (hi:i<code.length):Spec Tryz.prog 60 [] [tT code e du vo,.v (.int .i64 i)] fun _ r=>r = .sl 1 (sc code i).length (jV (sc code i)):=by
 have hrow:jC 2 i (qC code)=icA code[i]:=aH code i hi
 have hsc:sc code i=nxI i code[i]:=by
  unfold sc;rw[Int.toNat_natCast,List.getD_eq_getElem?_getD,List.getElem?_eq_getElem hi];rfl
 rw[hsc];generalize code[i]=p at hrow
 obtain⟨op,n⟩ := p
 unfold icA at hrow
 simp only at hrow
 unfold nxI
 simp only
 by_cases h1:op=23
 ·rw[if_pos h1];subst h1
  suffices h:Spec Tryz.prog 60 [] [tT code e du vo,.v (.int .i64 i)] fun _ r=>r = .v (.slice none 0 0) by
   refine h.weaken fun o r hr=>⟨o,.sl 1 0 [],rfl,WkB.refl o,?_⟩
   rw[hr];exact .nil 1
  refine eN jR j5 0 Tryz.func60 rfl ?_;intro _;conv=>whnf
  refine⟨show (0:Int)<=(i:Int)/\(i:Int)<(code.length:Nat) from ⟨by omega,by omega⟩,?_⟩;conv=>whnf
  (generalize hrq:jC _ _ (qC code)=rq;obtain rfl:rq=[intA 23,intA n]:=hrq.symm.trans (hrow);clear hrq;conv=>whnf)
  try rfl
 rw[if_neg h1]
 by_cases h2:op=15
 ·rw[if_pos h2];subst h2;refine eN jR j5 0 Tryz.func60 rfl ?_;intro _;conv=>whnf
  refine⟨show (0:Int)<=(i:Int)/\(i:Int)<(code.length:Nat) from ⟨by omega,by omega⟩,?_⟩;conv=>whnf
  (generalize hrq:jC _ _ (qC code)=rq;obtain rfl:rq=[intA 15,intA n]:=hrq.symm.trans (hrow);clear hrq;conv=>whnf)
  refine⟨show (0:Int)<=(i:Int)/\(i:Int)<(code.length:Nat) from ⟨by omega,by omega⟩,?_⟩;conv=>whnf
  (generalize hrq:jC _ _ (qC code)=rq;obtain rfl:rq=[intA 15,intA n]:=hrq.symm.trans (hrow);clear hrq;conv=>whnf)
  try rfl
 rw[if_neg h2]
 by_cases h3:op=16
 ·rw[if_pos h3];subst h3;refine eN jR j5 0 Tryz.func60 rfl ?_;intro _;conv=>whnf
  refine⟨show (0:Int)<=(i:Int)/\(i:Int)<(code.length:Nat) from ⟨by omega,by omega⟩,?_⟩;conv=>whnf
  (generalize hrq:jC _ _ (qC code)=rq;obtain rfl:rq=[intA 16,intA n]:=hrq.symm.trans (hrow);clear hrq;conv=>whnf)
  refine⟨jJ (by omega),?_⟩;conv=>whnf
  refine⟨show (0:Int)<=(i:Int)/\(i:Int)<(code.length:Nat) from ⟨by omega,by omega⟩,?_⟩;conv=>whnf
  (generalize hrq:jC _ _ (qC code)=rq;obtain rfl:rq=[intA 16,intA n]:=hrq.symm.trans (hrow);clear hrq;conv=>whnf)
  try rfl
 rw[if_neg h3];refine eN jR j5 0 Tryz.func60 rfl ?_;intro _;conv=>whnf
 refine⟨show (0:Int)<=(i:Int)/\(i:Int)<(code.length:Nat) from ⟨by omega,by omega⟩,?_⟩;conv=>whnf
 (generalize hrq:jC _ _ (qC code)=rq;obtain rfl:rq=[intA op,intA n]:=hrq.symm.trans (hrow);clear hrq;conv=>whnf)
 rw[jG h1];conv=>whnf
 rw[jG h2];conv=>whnf
 rw[jG h3];conv=>whnf
 refine⟨jJ (by omega),?_⟩;conv=>whnf
 rfl
section
end
structure DqC (code:List Ic) (x:Int) (c0:Nat) (i:Int) (out:List Int) (ok ch:Bool):Prop where
 di:Di code x out ok
 ct:c0+(if ch=true then 1 else 0)<=cN out
 pd:ch=false -> ∀ j,0<=j->j<i->0<=og out j->Pds code out ok j (sc code j)
structure Dr (code:List Ic) (x:Int) (c0:Nat) (i:Int) (v d:Int) (t:Nat) (out:List Int) (ok ch:Bool):Prop where
 dq:DqC code x c0 i out ok ch
 iv:og out i=v
 dd:0<=d/\d<=cN out
 dl:ok=true->qG (uV code i)<=v/\d=lv code i v
 dc:∀ D,ja1 code x D->d=lv code i v
 pr:ch=false->Pds code out ok i ((sc code i).take t)
theorem jmq {out:List Int} {i:Nat} (hi:i<out.length):jC 1 i (jV out)=[intA (og out i)]:=by
 rw[aW out i hi];unfold og;rw[Int.toNat_natCast,List.getD_eq_getElem?_getD,List.getElem?_eq_getElem hi]
 try rfl
theorem jkk (l:List Int) (k:Nat) (v:Int):(jV l).set k (intA v)=jV (l.set k v):=by
 unfold jV;rw[List.map_set]
 try rfl
theorem Dr.skip {code:List Ic} {x:Int} {c0:Nat} {i v d:Int} {t:Nat} {out:List Int} {ok ch:Bool} (h:Dr code x c0 i v d t out ok ch) (ht:t<(sc code i).length) (hk : ¬ (0<=(sc code i)[t]/\(sc code i)[t]<code.length)):Dr code x c0 i v d (t+1) out ok ch:=by
 refine⟨h.dq,h.iv,h.dd,h.dl,h.dc,fun hc=>⟨(h.pr hc).1,fun k hk' h1 h2 => ?_⟩⟩;rw[List.take_succ_eq_append_getElem ht,List.mem_append,List.mem_singleton] at hk'
 rcases hk' with hk' | rfl
 ·exact (h.pr hc).2 k hk' h1 h2
 ·exact absurd ⟨h1,h2⟩ hk
theorem Dr.put {code:List Ic} {x:Int} {c0:Nat} {i v d:Int} {t:Nat} {out:List Int} {ok ch:Bool} (h:Dr code x c0 i v d t out ok ch) (hi:0<=i/\i<code.length) (hv:0<=v) (ht:t<(sc code i).length) (hk:0<=(sc code i)[t]/\(sc code i)[t]<code.length) (hlt:og out (sc code i)[t]<0):Dr code x c0 i v d (t+1) (out.set ((sc code i)[t]).toNat d) ok true:=by
 have hm:=List.getElem_mem ht
 have hin:=fun D (hD:ja1 code x D)=>(h.dq.di.uq D hD).2 i hi.1 hi.2 (by rw[h.iv];exact hv)
 have hr:Rch code x i:=h.dq.di.re i hi.1 hi.2 (by rw[h.iv];exact hv)
 obtain⟨q1,q2⟩ := h.dq.di.put hi (by rw[h.iv];exact hv) hm hk hlt h.dd fun D hD=>by
  rw[h.dc D hD,<- h.iv,hin D hD];exact (hD.nx i hr _ hm hk.2).symm
 have hct:=h.dq.ct
 have hcc:(if ch=true then 1 else 0)<=1:=by split <;> omega
 refine⟨⟨q1,by rw[q2,if_pos rfl];omega,fun hc=>by cases hc⟩,?_,⟨h.dd.1,by rw[q2];have:=h.dd.2;omega⟩,h.dl,h.dc,fun hc=>by cases hc⟩;rw[jba (by rw[h.dq.di.ln];exact hk) hi.1,if_neg ?_]
 ·exact h.iv
 ·intro e;rw[<- e,h.iv] at hlt;omega
theorem Dr.same {code:List Ic} {x:Int} {c0:Nat} {i v d:Int} {t:Nat} {out:List Int} {ok ch:Bool} (h:Dr code x c0 i v d t out ok ch) (hi:0<=i/\i<code.length) (ht:t<(sc code i).length) (hlt : ¬ og out (sc code i)[t]<0) (he:og out (sc code i)[t]=d):Dr code x c0 i v d (t+1) out ok ch:=by
 refine⟨h.dq,h.iv,h.dd,h.dl,h.dc,fun hc=>⟨(h.pr hc).1,fun k hk' h1 h2 => ?_⟩⟩;rw[List.take_succ_eq_append_getElem ht,List.mem_append,List.mem_singleton] at hk'
 rcases hk' with hk' | rfl
 ·exact (h.pr hc).2 k hk' h1 h2
 ·refine⟨by omega,fun hok => ?_⟩;rw[he,h.iv];exact (h.dl hok).2
theorem Di.bad {code:List Ic} {x:Int} {c0:Nat} {i v d:Int} {t:Nat} {out:List Int} {ok ch:Bool} (h:Dr code x c0 i v d t out ok ch) (hD:∀ D,¬ ja1 code x D):Dr code x c0 i v d t out false ch :=
 ⟨⟨h.dq.di.no hD,h.dq.ct,fun hc j h1 h2 h3=>⟨(fun e=>by cases e),fun k hk q1 q2=>⟨((h.dq.pd hc j h1 h2 h3).2 k hk q1 q2).1,fun e=>by cases e⟩⟩⟩,h.iv,h.dd,(fun e=>by cases e),h.dc,fun hc=>⟨(fun e=>by cases e),fun k hk q1 q2=>⟨((h.pr hc).2 k hk q1 q2).1,fun e=>by cases e⟩⟩⟩
theorem Dr.conf {code:List Ic} {x:Int} {c0:Nat} {i v d:Int} {t:Nat} {out:List Int} {ok ch:Bool} (h:Dr code x c0 i v d t out ok ch) (hi:0<=i/\i<code.length) (hv:0<=v) (ht:t<(sc code i).length) (hk:0<=(sc code i)[t]/\(sc code i)[t]<code.length) (hlt : ¬ og out (sc code i)[t]<0) (he:og out (sc code i)[t] ≠ d):Dr code x c0 i v d (t+1) out false ch:=by
 have hm:=List.getElem_mem ht
 have hr:Rch code x i:=h.dq.di.re i hi.1 hi.2 (by rw[h.iv];exact hv)
 have h':Dr code x c0 i v d t out false ch:=Di.bad h fun D hD=>by
  have e1:=(h.dq.di.uq D hD).2 i hi.1 hi.2 (by rw[h.iv];exact hv)
  have e2:=(h.dq.di.uq D hD).2 _ hk.1 hk.2 (by omega)
  apply he
  rw[e2,hD.nx i hr _ hm hk.2,<- e1,h.iv,h.dc D hD]
 refine⟨h'.dq,h'.iv,h'.dd,h'.dl,h'.dc,fun hc=>⟨(fun e=>by cases e),fun k hk' h1 h2 => ?_⟩⟩;rw[List.take_succ_eq_append_getElem ht,List.mem_append,List.mem_singleton] at hk'
 rcases hk' with hk' | rfl
 ·exact (h'.pr hc).2 k hk' h1 h2
 ·exact⟨by omega,fun e=>by cases e⟩
theorem Dr.done {code:List Ic} {x:Int} {c0:Nat} {i v d:Int} {out:List Int} {ok ch:Bool} (h:Dr code x c0 i v d (sc code i).length out ok ch) (hi:0<=i):DqC code x c0 (i+1) out ok ch:=by
 refine⟨h.dq.di,h.dq.ct,fun hc j h1 h2 h3 => ?_⟩
 by_cases e:j=i
 ·subst e
  have:=h.pr hc
  rw[List.take_length] at this;exact this
 ·exact h.dq.pd hc j h1 (by omega) h3
theorem DqC.jump {code:List Ic} {x:Int} {c0:Nat} {i:Int} {out:List Int} {ok ch:Bool} (h:DqC code x c0 i out ok ch) (hv:og out i<0):DqC code x c0 (i+1) out ok ch:=by
 refine⟨h.di,h.ct,fun hc j h1 h2 h3 => ?_⟩
 by_cases e:j=i
 ·subst e;omega
 ·exact h.pd hc j h1 (by omega) h3
theorem DqC.take {code:List Ic} {x:Int} {c0:Nat} {i:Int} {out:List Int} {ok ch:Bool} (h:DqC code x c0 i out ok ch) (hi:0<=i/\i<code.length) (hv:0<=og out i) (hl:qG (uV code i)<=og out i):Dr code x c0 i (og out i) (og out i-qG (uV code i)+qD (uV code i)) 0 out ok ch:=by
 have hb:=h.di.bnd hi
 have p1:=rJ (uV code i)
 have p2:=dB (uV code i)
 exact⟨h,rfl,⟨by omega,by omega⟩,fun _=>⟨hl,rfl⟩,fun D hD=>rfl,fun hc=>⟨fun _=>hl,fun k hk=>by rw[List.take_zero] at hk;cases hk⟩⟩
theorem DqC.under {code:List Ic} {x:Int} {c0:Nat} {i:Int} {out:List Int} {ok ch:Bool} (h:DqC code x c0 i out ok ch) (hi:0<=i/\i<code.length) (hv:0<=og out i) (hl:og out i<qG (uV code i)):Dr code x c0 i (og out i) (qD (uV code i)) 0 out false ch:=by
 have hr:Rch code x i:=h.di.re i hi.1 hi.2 hv
 have hb:=h.di.bnd hi
 have p2:=dB (uV code i)
 have hno:∀ D,¬ ja1 code x D:=fun D hD=>by
  have e1:=(h.di.uq D hD).2 i hi.1 hi.2 hv
  have e2:=hD.po i hr
  omega
 exact⟨⟨h.di.no hno,h.ct,fun hc j h1 h2 h3=>⟨(fun e=>by cases e),fun k hk q1 q2=>⟨((h.pd hc j h1 h2 h3).2 k hk q1 q2).1,fun e=>by cases e⟩⟩⟩,rfl,⟨by omega,by omega⟩,(fun e=>by cases e),fun D hD=>absurd hD (hno D),fun hc=>⟨(fun e=>by cases e),fun k hk=>by rw[List.take_zero] at hk;cases hk⟩⟩
theorem jgq (n:Nat):jkJ n [Value.int .i64 0]=jV (List.replicate n 0):=by
 rw[jjF,List.map_singleton,List.flatten_replicate_singleton];unfold jV;rw[List.map_replicate];rfl
theorem jn0 (code:List Ic) (a:Int):(sc code a).length<=2:=by
 unfold sc nxI
 repeat' split
 all_goals simp
theorem jaR (l:List Int):(jV l).length=l.length:=by unfold jV;rw[List.length_map]
theorem dH {l:List Int} {k:Nat} {v:Int} {K:List A->Prop} (hk:k<l.length) (h:K (jV (l.set k v))):aY (jV l) (k*1) (intA v) K:=by
 rw[Nat.mul_one];refine eU (by rw[jaR];exact hk) ?_;rw[jkk];exact h
theorem dW {out:List Int} {i:Int} (h:0<=i/\i<out.length):(jV out).drop (i.toNat*1)=intA (og out i) :: (jV out).drop (i.toNat+1):=by
 obtain⟨h2,e⟩ := ji6 h.1 h.2
 rw[Nat.mul_one,List.drop_eq_getElem_cons (by rw[jaR];exact h2),e]
 congr 1
 unfold jV;rw[List.getElem_map]
 try rfl
def ini (n j:Nat):List Int:=List.replicate j (-1)++List.replicate (n-j) 0
theorem jjk (n j:Nat) (h:j<=n):(ini n j).length=n:=by unfold ini;rw[List.length_append,List.length_replicate,List.length_replicate];omega
theorem jjl (n j:Nat) (h:j<n):(ini n j).set j (-1)=ini n (j+1):=by
 unfold ini;rw[List.set_append_right _ _ (by rw[List.length_replicate];exact Nat.le_refl _),List.length_replicate,Nat.sub_self,show n-j=(n-(j+1))+1 by omega,List.replicate_succ,List.set_cons_zero,List.replicate_succ',List.append_assoc];rfl
theorem jjj (n:Nat):ini n n=List.replicate n (-1):=by unfold ini;rw[Nat.sub_self];exact List.append_nil _
def jpE (id:Nat):Tr:=match Nat.beq id 17 with
 | true => .q 0 3 (.q 1 3 (.q 2 3 (.q 4 3 (.q 5 0 (.q 6 3 (.q 7 3 (.q 8 3 (.q 9 0 (.alt 3 1 (.alt 10 1 (.q 11 3 (.q 12 3 .nil)) .nil) (.alt 10 1 (.alt 3 1 (.q 11 3 (.q 12 3 .nil)) .nil) .nil))))))))))
 | false => .nil
theorem jfs (code:List Ic) (e:Nat->Int) (du vo x:Int) (hl:code.length<=1000000) (hj:cC code) (ho:∀ i ∈ code,1<=i.1/\i.1<=23) (hx:0<=x/\x<code.length):Spec Tryz.prog 30 [] [tT code e du vo,intA x] fun _ r => ∃ out ok,r = .tup [.sl 1 out.length (jV out),qR ok]/\Dp code x out ok:=by
 refine eN jpE j5 0 Tryz.func30 rfl ?_;intro _;conv=>whnf
 refine⟨⟨by omega,rfl,by omega,by omega⟩,?_⟩;conv=>whnf
 refine jB [1,2,6] ?_;conv=>whnf
 refine jH (fun j:Nat=>[(7,.v (.int .i64 j))]) (fun _=>[pgL code e du vo]) (fun j=>[.live 3 1 code.length (jV (ini code.length j))]) (fun j=>j<=code.length) (fun j=>code.length-j) 0 ?_ (Nat.zero_le _) ?_
 ·repeat' constructor
  show Row.live _ 1 code.length (jkJ code.length [Value.int .i64 0])=_
  rw[jgq];rfl
 intro j hjn;conv=>whnf
 rcases Nat.lt_or_ge j code.length with hlt | hge
 ·rw[jK (show (j:Int)<(code.length:Int) by omega)];conv=>whnf
  refine⟨show (0:Int)<=(j:Int)/\(j:Int)<(code.length:Nat) from ⟨by omega,by omega⟩,?_⟩;conv=>whnf
  refine dH (l:=ini code.length j) (k:=j) (v := -1) (by rw[jjk _ _ hjn];exact hlt) ?_;rw[jjl _ _ hlt];conv=>whnf
  refine jN j (by omega) ?_;conv=>whnf
  refine⟨j+1,jE [0] ?_,show j+1<=code.length by omega,show code.length-(j+1)<code.length-j by omega⟩;conv=>whnf
  repeat' constructor
 obtain rfl:j=code.length:=by omega
 rw[jG (show ¬ (code.length:Int)<(code.length:Int) by omega)];rw[jjj];conv=>whnf
 rw[jG (show ¬ x<0 by omega)];conv=>whnf
 rw[jG (show ¬ (code.length:Int)<=x by omega)];conv=>whnf
 refine⟨show (0:Int)<=x/\x<(code.length:Nat) from hx,?_⟩;conv=>whnf
 refine dH (l:=List.replicate code.length (-1)) (k:=x.toNat) (v:=0) (by rw[List.length_replicate];omega) ?_
 have hini:=Di.init hx
 generalize (List.replicate code.length (-1:Int)).set x.toNat 0=outI at hini;conv=>whnf
 refine jB [2,6] ?_;conv=>whnf
 refine jH (fun y:List Int × Bool × Bool=>[(8,qR y.2.1),(9,qR y.2.2)]) (fun _=>[pgL code e du vo]) (fun y=>[.live 3 1 code.length (jV y.1)]) (fun y=>Di code x y.1 y.2.1/\(y.2.2=false -> ∀ j:Int,0<=j->j<code.length->0<=og y.1 j->Pds code y.1 y.2.1 j (sc code j))) (fun y=>code.length-cN y.1+(if y.2.2=true then 1 else 0)) (outI,true,true) ?_ ⟨hini,fun h=>by cases h⟩ ?_
 ·repeat' constructor
 rintro⟨out0,ok0,ch0⟩ ⟨g1,g2⟩
 simp only at g1 g2
 cases ch0 with
 | false =>
  conv=>whnf
  refine⟨out0,ok0,?_,Dp.of hj hx g1 (g2 rfl)⟩;rw[g1.ln]
  try rfl
 | true =>
  conv=>whnf
  refine jB [2,6] ?_;conv=>whnf
  refine jH (fun y:Nat × List Int × Bool × Bool=>[(8,qR y.2.2.1),(9,qR y.2.2.2),(10,.v (.int .i64 y.1))]) (fun _=>[pgL code e du vo]) (fun y=>[.live 3 1 code.length (jV y.2.1)]) (fun y=>y.1<=code.length/\DqC code x (cN out0) y.1 y.2.1 y.2.2.1 y.2.2.2) (fun y=>code.length-y.1) (0,out0,ok0,false) ?_ ⟨Nat.zero_le _,g1,Nat.le_refl _,fun _ j h1 h2=>by omega⟩ ?_
  ·repeat' constructor
  rintro⟨i,out,ok,ch⟩ ⟨q1,q2⟩
  simp only at q1 q2
  have hln:=q2.di.ln
  conv=>whnf
  rcases Nat.lt_or_ge i code.length with hil | hig
  ·have hir:(0:Int)<=(i:Int)/\(i:Int)<code.length:=⟨by omega,by omega⟩
   have hbd:=q2.di.bnd hir
   rw[jK (show (i:Int)<(code.length:Int) by omega)];conv=>whnf
   refine⟨show (0:Int)<=(i:Int)/\(i:Int)<(code.length:Nat) from hir,?_⟩;conv=>whnf
   rw[dW (by rw[hln];exact hir)];conv=>whnf
   by_cases hv:og out i<0
   ·rw[jK hv];conv=>whnf
    refine jN i (by omega) ?_;conv=>whnf
    refine⟨(i+1,out,ok,ch),jE [0] ?_,⟨show i+1<=code.length by omega,q2.jump hv⟩,show code.length-(i+1)<code.length-i by omega⟩;conv=>whnf
    repeat' constructor
   rw[jG hv]
   have hv:0<=og out i:=by omega
   have hrow:jC 2 i (qC code)=icA code[i]:=aH code i hil
   have hopi:uV code i=(code[i]).1:=by unfold uV;rw[Int.toNat_natCast,List.getD_eq_getElem?_getD,List.getElem?_eq_getElem hil];rfl
   have hoi:=ho _ (List.getElem_mem hil)
   have hnx:=jkv code e du vo hl i hil
   have htake:=q2.take hir hv
   have hund:=q2.under hir hv
   rw[hopi] at htake hund;generalize code[i]=ci at hrow htake hund hoi
   obtain⟨op,n⟩ := ci
   unfold icA at hrow
   simp only at hrow htake hund hoi
   have hps:=jdg op
   have hpu:=tV op
   unfold joD at hps;rw[if_pos hoi] at hps
   have p1:=rJ op
   have p2:=dB op
   have hcn:=jcy out
   rw[hln] at hcn;conv=>whnf
   apply lJ
   ·conv=>whnf
    refine⟨hir,?_⟩;conv=>whnf
    refine⟨hir,?_⟩;conv=>whnf
    (generalize hrq:jC _ _ (qC code)=rq;obtain rfl:rq=[intA op,intA n]:=hrq.symm.trans (hrow);clear hrq;conv=>whnf)
    refine⟨?_,?_⟩
    ·conv=>whnf
     rw[dW (by rw[hln];exact hir)];conv=>whnf
     refine kU [] hps ?_;rintro r rfl;conv=>whnf
     refine⟨show lo .i64<=og out i-qG op/\og out i-qG op<=hi .i64 from jJ (by omega),?_⟩;conv=>whnf
    ·conv=>whnf
     refine kU [] hps ?_;rintro r rfl;conv=>whnf
     rw[dW (by rw[hln];exact hir)];conv=>whnf
     refine⟨show lo .i64<=og out i-qG op/\og out i-qG op<=hi .i64 from jJ (by omega),?_⟩;conv=>whnf
   conv=>whnf
   by_cases hu:og out i-qG op<0
   ·rw[jK hu];conv=>whnf
    refine⟨show (0:Int)<=(i:Int)/\(i:Int)<(code.length:Nat) from hir,?_⟩;conv=>whnf
    (generalize hrq:jC _ _ (qC code)=rq;obtain rfl:rq=[intA op,intA n]:=hrq.symm.trans (hrow);clear hrq;conv=>whnf)
    refine kU [] hpu ?_;rintro r rfl;conv=>whnf
    refine⟨jJ (by omega),?_⟩;conv=>whnf
    refine kU [] hnx ?_;rintro r rfl;rw[Int.zero_add]
    have hdr0:=(hund (by omega))
    have hscl:=jn0 code i
    have hdb:=hdr0.dd
    have hcn:=jcy out
    rw[hln] at hcn
    obtain⟨d,hd⟩ : ∃ d,qD op=d:=⟨_,rfl⟩
    rw[hd] at hdr0 hdb ⊢;conv=>whnf
    refine jB [2,6,10,11,12] ?_;conv=>whnf
    refine jH (fun y:Nat × List Int × Bool × Bool=>[(8,qR y.2.2.1),(9,qR y.2.2.2),(13,.v (.int .i64 y.1))]) (fun _=>[pgL code e du vo]) (fun y=>[.live 3 1 code.length (jV y.2.1)]) (fun y=>y.1<=(sc code i).length/\Dr code x (cN out0) i (og out i) d y.1 y.2.1 y.2.2.1 y.2.2.2) (fun y=>(sc code i).length-y.1) (0,out,false,ch) ?_ ⟨Nat.zero_le _,hdr0⟩ ?_
    ·repeat' constructor
    clear hdr0 hdb;rintro⟨t,out1,ok1,ch1⟩ ⟨f1,f2⟩
    simp only at f1 f2
    have hln1:=f2.dq.di.ln
    conv=>whnf
    rcases Nat.lt_or_ge t (sc code i).length with htl | htg
    ·have hrw:=aW (sc code i) t htl
     obtain⟨k,hk⟩ : ∃ k,(sc code i)[t]=k:=⟨_,rfl⟩
     have hskip:=f2.skip htl
     have hput:=f2.put hir hv htl
     have hsame:=f2.same hir htl
     have hconf:=f2.conf hir hv htl
     rw[hk] at hrw hskip hput hsame hconf;rw[jK (show (t:Int)<((sc code i).length:Int) by omega)];conv=>whnf
     refine⟨show (0:Int)<=(t:Int)/\(t:Int)<((sc code i).length:Nat) from ⟨by omega,by omega⟩,?_⟩;conv=>whnf
     (generalize hrq:jC _ _ (jV (sc code i))=rq;obtain rfl:rq=[intA k]:=hrq.symm.trans (hrw);clear hrq;conv=>whnf)
     by_cases hk1:k<0
     ·rw[jK hk1];conv=>whnf
      refine jN t (by omega) ?_;conv=>whnf
      refine⟨(t+1,out1,ok1,ch1),jE [0] ?_,⟨show t+1<=(sc code i).length by omega,hskip (by omega)⟩,show (sc code i).length-(t+1)<(sc code i).length-t by omega⟩;conv=>whnf
      repeat' constructor
     rw[jG hk1];conv=>whnf
     refine⟨show (0:Int)<=(t:Int)/\(t:Int)<((sc code i).length:Nat) from ⟨by omega,by omega⟩,?_⟩;conv=>whnf
     (generalize hrq:jC _ _ (jV (sc code i))=rq;obtain rfl:rq=[intA k]:=hrq.symm.trans (hrw);clear hrq;conv=>whnf)
     by_cases hk2:(code.length:Int)<=k
     ·rw[jK hk2];conv=>whnf
      refine jN t (by omega) ?_;conv=>whnf
      refine⟨(t+1,out1,ok1,ch1),jE [0] ?_,⟨show t+1<=(sc code i).length by omega,hskip (by omega)⟩,show (sc code i).length-(t+1)<(sc code i).length-t by omega⟩;conv=>whnf
      repeat' constructor
     rw[jG hk2]
     have hkr:0<=k/\k<code.length:=⟨by omega,by omega⟩
     conv=>whnf
     refine⟨show (0:Int)<=(t:Int)/\(t:Int)<((sc code i).length:Nat) from ⟨by omega,by omega⟩,?_⟩;conv=>whnf
     (generalize hrq:jC _ _ (jV (sc code i))=rq;obtain rfl:rq=[intA k]:=hrq.symm.trans (hrw);clear hrq;conv=>whnf)
     refine⟨show (0:Int)<=k/\k<(code.length:Nat) from hkr,?_⟩;conv=>whnf
     rw[dW (by rw[hln1];exact hkr)];conv=>whnf
     by_cases hneg:og out1 k<0
     ·rw[jK hneg];conv=>whnf
      refine⟨show (0:Int)<=(t:Int)/\(t:Int)<((sc code i).length:Nat) from ⟨by omega,by omega⟩,?_⟩;conv=>whnf
      (generalize hrq:jC _ _ (jV (sc code i))=rq;obtain rfl:rq=[intA k]:=hrq.symm.trans (hrw);clear hrq;conv=>whnf)
      refine⟨show (0:Int)<=k/\k<(code.length:Nat) from hkr,?_⟩;conv=>whnf
      refine dH (l:=out1) (k:=k.toNat) (v:=d) (by rw[hln1];omega) ?_;conv=>whnf
      refine jN t (by omega) ?_;conv=>whnf
      refine⟨(t+1,out1.set k.toNat d,ok1,true),jE [0] ?_,⟨show t+1<=(sc code i).length by omega,hput hkr hneg⟩,show (sc code i).length-(t+1)<(sc code i).length-t by omega⟩;conv=>whnf
      repeat' constructor
     rw[jG hneg];conv=>whnf
     refine⟨show (0:Int)<=(t:Int)/\(t:Int)<((sc code i).length:Nat) from ⟨by omega,by omega⟩,?_⟩;conv=>whnf
     (generalize hrq:jC _ _ (jV (sc code i))=rq;obtain rfl:rq=[intA k]:=hrq.symm.trans (hrw);clear hrq;conv=>whnf)
     refine⟨show (0:Int)<=k/\k<(code.length:Nat) from hkr,?_⟩;conv=>whnf
     rw[dW (by rw[hln1];exact hkr)];conv=>whnf
     by_cases heq:og out1 k=d
     ·rw[jK heq];conv=>whnf
      refine jN t (by omega) ?_;conv=>whnf
      refine⟨(t+1,out1,ok1,ch1),jE [0] ?_,⟨show t+1<=(sc code i).length by omega,hsame hneg heq⟩,show (sc code i).length-(t+1)<(sc code i).length-t by omega⟩;conv=>whnf
      repeat' constructor
     ·rw[jG heq];conv=>whnf
      refine jN t (by omega) ?_;conv=>whnf
      refine⟨(t+1,out1,false,ch1),jE [0] ?_,⟨show t+1<=(sc code i).length by omega,hconf hkr hneg heq⟩,show (sc code i).length-(t+1)<(sc code i).length-t by omega⟩;conv=>whnf
      repeat' constructor
    rw[jG (show ¬ (t:Int)<((sc code i).length:Int) by omega)]
    have htt:t=(sc code i).length:=by omega
    conv=>whnf
    refine jN i (by omega) ?_;conv=>whnf
    refine⟨(i+1,out1,ok1,ch1),jE [0] ?_,⟨show i+1<=code.length by omega,?_⟩,show code.length-(i+1)<code.length-i by omega⟩
    ·conv=>whnf
     repeat' constructor
    ·have f3:=f2
     rw[htt] at f3;exact f3.done (by omega)
   ·rw[jG hu];conv=>whnf
    refine⟨show (0:Int)<=(i:Int)/\(i:Int)<(code.length:Nat) from hir,?_⟩;conv=>whnf
    (generalize hrq:jC _ _ (qC code)=rq;obtain rfl:rq=[intA op,intA n]:=hrq.symm.trans (hrow);clear hrq;conv=>whnf)
    refine kU [] hpu ?_;rintro r rfl;conv=>whnf
    refine⟨show lo .i64<=og out i-qG op+qD op/\og out i-qG op+qD op<=hi .i64 from jJ (by omega),?_⟩;conv=>whnf
    refine kU [] hnx ?_;rintro r rfl
    have hdr0:=(htake (by omega))
    have hscl:=jn0 code i
    have hdb:=hdr0.dd
    have hcn:=jcy out
    rw[hln] at hcn
    obtain⟨d,hd⟩ : ∃ d,og out i-qG op+qD op=d:=⟨_,rfl⟩
    rw[hd] at hdr0 hdb ⊢;conv=>whnf
    refine jB [2,6,10,11,12] ?_;conv=>whnf
    refine jH (fun y:Nat × List Int × Bool × Bool=>[(8,qR y.2.2.1),(9,qR y.2.2.2),(13,.v (.int .i64 y.1))]) (fun _=>[pgL code e du vo]) (fun y=>[.live 3 1 code.length (jV y.2.1)]) (fun y=>y.1<=(sc code i).length/\Dr code x (cN out0) i (og out i) d y.1 y.2.1 y.2.2.1 y.2.2.2) (fun y=>(sc code i).length-y.1) (0,out,ok,ch) ?_ ⟨Nat.zero_le _,hdr0⟩ ?_
    ·repeat' constructor
    clear hdr0 hdb;rintro⟨t,out1,ok1,ch1⟩ ⟨f1,f2⟩
    simp only at f1 f2
    have hln1:=f2.dq.di.ln
    conv=>whnf
    rcases Nat.lt_or_ge t (sc code i).length with htl | htg
    ·have hrw:=aW (sc code i) t htl
     obtain⟨k,hk⟩ : ∃ k,(sc code i)[t]=k:=⟨_,rfl⟩
     have hskip:=f2.skip htl
     have hput:=f2.put hir hv htl
     have hsame:=f2.same hir htl
     have hconf:=f2.conf hir hv htl
     rw[hk] at hrw hskip hput hsame hconf;rw[jK (show (t:Int)<((sc code i).length:Int) by omega)];conv=>whnf
     refine⟨show (0:Int)<=(t:Int)/\(t:Int)<((sc code i).length:Nat) from ⟨by omega,by omega⟩,?_⟩;conv=>whnf
     (generalize hrq:jC _ _ (jV (sc code i))=rq;obtain rfl:rq=[intA k]:=hrq.symm.trans (hrw);clear hrq;conv=>whnf)
     by_cases hk1:k<0
     ·rw[jK hk1];conv=>whnf
      refine jN t (by omega) ?_;conv=>whnf
      refine⟨(t+1,out1,ok1,ch1),jE [0] ?_,⟨show t+1<=(sc code i).length by omega,hskip (by omega)⟩,show (sc code i).length-(t+1)<(sc code i).length-t by omega⟩;conv=>whnf
      repeat' constructor
     rw[jG hk1];conv=>whnf
     refine⟨show (0:Int)<=(t:Int)/\(t:Int)<((sc code i).length:Nat) from ⟨by omega,by omega⟩,?_⟩;conv=>whnf
     (generalize hrq:jC _ _ (jV (sc code i))=rq;obtain rfl:rq=[intA k]:=hrq.symm.trans (hrw);clear hrq;conv=>whnf)
     by_cases hk2:(code.length:Int)<=k
     ·rw[jK hk2];conv=>whnf
      refine jN t (by omega) ?_;conv=>whnf
      refine⟨(t+1,out1,ok1,ch1),jE [0] ?_,⟨show t+1<=(sc code i).length by omega,hskip (by omega)⟩,show (sc code i).length-(t+1)<(sc code i).length-t by omega⟩;conv=>whnf
      repeat' constructor
     rw[jG hk2]
     have hkr:0<=k/\k<code.length:=⟨by omega,by omega⟩
     conv=>whnf
     refine⟨show (0:Int)<=(t:Int)/\(t:Int)<((sc code i).length:Nat) from ⟨by omega,by omega⟩,?_⟩;conv=>whnf
     (generalize hrq:jC _ _ (jV (sc code i))=rq;obtain rfl:rq=[intA k]:=hrq.symm.trans (hrw);clear hrq;conv=>whnf)
     refine⟨show (0:Int)<=k/\k<(code.length:Nat) from hkr,?_⟩;conv=>whnf
     rw[dW (by rw[hln1];exact hkr)];conv=>whnf
     by_cases hneg:og out1 k<0
     ·rw[jK hneg];conv=>whnf
      refine⟨show (0:Int)<=(t:Int)/\(t:Int)<((sc code i).length:Nat) from ⟨by omega,by omega⟩,?_⟩;conv=>whnf
      (generalize hrq:jC _ _ (jV (sc code i))=rq;obtain rfl:rq=[intA k]:=hrq.symm.trans (hrw);clear hrq;conv=>whnf)
      refine⟨show (0:Int)<=k/\k<(code.length:Nat) from hkr,?_⟩;conv=>whnf
      refine dH (l:=out1) (k:=k.toNat) (v:=d) (by rw[hln1];omega) ?_;conv=>whnf
      refine jN t (by omega) ?_;conv=>whnf
      refine⟨(t+1,out1.set k.toNat d,ok1,true),jE [0] ?_,⟨show t+1<=(sc code i).length by omega,hput hkr hneg⟩,show (sc code i).length-(t+1)<(sc code i).length-t by omega⟩;conv=>whnf
      repeat' constructor
     rw[jG hneg];conv=>whnf
     refine⟨show (0:Int)<=(t:Int)/\(t:Int)<((sc code i).length:Nat) from ⟨by omega,by omega⟩,?_⟩;conv=>whnf
     (generalize hrq:jC _ _ (jV (sc code i))=rq;obtain rfl:rq=[intA k]:=hrq.symm.trans (hrw);clear hrq;conv=>whnf)
     refine⟨show (0:Int)<=k/\k<(code.length:Nat) from hkr,?_⟩;conv=>whnf
     rw[dW (by rw[hln1];exact hkr)];conv=>whnf
     by_cases heq:og out1 k=d
     ·rw[jK heq];conv=>whnf
      refine jN t (by omega) ?_;conv=>whnf
      refine⟨(t+1,out1,ok1,ch1),jE [0] ?_,⟨show t+1<=(sc code i).length by omega,hsame hneg heq⟩,show (sc code i).length-(t+1)<(sc code i).length-t by omega⟩;conv=>whnf
      repeat' constructor
     ·rw[jG heq];conv=>whnf
      refine jN t (by omega) ?_;conv=>whnf
      refine⟨(t+1,out1,false,ch1),jE [0] ?_,⟨show t+1<=(sc code i).length by omega,hconf hkr hneg heq⟩,show (sc code i).length-(t+1)<(sc code i).length-t by omega⟩;conv=>whnf
      repeat' constructor
    rw[jG (show ¬ (t:Int)<((sc code i).length:Int) by omega)]
    have htt:t=(sc code i).length:=by omega
    conv=>whnf
    refine jN i (by omega) ?_;conv=>whnf
    refine⟨(i+1,out1,ok1,ch1),jE [0] ?_,⟨show i+1<=code.length by omega,?_⟩,show code.length-(i+1)<code.length-i by omega⟩
    ·conv=>whnf
     repeat' constructor
    ·have f3:=f2
     rw[htt] at f3;exact f3.done (by omega)
  rw[jG (show ¬ (i:Int)<(code.length:Int) by omega)]
  obtain rfl:i=code.length:=by omega
  conv=>whnf
  refine⟨(out,ok,ch),jE [0] ?_,⟨q2.di,fun hc j h1 h2 h3=>q2.pd hc j h1 h2 h3⟩,?_⟩
  ·conv=>whnf
   repeat' constructor
  ·have h1:=q2.ct
   have h2:=jcy out
   have h3:=g1.ln
   have h4:=jcy out0
   show code.length-cN out+(if ch=true then 1 else 0)<code.length-cN out0+1
   rw[hln] at h2
   split at h1 <;> simp_all <;> omega
theorem jj6 (c0:A) (e:Nat->Int) (du vo:Int) (j:Nat) (hj:j<40):(c0 :: pgE e du vo).drop (1+j*1)=intA (e j) :: (c0 :: pgE e du vo).drop (j+2):=by
 have hlen:(enL e).length=40:=by unfold enL;rw[List.length_map,List.length_range]
 have hl:j<(enL e).length:=by rw[hlen];exact hj
 rw[show 1+j*1=j+1 by omega,List.drop_succ_cons,show j+2=(j+1)+1 by omega,List.drop_succ_cons,oR];rw[List.drop_eq_getElem_cons (by rw[List.length_append];omega),List.getElem_append_left hl]
 have h0:=je9 e j hj
 rw[Int.toNat_natCast,Nat.mul_one,List.getElem?_eq_getElem hl] at h0;rw[Option.some.inj h0]
theorem jhw (code:List Ic) (e:Nat->Int) (du vo:Int) (h:Nat) (hh:h<40) (hl:code.length<=1000000) (hj:cC code) (ho:∀ i ∈ code,1<=i.1/\i.1<=23) (hx:0<=e h/\e h<code.length):Spec Tryz.prog 43 [] [tT code e du vo,.v (.int .i64 h)] fun _ r => ∃ out ok m,Dp code (e h) out ok/\r=intA m/\(m<=16 ↔ ∀ i,Rch code (e h) i->og out i<=16/\lv code i (og out i)<=16):=by
 have hds:=jfs code e du vo (e h) hl hj ho hx
 refine eN jpC j5 0 Tryz.func43 rfl ?_;intro _;conv=>whnf
 refine⟨show (0:Int)<=(h:Int)/\(h:Int)<((40:Nat):Int) from ⟨by omega,by omega⟩,?_⟩;conv=>whnf
 generalize hrq:List.drop _ _=rq
 obtain rfl:rq=intA (e h) :: (A.sl 2 code.length (qC code) :: pgE e du vo).drop (h+2):=hrq.symm.trans (jj6 _ e du vo h hh)
 clear hrq;conv=>whnf
 refine kU [] hds ?_;rintro r ⟨out,ok,rfl,hdp⟩
 have hln:=hdp.ln
 conv=>whnf
 refine jB [2,5] ?_;conv=>whnf
 refine jH (fun y:Nat × Int=>[(7,intA y.2),(8,.v (.int .i64 y.1))]) (fun _=>[pgL code e du vo]) (fun _=>[]) (fun y=>y.1<=code.length/\0<=y.2/\y.2<=code.length+1/\(y.2<=16 ↔ ∀ j:Int,0<=j->j<(y.1:Int)->0<=og out j->og out j<=16/\lv code j (og out j)<=16)) (fun y=>code.length-y.1) (0,0) ?_ ⟨Nat.zero_le _,Int.le_refl _,by simp only;omega,⟨fun _ j h1 h2=>by simp only at h2;omega,fun _=>by decide⟩⟩ ?_
 ·repeat' constructor
 rintro⟨i,m⟩ ⟨q1,q2,q3,q4⟩
 simp only at q1 q2 q3 q4
 conv=>whnf
 rcases Nat.lt_or_ge i code.length with hil | hig
 ·have hir:(0:Int)<=(i:Int)/\(i:Int)<code.length:=⟨by omega,by omega⟩
  have hbd:=hdp.bd i hir.1 hir.2
  have hro:=jmq (out:=out) (i:=i) (by rw[hln];exact hil)
  have hnew:∀ m':Int,(m'<=16 ↔ m<=16/\(0<=og out i->og out i<=16/\lv code i (og out i)<=16))->(m'<=16 ↔ ∀ j:Int,0<=j->j<((i+1:Nat):Int)->0<=og out j->og out j<=16/\lv code j (og out j)<=16):=fun m' hm=>by
   rw[hm,q4]
   constructor
   ·rintro⟨h1,h2⟩ j h3 h4
    by_cases hji:j=i
    ·rw[hji];exact h2
    ·exact h1 j h3 (by omega)
   ·intro h1;exact⟨fun j h3 h4=>h1 j h3 (by omega),h1 i (by omega) (by omega)⟩
  have hrow:jC 2 i (qC code)=icA code[i]:=aH code i hil
  have hopi:uV code i=(code[i]).1:=by unfold uV;rw[Int.toNat_natCast,List.getD_eq_getElem?_getD,List.getElem?_eq_getElem hil];rfl
  have hoi:=ho _ (List.getElem_mem hil)
  unfold lv at hnew;rw[hopi] at hnew;generalize code[i]=ci at hrow hnew hoi
  obtain⟨op,n⟩ := ci
  unfold icA at hrow
  simp only at hrow hnew hoi
  have hps:=jdg op
  have hpu:=tV op
  unfold joD at hps;rw[if_pos hoi] at hps
  have p1:=rJ op
  have p2:=dB op
  rw[jK (show (i:Int)<(out.length:Int) by rw[hln];omega)];conv=>whnf
  refine⟨show (0:Int)<=(i:Int)/\(i:Int)<(out.length:Nat) from ⟨by omega,by rw[hln];omega⟩,?_⟩;conv=>whnf
  (generalize hrq:jC _ _ (jV out)=rq;obtain rfl:rq=[intA (og out i)]:=hrq.symm.trans (hro);clear hrq;conv=>whnf)
  by_cases hv:0<=og out i
  ·rw[jK hv];conv=>whnf
   refine⟨show (0:Int)<=(i:Int)/\(i:Int)<(code.length:Nat) from hir,?_⟩;conv=>whnf
   (generalize hrq:jC _ _ (qC code)=rq;obtain rfl:rq=[intA op,intA n]:=hrq.symm.trans (hrow);clear hrq;conv=>whnf)
   have hio:(0:Int)<=(i:Int)/\(i:Int)<(out.length:Nat):=⟨by omega,by rw[hln];omega⟩
   refine⟨hio,?_⟩;conv=>whnf
   (generalize hrq:jC _ _ (jV out)=rq;obtain rfl:rq=[intA (og out i)]:=hrq.symm.trans (hro);clear hrq;conv=>whnf)
   refine⟨hio,?_⟩;conv=>whnf
   (generalize hrq:jC _ _ (jV out)=rq;obtain rfl:rq=[intA (og out i)]:=hrq.symm.trans (hro);clear hrq;conv=>whnf)
   refine kU [] hps ?_;rintro r rfl;conv=>whnf
   refine⟨show lo .i64<=og out i-qG op/\og out i-qG op<=hi .i64 from jJ (by omega),?_⟩;conv=>whnf
   refine kU [] hpu ?_;rintro r rfl;conv=>whnf
   refine⟨show lo .i64<=og out i-qG op+qD op/\og out i-qG op+qD op<=hi .i64 from jJ (by omega),?_⟩;conv=>whnf
   refine jN i (by omega) ?_;conv=>whnf
   refine⟨(i+1,max (max m (og out i)) (og out i-qG op+qD op)),jE [] ?_,⟨show i+1<=code.length by omega,show (0:Int)<=max (max m (og out i)) (og out i-qG op+qD op) by omega,show max (max m (og out i)) (og out i-qG op+qD op)<=(code.length:Int)+1 by omega,hnew _ ⟨fun h=>⟨by omega,fun _=>⟨by omega,by omega⟩⟩,fun h=>by have:=h.2 hv;omega⟩⟩,show code.length-(i+1)<code.length-i by omega⟩;conv=>whnf
   repeat' constructor
  rw[jG hv];conv=>whnf
  refine jN i (by omega) ?_;conv=>whnf
  refine⟨(i+1,m),jE [] ?_,⟨show i+1<=code.length by omega,q2,q3,hnew m ⟨fun h=>⟨h,fun h2=>absurd h2 hv⟩,fun h=>h.1⟩⟩,show code.length-(i+1)<code.length-i by omega⟩;conv=>whnf
  repeat' constructor
 rw[jG (show ¬ (i:Int)<(out.length:Int) by rw[hln];omega)];conv=>whnf
 refine⟨out,ok,m,hdp,rfl,?_⟩;rw[q4]
 constructor
 ·intro h1 a ha
  have hr:=ha.rng hj hx
  exact h1 a hr.1 (by omega) ((hdp.re a hr.1 hr.2).2 ha)
 ·intro h1 j h2 h3 h4;exact h1 j ((hdp.re j h2 (by omega)).1 h4)
theorem jhx (code:List Ic) (e:Nat->Int) (du vo x:Int) (hl:code.length<=1000000) (hx:x<0):Spec Tryz.prog 30 [] [tT code e du vo,intA x] fun _ r=>r = .tup [.sl 1 code.length (jV (List.replicate code.length (-1))),qR true]:=by
 refine eN jpE j5 0 Tryz.func30 rfl ?_;intro _;conv=>whnf
 refine⟨⟨by omega,rfl,by omega,by omega⟩,?_⟩;conv=>whnf
 refine jB [1,2,6] ?_;conv=>whnf
 refine jH (fun j:Nat=>[(7,.v (.int .i64 j))]) (fun _=>[pgL code e du vo]) (fun j=>[.live 3 1 code.length (jV (ini code.length j))]) (fun j=>j<=code.length) (fun j=>code.length-j) 0 ?_ (Nat.zero_le _) ?_
 ·repeat' constructor
  show Row.live _ 1 code.length (jkJ code.length [Value.int .i64 0])=_
  rw[jgq];rfl
 intro j hjn;conv=>whnf
 rcases Nat.lt_or_ge j code.length with hlt | hge
 ·rw[jK (show (j:Int)<(code.length:Int) by omega)];conv=>whnf
  refine⟨show (0:Int)<=(j:Int)/\(j:Int)<(code.length:Nat) from ⟨by omega,by omega⟩,?_⟩;conv=>whnf
  refine dH (l:=ini code.length j) (k:=j) (v := -1) (by rw[jjk _ _ hjn];exact hlt) ?_;rw[jjl _ _ hlt];conv=>whnf
  refine jN j (by omega) ?_;conv=>whnf
  refine⟨j+1,jE [0] ?_,show j+1<=code.length by omega,show code.length-(j+1)<code.length-j by omega⟩;conv=>whnf
  repeat' constructor
 obtain rfl:j=code.length:=by omega
 rw[jG (show ¬ (code.length:Int)<(code.length:Int) by omega)];rw[jjj];conv=>whnf
 rw[jK hx];conv=>whnf
 rfl
theorem jqT (n i:Nat) (hi:i<n):jC 1 i (jV (List.replicate n (-1)))=[intA (-1)]:=by
 rw[aW _ i (by rw[List.length_replicate];exact hi),List.getElem_replicate];rfl
theorem jke (code:List Ic) (e:Nat->Int) (du vo:Int) (h:Nat) (hh:h<40) (hl:code.length<=1000000) (hx:e h<0):Spec Tryz.prog 43 [] [tT code e du vo,.v (.int .i64 h)] fun _ r=>r=intA 0:=by
 have hds:=jhx code e du vo (e h) hl hx
 refine eN jpC j5 0 Tryz.func43 rfl ?_;intro _;conv=>whnf
 refine⟨show (0:Int)<=(h:Int)/\(h:Int)<((40:Nat):Int) from ⟨by omega,by omega⟩,?_⟩;conv=>whnf
 generalize hrq:List.drop _ _=rq
 obtain rfl:rq=intA (e h) :: (A.sl 2 code.length (qC code) :: pgE e du vo).drop (h+2):=hrq.symm.trans (jj6 _ e du vo h hh)
 clear hrq;conv=>whnf
 refine kU [] hds ?_;rintro r rfl;conv=>whnf
 refine jB [2,5,7] ?_;conv=>whnf
 refine jH (fun i:Nat=>[(8,.v (.int .i64 i))]) (fun _=>[pgL code e du vo]) (fun _=>[]) (fun i=>i<=code.length) (fun i=>code.length-i) 0 ?_ (Nat.zero_le _) ?_
 ·repeat' constructor
 intro i hin;conv=>whnf
 rcases Nat.lt_or_ge i code.length with hil | hig
 ·have hro:=jqT code.length i hil
  rw[jK (show (i:Int)<(code.length:Int) by omega)];conv=>whnf
  refine⟨show (0:Int)<=(i:Int)/\(i:Int)<(code.length:Nat) from ⟨by omega,by omega⟩,?_⟩;conv=>whnf
  (generalize hrq:jC _ _ (jV (List.replicate code.length (-1)))=rq;obtain rfl:rq=[intA (-1)]:=hrq.symm.trans (hro);clear hrq;conv=>whnf)
  refine jN i (by omega) ?_;conv=>whnf
  refine⟨i+1,jE [] ?_,show i+1<=code.length by omega,show code.length-(i+1)<code.length-i by omega⟩;conv=>whnf
  repeat' constructor
 rw[jG (show ¬ (i:Int)<(code.length:Int) by omega)];conv=>whnf
 rfl
end Go.Proofs.YtfbifdccmabdbaaGreatDoor.Vm
namespace Go.Proofs.YtfbifdccmabdbaaGreatDoor.Vm
open Go.RowKit
def jc2 (n:Int):Int:=if n<0 then -(n+1) else n
def bN (n m:Int):Int:=(jc2 n).tmod m
theorem jf1 {n:Int} (hn : -9223372036854775808<=n/\n<=9223372036854775807):0<=jc2 n/\jc2 n<=9223372036854775807:=by unfold jc2;split <;> omega
theorem tD {n m:Int} (hn : -9223372036854775808<=n/\n<=9223372036854775807) (hm:1<=m):0<=bN n m/\bN n m<m:=by
 have h:=jf1 hn
 unfold bN;rw[Int.tmod_eq_emod_of_nonneg h.1];exact⟨Int.emod_nonneg _ (by omega),Int.emod_lt_of_pos _ (by omega)⟩
theorem fS (n m:Int) (hm:1<=m/\m<=9223372036854775807):Spec Tryz.prog 27 [] [intA n,intA m] fun _ r=>(-9223372036854775808<=n/\n<=9223372036854775807)/\r=intA (bN n m):=by
 refine eN jR j5 0 Tryz.func27 rfl ?_;intro hok
 have hn : -9223372036854775808<=n/\n<=9223372036854775807:=okA_int.1 hok.1
 have hab:=jf1 hn
 conv=>whnf
 by_cases h:n<0
 ·refine j6 (b:=decide (n<0)) (jK h) ?_;conv=>whnf
  refine⟨jJ (by omega),?_⟩;conv=>whnf
  refine⟨jJ (by omega),?_⟩;conv=>whnf
  refine⟨by omega,?_⟩;conv=>whnf
  refine⟨hn,?_⟩
  have:0-(n+1)=jc2 n:=by unfold jc2;rw[if_pos h];omega
  rw[this];rfl
 ·refine jU (b:=decide (n<0)) (jG h) ?_;conv=>whnf
  refine⟨by omega,?_⟩;conv=>whnf
  refine⟨hn,?_⟩
  have:n=jc2 n:=by unfold jc2;rw[if_neg h]
  show A.v (.int .i64 (n.tmod m))=intA ((jc2 n).tmod m)
  rw[<- this];rfl
end Go.Proofs.YtfbifdccmabdbaaGreatDoor.Vm
namespace Go.Proofs.YtfbifdccmabdbaaGreatDoor.Vm
open Go.RowKit Go.Shelf
def jt1 (code:List Ic) (e:Nat->Int) (j:Nat):Prop:=0<=e j /\ ∃ out ok,Dp code (e j) out ok /\ ¬ ∀ i,Rch code (e j) i->og out i<=16/\lv code i (og out i)<=16
def OkE (code:List Ic) (e:Nat->Int) (j:Nat):Prop:=e j<0 ∨ 0<=e j /\ ∃ out ok,Dp code (e j) out ok /\ ∀ i,Rch code (e j) i->og out i<=16/\lv code i (og out i)<=16
def RcP (u:Ut) (r:A):Prop :=
 (400<(yS u).1.length/\r = .tup [.agg fK,intA 2]) ∨ (¬ 400<(yS u).1.length/\(((∃ j,j<40/\jt1 (yS u).1 (yS u).2 j)/\r = .tup [.agg fK,intA 13]) ∨ ((∀ j,j<40->OkE (yS u).1 (yS u).2 j)/\r = .tup [tT (yS u).1 (yS u).2 u.du.length u.vo.length,intA 0])))
theorem jli {h:Int} (h1:0<=h/\h<40):bN h 40=h:=by
 unfold bN jc2;rw[if_neg (by omega),Int.tmod_eq_emod_of_nonneg h1.1];omega
theorem cU (g:Nat):∀ l:List A,ja3 g l l
 | []=>trivial
 | a :: l=>⟨.inl rfl,cU g l⟩
theorem jkq {np:Nat} {f:S->(Exit->S->Prop)->Prop} {t:List A} {bx:List (List A)} {rw:List Row} {Q:Exit->S->Prop} (e k:Nat) (bx':List (List A)) (h2:jk2 rw.length bx bx') (h:xQ np f ⟨t,bx',rw++[.live e k 0 []]⟩ Q):xQ np f ⟨t,bx,rw⟩ Q:=by
 have hle:Le np ⟨t,bx,rw⟩ ⟨t,bx',rw++[.live e k 0 []]⟩ := jmd (s:=⟨t,bx,rw⟩) e k (cU _ t) h2
 unfold xQ at h ⊢
 obtain⟨X,F,φ,μ,⟨x,h3,h4⟩,h5⟩ := h
 exact⟨X,F,φ,μ,⟨x,hle.trans h3,h4⟩,h5⟩
theorem jce (u:Ut) (hu:uH u) (hz:mW u.on<=900000):Spec Tryz.prog 13 [] [.agg (eZ u)] fun _ r=>RcP u r:=by
 have hnode:=rG u hu
 have hcode:=jfo u hu
 have hdv:=hu.du
 have hol:=hu.ol
 refine eN jsA j5 0 Tryz.func13 rfl ?_;intro _;conv=>whnf
 refine jB [1,2,4] ?_;conv=>whnf
 refine jH (fun j:Nat=>[(5,.v (.int .i64 j))]) (fun j=>[eZ u,fK,.v (.slice none 0 0) :: pgE (e1 j) u.du.length u.vo.length]) (fun _=>[]) (fun j=>j<=40) (fun j=>40-j) 0 ?_ (by omega) ?_
 ·repeat' constructor
 intro j hj;conv=>whnf
 rcases Nat.lt_or_ge j 40 with hlt | hge
 ·rw[jK (show (j:Int)<40 by omega)];conv=>whnf
  refine⟨show (0:Int)<=(j:Int)/\(j:Int)<((40:Nat):Int) from ⟨by omega,by omega⟩,?_⟩;conv=>whnf
  refine iU (.v (.slice none 0 0)) (e1 j) (e1 (j+1)) u.du.length u.vo.length (-1) j hlt (fun i hi => ?_) ?_
  ·unfold e1
   by_cases h:i=j
   ·rw[if_pos h,if_pos (by omega)]
   ·rw[if_neg h]
    by_cases h2:i<j
    ·rw[if_pos h2,if_pos (by omega)]
    ·rw[if_neg h2,if_neg (by omega)]
  conv=>whnf
  refine jN j (by omega) ?_;conv=>whnf
  refine⟨j+1,jE [] ?_,show j+1<=40 by omega,show 40-(j+1)<40-j by omega⟩;conv=>whnf
  repeat' constructor
 rw[jG (show ¬ (j:Int)<40 by omega)]
 obtain rfl:j=40:=by omega
 conv=>whnf
 refine jkq 52 2 [eZ u,fK,.own 0 :: pgE (e1 40) u.du.length u.vo.length] ⟨cU _ _,cU _ _,⟨.inr ⟨rfl,rfl⟩,cU _ _⟩,trivial⟩ ?_;conv=>whnf
 refine jB [1,2,4] ?_;conv=>whnf
 refine jH (fun x:Nat × List Ic × (Nat->Int)=>[(6,.v (.int .i64 x.1))]) (fun x=>[eZ u,fK,.own 0 :: pgE x.2.2 u.du.length u.vo.length]) (fun x=>[.live 52 2 x.2.1.length (qC x.2.1)])
  (fun x=>x.1<=u.on.length/\oH (jW u) (u.on.drop x.1) x.2.1 x.2.2=yS u/\x.2.1.length+mW (u.on.drop x.1)<=900000/\(∀ i ∈ x.2.1,jeY i) /\ ∀ i,x.2.2 i<x.2.1.length) (fun x=>u.on.length-x.1) (0,[],noE) ?_ ⟨Nat.zero_le _,rfl,by simpa using hz,(fun i hi=>by cases hi),fun i=>show (-1:Int)<0 by decide⟩ ?_
 ·repeat' constructor
  show Row.live _ 2 0 []=Row.live _ 2 0 (qC [])
  rw[p6]
 rintro⟨j,l,e⟩ ⟨g1,g2,g3,g4,g5⟩
 simp only at g1 g2 g3 g4 g5
 conv=>whnf
 rcases Nat.lt_or_ge j u.on.length with hlt | hge
 ·have hrow:jC 5 j (z6 u.on)=hnA u.on[j]:=gF u.on j hlt
  have hon:=hu.on _ (List.getElem_mem hlt)
  rw[List.drop_eq_getElem_cons hlt] at g2 g3;generalize u.on[j]=hb at hrow hon g2 g3
  obtain⟨h,b⟩ := hb
  obtain⟨o1,o2,o3⟩ := hon
  unfold oH at g2;unfold mW at g3
  simp only at o1 o2 g2 g3
  have hcd:=hcode b o3 l.length (by omega) (by omega)
  have hsz:=(hnode b o3).1 l.length
  obtain⟨m,hmm⟩ : ∃ m,jI (jW u) b l.length=m:=⟨_,rfl⟩
  have hcok:=pR (jW u) b l.length (by omega)
  rw[hmm] at hcd hsz g2 hcok
  have a2:=fS h 40 (by decide)
  rw[jli ⟨o1,o2⟩] at a2;unfold hnA at hrow
  simp only at hrow
  rw[jK (show (j:Int)<(u.on.length:Int) by omega)];conv=>whnf
  refine⟨show (0:Int)<=(j:Int)/\(j:Int)<(u.on.length:Nat) from ⟨by omega,by omega⟩,?_⟩;conv=>whnf
  (generalize hrq:jC _ _ (z6 u.on)=rq;obtain rfl:rq=intA h :: ntA b:=hrq.symm.trans (hrow);clear hrq;conv=>whnf)
  refine kU [] a2 ?_;rintro r ⟨_,rfl⟩;conv=>whnf
  refine⟨⟨o1,show h<((40:Nat):Int) by omega⟩,?_⟩;conv=>whnf
  refine iU (.own 0) e (fun i=>if i=h.toNat then (l.length:Int) else e i) u.du.length u.vo.length l.length h.toNat (by omega) (fun i hi=>rfl) ?_;conv=>whnf
  refine⟨show (0:Int)<=(j:Int)/\(j:Int)<(u.on.length:Nat) from ⟨by omega,by omega⟩,?_⟩;conv=>whnf
  (generalize hrq:jC _ _ (z6 u.on)=rq;obtain rfl:rq=intA h :: ntA b:=hrq.symm.trans (hrow);clear hrq;conv=>whnf)
  refine xA 1 [] rfl rfl (fun _=>hcd) ?_;rintro e9 k9 n9 cs9 r ⟨rfl,rfl,rfl,rfl,rfl⟩;conv=>whnf
  refine⟨⟨show l.length+m.length<=maxLen by unfold maxLen;omega,show (l.length+m.length)*16<=140737488355328 by omega⟩,?_⟩;conv=>whnf
  refine⟨⟨show l.length+m.length+1<=maxLen by unfold maxLen;omega,show (l.length+m.length+1)*16<=140737488355328 by omega⟩,?_⟩;conv=>whnf
  refine jN j (by omega) ?_;conv=>whnf
  refine⟨(j+1,l++m++[(23,0)],fun i=>if i=h.toNat then (l.length:Int) else e i),jE [0] ?_,⟨show j+1<=u.on.length by omega,g2,?_,?_,?_⟩,show u.on.length-(j+1)<u.on.length-j by omega⟩
  ·conv=>whnf
   repeat' constructor
   show Row.live _ 2 (l.length+m.length+1) (qC l++qC m++[intA 23,intA 0])=Row.live _ 2 (l++m++[((23:Int),(0:Int))]).length (qC (l++m++[(23,0)]))
   rw[List.length_append,List.length_append,sF,kI];rfl
  ·show (l++m++[((23:Int),(0:Int))]).length+mW (u.on.drop (j+1))<=900000
   rw[List.length_append,List.length_append,List.length_singleton];omega
  ·intro i hi
   simp only at hi
   rcases List.mem_append.1 hi with hi | hi
   ·rcases List.mem_append.1 hi with hi | hi
    ·exact g4 i hi
    ·exact hcok i hi
   ·rw[List.mem_singleton.1 hi];exact⟨by simp,fun h=>by simp at h⟩
  ·intro i
   show (if i=h.toNat then (l.length:Int) else e i)<((l++m++[((23:Int),(0:Int))]).length:Int)
   have g5i:=g5 i
   rw[List.length_append,List.length_append,List.length_singleton]
   split <;> omega
 rw[jG (show ¬ (j:Int)<(u.on.length:Int) by omega)]
 have hcm:oH (jW u) [] l e=yS u:=by rw[<- g2,List.drop_of_length_le hge]
 have hcl:l.length<=900000:=by omega
 unfold oH at hcm
 have hjm:cC l:=fun i hi=>(g4 i hi).2
 have hoo:∀ i ∈ l,1<=i.1/\i.1<=23:=fun i hi=>(g4 i hi).1
 conv=>whnf
 unfold RcP;rw[<- hcm]
 simp only
 by_cases hbig:400<l.length
 ·rw[jK (show (400:Int)<(l.length:Int) by omega)];conv=>whnf
  exact .inl ⟨hbig,rfl⟩
 rw[jG (show ¬ (400:Int)<(l.length:Int) by omega)];conv=>whnf
 refine gX [0] ?_;conv=>whnf
 refine jB [2,4] ?_;conv=>whnf
 refine jH (fun j:Nat=>[(8,.v (.int .i64 j))]) (fun _=>[eZ u,fK,pgL l e u.du.length u.vo.length]) (fun _=>[]) (fun j=>j<=40 /\ ∀ i,i<j->OkE l e i) (fun j=>40-j) 0 ?_ ⟨Nat.zero_le _,fun i hi=>by omega⟩ ?_
 ·repeat' constructor
 rintro j ⟨hj,hall⟩;conv=>whnf
 rcases Nat.lt_or_ge j 40 with hlt | hge
 ·rw[jK (show (j:Int)<40 by omega)]
  by_cases hneg:e j<0
  ·have hdn:=jke l e u.du.length u.vo.length j hlt (by omega) hneg
   conv=>whnf
   refine kU [] hdn ?_;rintro r rfl;conv=>whnf
   refine jN j (by omega) ?_;conv=>whnf
   refine⟨j+1,jE [] ?_,⟨show j+1<=40 by omega,fun i hi => ?_⟩,show 40-(j+1)<40-j by omega⟩
   ·conv=>whnf
    repeat' constructor
   ·by_cases q:i=j
    ·rw[q];exact .inl hneg
    ·exact hall i (by have:i<j+1:=hi;omega)
  have hdp:=jhw l e u.du.length u.vo.length j hlt (by omega) hjm hoo ⟨by omega,g5 j⟩
  conv=>whnf
  refine kU [] hdp ?_;rintro r ⟨out,ok,m,hd,rfl,hm⟩;conv=>whnf
  by_cases h16:(16:Int)<m
  ·rw[jK h16];conv=>whnf
   exact .inr ⟨hbig,.inl ⟨⟨j,hlt,by omega,out,ok,hd,fun h=>by have:=hm.2 h;omega⟩,rfl⟩⟩
  rw[jG h16];conv=>whnf
  refine jN j (by omega) ?_;conv=>whnf
  refine⟨j+1,jE [] ?_,⟨show j+1<=40 by omega,fun i hi => ?_⟩,show 40-(j+1)<40-j by omega⟩
  ·conv=>whnf
   repeat' constructor
  ·by_cases q:i=j
   ·rw[q];exact .inr ⟨by omega,out,ok,hd,hm.1 (by omega)⟩
   ·exact hall i (by have:i<j+1:=hi;omega)
 obtain rfl:j=40:=by omega
 rw[jG (show ¬ ((40:Nat):Int)<40 by omega)];conv=>whnf
 exact .inr ⟨hbig,.inr ⟨hall,rfl⟩⟩
theorem jfA (code:List Ic) (e:Nat->Int):∀ (m j:Nat),(∀ i,kC code (e i)=0 ∨ kC code (e i)=13)->(mM code e j m=0 /\ ∀ i,j<=i->i<j+m->kC code (e i)=0) ∨ (mM code e j m=13 /\ ∃ i,i<j+m/\kC code (e i)=13)
 | 0,j,h => .inl ⟨rfl,fun i h1 h2=>by omega⟩
 | m+1,j,h=>by
  unfold mM
  rcases h j with h0 | h0
  ·rw[if_neg (by simp[h0])]
   rcases jfA code e m (j+1) h with ⟨h1,h2⟩ | ⟨h1,i,h2,h3⟩
   ·refine .inl ⟨h1,fun i h3 h4 => ?_⟩
    by_cases q:i=j
    ·rw[q];exact h0
    ·exact h2 i (by omega) (by omega)
   ·exact .inr ⟨h1,i,by omega,h3⟩
  ·rw[if_pos (by rw[h0];decide)];exact .inr ⟨h0,j,by omega,h0⟩
theorem EntO.dp {code:List Ic} {x:Int} (h:EntO code x) {out:List Int} {ok:Bool} (hd:Dp code x out ok):(∀ i,Rch code x i->og out i<=16/\lv code i (og out i)<=16) ↔ ∃ D,Good code x D:=by
 obtain⟨h1,h2,D,hD,-⟩ := h
 have hok:=(hd.uq D hD).1
 have:=jo3 hd hd
 rw[<- this];exact⟨fun h=>⟨hok,h⟩,fun h=>h.2⟩
theorem jqt {u:Ut} (hu:uH u) (j:Nat):kC (yS u).1 ((yS u).2 j)=0 ∨ kC (yS u).1 ((yS u).2 j)=13:=by
 rcases jea hu j with ⟨h,-⟩ | ⟨h,-⟩
 ·rw[h];exact .inl rfl
 ·rcases h.fol (jj2 u) with ⟨h,-⟩ | ⟨h,-⟩
  ·exact .inl h
  ·exact .inr h
theorem jrc {u:Ut} (hu:uH u) {r:A} (h:RcP u r):r=jc5 u:=by
 have hj:=jj2 u
 unfold jc5
 rcases h with ⟨hb,rfl⟩ | ⟨hb,h⟩
 ·have:uC u=2:=by unfold uC;rw[if_pos hb]
  rw[this,if_neg (by decide)]
 have hE:uC u=mM (yS u).1 (yS u).2 0 40:=by unfold uC;rw[if_neg hb]
 rw[hE]
 rcases jfA (yS u).1 (yS u).2 40 0 (jqt hu) with ⟨h0,hall⟩ | ⟨h13,i,hi,hf⟩
 ·rw[h0,if_pos rfl]
  rcases h with ⟨⟨j,hj40,h0j,out,ok,hd,hn⟩,rfl⟩ | ⟨-,rfl⟩
  ·exfalso
   rcases jea hu j with ⟨h,-⟩ | ⟨h,-⟩
   ·omega
   ·rw[h.dp hd] at hn
    rcases h.fol hj with ⟨-,h⟩ | ⟨h,-⟩
    ·exact hn h
    ·rw[hall j (Nat.zero_le _) (by omega)] at h;cases h
  ·rfl
 ·rw[h13,if_neg (by decide)]
  rcases h with ⟨-,rfl⟩ | ⟨h,-⟩
  ·rfl
  ·exfalso
   rcases jea hu i with ⟨h',-⟩ | ⟨h',-⟩
   ·rw[h'] at hf;cases hf
   ·have h0:=h'.1
    rcases h i (by omega) with h | ⟨-,out,ok,hd,hb⟩
    ·omega
    ·rw[h'.dp hd] at hb
     rcases h'.fol hj with ⟨h,-⟩ | ⟨-,h⟩
     ·rw[hf] at h;cases h
     ·exact h hb
theorem jmK (u:Ut) (hu:uH u) (hz:mW u.on<=900000):Spec Tryz.prog 13 [] [.agg (eZ u)] fun _ r=>r=jc5 u :=
 (jce u hu hz).weaken fun o r hr=>⟨o,_,rfl,WkB.refl o,by rw[jrc hu hr];exact .refl _⟩
end Go.Proofs.YtfbifdccmabdbaaGreatDoor.Vm
namespace Go.Proofs.YtfbifdccmabdbaaGreatDoor.Vm
open Go.RowKit
theorem tR (c:UInt8):Spec Tryz.prog 124 [] [.v (.int .u8 (c.toNat:Int))] fun _ r=>r=qR (isL c):=by
 refine eN jR j5 0 Tryz.func124 rfl ?_;intro _;conv=>whnf
 cases h:decide (97<=(c.toNat:Int))
 ·conv=>whnf
  simp[qR,isL,h]
 ·conv=>whnf
  simp[qR,isL,h]
theorem oG (c:UInt8):Spec Tryz.prog 125 [] [.v (.int .u8 (c.toNat:Int))] fun _ r=>r=qR (kY c):=by
 refine eN jR j5 0 Tryz.func125 rfl ?_;intro _;conv=>whnf
 cases h:decide (48<=(c.toNat:Int))
 ·conv=>whnf
  simp[qR,kY,h]
 ·conv=>whnf
  simp[qR,kY,h]
theorem jfF (l:List ByteArray) (s:ByteArray) (hl:l.length<=1000000):Spec Tryz.prog 127 [] [.sl 1 l.length (yP l),.v (.string s)] fun _ r=>r=qR (j9 l s):=by
 refine eN jR j5 0 Tryz.func127 rfl ?_;intro _;conv=>whnf
 refine jB [0,1,4] ?_;conv=>whnf
 refine jH (fun k:Nat=>[(5,.v (.int .i64 k))]) (fun _=>[]) (fun _=>[]) (fun k=>k<=l.length/\j9 (l.take k) s=false) (fun k=>l.length-k) 0 ?_ ⟨Nat.zero_le _,by simp[j9]⟩ ?_
 ·repeat' constructor
 ·rintro k ⟨hk,hn⟩;conv=>whnf
  by_cases hlt:k<l.length
  ·refine j6 (by simp;omega) ?_;conv=>whnf
   refine⟨⟨by omega,by omega⟩,?_⟩;conv=>whnf
   rw[show jC 1 (Int.toNat (k:Int)) (yP l)=[.v (.string l[k])] from eO l k hlt];conv=>whnf
   cases hq:decide (l[k]=s)
   ·conv=>whnf
    refine⟨jJ (by omega),?_⟩;conv=>whnf
    refine⟨k+1,zW ?_,⟨hlt,by rw[sE l s k hlt,hn,hq];rfl⟩,by omega⟩
    repeat' constructor
   ·conv=>whnf
    have:j9 l s=true:=List.any_eq_true.2 ⟨l[k],List.getElem_mem hlt,hq⟩
    rw[this];rfl
  ·refine jU (by simp;omega) ?_
   obtain rfl:k=l.length:=by omega
   rw[List.take_length] at hn;conv=>whnf
   rw[hn];rfl
theorem jdw (s:ByteArray) (k:Nat) (hs:s.size<=1000000000) (hk:k<=s.size):Spec Tryz.prog 87 [] [.v (.string s),.v (.int .i64 k)] fun _ r=>r=intA ((k+jM false (s.data.toList.drop k):Nat):Int):=by
 have hsl:=zM s
 obtain⟨l,hl⟩ : ∃ l,l=s.data.toList:=⟨_,rfl⟩
 refine eN jR j5 0 Tryz.func87 rfl ?_;intro _;conv=>whnf
 refine jB [0,4] ?_;conv=>whnf
 refine jH (fun j:Nat=>[(1,.v (.int .i64 j))]) (fun _=>[]) (fun _=>[]) (fun j=>k<=j/\j<=s.size/\j+jM false (s.data.toList.drop j)=k+jM false (s.data.toList.drop k)) (fun j=>s.size-j) k ?_ ⟨Nat.le_refl _,hk,rfl⟩ ?_
 ·repeat' constructor
 ·rintro j ⟨hkj,hj,hinv⟩;conv=>whnf
  by_cases hlt:j<s.size
  ·refine j6 (by simp;omega) ?_;conv=>whnf
   refine⟨⟨by omega,by omega⟩,?_⟩;rw[show s.data.toList.getD (Int.toNat (j:Int)) 0=s.data.toList[j] from cP s j (by omega)]
   have hd:=wX s.data.toList j (by omega)
   generalize hc:s.data.toList[j]'(by omega)=c at *;conv=>whnf
   cases hq:decide ((c.toNat:Int)=35)
   ·have hq':kV c=false:=hq
    conv=>whnf
    cases h1:decide ((c.toNat:Int)=32)
    ·conv=>whnf
     cases h2:decide ((c.toNat:Int)=9)
     ·conv=>whnf
      cases h3:decide ((c.toNat:Int)=10)
      ·conv=>whnf
       have h4:nV c=false:=by simp[nV,h1,h2,h3]
       have:jM false (s.data.toList.drop j)=0:=by rw[hd];simp[jM,hq',h4]
       rw[this] at hinv;rw[<- hinv];rfl
      ·conv=>whnf
       have h4:nV c=true:=by simp[nV,h3]
       have:jM false (s.data.toList.drop j)=jM false (s.data.toList.drop (j+1))+1:=by rw[hd];simp[jM,hq',h4]
       refine⟨jJ (by omega),?_⟩;conv=>whnf
       refine⟨j+1,zW ?_,⟨by omega,by omega,by omega⟩,by omega⟩
       repeat' constructor
     ·conv=>whnf
      have h4:nV c=true:=by simp[nV,h2]
      have:jM false (s.data.toList.drop j)=jM false (s.data.toList.drop (j+1))+1:=by rw[hd];simp[jM,hq',h4]
      refine⟨jJ (by omega),?_⟩;conv=>whnf
      refine⟨j+1,zW ?_,⟨by omega,by omega,by omega⟩,by omega⟩
      repeat' constructor
    ·conv=>whnf
     have h4:nV c=true:=by simp[nV,h1]
     have:jM false (s.data.toList.drop j)=jM false (s.data.toList.drop (j+1))+1:=by rw[hd];simp[jM,hq',h4]
     refine⟨jJ (by omega),?_⟩;conv=>whnf
     refine⟨j+1,zW ?_,⟨by omega,by omega,by omega⟩,by omega⟩
     repeat' constructor
   ·have hq':kV c=true:=hq
    have h0:jM false (s.data.toList.drop j)=jM true (s.data.toList.drop (j+1))+1:=by rw[hd];simp[jM,hq']
    have h0':jM true (s.data.toList.drop j)=jM true (s.data.toList.drop (j+1))+1:=by
     have:kJ c=true:=by
      have:=of_decide_eq_true hq
      simp[kJ,this]
     rw[hd];simp[jM,this]
    conv=>whnf
    refine jB [0,4] ?_;conv=>whnf
    refine jH (fun i:Nat=>[(1,.v (.int .i64 i))]) (fun _=>[]) (fun _=>[]) (fun i=>j<=i/\i<=s.size/\i+jM true (s.data.toList.drop i)=k+jM false (s.data.toList.drop k)/\(i=j->kJ c=true)) (fun i=>s.size-i) j ?_ ⟨Nat.le_refl _,hj,by omega,fun _=>by
     have:=of_decide_eq_true hq
     simp[kJ,this]⟩ ?_
    ·repeat' constructor
    ·rintro i ⟨hji,hi,hinv2,hne⟩;conv=>whnf
     cases hlt2:decide ((i:Int)<(s.size:Int))
     ·have hge:=of_decide_eq_false hlt2
      conv=>whnf
      refine⟨i,zW ?_,⟨by omega,hi,?_⟩,?_⟩
      ·repeat' constructor
      ·rw[<- hinv2];rw[List.drop_of_length_le (by omega)];simp[jM]
      ·omega
     ·have hlt3:=of_decide_eq_true hlt2
      conv=>whnf
      refine⟨⟨by omega,by omega⟩,?_⟩;rw[show s.data.toList.getD (Int.toNat (i:Int)) 0=s.data.toList[i]'(by omega) from cP s i (by omega)]
      have hd2:=wX s.data.toList i (by omega)
      by_cases hij:i=j
      ·subst hij;rw[hc];conv=>whnf
       have hn:=hne rfl
       refine j6 hn ?_;conv=>whnf
       refine⟨jJ (by omega),?_⟩;conv=>whnf
       refine⟨i+1,zW ?_,⟨by omega,by omega,by omega,fun e=>by omega⟩,by omega⟩
       repeat' constructor
      ·generalize hc2:s.data.toList[i]'(by omega)=c2 at *;conv=>whnf
       cases hn:kJ c2
       ·refine jU hn ?_
        have:jM true (s.data.toList.drop i)=jM false (s.data.toList.drop (i+1))+1:=by rw[hd2];simp[jM,hn]
        have h10:kV c2=false/\nV c2=true:=by
         have:(c2.toNat:Int)=10:=by simpa [kJ] using hn
         simp[kV,nV,this]
        have h5:jM false (s.data.toList.drop i)=jM false (s.data.toList.drop (i+1))+1:=by rw[hd2];simp[jM,h10.1,h10.2]
        conv=>whnf
        refine⟨i,zW ?_,⟨by omega,hi,by omega⟩,by omega⟩
        repeat' constructor
       ·refine j6 hn ?_
        have:jM true (s.data.toList.drop i)=jM true (s.data.toList.drop (i+1))+1:=by rw[hd2];simp[jM,hn]
        conv=>whnf
        refine⟨jJ (by omega),?_⟩;conv=>whnf
        refine⟨i+1,zW ?_,⟨by omega,by omega,by omega,fun e=>by omega⟩,by omega⟩
        repeat' constructor
  ·refine jU (by simp;omega) ?_
   obtain rfl:j=s.size:=by omega
   have:jM false (s.data.toList.drop s.size)=0:=by rw[List.drop_of_length_le (by omega)];simp[jM]
   rw[this] at hinv;conv=>whnf
   rw[<- hinv];rfl
theorem jiF (s:ByteArray) (hs:s.size<=1000000000) (hd:∀ c ∈ s.data.toList,kY c=true):Spec Tryz.prog 126 [] [.v (.string s)] fun _ r=>r=intA (xG 0 s.data.toList):=by
 have hsl:=zM s
 refine eN jR j5 0 Tryz.func126 rfl ?_;intro _;conv=>whnf
 refine jB [0,2] ?_;conv=>whnf
 refine jH (fun x:Nat × Int=>[(3,.v (.int .i64 x.2)),(4,.v (.int .i64 x.1))]) (fun _=>[]) (fun _=>[]) (fun x=>x.1<=s.size/\0<=x.2/\x.2<=2147483647/\xG x.2 (s.data.toList.drop x.1)=xG 0 s.data.toList) (fun x=>s.size-x.1) (0,0) ?_ ⟨Nat.zero_le _,by simp,by simp,by simp⟩ ?_
 ·repeat' constructor
 ·rintro⟨j,v⟩ ⟨hj,hv0,hv1,hinv⟩
  simp only at hj hv0 hv1 hinv
  conv=>whnf
  by_cases hlt:j<s.size
  ·refine j6 (by simp;omega) ?_
   have hdj:=hd _ (List.getElem_mem (l:=s.data.toList) (n:=j) (by omega))
   have hdr:=wX s.data.toList j (by omega)
   have hgb:=cP s j (by omega)
   generalize hc:s.data.toList[j]'(by omega)=c at *
   have hr:=jjm hdj
   conv=>whnf
   refine⟨jJ (by omega),?_⟩;conv=>whnf
   refine⟨⟨by omega,by omega⟩,?_⟩;rw[show s.data.toList.getD (Int.toNat (j:Int)) 0=c from hgb];conv=>whnf
   refine⟨jJ (by omega),?_⟩;conv=>whnf
   refine⟨jJ (by omega),?_⟩;conv=>whnf
   refine⟨jJ (by omega),?_⟩;conv=>whnf
   have hst:xG v (s.data.toList.drop j)=if 2147483647<10*v+(c.toNat:Int)-48 then -1 else xG (10*v+(c.toNat:Int)-48) (s.data.toList.drop (j+1)):=by rw[hdr];rfl
   by_cases hbig:2147483647<10*v+(c.toNat:Int)-48
   ·refine j6 (by simpa using hbig) ?_;conv=>whnf
    rw[if_pos hbig] at hst;rw[<- hinv,hst];rfl
   ·refine jU (by simpa using hbig) ?_;conv=>whnf
    rw[if_neg hbig] at hst;refine⟨jJ (by omega),?_⟩;conv=>whnf
    refine⟨(j+1,10*v+(c.toNat:Int)-48),zW ?_,⟨by simp only;omega,by simp only;omega,by simp only;omega,by simp only;rw[<- hst,hinv]⟩,by simp only;omega⟩
    repeat' constructor
  ·refine jU (by simp;omega) ?_;conv=>whnf
   rw[List.drop_of_length_le (by omega)] at hinv;rw[<- hinv];rfl
theorem jiC (s:ByteArray) (k:Nat) (hs:s.size<=1000000000) (hk:k<s.size):Spec Tryz.prog 88 [] [.v (.string s),.v (.int .i64 k)] fun _ r=>r=jnw s k:=by
 have hsl:=zM s
 have hd0:=wX s.data.toList k (by omega)
 have hg0:=cP s k (by omega)
 obtain⟨r,hr⟩ : ∃ r,r=s.data.toList.drop (k+1):=⟨_,rfl⟩
 have hrl:r.length=s.size-(k+1):=by rw[hr,List.length_drop,hsl]
 rw[<- hr] at hd0;generalize hc:s.data.toList[k]'(by omega)=c at *;refine eN jR j5 0 Tryz.func88 rfl ?_;intro _;conv=>whnf
 refine⟨jJ (by omega),?_⟩;conv=>whnf
 refine⟨⟨by omega,by omega⟩,?_⟩;rw[show s.data.toList.getD (Int.toNat (k:Int)) 0=c from hg0];conv=>whnf
 refine kU [] (tR c) ?_;rintro x rfl;conv=>whnf
 have span:∀ (p:UInt8->Bool) (j:Nat),k+1<=j->j<s.size->jD p (s.data.toList.drop j)=match p (s.data.toList.getD j 0) with | true=>jD p (s.data.toList.drop (j+1))+1 | false=>0:=fun p j h1 h2=>by
  rw[cP s j (by omega),wX s.data.toList j (by omega)];rfl
 cases hL:isL c
 ·conv=>whnf
  refine⟨⟨by omega,by omega⟩,?_⟩;rw[show s.data.toList.getD (Int.toNat (k:Int)) 0=c from hg0];conv=>whnf
  refine kU [] (oG c) ?_;rintro x rfl;conv=>whnf
  cases hD:kY c
  ·conv=>whnf
   refine⟨jJ (by omega),?_⟩;conv=>whnf
   refine⟨⟨by omega,by omega,by omega⟩,?_⟩;rw[show s.extract (Int.toNat (k:Int)) (Int.toNat (min ((k:Int)+2) (s.size:Int)))=bs ((c :: r).take 2) from by rw[<- hd0];exact wU s k _ 2 (by omega) (by omega)];conv=>whnf
   refine kU [0] (jfF o8 (bs ((c :: r).take 2)) (by decide)) ?_;rintro x rfl
   cases hb:j9 o8 (bs ((c :: r).take 2))
   ·conv=>whnf
    refine⟨⟨by omega,by omega,by omega⟩,?_⟩
    rw[show s.extract (Int.toNat (k:Int)) (Int.toNat ((k:Int)+1))=bs [c] from by
     have:=wU s k (k+1) 1 (by omega) (by omega)
     rw[hd0] at this
     exact this]
    conv=>whnf
    refine kU [1] (jfF sO (bs [c]) (by decide)) ?_;rintro x rfl
    cases hb2:j9 sO (bs [c])
    ·conv=>whnf
     rw[dK (e:=10) (by rw[hd0];simp only[qA,hL,hD,hb,hb2])];rfl
    ·conv=>whnf
     rw[bE (kd:=3) (len:=1) (n:=0) (by rw[hd0];simp only[qA,hL,hD,hb,hb2]),hd0];rfl
   ·conv=>whnf
    rw[bE (kd:=3) (len:=2) (n:=0) (by rw[hd0];simp only[qA,hL,hD,hb]),hd0];rfl
  ·have htok:qA (s.data.toList.drop k)=if xG 0 (c :: r.take (jD kY r))<0 then .bad 6 else .tok 2 (jD kY r+1) (xG 0 (c :: r.take (jD kY r))):=by rw[hd0];simp only[qA,hL,hD]
   have hvd:∀ x ∈ (bs (c :: r.take (jD kY r))).data.toList,kY x=true:=fun x hx=>by
    rw[yE] at hx
    rcases List.mem_cons.1 hx with rfl | hx
    ·exact hD
    ·exact mA kY r x hx
   have hsn:=xF kY r
   have hval:=jiF (bs (c :: r.take (jD kY r))) (by rw[dQ];simp;omega) hvd
   rw[yE] at hval;conv=>whnf
   refine jB [0,1,4,5] ?_;conv=>whnf
   refine jH (fun j:Nat=>[(6,.v (.int .i64 j))]) (fun _=>[jot]) (fun _=>[]) (fun j=>k+1<=j/\j<=s.size/\(j-(k+1))+jD kY (s.data.toList.drop j)=jD kY r) (fun j=>s.size-j) (k+1) ?_ ⟨Nat.le_refl _,by omega,by rw[hr];omega⟩ ?_
   ·repeat' constructor
   ·rintro j ⟨hkj,hj,hinv⟩;conv=>whnf
    cases hlt:decide ((j:Int)<(s.size:Int))
    ·have hge:=of_decide_eq_false hlt
     have h0:jD kY (s.data.toList.drop j)=0:=by rw[List.drop_of_length_le (by omega)];simp[jD]
     conv=>whnf
     refine⟨⟨by omega,by omega,by omega⟩,?_⟩
     rw[show s.extract (Int.toNat (k:Int)) (Int.toNat (j:Int))=bs (c :: r.take (jD kY r)) from by
      have:=wU s k j (jD kY r+1) (by omega) (by omega)
      rw[hd0] at this
      exact this]
     conv=>whnf
     refine kU [] hval ?_;rintro x rfl;generalize xG 0 (c :: r.take (jD kY r))=v at *;conv=>whnf
     by_cases hneg:v<0
     ·refine j6 (by simpa using hneg) ?_;conv=>whnf
      rw[if_pos hneg] at htok;rw[dK htok];rfl
     ·refine jU (by simpa using hneg) ?_;conv=>whnf
      refine⟨⟨by omega,by omega,by omega⟩,?_⟩
      rw[show s.extract (Int.toNat (k:Int)) (Int.toNat (j:Int))=bs (c :: r.take (jD kY r)) from by
       have:=wU s k j (jD kY r+1) (by omega) (by omega)
       rw[hd0] at this
       exact this]
      conv=>whnf
      rw[if_neg hneg] at htok;rw[bE htok,hd0];rfl
    ·have hlt2:=of_decide_eq_true hlt
     have hsp:=span kY j hkj (by omega)
     conv=>whnf
     refine⟨⟨by omega,by omega⟩,?_⟩;rw[show s.data.toList.getD (Int.toNat (j:Int)) 0=s.data.toList.getD j 0 from rfl];generalize s.data.toList.getD j 0=q at *;conv=>whnf
     refine kU [] (oG q) ?_;rintro x rfl;conv=>whnf
     cases hq:kY q
     ·have h0:jD kY (s.data.toList.drop j)=0:=by rw[hsp,hq]
      conv=>whnf
      refine⟨⟨by omega,by omega,by omega⟩,?_⟩
      rw[show s.extract (Int.toNat (k:Int)) (Int.toNat (j:Int))=bs (c :: r.take (jD kY r)) from by
       have:=wU s k j (jD kY r+1) (by omega) (by omega)
       rw[hd0] at this
       exact this]
      conv=>whnf
      refine kU [] hval ?_;rintro x rfl;generalize xG 0 (c :: r.take (jD kY r))=v at *;conv=>whnf
      by_cases hneg:v<0
      ·refine j6 (by simpa using hneg) ?_;conv=>whnf
       rw[if_pos hneg] at htok;rw[dK htok];rfl
      ·refine jU (by simpa using hneg) ?_;conv=>whnf
       refine⟨⟨by omega,by omega,by omega⟩,?_⟩
       rw[show s.extract (Int.toNat (k:Int)) (Int.toNat (j:Int))=bs (c :: r.take (jD kY r)) from by
        have:=wU s k j (jD kY r+1) (by omega) (by omega)
        rw[hd0] at this
        exact this]
       conv=>whnf
       rw[if_neg hneg] at htok;rw[bE htok,hd0];rfl
     ·rw[hq] at hsp;conv=>whnf
      refine⟨jJ (by omega),?_⟩;conv=>whnf
      refine⟨j+1,zW ?_,⟨by omega,by omega,by simp only at hsp;omega⟩,by omega⟩
      repeat' constructor
 ·have htok:qA (s.data.toList.drop k)=if 10<jD kW r+1 then .bad 2 else .tok 1 (jD kW r+1) 0:=by rw[hd0];simp only[qA,hL]
  conv=>whnf
  refine jB [0,1,4,5] ?_;conv=>whnf
  refine jH (fun j:Nat=>[(6,.v (.int .i64 j))]) (fun _=>[jot]) (fun _=>[]) (fun j=>k+1<=j/\j<=s.size/\(j-(k+1))+jD kW (s.data.toList.drop j)=jD kW r) (fun j=>s.size-j) (k+1) ?_ ⟨Nat.le_refl _,by omega,by rw[hr];omega⟩ ?_
  ·repeat' constructor
  ·rintro j ⟨hkj,hj,hinv⟩;conv=>whnf
   cases hlt:decide ((j:Int)<(s.size:Int))
   ·have hge:=of_decide_eq_false hlt
    have h0:jD kW (s.data.toList.drop j)=0:=by rw[List.drop_of_length_le (by omega)];simp[jD]
    conv=>whnf
    refine⟨jJ (by omega),?_⟩;conv=>whnf
    by_cases hbig:10<jD kW r+1
    ·refine j6 (by simp;omega) ?_;conv=>whnf
     rw[if_pos hbig] at htok;rw[dK htok];rfl
    ·refine jU (by simp;omega) ?_;conv=>whnf
     refine⟨⟨by omega,by omega,by omega⟩,?_⟩;rw[show s.extract (Int.toNat (k:Int)) (Int.toNat (j:Int))=bs ((s.data.toList.drop k).take (jD kW r+1)) from wU s k j _ (by omega) (by omega)];conv=>whnf
     rw[if_neg hbig] at htok;rw[bE htok];rfl
   ·have hlt2:=of_decide_eq_true hlt
    have hsp:=span kW j hkj (by omega)
    conv=>whnf
    refine⟨⟨by omega,by omega⟩,?_⟩;rw[show s.data.toList.getD (Int.toNat (j:Int)) 0=s.data.toList.getD j 0 from rfl]
    obtain⟨q,hqe⟩ : ∃ q,q=s.data.toList.getD j 0:=⟨_,rfl⟩
    rw[<- hqe] at hsp ⊢;conv=>whnf
    refine kU [] (tR q) ?_;rintro x rfl;conv=>whnf
    cases hq:isL q
    ·conv=>whnf
     refine⟨⟨by omega,by omega⟩,?_⟩;rw[show s.data.toList.getD (Int.toNat (j:Int)) 0=q from hqe.symm];conv=>whnf
     refine kU [] (oG q) ?_;rintro x rfl;conv=>whnf
     cases hq2:kY q
     ·have h0:jD kW (s.data.toList.drop j)=0:=by rw[hsp,show kW q=false from by simp[kW,hq,hq2]]
      conv=>whnf
      refine⟨jJ (by omega),?_⟩;conv=>whnf
      by_cases hbig:10<jD kW r+1
      ·refine j6 (by simp;omega) ?_;conv=>whnf
       rw[if_pos hbig] at htok;rw[dK htok];rfl
      ·refine jU (by simp;omega) ?_;conv=>whnf
       refine⟨⟨by omega,by omega,by omega⟩,?_⟩;rw[show s.extract (Int.toNat (k:Int)) (Int.toNat (j:Int))=bs ((s.data.toList.drop k).take (jD kW r+1)) from wU s k j _ (by omega) (by omega)];conv=>whnf
       rw[if_neg hbig] at htok;rw[bE htok];rfl
     ·rw[show kW q=true from by simp[kW,hq2]] at hsp;conv=>whnf
      refine⟨jJ (by omega),?_⟩;conv=>whnf
      refine⟨j+1,zW ?_,⟨by omega,by omega,by simp only at hsp;omega⟩,by omega⟩
      repeat' constructor
    ·rw[show kW q=true from by simp[kW,hq]] at hsp;conv=>whnf
     refine⟨jJ (by omega),?_⟩;conv=>whnf
     refine⟨j+1,zW ?_,⟨by omega,by omega,by simp only at hsp;omega⟩,by omega⟩
     repeat' constructor
theorem jeH (s:ByteArray) (hs:s.size<=1000000000):Spec Tryz.prog 44 [] [.v (.string s)] fun _ r=>r=sK s:=by
 have hsl:=zM s
 refine eN jR j5 0 Tryz.func44 rfl ?_;intro _;conv=>whnf
 refine jcz [] rfl (fun _=>jdw s 0 hs (Nat.zero_le _)) ?_;rintro r rfl
 have hk0:=dI false s.data.toList
 rw[List.drop_zero,Nat.zero_add];conv=>whnf
 refine qS 97 4 [5] [] ?_;conv=>whnf
 refine⟨trivial,?_⟩;conv=>whnf
 refine jB [0,5] ?_;conv=>whnf
 refine jH (fun x:Nat × List Tk=>[(6,.v (.int .i64 x.1))]) (fun _=>[]) (fun x=>[.live 97 4 x.2.length (zZ x.2)]) (fun x=>x.1<=s.size/\x.2.length<=x.1/\jlB (s.data.toList.drop x.1)/\Lx.app x.2 (aT x.1 (s.data.toList.drop x.1))=qN s) (fun x=>s.size-x.1)
  (jM false s.data.toList,[]) ?_ ⟨by simp only;omega,by simp,by have:=gI false s.data.toList;simpa using this,by
   have:=jd0 0 s.data.toList
   rw[Nat.zero_add] at this;simp only[Lx.app,List.nil_append,qN]
   rw[this]⟩ ?_
 ·repeat' constructor
 ·rintro⟨p,ts⟩ ⟨hp,hts,hcl,hinv⟩
  simp only at hp hts hcl hinv
  conv=>whnf
  by_cases hlt:p<s.size
  ·refine j6 (by simp;omega) ?_;conv=>whnf
   refine kU [] (jiC s p hs hlt) ?_;rintro r rfl
   have hd:=wX s.data.toList p (by omega)
   generalize s.data.toList[p]'(by omega)=c at *;generalize s.data.toList.drop (p+1)=r at *;rw[hd] at hcl hinv
   cases ht:qA (c :: r) with
   | bad e =>
    rw[dK (e:=e) (by rw[hd];exact ht)];rw[jaZ hcl.1 hcl.2 ht] at hinv
    have hne:=jh1 ht
    conv=>whnf
    refine j6 (by simpa using hne) ?_;conv=>whnf
    rw[jme (ts:=ts++[]) (p:=p) (e:=e) hinv.symm];rfl
   | tok k len n =>
    have hl:=bD ht
    have hrl:(c :: r).length=s.size-p:=by rw[<- hd,List.length_drop,hsl]
    have htx:=aK (c :: r) len hl.2
    rw[bE (k:=p) (kd:=k) (len:=len) (n:=n) (by rw[hd];exact ht),hd];rw[jb2 hcl.1 hcl.2 ht,jac] at hinv;conv=>whnf
    refine⟨⟨by unfold maxLen;simp only;omega,by simp only;omega⟩,?_⟩;conv=>whnf
    rw[htx];refine⟨jJ (by omega),?_⟩;conv=>whnf
    refine kU [] (jdw s (p+len) hs (by omega)) ?_;rintro x rfl
    have hk2:=dI false (s.data.toList.drop (p+len))
    rw[List.length_drop,hsl] at hk2
    have hcl2:=gI false (s.data.toList.drop (p+len))
    have hsk:=jd0 (p+len) (s.data.toList.drop (p+len))
    rw[List.drop_drop] at hcl2 hsk
    have hdl:(c :: r).drop len=s.data.toList.drop (p+len):=by rw[<- hd,List.drop_drop]
    rw[hdl,hsk] at hinv;generalize jM false (s.data.toList.drop (p+len))=q at *;conv=>whnf
    refine⟨(p+len+q,ts++[⟨k,p,bs ((c :: r).take len),n⟩]),zW ?_,⟨by simp only;omega,by simp;omega,hcl2,hinv⟩,by simp only;omega⟩
    repeat' constructor
    ·simp only[List.length_append,List.length_cons,List.length_nil,jkU];rfl
  ·refine jU (by simp;omega) ?_
   obtain rfl:p=s.size:=by omega
   rw[List.drop_of_length_le (by omega),jb0] at hinv;conv=>whnf
   refine⟨⟨by unfold maxLen;simp only;omega,by simp only;omega⟩,?_⟩;conv=>whnf
   have hl:qN s = ⟨ts,none⟩ := by rw[<- hinv];simp[Lx.app]
   rw[jom hl];rfl
end Go.Proofs.YtfbifdccmabdbaaGreatDoor.Vm
namespace Go.Proofs.YtfbifdccmabdbaaGreatDoor.Vm
open Go.RowKit Go.Shelf
theorem jfG {T:List Tk} {i:Nat} (h:i<T.length):hd (T.drop i)=T[i]:=by
 rw[List.drop_eq_getElem_cons h];rfl
theorem jbH (T:List Tk) (i:Nat):(T.drop i).tail=T.drop (i+1):=by rw[List.tail_drop]
theorem jdH:∀ {T:List Tk} {i:Nat},TkW T->i<T.length->TkW (T.drop i)
 | [],i,_,h=>by simp at h
 | t :: T,0,h,_=>h
 | t :: T,i+1,h,hi=>by
  rcases h.2 with ⟨rfl,_⟩ | ⟨_,hw⟩
  ·simp at hi
  ·exact jdH (T:=T) hw (by simpa using hi)
structure Ks (T:List Tk):Prop where
 t:∀ t ∈ T,K6 t
 n:T.length<=1000000
 w:TkW T
theorem Ks.p {T:List Tk} (h:Ks T) {i:Nat} (hi:i<T.length):TkP (T.drop i) :=
 ⟨⟨jdH h.w hi,by rw[List.length_drop];have:=h.n;omega⟩,fun t ht=>jma (h.t t (List.mem_of_mem_drop ht))⟩
theorem Ks.hd {T:List Tk} (h:Ks T) {i:Nat} (hi:i<T.length):K6 (Vm.hd (T.drop i)):=by rw[jfG hi];exact h.t _ (List.getElem_mem hi)
theorem Ks.next {T:List Tk} (h:Ks T) {i:Nat} (hi:i<T.length) (hk:(Vm.hd (T.drop i)).kind ≠ 0):i+1<T.length:=by
 obtain⟨q1,q2⟩ := (h.p hi).tail hk
 have:=q1.pos
 rw[jbH,List.length_drop] at this;omega
theorem xO (T:List Tk) (i:Nat) (h:i<T.length):jC 4 i (zZ T)=cB (hd (T.drop i)):=by
 rw[jfG h];exact xN cB (fun _=>rfl) T i h
structure S6 where
 i:Nat
 a:Int
 e:Int
def wI (T:List Tk) (s:S6):List A:=[.sl 4 T.length (zZ T),.v (.int .i64 s.i),intA s.a,intA s.e]
def qE (T:List Tk) (s:S6):Tk:=hd (T.drop s.i)
def SpecU (f:Nat) (cs args:List A) (post:List A->A->Prop):Prop := ∀ y:Value,eC y->Spec Tryz.prog f [cs++[.v y]] args fun o r => ∃ c,o=[c++[.v y]]/\post c r
theorem SpecU.v {f:Nat} {cs args:List A} {post:List A->A->Prop} (h:SpecU f cs args post):SpecV Tryz.prog f cs args post fun _=>False:=fun y hy=>(h y hy).toP
theorem SpecU.weaken {f:Nat} {cs args:List A} {post post':List A->A->Prop} (h:SpecU f cs args post') (k:∀ c r,post' c r -> ∃ c' r',post c' r'/\c=c'/\Wk r r'):SpecU f cs args post:=fun y hy =>
 Spec.weaken (h y hy) fun o r ⟨c,h1,h2⟩=>by
  obtain⟨c',r',k1,rfl,k3⟩ := k c r h2
  exact⟨o,r',⟨c,h1,k1⟩,.refl _,k3⟩
theorem xT (l:List ByteArray) (s:ByteArray) (hl:l.length<=1000000):Spec Tryz.prog 92 [] [.sl 1 l.length (yP l),.v (.string s)] fun _ r=>r=qR (j9 l s):=by
 refine eN jR j5 0 Tryz.func92 rfl ?_;intro _;conv=>whnf
 refine jB [0,1,4] ?_;conv=>whnf
 refine jH (fun k:Nat=>[(5,.v (.int .i64 k))]) (fun _=>[]) (fun _=>[]) (fun k=>k<=l.length/\j9 (l.take k) s=false) (fun k=>l.length-k) 0 ?_ ⟨Nat.zero_le _,by simp[j9]⟩ ?_
 ·repeat' constructor
 ·rintro k ⟨hk,hn⟩;conv=>whnf
  by_cases hlt:k<l.length
  ·have hrow:=eO l k hlt
   have htk:=sE l s k hlt
   have hin:decide (l[k]=s)=true->j9 l s=true:=fun hq=>List.any_eq_true.2 ⟨l[k],List.getElem_mem hlt,hq⟩
   generalize l[k]=x at *
   (refine fN ?_;try with_reducible exact trivial)
   (generalize hrq:jC _ _ (yP l)=rq;obtain rfl:rq=[jX x]:=hrq.symm.trans (hrow);clear hrq;conv=>whnf)
   cases hq:decide (x=s)
   ·conv=>whnf
    refine⟨jJ (by omega),?_⟩;conv=>whnf
    refine⟨k+1,zW ?_,⟨hlt,by rw[htk,hn,hq];rfl⟩,by omega⟩
    repeat' constructor
   ·conv=>whnf
    rw[hin hq];rfl
  ·obtain rfl:k=l.length:=by omega
   rw[List.take_length] at hn
   (refine fN ?_;try with_reducible exact trivial)
   rw[hn];rfl
theorem bY:Spec Tryz.prog 142 [] [] fun _ r=>r = .sl 1 builtL.length (yP builtL):=by
 refine eN jR j5 0 Tryz.func142 rfl ?_;intro _;conv=>whnf
 rfl
theorem jdT (l:List ByteArray) (t:ByteArray):(l.any fun s=>decide (t=s))=j9 l t:=by
 unfold j9
 congr 1
 funext s
 by_cases h:t=s
 ·rw[jK h,jK h.symm]
 ·rw[jG h,jG (fun e=>h e.symm)]
theorem jch (s:ByteArray):Spec Tryz.prog 128 [] [.v (.string s)] fun _ r=>r=qR ((keyL++builtL).any fun x=>decide (s=x)):=by
 have h1:=xT builtL s (by decide)
 have h2:=xT keyL s (by decide)
 have e:((keyL++builtL).any fun x=>decide (s=x))=(j9 builtL s || j9 keyL s):=by
  rw[jdT];unfold j9;rw[List.any_append,Bool.or_comm]
 rw[e];refine eN jR j5 0 Tryz.func128 rfl ?_;intro _;conv=>whnf
 (refine kU [] bY ?_;rintro r rfl;conv=>whnf)
 (refine kU [] h1 ?_;rintro r rfl;conv=>whnf)
 cases j9 builtL s
 ·conv=>whnf
  refine kU [0] h2 ?_;rintro r rfl;conv=>whnf
  rfl
 ·conv=>whnf
  rfl
theorem xM {T:List Tk} {s:S6} (hi:s.i<T.length):SpecU 45 (wI T s) [.box 0 0] fun c r=>c=wI T s/\r=jX (qE T s).text:=fun y hy=>by
 have hr:=xO T s.i hi
 unfold qE;refine eN jsF j5 1 Tryz.func45 rfl ?_;intro _;generalize hd (T.drop s.i)=t at *;conv=>whnf
 (refine fN ?_;try with_reducible exact trivial)
 (generalize hrq:jC _ _ (zZ T)=rq;obtain rfl:rq=cB t:=hrq.symm.trans (hr);clear hrq;conv=>whnf)
 exact⟨_,rfl,rfl,rfl⟩
def jsO (id:Nat):Tr:=match Nat.beq id 1 with | true => .q 0 3 (.q 1 3 (.q 2 3 (.q 3 0 (.q 4 3 (.q 5 3 (.q 6 3 (.q 7 0 (.q 8 3 (.q 9 3 (.q 10 0 (.q 11 3 (.q 12 3 (.q 13 3 (.q 14 3 (.q 15 3 (.q 16 0 (.q 17 3 (.q 18 3 (.q 19 3 (.q 20 0 (.q 21 3 (.q 22 3 (.q 23 0 (.alt 24 1 (.q 25 3 (.q 26 3 (.q 27 3 (.nil)))) (.nil))))))))))))))))))))))))) | false => .nil
theorem jbo {T:List Tk} {s:S6} (hi:s.i<T.length):SpecU 90 (wI T s) [.box 0 0] fun c r=>c=wI T s/\r=qR (wV (T.drop s.i)):=fun y hy=>by
 have hr:=xO T s.i hi
 unfold wV;generalize hd (T.drop s.i)=t at *
 have hrs:=jch t.text
 generalize ((keyL++builtL).any fun x=>decide (t.text=x))=q at *;refine eN jsO j5 1 Tryz.func90 rfl ?_;intro _;conv=>whnf
 (refine fN ?_;try with_reducible exact trivial)
 (generalize hrq:jC _ _ (zZ T)=rq;obtain rfl:rq=cB t:=hrq.symm.trans (hr);clear hrq;conv=>whnf)
 by_cases hk:t.kind=1
 ·rw[jK hk];conv=>whnf
  (refine fN ?_;try with_reducible exact trivial)
  (generalize hrq:jC _ _ (zZ T)=rq;obtain rfl:rq=cB t:=hrq.symm.trans (hr);clear hrq;conv=>whnf)
  refine kU [] hrs ?_;rintro r rfl;conv=>whnf
  exact⟨_,rfl,rfl,rfl⟩
 ·rw[jG hk];conv=>whnf
  exact⟨_,rfl,rfl,rfl⟩
def stF (T:List Tk) (s:S6) (x:Int) (k:Nat):S6:=if s.e=0 then ⟨s.i,(hd (T.drop k)).pos,x⟩ else s
theorem nI {T:List Tk} {s:S6} (k:Nat) (hk:k<T.length) (x:Int):SpecU 91 (wI T s) [.box 0 0,intA x,.v (.int .i64 k)] fun c r=>c=wI T (stF T s x k)/\r = .tup []:=fun y hy=>by
 have hr:=xO T k hk
 unfold stF;generalize hd (T.drop k)=t at *;refine eN jR j5 1 Tryz.func91 rfl ?_;intro _;conv=>whnf
 by_cases h0:s.e=0
 ·rw[jK h0,if_pos h0];conv=>whnf
  (refine fN ?_;try with_reducible exact trivial)
  (generalize hrq:jC _ _ (zZ T)=rq;obtain rfl:rq=cB t:=hrq.symm.trans (hr);clear hrq;conv=>whnf)
  exact⟨_,rfl,rfl,rfl⟩
 ·rw[jG h0,if_neg h0];conv=>whnf
  exact⟨_,rfl,rfl,rfl⟩
def y8 (T:List Tk) (s:S6):S6:=if s.i+1<T.length then ⟨s.i+1,s.a,s.e⟩ else s
theorem nK {T:List Tk} (hT:Ks T) {s:S6} (hi:s.i<T.length):SpecU 89 (wI T s) [.box 0 0] fun c r=>c=wI T (y8 T s)/\r = .tup []:=fun y hy=>by
 have hn:=hT.n
 unfold y8;refine eN jsK j5 1 Tryz.func89 rfl ?_;intro _;conv=>whnf
 by_cases h:s.i+1<T.length
 ·rw[if_pos h]
  (refine fN ?_;try with_reducible exact trivial)
  exact⟨_,rfl,rfl,rfl⟩
 ·rw[if_neg h]
  (refine fN ?_;try with_reducible exact trivial)
  exact⟨_,rfl,rfl,rfl⟩
def bK (T:List Tk) (s:S6) (w:ByteArray):S6:=if s.e=0 then (if (qE T s).text=w then y8 T s else ⟨s.i,(qE T s).pos,10⟩) else s
theorem qK {T:List Tk} (hT:Ks T) {s:S6} (hi:s.i<T.length) (w:ByteArray):SpecU 47 (wI T s) [.box 0 0,jX w] fun c r=>c=wI T (bK T s w)/\r = .tup []:=fun y hy=>by
 have hnx:=xM hi y hy
 have hfl:=nI s.i hi 10 (s:=s) y hy
 have htk:=nK hT hi y hy
 unfold bK;refine eN jR j5 1 Tryz.func47 rfl ?_;intro _;conv=>whnf
 by_cases h0:s.e=0
 ·rw[jK h0,if_pos h0];conv=>whnf
  refine jS 0 [] hnx ?_;rintro o r ⟨c,ho,rfl,rfl⟩;cases ho
  by_cases hw:(qE T s).text=w
  ·rw[if_pos hw];conv=>whnf
   rw[jK hw];conv=>whnf
   rw[jK h0];conv=>whnf
   refine jS 0 [] htk ?_;rintro o r ⟨c,ho,rfl,rfl⟩;cases ho;conv=>whnf
   exact⟨_,rfl,rfl,rfl⟩
  ·rw[if_neg hw];unfold stF at hfl;rw[if_pos h0] at hfl;conv=>whnf
   rw[jG hw];conv=>whnf
   refine jS 0 [] hfl ?_;rintro o r ⟨c,ho,rfl,rfl⟩;cases ho;conv=>whnf
   exact⟨_,rfl,rfl,rfl⟩
 ·rw[jG h0,if_neg h0];conv=>whnf
  rw[jG h0];conv=>whnf
  exact⟨_,rfl,rfl,rfl⟩
def rQ (T:List Tk) (s:S6) (w:ByteArray) (lv:Int):S6:=if s.e=0/\(qE T s).text=w/\20<lv then ⟨s.i,(qE T s).pos,2⟩ else bK T s w
theorem jeF {T:List Tk} (hT:Ks T) {s:S6} (hi:s.i<T.length) (w:ByteArray) (lv:Int):SpecU 94 (wI T s) [.box 0 0,jX w,intA lv] fun c r=>c=wI T (rQ T s w lv)/\r = .tup []:=fun y hy=>by
 have hnx:=xM hi y hy
 have hfl:=nI s.i hi 2 (s:=s) y hy
 have hxp:=qK hT hi w y hy
 have hxq:s.e=0->Spec Tryz.prog 47 [wI T ⟨s.i,(qE T s).pos,2⟩ ++ [.v y]] [.box 0 0,jX w] fun o r => ∃ c,o=[c++[.v y]]/\c=wI T ⟨s.i,(qE T s).pos,2⟩ /\ r = .tup []:=fun h0=>by
  have:=qK hT (s:=⟨s.i,(qE T s).pos,2⟩) hi w y hy
  rw[show bK T ⟨s.i,(qE T s).pos,2⟩ w = ⟨s.i,(qE T s).pos,2⟩ from if_neg (show ¬ (2:Int)=0 by decide)] at this;exact this
 unfold rQ;refine eN jR j5 1 Tryz.func94 rfl ?_;intro _;conv=>whnf
 by_cases h0:s.e=0
 ·rw[jK h0];conv=>whnf
  refine jS 0 [] hnx ?_;rintro o r ⟨c,ho,rfl,rfl⟩;cases ho
  by_cases hw:(qE T s).text=w
  ·conv=>whnf
   rw[jK hw];conv=>whnf
   by_cases hl:20<lv
   ·rw[if_pos ⟨h0,hw,hl⟩];unfold stF at hfl;rw[if_pos h0] at hfl;rw[jK hl];conv=>whnf
    refine jS 0 [] hfl ?_;rintro o r ⟨c,ho,rfl,rfl⟩;cases ho;conv=>whnf
    refine jS 0 [] (hxq h0) ?_;rintro o r ⟨c,ho,rfl,rfl⟩;cases ho;conv=>whnf
    exact⟨_,rfl,rfl,rfl⟩
   ·rw[if_neg (fun h=>hl h.2.2)];rw[jG hl];conv=>whnf
    refine jS 0 [] hxp ?_;rintro o r ⟨c,ho,rfl,rfl⟩;cases ho;conv=>whnf
    exact⟨_,rfl,rfl,rfl⟩
  ·rw[if_neg (fun h=>hw h.2.1)];conv=>whnf
   rw[jG hw];conv=>whnf
   refine jS 0 [] hxp ?_;rintro o r ⟨c,ho,rfl,rfl⟩;cases ho;conv=>whnf
   exact⟨_,rfl,rfl,rfl⟩
 ·rw[jG h0,if_neg (fun h=>h0 h.1)];conv=>whnf
  refine jS 0 [] hxp ?_;rintro o r ⟨c,ho,rfl,rfl⟩;cases ho;conv=>whnf
  exact⟨_,rfl,rfl,rfl⟩
def mB (T:List Tk) (s:S6) (m:Int):S6:=if s.e=0 then (if (qE T s).kind ≠ 2 then ⟨s.i,(qE T s).pos,10⟩ else if m<(qE T s).n then ⟨s.i,(qE T s).pos,6⟩ else y8 T s) else s
def vaN (T:List Tk) (s:S6) (m:Int):Int:=if s.e=0/\(qE T s).kind=2/\(qE T s).n<=m then (qE T s).n else 0
theorem jgw {T:List Tk} (hT:Ks T) {s:S6} (hi:s.i<T.length) (m:Int):SpecU 93 (wI T s) [.box 0 0,intA m] fun c r=>c=wI T (mB T s m)/\r=intA (vaN T s m):=fun y hy=>by
 have hr:=xO T s.i hi
 have hf1:=nI s.i hi 10 (s:=s) y hy
 have hf2:=nI s.i hi 6 (s:=s) y hy
 have htk:=nK hT hi y hy
 have hgd:=(hT.p hi).good
 unfold stF at hf1 hf2;unfold mB vaN
 change jC 4 s.i (zZ T)=cB (qE T s) at hr
 change s8 (qE T s) at hgd
 change Spec _ _ _ _ (fun o r => ∃ c,o=[c++[.v y]]/\c=wI T (if s.e=0 then ⟨s.i,(qE T s).pos,10⟩ else s)/\r = .tup []) at hf1
 change Spec _ _ _ _ (fun o r => ∃ c,o=[c++[.v y]]/\c=wI T (if s.e=0 then ⟨s.i,(qE T s).pos,6⟩ else s)/\r = .tup []) at hf2
 generalize qE T s=t at *;refine eN jsL j5 1 Tryz.func93 rfl ?_;intro _;conv=>whnf
 (refine fN ?_;try with_reducible exact trivial)
 (generalize hrq:jC _ _ (zZ T)=rq;obtain rfl:rq=cB t:=hrq.symm.trans (hr);clear hrq;conv=>whnf)
 by_cases hk:t.kind=2
 ·rw[jK hk];conv=>whnf
  by_cases hm:m<t.n
  ·rw[jK hm];conv=>whnf
   refine jS 0 [] hf2 ?_;rintro o r ⟨c,ho,rfl,rfl⟩;cases ho
   by_cases h0:s.e=0
   ·rw[if_pos h0,if_pos h0,if_neg (by rw[hk];simp),if_pos hm,if_neg (fun h=>by omega)];conv=>whnf
    exact⟨_,rfl,rfl,rfl⟩
   ·rw[if_neg h0,if_neg h0,if_neg (fun h=>h0 h.1)];conv=>whnf
    rw[jG h0];conv=>whnf
    exact⟨_,rfl,rfl,rfl⟩
  ·rw[jG hm];conv=>whnf
   by_cases h0:s.e=0
   ·rw[jK h0,if_pos h0,if_neg (by rw[hk];simp),if_neg hm,if_pos ⟨h0,hk,by omega⟩];conv=>whnf
    refine jS 0 [] htk ?_;rintro o r ⟨c,ho,rfl,rfl⟩;cases ho;conv=>whnf
    exact⟨_,rfl,rfl,rfl⟩
   ·rw[jG h0,if_neg h0,if_neg (fun h=>h0 h.1)];conv=>whnf
    exact⟨_,rfl,rfl,rfl⟩
 ·rw[jG hk];conv=>whnf
  refine jS 0 [] hf1 ?_;rintro o r ⟨c,ho,rfl,rfl⟩;cases ho
  by_cases h0:s.e=0
  ·rw[if_pos h0,if_pos h0,if_pos hk,if_neg (fun h=>hk h.2.1)];conv=>whnf
   exact⟨_,rfl,rfl,rfl⟩
  ·rw[if_neg h0,if_neg h0,if_neg (fun h=>h0 h.1)];conv=>whnf
   rw[jG h0];conv=>whnf
   exact⟨_,rfl,rfl,rfl⟩
section
def Ws6 (s:ByteArray):Prop := ∃ c r,s.data.toList=c :: r/\kY c=false
theorem xK {c:UInt8} {r:List UInt8} (h:kY c=false):Ws6 ⟨(c :: r).toArray⟩ := ⟨c,r,rfl,h⟩
theorem jqK {s:ByteArray} {ts:List Tk} (hs:Ws6 s) (ht:K6 (hd ts)):zK s ts=decide ((hd ts).text=s):=by
 obtain⟨c,r,hs,hc⟩ := hs
 unfold zK
 by_cases h:(hd ts).text=s
 ·rw[jK h]
  rcases ht with ⟨h1,_⟩ | ⟨h1,_⟩ | ⟨_,h1⟩ | ⟨_,d,r',h2,h3⟩
  ·rw[jK h1];rfl
  ·rw[jK h1];simp
  ·rw[h,hs] at h1;exact absurd h1 (by simp)
  ·rw[h,hs] at h2
   cases h2
   rw[hc] at h3;cases h3
 ·rw[jG h];rfl
theorem q9 {T:List Tk} (hT:Ks T) {s:S6} (hi:s.i<T.length) {w:ByteArray} (hw:Ws6 w):zK w (T.drop s.i)=decide ((qE T s).text=w):=jqK hw (hT.hd hi)
theorem jiT {T:List Tk} (hT:Ks T) {s:S6} (hi:s.i<T.length):∀ {l:List ByteArray},(∀ w ∈ l,Ws6 w)->cE l (T.drop s.i)=j9 l (qE T s).text
 | [],_=>rfl
 | w :: l,h=>by
  unfold cE j9;rw[List.any_cons,List.any_cons,q9 hT hi (h w List.mem_cons_self)]
  have ih:=jiT hT hi (l:=l) fun x hx=>h x (List.mem_cons_of_mem _ hx)
  unfold cE j9 at ih;rw[ih]
  congr 1
  by_cases e:(qE T s).text=w
  ·rw[jK e,jK e.symm]
  ·rw[jG e,jG (fun h=>e h.symm)]
def Dq (T:List Tk) (s s':S6) (P:Pn) (f:Nt):Prop:=s'.i<T.length/\(s.e ≠ 0->s'.a=s.a/\s'.e=s.e)/\(s.e=0->match P with
 | .ok g r=>s'.e=0/\s'.a=s.a/\f=g/\T.drop s'.i=r
 | .bad x e=>e ≠ 0/\s'.e=e/\s'.a=x)
variable {T:List Tk}
theorem zG {s s1 s2:S6} {P1:Pn} {K:Nt->List Tk->Pn} {f1 f2:Nt} (h1:Dq T s s1 P1 f1) (h2:Dq T s1 s2 (K f1 (T.drop s1.i)) f2):Dq T s s2 (P1.andThen K) f2:=by
 obtain⟨a1,a2,a3⟩ := h1
 obtain⟨b1,b2,b3⟩ := h2
 refine⟨b1,fun h => ?_,fun h => ?_⟩
 ·obtain⟨q1,q2⟩ := a2 h
  obtain⟨q3,q4⟩ := b2 (by rw[q2];exact h)
  exact⟨q3.trans q1,q4.trans q2⟩
 ·have a3:=a3 h
  cases P1 with
  | ok g r =>
   obtain⟨q1,q2,rfl,rfl⟩ := a3
   have b3:=b3 q1
   show match K f1 (T.drop s1.i) with | .ok g r=>_ | .bad x e=>_
   cases hK:K f1 (T.drop s1.i) with
   | ok g2 r2 =>
    rw[hK] at b3;exact⟨b3.1,b3.2.1.trans q2,b3.2.2.1,b3.2.2.2⟩
   | bad x e=>rw[hK] at b3;exact b3
  | bad x e =>
   obtain⟨q1,q2,q3⟩ := a3
   obtain⟨q4,q5⟩ := b2 (by rw[q2];exact q1)
   exact⟨q1,q5.trans q2,q4.trans q3⟩
theorem wZ {s:S6} (hi:s.i<T.length) (f:Nt):Dq T s s (.ok f (T.drop s.i)) f:=⟨hi,fun _=>⟨rfl,rfl⟩,fun h=>⟨h,rfl,rfl,rfl⟩⟩
theorem r6 {s s':S6} (hi:s'.i<T.length) (h:s.e ≠ 0) (ha:s'.a=s.a) (he:s'.e=s.e) (P:Pn) (f:Nt):Dq T s s' P f:=⟨hi,fun _=>⟨ha,he⟩,fun h0=>absurd h0 h⟩
theorem jlL {s s':S6} (hi:s'.i<T.length) (h:s.e=0) {x e:Int} (he:e ≠ 0) (h1:s'.e=e) (h2:s'.a=x) (f:Nt):Dq T s s' (.bad x e) f:=⟨hi,fun h0=>absurd h h0,fun _=>⟨he,h1,h2⟩⟩
theorem je8 {s s1 s2:S6} {P P1:Pn} {f:Nt} (h2:Dq T s1 s2 P1 f) (hn:s.e ≠ 0->s1=s) (ho:s.e=0->(s1.e=0/\s1.a=s.a/\P=P1) ∨ (s1.e ≠ 0/\P = .bad s1.a s1.e)):Dq T s s2 P f:=by
 obtain⟨b1,b2,b3⟩ := h2
 refine⟨b1,fun h => ?_,fun h => ?_⟩
 ·have:=hn h
  subst this;exact b2 h
 ·rcases ho h with ⟨q1,q2,rfl⟩ | ⟨q1,rfl⟩
  ·have b3:=b3 q1
   cases P with
   | ok g r=>exact⟨b3.1,b3.2.1.trans q2,b3.2.2.1,b3.2.2.2⟩
   | bad x e=>exact b3
  ·obtain⟨q4,q5⟩ := b2 q1
   exact⟨q1,q5,q4⟩
theorem bA (hT:Ks T) {s:S6} (hi:s.i<T.length) (hk:(qE T s).kind ≠ 0):y8 T s = ⟨s.i+1,s.a,s.e⟩ := by
 unfold y8;rw[if_pos (hT.next hi hk)]
theorem nD {s:S6} (hi:s.i<T.length):(y8 T s).i<T.length:=by
 unfold y8
 split
 ·assumption
 ·exact hi
theorem xX (s:S6):(y8 T s).e=s.e/\(y8 T s).a=s.a:=by
 unfold y8
 split <;> exact⟨rfl,rfl⟩
theorem vO {s:S6} (hi:s.i<T.length) (w:ByteArray):(bK T s w).i<T.length:=by
 unfold bK
 split
 ·split
  ·exact nD hi
  ·exact hi
 ·exact hi
theorem jgT {s:S6} (hi:s.i<T.length) (w:ByteArray) (lv:Int):(rQ T s w lv).i<T.length:=by
 unfold rQ
 split
 ·exact hi
 ·exact vO hi w
theorem mU {s:S6} (hi:s.i<T.length) (m:Int):(mB T s m).i<T.length:=by
 unfold mB
 split
 ·split
  ·exact hi
  ·split
   ·exact hi
   ·exact nD hi
 ·exact hi
theorem xY (hT:Ks T) {s:S6} (hi:s.i<T.length) {w:ByteArray} (hw:Ws6 w) (h:(qE T s).text=w):(qE T s).kind ≠ 0 :=
 yM (ts:=T.drop s.i) (s:=w) (by rw[q9 hT hi hw,h];simp)
theorem zC (hT:Ks T) {s:S6} (hi:s.i<T.length) (hk:(qE T s).kind ≠ 0):T.drop (y8 T s).i=(T.drop s.i).tail:=by
 rw[bA hT hi hk,jbH]
theorem yA (hT:Ks T) {s s2:S6} (hi:s.i<T.length) {w:ByteArray} (hw:Ws6 w) {K:List Tk->Pn} {f:Nt} (h2:Dq T (bK T s w) s2 (K (T.drop (bK T s w).i)) f):Dq T s s2 (xpt w (T.drop s.i) K) f:=by
 refine je8 h2 (fun h=>by unfold bK;rw[if_neg h]) fun h => ?_
 unfold xpt;rw[q9 hT hi hw];unfold bK;rw[if_pos h]
 by_cases e:(qE T s).text=w
 ·left
  rw[if_pos e,if_pos (jK e),zC hT hi (xY hT hi hw e)];exact⟨by rw[(xX s).1];exact h,(xX s).2,rfl⟩
 ·right
  rw[if_neg e,if_neg (by rw[jG e];simp)];exact⟨show (10:Int) ≠ 0 by decide,rfl⟩
theorem jlM (hT:Ks T) {s s2:S6} (hi:s.i<T.length) {m:Int} {K:Int->List Tk->Pn} {f:Nt} (h2:Dq T (mB T s m) s2 (K (vaN T s m) (T.drop (mB T s m).i)) f):Dq T s s2 (aU (m+1) (T.drop s.i) K) f:=by
 refine je8 h2 (fun h=>by unfold mB;rw[if_neg h]) fun h => ?_
 have hX:aU (m+1) (T.drop s.i) K=(if (qE T s).kind ≠ 2 then Pn.bad (qE T s).pos 10 else if m+1<=(qE T s).n then .bad (qE T s).pos 6 else K (qE T s).n (T.drop s.i).tail):=rfl
 rw[hX]
 by_cases hk:(qE T s).kind=2
 ·have hk' : ¬ (qE T s).kind ≠ 2:=fun h=>h hk
  by_cases hm:m<(qE T s).n
  ·right
   have e1:mB T s m = ⟨s.i,(qE T s).pos,6⟩ := by unfold mB;rw[if_pos h,if_neg hk',if_pos hm]
   rw[e1,if_neg hk',if_pos (by omega)];exact⟨show (6:Int) ≠ 0 by decide,rfl⟩
  ·left
   have e1:mB T s m=y8 T s:=by unfold mB;rw[if_pos h,if_neg hk',if_neg hm]
   have e2:vaN T s m=(qE T s).n:=by unfold vaN;rw[if_pos ⟨h,hk,by omega⟩]
   rw[e1,e2,if_neg hk',if_neg (by omega),zC hT hi (by rw[hk];decide)];exact⟨by rw[(xX s).1];exact h,(xX s).2,rfl⟩
 ·right
  have e1:mB T s m = ⟨s.i,(qE T s).pos,10⟩ := by unfold mB;rw[if_pos h,if_pos hk]
  rw[e1,if_pos hk];exact⟨show (10:Int) ≠ 0 by decide,rfl⟩
def RU (T:List Tk) (s:S6) (op:List Tk->Pn) (c:List A) (r:A):Prop := ∃ s' f,Dq T s s' (op (T.drop s.i)) f/\c=wI T s'/\r = .agg (ntA f)
def RW (T:List Tk) (s:S6) (op:List Tk->Pn) (c:List A) (r:A):Prop := ∃ s' f l,Dq T s s' (op (T.drop s.i)) f/\c=wI T s'/\r = .agg l/\WkL l (ntA f)
theorem jjK {g:Nat} {cs args:List A} {s:S6} {op:List Tk->Pn} (h:SpecU g cs args (RW T s op)):SpecU g cs args (RU T s op) :=
 h.weaken fun c r ⟨s',f,l,h1,h2,h3,h4⟩=>⟨c,.agg (ntA f),⟨s',f,h1,h2,rfl⟩,rfl,by rw[h3];exact .agg h4⟩
def nN (T:List Tk) (lv prec:Int) (op:List Tk->Pn):Prop := ∀ s:S6,s.i<T.length->SpecU 129 (wI T s) [.box 0 0,intA lv,intA prec] (RU T s op)
def tB (T:List Tk) (g:Nat) (lv:Int) (op:List Tk->Pn):Prop := ∀ s:S6,s.i<T.length->SpecU g (wI T s) [.box 0 0,intA lv] (RU T s op)
theorem jpc {lv prec:Int} {s:S6} (hi:s.i<T.length) (he:s.e ≠ 0) (op:List Tk->Pn):SpecU 129 (wI T s) [.box 0 0,intA lv,intA prec] (RU T s op):=jjK fun y hy=>by
 refine eN jR j5 1 Tryz.func129 rfl ?_;intro _;conv=>whnf
 rw[jG he];conv=>whnf
 exact⟨_,rfl,s,.mk 0 0 eB [],_,r6 hi he rfl rfl _ _,rfl,rfl,j8 (f := .mk 0 0 eB []) rfl⟩
end
section
def opx (sel:Pa->List Tk->Pn):Option Pa->List Tk->Pn
 | none=>fun _ => .bad 0 1
 | some p=>sel p
def LowR6 (T:List Tk) (lv:Int) (low:Option Pa):Prop:=0<=lv/\((low=none/\lv=20) ∨ ∃ p,low=some p/\lv+1<=20 ∧
 nN T (lv+1) 3 p.no/\nN T (lv+1) 7 p.un/\nN T (lv+1) 1 p.ex/\tB T 49 (lv+1) p.bl)
theorem LowR6.le {T:List Tk} {lv:Int} {low:Option Pa} (h:LowR6 T lv low):0<=lv/\lv<=20:=by
 obtain⟨h0,⟨_,rfl⟩ | ⟨_,_,h,_⟩⟩ := h
 ·omega
 ·omega
variable {T:List Tk}
theorem jiA {s:S6} {w:ByteArray} {lv:Int} (h:lv<=20):rQ T s w lv=bK T s w:=by
 unfold rQ;rw[if_neg (fun k=>by omega)]
theorem jbA (s:S6) (w:ByteArray):(rQ T s w 21).e ≠ 0:=by
 unfold rQ
 by_cases h:s.e=0/\(qE T s).text=w/\(20:Int)<21
 ·rw[if_pos h];exact show (2:Int) ≠ 0 by decide
 ·rw[if_neg h];unfold bK
  by_cases h0:s.e=0
  ·rw[if_pos h0,if_neg (fun e=>h ⟨h0,e,by decide⟩)]
   exact show (10:Int) ≠ 0 by decide
  ·rw[if_neg h0];exact h0
theorem jpx {lv prec:Int} {low:Option Pa} {sel:Pa->List Tk->Pn} (hlo:LowR6 T lv low) (hsel:∀ p,low=some p->nN T (lv+1) prec (sel p)) (s:S6) (hi:s.i<T.length) (w:ByteArray) :
  SpecU 129 (wI T (rQ T s w (lv+1))) [.box 0 0,intA (lv+1),intA prec] (RU T (rQ T s w (lv+1)) (opx sel low)):=by
 obtain⟨h0,⟨rfl,rfl⟩ | ⟨p,rfl,hle,_⟩⟩ := hlo
 ·exact jpc (jgT hi w _) (jbA s w) _
 ·exact hsel p rfl _ (jgT hi w _)
theorem mC {s:S6} (h:s.e ≠ 0) (w:ByteArray):bK T s w=s:=by unfold bK;rw[if_neg h]
theorem je6 (hT:Ks T) {s s2 s3:S6} (hi:s.i<T.length) {w:ByteArray} (hw:Ws6 w) {P:Pn} {f:Nt} (h2:Dq T (rQ T s w 21) s2 P f) (hs:s3.i<T.length/\(s2.e ≠ 0->s3.a=s2.a/\s3.e=s2.e)) (g:Nt) :
  Dq T s s3 (if zK w (T.drop s.i)=true then .bad (hd (T.drop s.i)).pos 2 else synE (T.drop s.i)) g:=by
 have hd:=jbA (T:=T) s w
 obtain⟨q1,q2⟩ := h2.2.1 hd
 obtain⟨q3,q4⟩ := hs.2 (by rw[q2];exact hd)
 refine⟨hs.1,fun h => ?_,fun h => ?_⟩
 ·have:rQ T s w 21=s:=by
   unfold rQ;rw[if_neg (fun k=>h k.1),mC h]
  rw[this] at q1 q2;exact⟨q3.trans q1,q4.trans q2⟩
 ·rw[q9 hT hi hw]
  by_cases e:(qE T s).text=w
  ·rw[if_pos (jK e)]
   have:rQ T s w 21 = ⟨s.i,(qE T s).pos,2⟩ := by unfold rQ;rw[if_pos ⟨h,e,by decide⟩]
   rw[this] at q1 q2;exact⟨by decide,q4.trans q2,q3.trans q1⟩
  ·rw[if_neg (by rw[jG e];simp)]
   have:rQ T s w 21 = ⟨s.i,(qE T s).pos,10⟩ := by
    unfold rQ bK;rw[if_neg (fun k=>e k.2.1),if_pos h,if_neg e]
   rw[this] at q1 q2;exact⟨by decide,q4.trans q2,q3.trans q1⟩
theorem jor (hT:Ks T) {lv:Int} {low:Option Pa} (hlo:LowR6 T lv low) {s s2:S6} (hi:s.i<T.length) {f:Nt} (h2:Dq T (rQ T s pLp (lv+1)) s2 (opx (·.ex) low (T.drop (rQ T s pLp (lv+1)).i)) f) :
  Dq T s (bK T s2 pRp) (cT low (T.drop s.i)) f:=by
 have hi2:=h2.1
 obtain⟨h0,⟨rfl,rfl⟩ | ⟨p,rfl,hle,_⟩⟩ := hlo
 ·exact je6 hT hi (xK (by decide)) h2 ⟨vO hi2 _,fun h=>by rw[mC h];exact⟨rfl,rfl⟩⟩ f
 ·rw[jiA (by omega)] at h2;exact yA hT hi (xK (by decide)) (K:=fun r=>(p.ex r).andThen fun n r=>xpt pRp r fun r' => .ok n r') (zG h2 (yA hT hi2 (xK (by decide)) (wZ (vO hi2 _) f)))
theorem jra (hT:Ks T) {lv:Int} {low:Option Pa} (hlo:LowR6 T lv low) {sel:Pa->List Tk->Pn} {s s2:S6} (hi:s.i<T.length) {w:ByteArray} (hw:Ws6 w) (htx:s.e=0->(qE T s).text=w) {f:Nt} (h2:Dq T (rQ T s w (lv+1)) s2 (opx sel low (T.drop (rQ T s w (lv+1)).i)) f) :
  Dq T s s2 (uD w (low.map sel) (T.drop s.i)) (.mk 17 0 w [f]):=by
 by_cases he:s.e=0
 ·have hp:zK w (T.drop s.i)=true:=by rw[q9 hT hi hw];exact jK (htx he)
  obtain⟨h0,⟨rfl,rfl⟩ | ⟨p,rfl,hle,_⟩⟩ := hlo
  ·have:=je6 hT hi hw h2 ⟨h2.1,fun _=>⟨rfl,rfl⟩⟩ (.mk 17 0 w [f])
   rw[if_pos hp] at this;exact this
  ·rw[jiA (by omega)] at h2
   have:=yA hT hi hw (K:=fun r=>(sel p r).andThen fun n r => .ok (.mk 17 0 w [n]) r) (zG h2 (wZ h2.1 (.mk 17 0 w [f])))
   unfold xpt at this;rw[if_pos hp] at this;exact this
 ·have hs:rQ T s w (lv+1)=s:=by
   unfold rQ;rw[if_neg (fun k=>he k.1),mC he]
  rw[hs] at h2
  obtain⟨q1,q2⟩ := h2.2.1 he
  exact r6 h2.1 he q1 q2 _ _
theorem joL {lv:Int} {low:Option Pa} (hT:Ks T) (hlo:LowR6 T lv low):tB T 167 lv (cT low):=fun s hi y hy=>by
 have hle:=hlo.le
 have hop:=jeF hT hi pLp (lv+1) y hy
 have hx:=jpx hlo (sel:=(·.ex)) (prec:=1) (fun p hp=>by
  obtain⟨_,⟨h,_⟩ | ⟨q,hq,_,_,_,h,_⟩⟩ := hlo
  ·rw[h] at hp;cases hp
  ·rw[hq] at hp;cases hp;exact h) s hi pLp y hy
 have hdq:=fun s2 f=>jor hT hlo (s:=s) (s2:=s2) (f:=f) hi
 have hi1:=jgT hi pLp (lv+1)
 generalize rQ T s pLp (lv+1)=s1 at *;refine eN jR j5 1 Tryz.func167 rfl ?_;intro _;conv=>whnf
 refine⟨jJ (by omega),?_⟩;conv=>whnf
 refine jS 0 [] hop ?_;rintro o r ⟨c,ho,rfl,rfl⟩;cases ho;conv=>whnf
 refine⟨jJ (by omega),?_⟩;conv=>whnf
 refine jS 0 [] hx ?_;rintro o r ⟨c,ho,s2,f,hq,rfl,rfl⟩;cases ho
 have hxp:=qK hT hq.1 pRp y hy
 conv=>whnf
 refine jS 0 [] hxp ?_;rintro o r ⟨c,ho,rfl,rfl⟩;cases ho;conv=>whnf
 exact⟨_,rfl,_,f,hdq _ _ hq,rfl,rfl⟩
theorem jmV {lv prec:Int} {low:Option Pa} (hT:Ks T) (hlo:LowR6 T lv low) {sel:Pa->List Tk->Pn} (hsel:∀ p,low=some p->nN T (lv+1) prec (sel p)) {w:ByteArray} (hw:Ws6 w) (s:S6) (hi:s.i<T.length) (htx:s.e=0->(qE T s).text=w) :
  SpecU 143 (wI T s) [.box 0 0,jX w,intA lv,intA prec] (RU T s (uD w (low.map sel))):=fun y hy=>by
 have hle:=hlo.le
 have hop:=jeF hT hi w (lv+1) y hy
 have hx:=jpx hlo hsel s hi w y hy
 have hdq:=fun s2 f=>jra hT hlo (sel:=sel) (s:=s) (s2:=s2) (f:=f) hi hw htx
 have hi1:=jgT hi w (lv+1)
 generalize rQ T s w (lv+1)=s1 at *;refine eN jR j5 1 Tryz.func143 rfl ?_;intro _;conv=>whnf
 refine⟨jJ (by omega),?_⟩;conv=>whnf
 refine jS 0 [] hop ?_;rintro o r ⟨c,ho,rfl,rfl⟩;cases ho;conv=>whnf
 refine⟨jJ (by omega),?_⟩;conv=>whnf
 refine jS 0 [] hx ?_;rintro o r ⟨c,ho,s2,f,hq,rfl,rfl⟩;cases ho;conv=>whnf
 exact⟨_,rfl,_,.mk 17 0 w [f],hdq _ _ hq,rfl,by rw[kZ];rfl⟩
end
section
variable {T:List Tk}
theorem pU (hT:Ks T) {s s2:S6} (hi:s.i<T.length) (h0:s.e=0) (hk:(qE T s).kind ≠ 0) {P:List Tk->Pn} {f:Nt} (h2:Dq T (y8 T s) s2 (P (T.drop (y8 T s).i)) f):Dq T s s2 (P (T.drop s.i).tail) f :=
 je8 h2 (fun h=>absurd h0 h) fun _ => .inl ⟨by rw[(xX s).1];exact h0,(xX s).2,by rw[zC hT hi hk]⟩
theorem jo4 (hT:Ks T) {s:S6} (hi:s.i<T.length) (h0:s.e=0) (hk:(qE T s).kind ≠ 0) (f:Nt):Dq T s (y8 T s) (.ok f (T.drop s.i).tail) f :=
 pU hT hi h0 hk (P:=fun r => .ok f r) (wZ (nD hi) f)
def jhp (k:Nat) (op:List Tk->Pn) (signs:List ByteArray) (ts:List Tk):Pn:=(op ts).andThen fun f r=>xB op signs (if k=4 then 1 else r.length) f r
def opsA:List A:=[.v (.slice none 0 0),.sl 1 1 [jX pOr],.sl 1 1 [jX vI],.v (.slice none 0 0),.sl 1 6 [jX pLt,jX pLe,jX pGt,jX pGe,jX jmB,jX pNe],.sl 1 2 [jX cZ,jX pMinus],.sl 1 2 [jX vU,jX yB]]
def jl2 (T:List Tk) (lv:Int) (k:Nat) (op:List Tk->Pn):Prop := ∀ s:S6,s.i<T.length->SpecU 144 (wI T s) [.box 0 0,intA lv,.v (.int .i64 k)] (RU T s op)
theorem jly {op:List Tk->Pn} {signs:List ByteArray} {n:Nat} {l:Nt} {ts:List Tk} (h:cE signs ts=false):xB op signs n l ts = .ok l ts:=by
 cases n with
 | zero=>rfl
 | succ m=>rw[xB,if_neg (by rw[h];simp)]
def jsM (id:Nat):Tr:=match Nat.beq id 3 with
 | true => .q 0 3 (.q 1 3 (.q 2 3 (.q 3 0 (.q 4 3 (.q 5 3 (.q 6 3 (.q 7 3 (.q 8 3 (.q 10 3 (.alt 9 2 (.alt 11 2 (.alt 12 2 (.q 13 3 .nil) .nil) .nil) (.alt 11 2 (.alt 9 2 (.alt 12 2 (.q 13 3 .nil) .nil) .nil) .nil)))))))))))
 | false => .nil
theorem rL {lv:Int} (hT:Ks T) (k:Nat) (hk6:k<=6) {signs:List ByteArray} {op:List Tk->Pn} (hlen:signs.length<=10) (hrow:jC 1 k opsA=[.sl 1 signs.length (yP signs)]) (hsg:∀ w ∈ signs,Ws6 w) (hx:nN T lv (k+1) op) (hgo:qQ op):jl2 T lv k (jhp k op signs):=fun s0 hi0 y hy=>by
 obtain⟨P,hP⟩ : ∃ P,jhp k op signs (T.drop s0.i)=P:=⟨_,rfl⟩
 unfold RU;rw[hP];unfold jhp at hP
 have hx0:=hx s0 hi0 y hy
 obtain⟨oA,hoA⟩ : ∃ oA,opsA=oA:=⟨_,rfl⟩
 rw[hoA] at hrow;unfold opsA at hoA
 have hol:oA.length=7:=by rw[<- hoA];rfl
 refine eN jsM j5 1 Tryz.func144 rfl ?_;intro _;conv=>whnf
 refine⟨jJ (by omega),?_⟩;conv=>whnf
 refine jS 0 [] hx0 ?_;rintro o r ⟨c,ho,s1,f1,hq1,rfl,rfl⟩;cases ho;conv=>whnf
 refine gX [5] ?_;conv=>whnf
 refine jB [0,1,2,6,8] ?_;conv=>whnf
 refine jH (fun _:Nat × Nt × S6=>[(7,.sl 1 7 oA)]) (fun x=>[wI T x.2.2++[.v y],jbY,ntA x.2.1]) (fun _=>[]) (fun x=>x.2.2.i<T.length/\(k=4->x.1=1)/\(k ≠ 4->x.2.2.e=0->(T.drop x.2.2.i).length<=x.1) /\ ∀ s' f',Dq T x.2.2 s' (xB op signs x.1 x.2.1 (T.drop x.2.2.i)) f'->Dq T s0 s' P f') (fun x=>if x.2.2.e=0 then T.length-x.2.2.i+1 else 0) (if k=4 then 1 else (T.drop s1.i).length,f1,s1) ?_ ⟨hq1.1,fun h=>if_pos h,fun h _=>by simp only;rw[if_neg h];exact Nat.le_refl _,fun s' f' h=>by rw[<- hP];exact zG hq1 h⟩ ?_
 ·rw[<- hoA]
  repeat' constructor
 rintro⟨n,left,s⟩ ⟨hi,hn4,hn,hinv⟩
 simp only at hi hn4 hn hinv
 have hnx:=xM hi y hy
 have htk:=nK hT hi y hy
 have hhs:=xT signs (qE T s).text (by omega)
 have hat:=jiT hT hi hsg
 conv=>whnf
 by_cases h0:s.e=0
 ·apply lJ
  ·conv=>whnf
   rw[jK h0];conv=>whnf
   refine⟨by omega,?_⟩;conv=>whnf
   refine⟨?_,?_⟩
   ·conv=>whnf
    (generalize hrq:jC _ _ (oA)=rq;obtain rfl:rq=[.sl 1 signs.length (yP signs)]:=hrq.symm.trans (hrow);clear hrq;conv=>whnf)
    refine jS 0 [] hnx ?_;rintro o r ⟨c,ho,rfl,rfl⟩;cases ho;conv=>whnf
    (refine kU [] hhs ?_;rintro r rfl;conv=>whnf)
   ·conv=>whnf
    refine jS 0 [] hnx ?_;rintro o r ⟨c,ho,rfl,rfl⟩;cases ho;conv=>whnf
    (generalize hrq:jC _ _ (oA)=rq;obtain rfl:rq=[.sl 1 signs.length (yP signs)]:=hrq.symm.trans (hrow);clear hrq;conv=>whnf)
    (refine kU [] hhs ?_;rintro r rfl;conv=>whnf)
  conv=>whnf
  cases hq:j9 signs (qE T s).text with
  | true =>
   rw[hq] at hat
   obtain⟨n1,rfl⟩ : ∃ n1,n=n1+1:=by
    by_cases h4:k=4
    ·exact⟨0,hn4 h4⟩
    ·have:=hn h4 h0
     rw[List.length_drop] at this;exact⟨n-1,by omega⟩
   have hkd:(qE T s).kind ≠ 0:=by
    obtain⟨w,hw⟩ := dM hat
    exact yM hw
   have hst:=bA hT hi hkd
   have hin:=hT.next hi hkd
   rw[xB,if_pos hat] at hinv
   have hx1:=hx (y8 T s) (nD hi) y hy
   have hdt:T.drop (y8 T s).i=(T.drop s.i).tail:=zC hT hi hkd
   have hgo1:=fun f r (e:op (T.drop (y8 T s).i) = .ok f r)=>hgo _ _ _ (hT.p (nD hi)) e
   conv=>whnf
   refine jS 0 [] hnx ?_;rintro o r ⟨c,ho,rfl,rfl⟩;cases ho;conv=>whnf
   refine jS 0 [] htk ?_;rintro o r ⟨c,ho,rfl,rfl⟩;cases ho;conv=>whnf
   refine⟨jJ (by omega),?_⟩;conv=>whnf
   refine jS 0 [] hx1 ?_;rintro o r ⟨c,ho,s2,f2,hq2,rfl,rfl⟩;cases ho
   have hstep:∀ s' f',Dq T s2 s' (xB op signs n1 (.mk 18 0 (qE T s).text [left,f2]) (T.drop s2.i)) f'->Dq T s0 s' P f':=fun s' f' h=>by
    refine hinv s' f' (pU hT hi h0 hkd (P:=fun r=>(op r).andThen fun f r=>xB op signs n1 (.mk 18 0 (hd (T.drop s.i)).text [left,f]) r) (zG hq2 h))
   conv=>whnf
   by_cases h4:k=4
   ·rw[jK (show (k:Int)=4 by omega)]
    have hn1:n1=0:=by have:=hn4 h4;omega
    subst hn1;conv=>whnf
    refine⟨_,rfl,s2,.mk 18 0 (qE T s).text [left,f2],hstep _ _ (wZ hq2.1 _),rfl,by rw[yW];rfl⟩
   ·rw[jG (show ¬ (k:Int)=4 by omega)];conv=>whnf
    have hlt:s2.e=0->(T.drop s2.i).length+1<=(T.drop s.i).length:=fun e2=>by
     have h5:=hq2.2.2 (by rw[(xX s).1];exact h0)
     cases hop:op (T.drop (y8 T s).i) with
     | ok g r =>
      rw[hop] at h5
      have h6:=(hgo1 g r hop).2
      rw[h5.2.2.2];rw[hdt,List.length_tail,List.length_drop] at h6;rw[List.length_drop];omega
     | bad x e =>
      rw[hop] at h5;exact absurd (h5.2.1.symm.trans e2) h5.1
    refine⟨(n1,.mk 18 0 (qE T s).text [left,f2],s2),jjp [0] [] ?_,⟨hq2.1,fun h=>absurd h h4,fun _ e2 => ?_,hstep⟩,?_⟩
    ·conv=>whnf
     repeat' constructor
     show A.sl 4 2 _=A.sl 4 2 (qX [left,f2])
     rw[zN,zN,kR];rfl
    ·have h5:=hn h4 h0
     have h6:=hlt e2
     simp only
     omega
    ·simp only
     rw[if_pos h0]
     by_cases e2:s2.e=0
     ·have h6:=hlt e2
      rw[List.length_drop,List.length_drop] at h6;rw[if_pos e2];omega
     ·rw[if_neg e2];omega
  | false =>
   rw[hq] at hat;conv=>whnf
   exact⟨_,rfl,s,left,hinv _ _ (by rw[jly hat];exact wZ hi _),rfl,rfl⟩
 ·apply lJ
  ·conv=>whnf
   rw[jG h0];conv=>whnf
   refine⟨?_,?_⟩ <;> (conv=>whnf)
  conv=>whnf
  exact⟨_,rfl,s,left,hinv _ _ (r6 hi h0 rfl rfl _ _),rfl,rfl⟩
end
section
variable {T:List Tk}
theorem jnY:∀ w ∈ builtL,∃ c r,w.data.toList=c :: r/\isL c=true:=by
 intro w hw;simp only[builtL,List.mem_cons,List.not_mem_nil,or_false] at hw
 rcases hw with rfl | rfl | rfl | rfl | rfl | rfl | rfl | rfl | rfl <;> exact⟨_,_,rfl,by decide⟩
theorem jcM {t:Tk} (h:K6 t) (hb:j9 builtL t.text=true):t.kind=1:=by
 obtain⟨w,hw,e⟩ := List.any_eq_true.1 hb
 have e:=of_decide_eq_true e
 obtain⟨c,r,h1,h2⟩ := jnY w hw
 rw[e] at h1
 rcases h with ⟨hk,_⟩ | ⟨_,d,r',h3,h4⟩ | ⟨_,h3⟩ | ⟨_,d,r',h3,h4⟩
 ·exact hk
 ·rw[h1] at h3
  cases h3
  unfold kW at h4;rw[h2] at h4;cases h4
 ·rw[h1] at h3;cases h3
 ·rw[h1] at h3
  cases h3
  rw[jpu h2] at h4;cases h4
theorem joj {ts:List Tk} (h:K6 (hd ts)):jhN ts=j9 builtL (hd ts).text:=by
 unfold jhN;rw[jdT]
 cases hb:j9 builtL (hd ts).text
 ·rw[Bool.and_false]
 ·rw[jcM h hb];rfl
theorem jhP {ts:List Tk} (h:j9 builtL (hd ts).text=true):wV ts=false:=by
 have h2:(keyL++builtL).any (fun s=>decide ((hd ts).text=s))=true:=by
  rw[List.any_append,jdT builtL,h,Bool.or_true]
 have:wV ts=(decide ((hd ts).kind=1) && !(keyL++builtL).any fun s=>decide ((hd ts).text=s)):=rfl
 rw[this,h2,Bool.not_true,Bool.and_false]
theorem jmQ {lv:Int} {low:Option Pa} (hT:Ks T) (hlo:LowR6 T lv low) (s:S6) (hi:s.i<T.length) (h0:s.e=0):SpecU 145 (wI T s) [.box 0 0,intA lv] (RU T s (fI low)):=jjK fun y hy=>by
 obtain⟨P,hP⟩ : ∃ P,fI low (T.drop s.i)=P:=⟨_,rfl⟩
 unfold RW;rw[hP]
 have hr:=xO T s.i hi
 have hne:=joL hT hlo
 have hk6:=hT.hd hi
 have hnm:=jbo hi y hy
 have hfl:=nI s.i hi 10 (s:=s) y hy
 have hbi:=joj hk6
 have hnb:=jhP (ts:=T.drop s.i)
 have htk:=fun (w:ByteArray) (hw:Ws6 w) (h:(qE T s).text=w)=>xY hT hi hw h
 have hkk:=fun (f:Nt) (h:(qE T s).kind ≠ 0)=>jo4 hT hi h0 h f
 have hnk:=fun h=>yT (ts:=T.drop s.i) h
 have hhs:=xT builtL (qE T s).text (by decide)
 have hsy:synE (T.drop s.i) = .bad (qE T s).pos 10:=rfl
 unfold stF at hfl;rw[if_pos h0] at hfl;unfold fI at hP;rw[q9 hT hi (w:=pLp) (xK (by decide)),q9 hT hi (w:=jbT) (xK (by decide)),q9 hT hi (w:=jbU) (xK (by decide)),q9 hT hi (w:=pA) (xK (by decide)),hbi,hsy] at hP
 change jC 4 s.i (zZ T)=cB (qE T s) at hr
 obtain⟨t,ht⟩ : ∃ t,qE T s=t:=⟨_,rfl⟩
 have hht:hd (T.drop s.i)=t:=ht
 have hta:=nK hT hi y hy
 rw[ht] at hr hP hkk hhs;simp only[ht] at htk;rw[hht] at hP hnb hnk hfl;refine eN jr2 j5 1 Tryz.func145 rfl ?_;intro _;conv=>whnf
 (refine fN ?_;try with_reducible exact trivial)
 (generalize hrq:jC _ _ (zZ T)=rq;obtain rfl:rq=cB t:=hrq.symm.trans (hr);clear hrq;conv=>whnf)
 conv=>whnf
 by_cases h1:t.text=pLp
 ·rw[jK (p:=t.text = ⟨_⟩) h1];rw[if_pos (jK h1)] at hP
  have hn:=hne s hi y hy
  unfold RU at hn;rw[hP] at hn;conv=>whnf
  refine jS 0 [] hn ?_;rintro o r ⟨c,ho,s2,f,hq,rfl,rfl⟩;cases ho;conv=>whnf
  exact⟨_,rfl,s2,f,_,hq,rfl,rfl,qL _⟩
 rw[jG (p:=t.text = ⟨_⟩) h1];rw[if_neg (by rw[jG h1];simp)] at hP;conv=>whnf
 by_cases h2:t.text=jbT
 ·rw[jK (p:=t.text = ⟨_⟩) h2];rw[if_pos (jK h2)] at hP
  have hkd:=htk _ (xK (by decide)) h2
  have hn:=hne (y8 T s) (nD hi) y hy
  conv=>whnf
  refine jS 0 [] hta ?_;rintro o r ⟨c,ho,rfl,rfl⟩;cases ho;conv=>whnf
  refine jS 0 [] hn ?_;rintro o r ⟨c,ho,s2,f,hq,rfl,rfl⟩;cases ho;conv=>whnf
  refine⟨_,rfl,s2,.mk 16 0 eB [f],_,?_,rfl,rfl,?_⟩
  ·rw[<- hP];exact pU hT hi h0 (by rw[ht];exact hkd) (P:=fun r=>(cT low r).andThen fun n r => .ok (.mk 16 0 eB [n]) r) (zG hq (wZ hq.1 _))
  ·rw[kZ];exact qL _
 rw[jG (p:=t.text = ⟨_⟩) h2];rw[if_neg (by rw[jG h2];simp)] at hP;conv=>whnf
 by_cases h3:t.kind=2
 ·rw[jK h3];rw[if_pos h3] at hP;conv=>whnf
  refine jS 0 [] hta ?_;rintro o r ⟨c,ho,rfl,rfl⟩;cases ho;subst hP;conv=>whnf
  exact⟨_,rfl,_,(.mk 12 t.n eB []),_,hkk _ (by rw[h3];decide),rfl,rfl,j8 (f:=(.mk 12 t.n eB [])) rfl⟩
 rw[jG h3];rw[if_neg h3] at hP;conv=>whnf
 by_cases h4:t.text=jbU
 ·rw[jK (p:=t.text = ⟨_⟩) h4];rw[if_pos (jK h4)] at hP;conv=>whnf
  refine jS 0 [] hta ?_;rintro o r ⟨c,ho,rfl,rfl⟩;cases ho;subst hP;conv=>whnf
  exact⟨_,rfl,_,(.mk 13 1 eB []),_,hkk _ (htk _ (xK (by decide)) h4),rfl,rfl,j8 (f:=(.mk 13 1 eB [])) rfl⟩
 rw[jG (p:=t.text = ⟨_⟩) h4];rw[if_neg (by rw[jG h4];simp)] at hP;conv=>whnf
 by_cases h5:t.text=pA
 ·rw[jK (p:=t.text = ⟨_⟩) h5];rw[if_pos (jK h5)] at hP;conv=>whnf
  refine jS 0 [] hta ?_;rintro o r ⟨c,ho,rfl,rfl⟩;cases ho;subst hP;conv=>whnf
  exact⟨_,rfl,_,(.mk 13 0 eB []),_,hkk _ (htk _ (xK (by decide)) h5),rfl,rfl,j8 (f:=(.mk 13 0 eB [])) rfl⟩
 rw[jG (p:=t.text = ⟨_⟩) h5];rw[if_neg (by rw[jG h5];simp)] at hP;conv=>whnf
 (refine kU [] bY ?_;rintro r rfl;conv=>whnf)
 (refine kU [] hhs ?_;rintro r rfl;conv=>whnf)
 cases hb:j9 builtL t.text with
 | true =>
  rw[hnb hb,if_neg (by simp),if_pos hb] at hP;conv=>whnf
  refine jS 0 [] hta ?_;rintro o r ⟨c,ho,rfl,rfl⟩;cases ho;subst hP;conv=>whnf
  exact⟨_,rfl,_,(.mk 15 0 t.text []),_,hkk _ (by rw[<- hht];rw[jcM hk6 (by rw[hht];exact hb)];decide),rfl,rfl,j8 (f:=(.mk 15 0 t.text [])) rfl⟩
 | false =>
  rw[hb] at hP;conv=>whnf
  refine jS 0 [] hnm ?_;rintro o r ⟨c,ho,rfl,rfl⟩;cases ho;conv=>whnf
  cases hn:wV (T.drop s.i) with
  | true =>
   rw[if_pos hn] at hP;conv=>whnf
   refine jS 0 [] hta ?_;rintro o r ⟨c,ho,rfl,rfl⟩;cases ho;subst hP;conv=>whnf
   exact⟨_,rfl,_,(.mk 14 0 t.text []),_,hkk _ (by rw[hnk hn];decide),rfl,rfl,j8 (f:=(.mk 14 0 t.text [])) rfl⟩
  | false =>
   rw[if_neg (by rw[hn];simp),if_neg (by simp)] at hP;conv=>whnf
   refine jS 0 [] hfl ?_;rintro o r ⟨c,ho,rfl,rfl⟩;cases ho;subst hP;conv=>whnf
   exact⟨_,rfl,_,.mk 0 0 eB [],_,jlL (s':=⟨s.i,t.pos,10⟩) hi h0 (show (10:Int) ≠ 0 by decide) rfl rfl _,rfl,rfl,j8 (f := .mk 0 0 eB []) rfl⟩
end
section
variable {T:List Tk}
theorem lW {lv:Int} {op:List Tk->Pn} (k:Nat) (h3:k ≠ 3) (h7:k ≠ 7) (hb:jl2 T lv k op):nN T lv k op:=fun s hi y hy=>by
 by_cases h0:s.e=0
 rotate_left
 ·exact jpc hi h0 _ y hy
 have hnx:=xM hi y hy
 have hbn:=hb s hi y hy
 have q3:decide ((k:Int)=3)=false:=jG (by omega)
 have q7:decide ((k:Int)=7)=false:=jG (by omega)
 refine eN jR j5 1 Tryz.func129 rfl ?_;intro _;conv=>whnf
 rw[jK h0];conv=>whnf
 refine jS 0 [] hnx ?_;rintro o r ⟨c,ho,rfl,rfl⟩;cases ho;conv=>whnf
 rw[q3];conv=>whnf
 rw[q3];conv=>whnf
 rw[q7];conv=>whnf
 rw[q7];conv=>whnf
 refine jS 0 [] hbn ?_;rintro o r ⟨c,ho,s2,f,hq,rfl,rfl⟩;cases ho;conv=>whnf
 exact⟨_,rfl,s2,f,hq,rfl,rfl⟩
theorem jrf {lv:Int} {low:Option Pa} (hT:Ks T) (hlo:LowR6 T lv low) (hb:jl2 T lv 4 (jhp 4 (jcj low) cmpL)):nN T lv 3 (uU low):=fun s hi y hy=>by
 by_cases h0:s.e=0
 rotate_left
 ·exact jpc hi h0 _ y hy
 have hnx:=xM hi y hy
 have hbn:=hb s hi y hy
 have hun:=fun h=>jmV hT hlo (sel:=(·.no)) (prec:=3) (fun p hp=>by
  obtain⟨_,⟨h,_⟩ | ⟨q,hq,_,h,_⟩⟩ := hlo
  ·rw[h] at hp;cases hp
  ·rw[hq] at hp;cases hp;exact h) (w:=pNot) (xK (by decide)) s hi h y hy
 obtain⟨P,hP⟩ : ∃ P,uU low (T.drop s.i)=P:=⟨_,rfl⟩
 unfold RU;rw[hP];unfold uU at hP;rw[q9 hT hi (w:=pNot) (xK (by decide))] at hP;unfold RU at hbn hun;refine eN jR j5 1 Tryz.func129 rfl ?_;intro _;conv=>whnf
 rw[jK h0];conv=>whnf
 refine jS 0 [] hnx ?_;rintro o r ⟨c,ho,rfl,rfl⟩;cases ho;conv=>whnf
 by_cases h1:(qE T s).text=pNot
 ·rw[jK (p:=(qE T s).text = ⟨_⟩) h1];rw[if_pos (jK h1)] at hP
  have hun:=hun fun _=>h1
  rw[hP] at hun;rw[h1];conv=>whnf
  refine jS 0 [] hun ?_;rintro o r ⟨c,ho,s2,f,hq,rfl,rfl⟩;cases ho;conv=>whnf
  exact⟨_,rfl,s2,f,hq,rfl,rfl⟩
 ·rw[jG (p:=(qE T s).text = ⟨_⟩) h1];rw[if_neg (by rw[jG h1];simp)] at hP
  have hP2:jhp 4 (jcj low) cmpL (T.drop s.i)=P:=hP
  rw[hP2] at hbn;conv=>whnf
  refine jS 0 [] hbn ?_;rintro o r ⟨c,ho,s2,f,hq,rfl,rfl⟩;cases ho;conv=>whnf
  exact⟨_,rfl,s2,f,hq,rfl,rfl⟩
theorem jrg {lv:Int} {low:Option Pa} (hT:Ks T) (hlo:LowR6 T lv low):nN T lv 7 (aC low):=fun s hi y hy=>by
 by_cases h0:s.e=0
 rotate_left
 ·exact jpc hi h0 _ y hy
 have hnx:=xM hi y hy
 have hpr:=jmQ hT hlo s hi h0 y hy
 have hun:=fun h=>jmV hT hlo (sel:=(·.un)) (prec:=7) (fun p hp=>by
  obtain⟨_,⟨h,_⟩ | ⟨q,hq,_,_,h,_⟩⟩ := hlo
  ·rw[h] at hp;cases hp
  ·rw[hq] at hp;cases hp;exact h) (w:=pMinus) (xK (by decide)) s hi h y hy
 obtain⟨P,hP⟩ : ∃ P,aC low (T.drop s.i)=P:=⟨_,rfl⟩
 unfold RU;rw[hP];unfold aC at hP;rw[q9 hT hi (w:=pMinus) (xK (by decide))] at hP;unfold RU at hpr hun;refine eN jR j5 1 Tryz.func129 rfl ?_;intro _;conv=>whnf
 rw[jK h0];conv=>whnf
 refine jS 0 [] hnx ?_;rintro o r ⟨c,ho,rfl,rfl⟩;cases ho;conv=>whnf
 by_cases h1:(qE T s).text=pMinus
 ·rw[jK (p:=(qE T s).text = ⟨_⟩) h1];rw[if_pos (jK h1)] at hP
  have hun:=hun fun _=>h1
  rw[hP] at hun;rw[h1];conv=>whnf
  refine jS 0 [] hun ?_;rintro o r ⟨c,ho,s2,f,hq,rfl,rfl⟩;cases ho;conv=>whnf
  exact⟨_,rfl,s2,f,hq,rfl,rfl⟩
 ·rw[jG (p:=(qE T s).text = ⟨_⟩) h1];rw[if_neg (by rw[jG h1];simp)] at hP;rw[hP] at hpr;conv=>whnf
  refine jS 0 [] hpr ?_;rintro o r ⟨c,ho,s2,f,hq,rfl,rfl⟩;cases ho;conv=>whnf
  exact⟨_,rfl,s2,f,hq,rfl,rfl⟩
theorem jqp:∀ w ∈ cmpL,Ws6 w:=by
 intro w hw;simp only[cmpL,List.mem_cons,List.not_mem_nil,or_false] at hw
 rcases hw with rfl | rfl | rfl | rfl | rfl | rfl <;> exact xK (by decide)
theorem jnM {a b:ByteArray} (ha:Ws6 a) (hb:Ws6 b):∀ w ∈ [a,b],Ws6 w:=by
 intro w hw;simp only[List.mem_cons,List.not_mem_nil,or_false] at hw
 rcases hw with rfl | rfl
 ·exact ha
 ·exact hb
theorem jnL {a:ByteArray} (ha:Ws6 a):∀ w ∈ [a],Ws6 w:=by
 intro w hw;rw[List.mem_singleton.1 hw];exact ha
theorem pM {k:Nat} (hk:k ≠ 4) (op:List Tk->Pn) (signs:List ByteArray):jhp k op signs=wD op signs:=by
 funext ts
 unfold jhp wD
 congr 1
 funext f r
 rw[if_neg hk]
theorem jrh {lv:Int} {low:Option Pa} (hT:Ks T) (hg:cD low) (hlo:LowR6 T lv low):nN T lv 7 (aC low)/\nN T lv 3 (uU low)/\nN T lv 1 (jhB low):=by
 have x7:=jrg hT hlo
 have b6:=rL hT 6 (by decide) (signs:=[vU,yB]) (by decide) (by simp[jC,opsA,yP]) (jnM (xK (by decide)) (xK (by decide))) x7 (gS hg)
 rw[pM (by decide)] at b6
 have x6:=lW 6 (by decide) (by decide) b6
 have b5:=rL hT 5 (by decide) (signs:=[cZ,pMinus]) (by decide) (by simp[jC,opsA,yP]) (jnM (xK (by decide)) (xK (by decide))) x6 (xD (gS hg) _)
 rw[pM (by decide)] at b5
 have x5:nN T lv 5 (jcj low):=lW 5 (by decide) (by decide) b5
 have b4:=rL hT 4 (by decide) (signs:=cmpL) (by decide) (by simp[jC,opsA,yP,cmpL]) jqp x5 (f9 hg)
 have x3:=jrf hT hlo b4
 have b2:=rL hT 2 (by decide) (signs:=[vI]) (by decide) (by simp[jC,opsA,yP]) (jnL (xK (by decide))) x3 (gR hg)
 rw[pM (by decide)] at b2
 have x2:=lW 2 (by decide) (by decide) b2
 have b1:=rL hT 1 (by decide) (signs:=[pOr]) (by decide) (by simp[jC,opsA,yP]) (jnL (xK (by decide))) x2 (xD (gR hg) _)
 rw[pM (by decide)] at b1;exact⟨x7,x3,lW 1 (by decide) (by decide) b1⟩
end
section
variable {T:List Tk}
def sY:List ByteArray:=[wIf,wWhile,nE,wTimer,kT,wSync,yR,wFail,wStop]
theorem jnf:∀ w ∈ sY,∃ c r,w.data.toList=c :: r/\isL c=true:=by
 intro w hw;simp only[sY,List.mem_cons,List.not_mem_nil,or_false] at hw
 rcases hw with rfl | rfl | rfl | rfl | rfl | rfl | rfl | rfl | rfl <;> exact⟨_,_,rfl,by decide⟩
theorem jdK {t:Tk} (h:K6 t) {w:ByteArray} (hw:∃ c r,w.data.toList=c :: r/\isL c=true) (e:t.text=w):t.kind=1:=by
 obtain⟨c,r,h1,h2⟩ := hw
 rw[<- e] at h1
 rcases h with ⟨hk,_⟩ | ⟨_,d,r',h3,h4⟩ | ⟨_,h3⟩ | ⟨_,d,r',h3,h4⟩
 ·exact hk
 ·rw[h1] at h3
  cases h3
  unfold kW at h4;rw[h2] at h4;cases h4
 ·rw[h1] at h3;cases h3
 ·rw[h1] at h3
  cases h3
  rw[jpu h2] at h4;cases h4
theorem jrq (ex bl:List Tk->Pn) (ts:List Tk) (hn:wV ts=false) (hw:j9 sY (hd ts).text=false):stG ex bl ts=synE ts:=by
 refine jgR ex bl ts hn fun h => ?_
 have:j9 sY (hd ts).text=true:=by
  unfold j9 sY;rw[List.any_eq_true]
  rcases h with e | e | e | e | e | e | e | e | e <;> exact⟨_,by simp,jK e.symm⟩
 rw[hw] at this;cases this
theorem jmR {lv:Int} {ex:List Tk->Pn} (hT:Ks T) (hx:nN T lv 1 ex) (s:S6) (hi:s.i<T.length) (h0:s.e=0) (hn:wV (T.drop s.i)=true) :
  SpecU 95 (wI T s) [.box 0 0,intA lv] (RU T s fun ts=>xpt pEq ts.tail fun r=>(ex r).andThen fun e r=>xpt jQ r fun r => .ok (.mk 1 0 (hd ts).text [e]) r):=fun y hy=>by
 have hnx:=xM hi y hy
 have hnm:=jbo hi y hy
 have hta:=nK hT hi y hy
 rw[hn] at hnm
 have hk:(qE T s).kind ≠ 0:=by
  have:=yT hn
  change (qE T s).kind=1 at this
  rw[this];decide
 have hi1:=nD hi
 have hxe:=fun s2 (h2:s2.i<T.length)=>hx s2 h2 y hy
 obtain⟨t,ht⟩ : ∃ t,(qE T s).text=t:=⟨_,rfl⟩
 rw[ht] at hnx;refine eN jmz (fun _=>[0]) 1 Tryz.func95 rfl ?_;intro _;conv=>whnf
 refine jS 0 [] hnx ?_;rintro o r ⟨c,ho,rfl,rfl⟩;cases ho;conv=>whnf
 refine jS 0 [] hnm ?_;rintro o r ⟨c,ho,rfl,rfl⟩;cases ho;conv=>whnf
 refine jS 0 [] hta ?_;rintro o r ⟨c,ho,rfl,rfl⟩;cases ho;conv=>whnf
 refine jS 0 [] (qK hT hi1 pEq y hy) ?_;rintro o r ⟨c,ho,rfl,rfl⟩;cases ho;conv=>whnf
 have hi2:=vO hi1 pEq
 refine cJ 0 [] rfl rfl rfl rfl (fun _=>hxe _ hi2) ?_;rintro o r ⟨c,ho,s3,f,hq,rfl,rfl⟩;cases ho;conv=>whnf
 refine jS 0 [] (qK hT hq.1 jQ y hy) ?_;rintro o r ⟨c,ho,rfl,rfl⟩;cases ho;conv=>whnf
 have hi4:=vO hq.1 jQ
 refine⟨_,rfl,bK T s3 jQ,.mk 1 0 t [f],?_,rfl,by rw[kZ];rfl⟩
 exact pU hT hi h0 hk (P:=fun ts=>xpt pEq ts fun r=>(ex r).andThen fun e r=>xpt jQ r fun r => .ok (.mk 1 0 t [e]) r) (yA hT hi1 (xK (by decide)) (zG hq (yA hT hq.1 (xK (by decide)) (wZ hi4 _)))) |> fun h=>by
  have e:(hd (T.drop s.i)).text=t:=ht
  simp only[e];exact h
theorem jmS {lv:Int} (hT:Ks T) (s:S6) (hi:s.i<T.length) (h0:s.e=0) (hn:wV (T.drop s.i)=false) (hw:j9 sY (qE T s).text=false) :
  SpecU 95 (wI T s) [.box 0 0,intA lv] (RU T s synE):=jjK fun y hy=>by
 have hnx:=xM hi y hy
 have hnm:=jbo hi y hy
 have hfl:=nI s.i hi 10 (s:=s) y hy
 have hhs:=xT sY (qE T s).text (by decide)
 rw[hn] at hnm;rw[hw] at hhs;unfold stF at hfl;rw[if_pos h0] at hfl;refine eN jmz (fun _=>[0]) 1 Tryz.func95 rfl ?_;intro _;conv=>whnf
 refine jS 0 [] hnx ?_;rintro o r ⟨c,ho,rfl,rfl⟩;cases ho;conv=>whnf
 refine jS 0 [] hnm ?_;rintro o r ⟨c,ho,rfl,rfl⟩;cases ho;conv=>whnf
 (refine kU [0] hhs ?_;rintro r rfl;conv=>whnf)
 conv=>whnf
 refine jS 0 [] hfl ?_;rintro o r ⟨c,ho,rfl,rfl⟩;cases ho;conv=>whnf
 exact⟨_,rfl,_,.mk 0 0 eB [],_,jlL (s':=⟨s.i,(hd (T.drop s.i)).pos,10⟩) hi h0 (show (10:Int) ≠ 0 by decide) rfl rfl _,rfl,rfl,j8 (f := .mk 0 0 eB []) rfl⟩
end
section
variable {T:List Tk}
theorem js7 (hT:Ks T) {s s2:S6} (hi:s.i<T.length) (h0:s.e=0) {P:Pn} {f:Nt} (h2:Dq T (y8 T s) s2 P f):Dq T s s2 P f :=
 je8 h2 (fun h=>absurd h0 h) fun _ => .inl ⟨by rw[(xX s).1];exact h0,(xX s).2,rfl⟩
theorem jlN (hT:Ks T) {s s2:S6} (hi:s.i<T.length) {K:Int->List Tk->Pn} {f:Nt} (h2:Dq T (mB T s 29) s2 (K (vaN T s 29) (T.drop (mB T s 29).i)) f):Dq T s s2 (aU 30 (T.drop s.i) K) f:=jlM hT hi (m:=29) h2
theorem jj5 (hT:Ks T) {s s2:S6} (hi:s.i<T.length) {K:Int->List Tk->Pn} {f:Nt} (h2:Dq T (mB T s 7) s2 (K (vaN T s 7) (T.drop (mB T s 7).i)) f):Dq T s s2 (aU 8 (T.drop s.i) K) f:=jlM hT hi (m:=7) h2
theorem jnK (f b:Nt):WkL [intA 2,intA 0,jX eB,.sl 4 3 (ntA f++(ntA b++joG (wL [])))] [intA 2,intA 0,jX eB,.sl 4 3 (ntA f++(ntA b++ntA (wL [])))] :=
 .cons (.refl _) (.cons (.refl _) (.cons (.refl _) (.cons (.sl 4 3 (WkL.app (WkL.refl (ntA f)) (WkL.app (WkL.refl (ntA b)) (j8 (f:=wL []) rfl)))) .nil)))
theorem jmT {lv:Int} {ex bl:List Tk->Pn} (hlv:0<=lv/\lv<=20) (hT:Ks T) (hx:nN T lv 1 ex) (hb:tB T 49 (lv+1) bl) (s:S6) (hi:s.i<T.length) (h0:s.e=0) (hn:wV (T.drop s.i)=false) (hw:j9 sY (qE T s).text=true) :
  SpecU 95 (wI T s) [.box 0 0,intA lv] (RU T s fun ts=>stK ex bl (hd ts).text ts.tail):=jjK fun y hy=>by
 have hnx:=xM hi y hy
 have hnm:=jbo hi y hy
 have hta:=nK hT hi y hy
 rw[hn] at hnm
 have hhs:=xT sY (qE T s).text (by decide)
 rw[hw] at hhs
 have hk:(qE T s).kind ≠ 0:=by
  obtain⟨w,hw1,hw2⟩ := List.any_eq_true.1 hw
  have hk1:(qE T s).kind=1:=jdK (hT.hd hi) (jnf w hw1) (of_decide_eq_true hw2).symm
  rw[hk1];decide
 have hi1:=nD hi
 have hxe:=fun s2 (h2:s2.i<T.length)=>hx s2 h2 y hy
 have hbe:=fun s2 (h2:s2.i<T.length)=>hb s2 h2 y hy
 obtain⟨P,hP⟩ : ∃ P,stK ex bl (qE T s).text (T.drop s.i).tail=P:=⟨_,rfl⟩
 change Spec _ _ _ _ fun o r => ∃ c,o=[c++[.v y]] /\ ∃ s' f l,Dq T s s' (stK ex bl (qE T s).text (T.drop s.i).tail) f/\c=wI T s'/\r = .agg l/\WkL l (ntA f)
 rw[hP];unfold stK at hP;rw[<- zC hT hi hk] at hP
 have hup:=fun s2 f (h2:Dq T (y8 T s) s2 P f)=>js7 hT hi h0 h2
 generalize (qE T s).text=t at *;refine eN jmz (fun _=>[0]) 1 Tryz.func95 rfl ?_;intro _;conv=>whnf
 refine jS 0 [] hnx ?_;rintro o r ⟨c,ho,rfl,rfl⟩;cases ho;conv=>whnf
 refine jS 0 [] hnm ?_;rintro o r ⟨c,ho,rfl,rfl⟩;cases ho;conv=>whnf
 (refine kU [0] hhs ?_;rintro r rfl;conv=>whnf)
 conv=>whnf
 refine jS 0 [] hta ?_;rintro o r ⟨c,ho,rfl,rfl⟩;cases ho;conv=>whnf
 by_cases g0:t=wIf
 ·rw[jK (p:=t = ⟨_⟩) g0];conv=>whnf
  rw[if_pos g0] at hP;refine cJ 0 [] rfl rfl rfl rfl (fun _=>hxe _ hi1) ?_;rintro o r ⟨c,ho,s2,f,hq2,rfl,rfl⟩;cases ho;conv=>whnf
  refine⟨jJ (by omega),?_⟩;conv=>whnf
  refine cJ 0 [] rfl rfl rfl rfl (fun _=>hbe _ hq2.1) ?_;rintro o r ⟨c,ho,s3,b,hq3,rfl,rfl⟩;cases ho;conv=>whnf
  have g1 : ¬ t=wWhile:=fun e=>by rw[g0] at e;exact absurd e (by decide)
  rw[jG (p:=t = ⟨_⟩) g1];conv=>whnf
  by_cases e3:s3.e=0
  ·rw[jK e3];conv=>whnf
   refine jS 0 [] (xM hq3.1 y hy) ?_;rintro o r ⟨c,ho,rfl,rfl⟩;cases ho;conv=>whnf
   by_cases we:(qE T s3).text=lA
   ·rw[jK (p:=(qE T s3).text = ⟨_⟩) we]
    have hk3:=xY hT hq3.1 (xK (by decide)) we
    conv=>whnf
    refine jS 0 [] (nK hT hq3.1 y hy) ?_;rintro o r ⟨c,ho,rfl,rfl⟩;cases ho;conv=>whnf
    refine⟨jJ (by omega),?_⟩;conv=>whnf
    refine cJ 0 [] rfl rfl rfl rfl (fun _=>hbe _ (nD hq3.1)) ?_;rintro o r ⟨c,ho,s4,d,hq4,rfl,rfl⟩;cases ho;conv=>whnf
    refine⟨⟨by unfold maxLen;omega,by omega⟩,?_⟩;conv=>whnf
    exact⟨_,rfl,s4,(.mk 2 0 eB [f,b,d]),_,hup _ _ (by rw[<- hP];exact zG hq2 (zG hq3 (by rw[q9 hT hq3.1 (w:=lA) (xK (by decide)),if_pos (jK we)];exact pU hT hq3.1 e3 hk3 (P:=fun r=>(bl r).andThen fun o r => .ok (.mk 2 0 eB [f,b,o]) r) (zG hq4 (wZ hq4.1 _))))),rfl,rfl,by rw[yV];exact qL _⟩
   ·rw[jG (p:=(qE T s3).text = ⟨_⟩) we];conv=>whnf
    refine⟨⟨by unfold maxLen;omega,by omega⟩,?_⟩;conv=>whnf
    exact⟨_,rfl,s3,(.mk 2 0 eB [f,b,wL []]),_,hup _ _ (by rw[<- hP];exact zG hq2 (zG hq3 (by rw[q9 hT hq3.1 (w:=lA) (xK (by decide)),if_neg (by rw[jG we];simp)];exact wZ hq3.1 _))),rfl,rfl,by rw[yV];exact jnK f b⟩
  ·rw[jG e3];conv=>whnf
   refine⟨⟨by unfold maxLen;omega,by omega⟩,?_⟩;conv=>whnf
   exact⟨_,rfl,s3,(.mk 2 0 eB [f,b,wL []]),_,hup _ _ (by rw[<- hP];exact zG hq2 (zG hq3 (r6 hq3.1 e3 rfl rfl _ _))),rfl,rfl,by rw[yV];exact jnK f b⟩
 rw[jG (p:=t = ⟨_⟩) g0];conv=>whnf
 rw[if_neg g0] at hP
 by_cases g1:t=wWhile
 ·rw[jK (p:=t = ⟨_⟩) g1];conv=>whnf
  rw[if_pos g1] at hP;refine cJ 0 [] rfl rfl rfl rfl (fun _=>hxe _ hi1) ?_;rintro o r ⟨c,ho,s2,f,hq2,rfl,rfl⟩;cases ho;conv=>whnf
  refine⟨jJ (by omega),?_⟩;conv=>whnf
  refine cJ 0 [] rfl rfl rfl rfl (fun _=>hbe _ hq2.1) ?_;rintro o r ⟨c,ho,s3,b,hq3,rfl,rfl⟩;cases ho;conv=>whnf
  rw[jK (p:=t = ⟨_⟩) g1];conv=>whnf
  exact⟨_,rfl,s3,(.mk 3 0 eB [f,b]),_,hup _ _ (by rw[<- hP];exact zG hq2 (zG hq3 (wZ hq3.1 _))),rfl,rfl,by rw[yW];exact qL _⟩
 rw[jG (p:=t = ⟨_⟩) g1];conv=>whnf
 rw[if_neg g1] at hP
 by_cases g2:t=nE
 ·rw[jK (p:=t = ⟨_⟩) g2];conv=>whnf
  rw[if_pos g2] at hP;simp only[iS] at hP;refine cJ 0 [] rfl rfl rfl rfl (fun _=>hxe _ hi1) ?_;rintro o r ⟨c,ho,s2,f,hq2,rfl,rfl⟩;cases ho;conv=>whnf
  refine jS 0 [] (qK hT hq2.1 j0 y hy) ?_;rintro o r ⟨c,ho,rfl,rfl⟩;cases ho;conv=>whnf
  have hi3:=vO hq2.1 j0
  obtain⟨s3,hs3⟩ : ∃ s3,bK T s2 j0=s3:=⟨_,rfl⟩
  rw[hs3] at hi3;rw[hs3];refine jS 0 [] (jgw hT hi3 29 y hy) ?_;rintro o r ⟨c,ho,rfl,rfl⟩;cases ho;conv=>whnf
  refine jS 0 [] (qK hT (mU hi3 29) j0 y hy) ?_;rintro o r ⟨c,ho,rfl,rfl⟩;cases ho;conv=>whnf
  have hi4:=vO (mU hi3 29) j0
  refine cJ 0 [] rfl rfl rfl rfl (fun _=>hxe _ hi4) ?_;rintro o r ⟨c,ho,s5,d,hq5,rfl,rfl⟩;cases ho;conv=>whnf
  refine jS 0 [] (qK hT hq5.1 j0 y hy) ?_;rintro o r ⟨c,ho,rfl,rfl⟩;cases ho;conv=>whnf
  refine cJ 0 [] rfl rfl rfl rfl (fun _=>hxe _ (vO hq5.1 j0)) ?_;rintro o r ⟨c,ho,s6,g,hq6,rfl,rfl⟩;cases ho;conv=>whnf
  refine jS 0 [] (qK hT hq6.1 jQ y hy) ?_;rintro o r ⟨c,ho,rfl,rfl⟩;cases ho;conv=>whnf
  have hf:=vO hq6.1 jQ
  have hup':=fun f2 (h2:Dq T (bK T s2 j0) (bK T s6 jQ) (aU 30 (T.drop (bK T s2 j0).i) fun n r=>xpt j0 r fun r=>(ex r).andThen fun a r=>xpt j0 r fun r=>(ex r).andThen fun a2 r=>xpt jQ r fun r => .ok (.mk 4 n eB ([f]++[a]++[a2])) r) f2)=>hup _ f2 (by rw[<- hP];exact zG hq2 (yA hT hq2.1 (xK (by decide)) h2))
  rw[hs3] at hup';refine⟨_,rfl,_,.mk 4 (vaN T s3 29) eB [f,d,g],_,hup' _ (jlN hT hi3 (yA hT (mU hi3 29) (xK (by decide)) (zG hq5 (yA hT hq5.1 (xK (by decide)) (zG hq6 (yA hT hq6.1 (xK (by decide)) (wZ hf _))))))),rfl,rfl,?_⟩;rw[yV];exact qL _
 rw[jG (p:=t = ⟨_⟩) g2];conv=>whnf
 rw[if_neg g2] at hP
 by_cases g3:t=wTimer
 ·rw[jK (p:=t = ⟨_⟩) g3];conv=>whnf
  rw[if_pos g3] at hP;refine jS 0 [] (jgw hT hi1 7 y hy) ?_;rintro o r ⟨c,ho,rfl,rfl⟩;cases ho;conv=>whnf
  refine jS 0 [] (qK hT (mU hi1 7) jQ y hy) ?_;rintro o r ⟨c,ho,rfl,rfl⟩;cases ho;conv=>whnf
  exact⟨_,rfl,bK T (mB T (y8 T s) 7) jQ,(.mk 5 (vaN T (y8 T s) 7) eB []),_,hup _ _ (by rw[<- hP];exact jj5 hT hi1 (yA hT (mU hi1 7) (xK (by decide)) (wZ (vO (mU hi1 7) _) _))),rfl,rfl,j8 (f := .mk 5 (vaN T (y8 T s) 7) eB []) rfl⟩
 rw[jG (p:=t = ⟨_⟩) g3];conv=>whnf
 rw[if_neg g3] at hP
 by_cases g4:t=kT
 ·rw[jK (p:=t = ⟨_⟩) g4];conv=>whnf
  rw[if_pos g4] at hP;refine jS 0 [] (jgw hT hi1 7 y hy) ?_;rintro o r ⟨c,ho,rfl,rfl⟩;cases ho;conv=>whnf
  refine jS 0 [] (qK hT (mU hi1 7) jQ y hy) ?_;rintro o r ⟨c,ho,rfl,rfl⟩;cases ho;conv=>whnf
  exact⟨_,rfl,bK T (mB T (y8 T s) 7) jQ,(.mk 6 (vaN T (y8 T s) 7) eB []),_,hup _ _ (by rw[<- hP];exact jj5 hT hi1 (yA hT (mU hi1 7) (xK (by decide)) (wZ (vO (mU hi1 7) _) _))),rfl,rfl,j8 (f := .mk 6 (vaN T (y8 T s) 7) eB []) rfl⟩
 rw[jG (p:=t = ⟨_⟩) g4];conv=>whnf
 rw[if_neg g4] at hP
 by_cases g7:t=yR
 ·rw[jK (p:=t = ⟨_⟩) g7];conv=>whnf
  have n5 : ¬ t=wSync:=fun e=>by rw[g7] at e;exact absurd e (by decide)
  have n6 : ¬ t=wStop:=fun e=>by rw[g7] at e;exact absurd e (by decide)
  rw[if_neg n5] at hP;rw[if_neg n6] at hP;rw[if_pos g7] at hP;refine cJ 0 [] rfl rfl rfl rfl (fun _=>hxe _ hi1) ?_;rintro o r ⟨c,ho,s2,f,hq2,rfl,rfl⟩;cases ho;conv=>whnf
  refine jS 0 [] (qK hT hq2.1 j0 y hy) ?_;rintro o r ⟨c,ho,rfl,rfl⟩;cases ho;conv=>whnf
  have hi3:=vO hq2.1 j0
  refine cJ 0 [] rfl rfl rfl rfl (fun _=>hxe _ hi3) ?_;rintro o r ⟨c,ho,s4,d,hq4,rfl,rfl⟩;cases ho;conv=>whnf
  refine jS 0 [] (qK hT hq4.1 jQ y hy) ?_;rintro o r ⟨c,ho,rfl,rfl⟩;cases ho;conv=>whnf
  exact⟨_,rfl,bK T s4 jQ,(.mk 8 0 eB [f,d]),_,hup _ _ (by rw[<- hP];exact zG hq2 (yA hT hq2.1 (xK (by decide)) (zG hq4 (yA hT hq4.1 (xK (by decide)) (wZ (vO hq4.1 _) _))))),rfl,rfl,by rw[yW];exact qL _⟩
 rw[jG (p:=t = ⟨_⟩) g7];conv=>whnf
 by_cases g8:t=wFail
 ·rw[jK (p:=t = ⟨_⟩) g8];conv=>whnf
  have n5 : ¬ t=wSync:=fun e=>by rw[g8] at e;exact absurd e (by decide)
  have n6 : ¬ t=wStop:=fun e=>by rw[g8] at e;exact absurd e (by decide)
  rw[if_neg n5] at hP;rw[if_neg n6] at hP;rw[if_neg g7] at hP;refine cJ 0 [] rfl rfl rfl rfl (fun _=>hxe _ hi1) ?_;rintro o r ⟨c,ho,s2,f,hq2,rfl,rfl⟩;cases ho;conv=>whnf
  refine jS 0 [] (qK hT hq2.1 jQ y hy) ?_;rintro o r ⟨c,ho,rfl,rfl⟩;cases ho;conv=>whnf
  exact⟨_,rfl,bK T s2 jQ,(.mk 9 0 eB [f]),_,hup _ _ (by rw[<- hP];exact zG hq2 (yA hT hq2.1 (xK (by decide)) (wZ (vO hq2.1 _) _))),rfl,rfl,by rw[kZ];exact qL _⟩
 rw[jG (p:=t = ⟨_⟩) g8];conv=>whnf
 by_cases g5:t=wSync
 ·rw[jK (p:=t = ⟨_⟩) g5];conv=>whnf
  rw[if_pos g5] at hP;refine jS 0 [] (qK hT hi1 jQ y hy) ?_;rintro o r ⟨c,ho,rfl,rfl⟩;cases ho;conv=>whnf
  exact⟨_,rfl,bK T (y8 T s) jQ,(.mk 7 0 eB []),_,hup _ _ (by rw[<- hP];exact yA hT hi1 (xK (by decide)) (wZ (vO hi1 _) _)),rfl,rfl,j8 (f := .mk 7 0 eB []) rfl⟩
 rw[jG (p:=t = ⟨_⟩) g5];conv=>whnf
 rw[if_neg g5] at hP
 have g6:t=wStop:=by
  obtain⟨w,hw1,hw2⟩ := List.any_eq_true.1 hw
  have hw2:=(of_decide_eq_true hw2).symm
  simp only[sY,List.mem_cons,List.not_mem_nil,or_false] at hw1
  rcases hw1 with e | e | e | e | e | e | e | e | e <;> rw[e] at hw2 <;> first | exact hw2 | contradiction
 rw[if_pos g6] at hP;refine jS 0 [] (qK hT hi1 jQ y hy) ?_;rintro o r ⟨c,ho,rfl,rfl⟩;cases ho;conv=>whnf
 exact⟨_,rfl,bK T (y8 T s) jQ,(.mk 10 0 eB []),_,hup _ _ (by rw[<- hP];exact yA hT hi1 (xK (by decide)) (wZ (vO hi1 _) _)),rfl,rfl,j8 (f := .mk 10 0 eB []) rfl⟩
end
section
variable {T:List Tk}
theorem joV {t:ByteArray} (h:j9 sY t=true):t=wIf ∨ t=wWhile ∨ t=nE ∨ t=wTimer ∨ t=kT ∨ t=wSync ∨ t=wStop ∨ t=yR ∨ t=wFail:=by
 obtain⟨w,hw1,hw2⟩ := List.any_eq_true.1 h
 have hw2:=(of_decide_eq_true hw2).symm
 simp only[sY,List.mem_cons,List.not_mem_nil,or_false] at hw1
 rcases hw1 with e | e | e | e | e | e | e | e | e <;> rw[e] at hw2 <;> simp only[hw2,true_or,or_true]
theorem jiq {lv:Int} {ex bl:List Tk->Pn} (hlv:0<=lv/\lv<=20) (hT:Ks T) (hx:nN T lv 1 ex) (hb:tB T 49 (lv+1) bl) (s:S6) (hi:s.i<T.length) (h0:s.e=0) :
  SpecU 95 (wI T s) [.box 0 0,intA lv] (RU T s (stG ex bl)):=by
 cases hn:wV (T.drop s.i) with
 | true =>
  have e:stG ex bl (T.drop s.i)=(fun ts=>xpt pEq ts.tail fun r=>(ex r).andThen fun e r=>xpt jQ r fun r => .ok (.mk 1 0 (hd ts).text [e]) r) (T.drop s.i):=by
   unfold stG;rw[if_pos hn]
  have:=jmR hT hx s hi h0 hn
  unfold RU at this ⊢;rw[e];exact this
 | false =>
  cases hw:j9 sY (qE T s).text with
  | true =>
   have hk:(qE T s).kind=1:=by
    obtain⟨w,hw1,hw2⟩ := List.any_eq_true.1 hw
    exact jdK (hT.hd hi) (jnf w hw1) (of_decide_eq_true hw2).symm
   have e:=jgS ex bl (T.drop s.i) hn (joV hw)
   rw[if_neg (show ¬ (hd (T.drop s.i)).kind ≠ 1 from fun h=>h hk)] at e
   have:=jmT hlv hT hx hb s hi h0 hn hw
   unfold RU at this ⊢;rw[<- e];exact this
  | false =>
   have e:=jrq ex bl (T.drop s.i) hn hw
   have:=jmS (lv:=lv) hT s hi h0 hn hw
   unfold RU at this ⊢;rw[e];exact this
theorem jkC {lv:Int} (hlv:0<=lv/\lv<=20) (hT:Ks T) {st:List Tk->Pn} (hst:∀ s:S6,s.i<T.length->s.e=0->SpecU 95 (wI T s) [.box 0 0,intA lv] (RU T s st)) (gst:GoesS st):tB T 49 lv (bkF st):=fun s0 hi0 y hy=>by
 obtain⟨P,hP⟩ : ∃ P,bkF st (T.drop s0.i)=P:=⟨_,rfl⟩
 unfold RU;rw[hP]
 have hop:=jeF hT hi0 pLb lv y hy
 have hst:=fun s h1 h2=>hst s h1 h2 y hy
 have hn0:=hT.n
 rw[jiA hlv.2] at hop;unfold bkF at hP
 have hi1:=vO hi0 pLb
 have hup:=fun s2 f (h:Dq T (bK T s0 pLb) s2 (mG st (T.drop (bK T s0 pLb).i).length [] (T.drop (bK T s0 pLb).i)) f)=>yA (w:=pLb) (K:=fun r=>mG st r.length [] r) hT hi0 (xK (by decide)) h
 rw[hP] at hup;clear hP;generalize bK T s0 pLb=s1 at *;refine eN jpD (fun _=>[0]) 1 Tryz.func49 rfl ?_;intro _;conv=>whnf
 refine jS 0 [] hop ?_;rintro o r ⟨c,ho,rfl,rfl⟩;cases ho;conv=>whnf
 refine qS 65 4 [] [(2,3)] ?_;conv=>whnf
 refine⟨trivial,?_⟩;conv=>whnf
 refine jB [0,1,4,5] ?_;conv=>whnf
 refine jH (fun _:Nat × List Nt × S6=>[]) (fun x=>[wI T x.2.2++[.v y],jbY,[intA 11,intA 0,jX ⟨#[]⟩,.own 0]]) (fun x=>[.live 65 4 x.2.1.length (qX x.2.1)]) (fun x=>x.2.2.i<T.length/\(x.2.2.e=0->(T.drop x.2.2.i).length<=x.1/\x.2.1.length+(T.drop x.2.2.i).length<=1000001) /\ ∀ s' f',Dq T x.2.2 s' (mG st x.1 x.2.1 (T.drop x.2.2.i)) f'->Dq T s0 s' P f') (fun x=>if x.2.2.e=0 then T.length-x.2.2.i+1 else 0) ((T.drop s1.i).length,[],s1) ?_ ⟨hi1,fun _=>⟨Nat.le_refl _,by simp only[List.length_nil,List.length_drop];omega⟩,hup⟩ ?_
 ·repeat' constructor
  show Row.live _ _ _ _=Row.live _ 4 0 (qX [])
  rw[kR]
 rintro⟨n,acc,s⟩ ⟨hi,hn,hinv⟩
 simp only at hi hn hinv
 have hnx:=xM hi y hy
 have htk:=nK hT hi y hy
 have hxp:=qK hT hi pRb y hy
 conv=>whnf
 by_cases h0:s.e=0
 ·rw[jK h0];conv=>whnf
  refine jS 0 [] hnx ?_;rintro o r ⟨c,ho,rfl,rfl⟩;cases ho;conv=>whnf
  obtain⟨hn1,hn2⟩ := hn h0
  have hln:(T.drop s.i).length=T.length-s.i:=List.length_drop
  obtain⟨m,rfl⟩ : ∃ m,n=m+1:=⟨n-1,by omega⟩
  rw[mG] at hinv
  have hip:=q9 hT hi (w:=pRb) (xK (by decide))
  by_cases h1:(qE T s).text=pRb
  ·rw[jK (p:=(qE T s).text = ⟨_⟩) h1];rw[if_pos (by rw[hip];exact jK h1)] at hinv;conv=>whnf
   refine jS 0 [] hxp ?_;rintro o r ⟨c,ho,rfl,rfl⟩;cases ho;conv=>whnf
   have hd:Dq T s (bK T s pRb) (xpt pRb (T.drop s.i) fun r => .ok (wL acc) r) (wL acc):=yA hT hi (xK (by decide)) (wZ (vO hi _) _)
   unfold xpt at hd;rw[if_pos (by rw[hip];exact jK h1)] at hd;exact⟨_,rfl,_,wL acc,hinv _ _ hd,rfl,rfl⟩
  ·rw[jG (p:=(qE T s).text = ⟨_⟩) h1];rw[if_neg (by rw[hip,jG h1];simp)] at hinv
   have hs:=hst s hi h0
   conv=>whnf
   refine jS 0 [] hs ?_;rintro o r ⟨c,ho,s2,f2,hq2,rfl,rfl⟩;cases ho
   have hlt:s2.e=0->(T.drop s2.i).length+1<=(T.drop s.i).length:=fun e2=>by
    have h5:=hq2.2.2 h0
    cases hop:st (T.drop s.i) with
    | ok g r =>
     rw[hop] at h5
     have h6:=(gst _ _ _ (hT.p hi) hop).2
     rw[h5.2.2.2];omega
    | bad x e =>
     rw[hop] at h5;exact absurd (h5.2.1.symm.trans e2) h5.1
   conv=>whnf
   refine⟨⟨by simp only;unfold maxLen;omega,by simp only;omega⟩,?_⟩;conv=>whnf
   refine⟨(m,acc++[f2],s2),jE [0] ?_,⟨hq2.1,fun e2 => ?_,fun s' f' h=>hinv s' f' (zG hq2 h)⟩,?_⟩
   ·conv=>whnf
    repeat' constructor
    simp only[List.length_append,List.length_cons,List.length_nil];rw[lP];rfl
   ·have:=hlt e2
    simp only[List.length_append,List.length_cons,List.length_nil];omega
   ·simp only
    rw[if_pos h0]
    by_cases e2:s2.e=0
    ·have h6:=hlt e2
     rw[List.length_drop,List.length_drop] at h6;rw[if_pos e2];omega
    ·rw[if_neg e2];omega
 ·rw[jG h0];conv=>whnf
  refine jS 0 [] hxp ?_;rintro o r ⟨c,ho,rfl,rfl⟩;cases ho;conv=>whnf
  rw[mC h0];exact⟨_,rfl,s,wL acc,hinv _ _ (r6 hi h0 rfl rfl _ _),rfl,rfl⟩
theorem jgn (hT:Ks T):tB T 49 21 bkN:=fun s0 hi0 y hy=>by
 have hop:=jeF hT hi0 pLb 21 y hy
 have he:=jbA (T:=T) s0 pLb
 have hi1:=jgT hi0 pLb 21
 have hup:=fun f=>je6 (w:=pLb) hT hi0 (xK (by decide)) (s2:=rQ T s0 pLb 21) (s3:=rQ T s0 pLb 21) (r6 hi1 he rfl rfl (.bad 0 1) (wL [])) ⟨hi1,fun _=>⟨rfl,rfl⟩⟩ f
 change ∀ f,Dq T s0 (rQ T s0 pLb 21) (bkN (T.drop s0.i)) f at hup
 generalize rQ T s0 pLb 21=s at *
 have hxp:=qK hT hi1 pRb y hy
 refine eN jpD (fun _=>[0]) 1 Tryz.func49 rfl ?_;intro _;conv=>whnf
 refine jS 0 [] hop ?_;rintro o r ⟨c,ho,rfl,rfl⟩;cases ho;conv=>whnf
 refine qS 65 4 [] [(2,3)] ?_;conv=>whnf
 refine⟨trivial,?_⟩;conv=>whnf
 refine jB [0,1,4,5] ?_;conv=>whnf
 refine jH (fun _:Unit=>[]) (fun _=>[wI T s++[.v y],jbY,[intA 11,intA 0,jX ⟨#[]⟩,.own 0]]) (fun _=>[.live 65 4 0 (qX [])]) (fun _=>True) (fun _=>0) () ?_ trivial ?_
 ·repeat' constructor
  show Row.live _ _ _ _=Row.live _ 4 0 (qX [])
  rw[kR]
 rintro _ _;conv=>whnf
 rw[jG he];conv=>whnf
 refine jS 0 [] hxp ?_;rintro o r ⟨c,ho,rfl,rfl⟩;cases ho;conv=>whnf
 rw[mC he];exact⟨_,rfl,s,wL [],hup _,rfl,rfl⟩
theorem jpG {lv:Int} {low:Option Pa} (hT:Ks T) (h:LowR6 T lv low):tB T 49 (lv+1) (jmf low):=by
 obtain⟨h0,⟨rfl,rfl⟩ | ⟨p,rfl,h1,a,b,c,d⟩⟩ := h
 ·exact jgn hT
 ·exact d
theorem jdm {lv:Int} {low:Option Pa} (hT:Ks T) (h0:0<=lv) (h1:lv+1<=20) (hg:cD low) (h:LowR6 T (lv+1) low):LowR6 T lv (some (paG low)):=by
 obtain⟨x7,x3,x1⟩ := jrh hT hg h
 have hst:=fun s=>jiq (lv:=lv+1) ⟨by omega,h1⟩ hT x1 (jpG hT h) s
 exact⟨h0,.inr ⟨_,rfl,h1,x3,x7,x1,jkC ⟨by omega,h1⟩ hT hst (pY (gQ hg) (v6 hg))⟩⟩
theorem jjJ (hT:Ks T):∀ d:Nat,d<=19->LowR6 T (19-d) (some (pa d))
 | 0,_=>jdm hT (by decide) (by decide) (fun p h=>by cases h) ⟨by decide,.inl ⟨rfl,rfl⟩⟩
 | d+1,h=>by
  have ih:=jjJ hT d (by omega)
  refine jdm hT (by omega) (by omega) (jev [] d (by omega)).goes ?_;rw[show (19-((d+1:Nat):Int)+1)=19-(d:Int) by push_cast;omega];exact ih
theorem jjD (hT:Ks T):tB T 49 1 (pa 19).bl:=jpG hT (jjJ hT 19 (by decide))
end
section
variable {T:List Tk}
def jsN (id:Nat):Tr:=match Nat.beq id 6 with
 | true => .q 0 3 (.q 1 3 (.q 2 3 (.q 4 3 (.alt 3 2 (.alt 5 2 (.alt 6 2 .nil .nil) .nil) (.alt 5 2 (.alt 3 2 (.alt 6 2 .nil .nil) .nil) .nil)))))
 | false=>match Nat.beq id 12 with
  | true => .q 0 3 (.q 1 3 (.q 2 3 (.q 3 3 (.q 5 3 (.alt 4 2 (.alt 6 2 (.alt 7 2 (.alt 8 2 (.q 9 3 (.q 10 3 (.alt 11 2 .nil .nil))) .nil) .nil) .nil) (.alt 6 2 (.alt 4 2 (.alt 7 2 (.alt 8 2 (.q 9 3 (.q 10 3 (.alt 11 2 .nil .nil))) .nil) .nil) (.alt 7 2 (.alt 4 2 (.alt 8 2 (.q 9 3 (.q 10 3 (.alt 11 2 .nil .nil))) .nil) .nil) .nil)) .nil))))))
  | false => .nil
def deB (n:Nat) (nm out:List ByteArray) (us:List Tk):Pd :=
 if wV us=false then .bad (hd us).pos 10
 else if j9 nm (hd us).text=true then .bad (hd us).pos 4
 else if nm.length=16 then .bad (hd us).pos 2
 else deH n (nm++[(hd us).text]) (out++[(hd us).text]) us.tail
theorem jlG (n:Nat) (nm out:List ByteArray) (ts:List Tk):aO (n+1) nm out ts=deB n nm out ts.tail:=rfl
def Dd (T:List Tk) (s':S6) (P:Pd) (nm out:List ByteArray):Prop:=s'.i<T.length/\match P with
 | .ok n o r=>s'.e=0/\nm=n/\out=o/\T.drop s'.i=r
 | .bad x e=>e ≠ 0/\s'.e=e/\s'.a=x
theorem jsT (hT:Ks T) (nm0:List ByteArray) (s0:S6) (hi0:s0.i<T.length) (h0:s0.e=0) (hk0:(qE T s0).kind ≠ 0) (hl16:nm0.length<=16) :
  fQ Tryz.prog 46 [wI T s0++[.own 0]] 9 1 nm0.length (vV nm0) [.box 0 0]
   (fun o n cs r => ∃ s' nm out,o=[wI T s'++[.own 0]]/\n=nm.length/\cs=vV nm/\r = .sl 1 out.length (vV out)/\nm.length<=16/\nm0.length+out.length<=nm.length/\Dd T s' (aO (T.drop s0.i).length nm0 [] (T.drop s0.i)) nm out) (fun _=>False):=by
 obtain⟨P,hP⟩ : ∃ P,aO (T.drop s0.i).length nm0 [] (T.drop s0.i)=P:=⟨_,rfl⟩
 rw[hP]
 have hn0:=hT.n
 have hln0:(T.drop s0.i).length=T.length-s0.i:=List.length_drop
 have htk0:=nK hT hi0
 have hi1:=nD hi0
 have hdn:=zC hT hi0 hk0
 have hse:=(xX (T:=T) s0).1
 have hst:=bA hT hi0 hk0
 obtain⟨n0,hn0'⟩ : ∃ n0,(T.drop s0.i).length=n0+1:=⟨(T.drop s0.i).length-1,by omega⟩
 rw[hn0',jlG,<- hdn] at hP
 have hl1:(T.drop (y8 T s0).i).length<=n0:=by rw[hst,List.length_drop];simp only;omega
 rw[h0] at hse;generalize y8 T s0=s1 at *;refine rO (wE jsN (fun _=>[0]) 1 (fun ch _=>False)) (fun _ _ h=>h) Tryz.func46 rfl (by kernel_rfl) rfl (by kernel_rfl) ?_;intro _;conv=>whnf
 refine q8 0 0 (cA:=wI T (s0)) rfl rfl (Nat.zero_lt_succ _) rfl rfl (htk0).v (fun _ _ h=>h.elim) ?_;rintro c r ⟨rfl,rfl⟩;conv=>whnf
 refine qS 9 1 [3] [] ?_;conv=>whnf
 refine⟨trivial,?_⟩;conv=>whnf
 refine jB [0,3] ?_;conv=>whnf
 refine jH (fun x:Nat × List ByteArray × List ByteArray × S6=>[]) (fun x=>[wI T x.2.2.2++[.own 0]]) (fun x=>[.live 9 1 x.2.1.length (vV x.2.1),.live 9 1 x.2.2.1.length (vV x.2.2.1)])
  (fun x=>x.2.2.2.i<T.length/\x.2.2.2.e=0/\(T.drop x.2.2.2.i).length<=x.1/\x.2.1.length<=16/\nm0.length+x.2.2.1.length<=x.2.1.length/\deB x.1 x.2.1 x.2.2.1 (T.drop x.2.2.2.i)=P) (fun x=>T.length-x.2.2.2.i) (n0,nm0,[],s1) ?_ ⟨hi1,hse,hl1,hl16,Nat.le_refl _,hP⟩ ?_
 ·repeat' constructor
 clear hP hse hl1 hi1 hn0' hdn;rintro⟨n,nm,out,s⟩ ⟨hi,he,g3,g4,g5,hP⟩
 simp only at hi he g3 g4 g5 hP
 have hnx:=xM hi
 have hnm:=jbo hi
 have htk:=nK hT hi
 have hfl:∀ x:Int,SpecU 91 (wI T s) [.box 0 0,intA x,.v (.int .i64 s.i)] fun c r=>c=wI T ⟨s.i,(qE T s).pos,x⟩ /\ r = .tup []:=fun x=>by
  have:=nI s.i hi x (s:=s)
  unfold stF at this;rw[if_pos he] at this;exact this
 have hxe:∀ x:Int,x ≠ 0->SpecU 47 (wI T ⟨s.i,(qE T s).pos,x⟩) [.box 0 0,jX jQ] fun c r=>c=wI T ⟨s.i,(qE T s).pos,x⟩ /\ r = .tup []:=fun x h=>by
  have:=qK hT (s:=⟨s.i,(qE T s).pos,x⟩) hi jQ
  rw[mC h] at this;exact this
 conv=>whnf
 rw[jK he];conv=>whnf
 refine q8 0 0 (cA:=wI T (s)) rfl rfl (Nat.zero_lt_succ _) rfl rfl (hnm).v (fun _ _ h=>h.elim) ?_;rintro c r ⟨rfl,rfl⟩;conv=>whnf
 cases hn:wV (T.drop s.i) with
 | false =>
  unfold deB at hP;rw[if_pos hn] at hP;conv=>whnf
  refine q8 0 0 (cA:=wI T (s)) rfl rfl (Nat.zero_lt_succ _) rfl rfl (hfl 10).v (fun _ _ h=>h.elim) ?_;rintro c r ⟨rfl,rfl⟩;conv=>whnf
  refine q8 0 0 (cA:=wI T (⟨s.i,(qE T s).pos,10⟩)) rfl rfl (Nat.zero_lt_succ _) rfl rfl (hxe 10 (by decide)).v (fun _ _ h=>h.elim) ?_;rintro c r ⟨rfl,rfl⟩;conv=>whnf
  subst hP;refine⟨0,?_⟩;conv=>whnf
  exact⟨⟨s.i,(qE T s).pos,10⟩,nm,out,rfl,rfl,rfl,rfl,g4,g5,hi,show (10:Int) ≠ 0 by decide,rfl,rfl⟩
 | true =>
  have hk:(qE T s).kind ≠ 0:=by
   have:=yT hn
   change (qE T s).kind=1 at this
   rw[this];decide
  have hdn:=zC hT hi hk
  have hi1:=nD hi
  have he1:=(xX (T:=T) s).1
  have hst:=bA hT hi hk
  rw[he] at he1;unfold deB at hP;rw[if_neg (by rw[hn];simp)] at hP;conv=>whnf
  have hct:=xT nm (qE T s).text (by omega)
  apply lJ
  ·conv=>whnf
   refine⟨?_,?_⟩
   ·conv=>whnf
    refine q8 0 0 (cA:=wI T (s)) rfl rfl (Nat.zero_lt_succ _) rfl rfl (hnx).v (fun _ _ h=>h.elim) ?_;rintro c r ⟨rfl,rfl⟩;conv=>whnf
    refine jiY [0] rfl (fun _=>hct) ?_;rintro r rfl;refine⟨_,rfl,?_⟩;conv=>whnf
   ·conv=>whnf
    refine q8 0 0 (cA:=wI T (s)) rfl rfl (Nat.zero_lt_succ _) rfl rfl (hnx).v (fun _ _ h=>h.elim) ?_;rintro c r ⟨rfl,rfl⟩;conv=>whnf
    refine jiY [0] rfl (fun _=>hct) ?_;rintro r rfl;refine⟨_,rfl,?_⟩;conv=>whnf
  conv=>whnf
  cases hh:j9 nm (qE T s).text with
  | true =>
   change j9 nm (hd (T.drop s.i)).text=true at hh
   rw[if_pos hh] at hP;conv=>whnf
   refine q8 0 0 (cA:=wI T (s)) rfl rfl (Nat.zero_lt_succ _) rfl rfl (hfl 4).v (fun _ _ h=>h.elim) ?_;rintro c r ⟨rfl,rfl⟩;conv=>whnf
   refine q8 0 0 (cA:=wI T (⟨s.i,(qE T s).pos,4⟩)) rfl rfl (Nat.zero_lt_succ _) rfl rfl (hxe 4 (by decide)).v (fun _ _ h=>h.elim) ?_;rintro c r ⟨rfl,rfl⟩;conv=>whnf
   subst hP;refine⟨0,?_⟩;conv=>whnf
   exact⟨⟨s.i,(qE T s).pos,4⟩,nm,out,rfl,rfl,rfl,rfl,g4,g5,hi,show (4:Int) ≠ 0 by decide,rfl,rfl⟩
  | false =>
   change j9 nm (hd (T.drop s.i)).text=false at hh
   rw[if_neg (by rw[hh];simp)] at hP;conv=>whnf
   by_cases h16:nm.length=16
   ·rw[if_pos h16] at hP;rw[jK (show 16<=(nm.length:Int) by omega)];conv=>whnf
    refine q8 0 0 (cA:=wI T (s)) rfl rfl (Nat.zero_lt_succ _) rfl rfl (hfl 2).v (fun _ _ h=>h.elim) ?_;rintro c r ⟨rfl,rfl⟩;conv=>whnf
    refine q8 0 0 (cA:=wI T (⟨s.i,(qE T s).pos,2⟩)) rfl rfl (Nat.zero_lt_succ _) rfl rfl (hxe 2 (by decide)).v (fun _ _ h=>h.elim) ?_;rintro c r ⟨rfl,rfl⟩;conv=>whnf
    subst hP;refine⟨0,?_⟩;conv=>whnf
    exact⟨⟨s.i,(qE T s).pos,2⟩,nm,out,rfl,rfl,rfl,rfl,g4,g5,hi,show (2:Int) ≠ 0 by decide,rfl,rfl⟩
   ·rw[if_neg h16] at hP;rw[jG (show ¬ 16<=(nm.length:Int) by omega)];conv=>whnf
    rw[jK he];conv=>whnf
    refine q8 0 0 (cA:=wI T (s)) rfl rfl (Nat.zero_lt_succ _) rfl rfl (hnx).v (fun _ _ h=>h.elim) ?_;rintro c r ⟨rfl,rfl⟩;conv=>whnf
    refine⟨⟨by simp only;unfold maxLen;omega,by simp only;omega⟩,?_⟩;conv=>whnf
    apply lJ
    ·conv=>whnf
     refine⟨?_,?_⟩
     ·conv=>whnf
      refine q8 0 0 (cA:=wI T (s)) rfl rfl (Nat.zero_lt_succ _) rfl rfl (hnx).v (fun _ _ h=>h.elim) ?_;rintro c r ⟨rfl,rfl⟩;conv=>whnf
      refine⟨⟨by simp only;unfold maxLen;omega,by simp only;omega⟩,?_⟩;conv=>whnf
      try rfl
     ·conv=>whnf
      refine q8 0 0 (cA:=wI T (s)) rfl rfl (Nat.zero_lt_succ _) rfl rfl (hnx).v (fun _ _ h=>h.elim) ?_;rintro c r ⟨rfl,rfl⟩;conv=>whnf
      refine⟨?_,?_⟩
      ·conv=>whnf
       refine⟨⟨by simp only;unfold maxLen;omega,by simp only;omega⟩,?_⟩;conv=>whnf
       try rfl
      ·conv=>whnf
       refine⟨⟨by simp only;unfold maxLen;omega,by simp only;omega⟩,?_⟩;conv=>whnf
       try rfl
    conv=>whnf
    refine q8 0 0 (cA:=wI T (s)) rfl rfl (Nat.zero_lt_succ _) rfl rfl (htk).v (fun _ _ h=>h.elim) ?_;rintro c r ⟨rfl,rfl⟩;conv=>whnf
    rw[<- hdn] at hP
    have hln1:(T.drop (y8 T s).i).length+1=(T.drop s.i).length:=by
     have:s.i+1<T.length:=by
      rw[hst] at hi1;exact hi1
     rw[hst,List.length_drop,List.length_drop]
     simp only
     omega
    have hl2:nm.length+1<=16:=by omega
    have htt:(hd (T.drop s.i)).text=(qE T s).text:=rfl
    rw[htt] at hP;clear hfl hxe hct hnx hnm htk;generalize htx:(qE T s).text=tx at *;generalize hs1:y8 T s=s2 at *
    have hnx:=xM hi1
    have htk:=nK hT hi1
    have hxp:=qK hT hi1 jQ
    refine q8 0 0 (cA:=wI T (s2)) rfl rfl (Nat.zero_lt_succ _) rfl rfl (hnx).v (fun _ _ h=>h.elim) ?_;rintro c r ⟨rfl,rfl⟩;conv=>whnf
    unfold deH at hP;rw[q9 hT hi1 (w:=j0) (xK (by decide)),q9 hT hi1 (w:=jQ) (xK (by decide))] at hP
    by_cases hc:(qE T s2).text=j0
    ·rw[jK (p:=(qE T s2).text = ⟨_⟩) hc];rw[if_pos (jK hc)] at hP
     have hk2:=xY hT hi1 (w:=j0) (xK (by decide)) hc
     have hdn2:=zC hT hi1 hk2
     have he2:=(xX (T:=T) s2).1
     have hi2:=nD hi1
     have hst2:=bA hT hi1 hk2
     obtain⟨m,rfl⟩ : ∃ m,n=m+1:=⟨n-1,by rw[List.length_drop] at hln1;omega⟩
     rw[jlG,<- hdn2] at hP
     have hln2:(T.drop (y8 T s2).i).length+1=(T.drop s2.i).length:=by
      rw[hst2] at hi2;rw[hst2,List.length_drop,List.length_drop]
      simp only at hi2 ⊢
      omega
     rw[he1] at he2;generalize y8 T s2=s3 at *;conv=>whnf
     refine q8 0 0 (cA:=wI T (s2)) rfl rfl (Nat.zero_lt_succ _) rfl rfl (htk).v (fun _ _ h=>h.elim) ?_;rintro c r ⟨rfl,rfl⟩;conv=>whnf
     refine⟨(m,nm++[tx],out++[tx],s3),jE [0,1] ?_,⟨hi2,he2,by simp only;omega,by simp only[List.length_append,List.length_cons,List.length_nil];omega,by simp only[List.length_append,List.length_cons,List.length_nil];omega,hP⟩,by simp only[List.length_drop] at hln1 hln2 ⊢;omega⟩;conv=>whnf
     simp only[List.length_append,List.length_cons,List.length_nil,iZ]
     repeat' constructor
    ·rw[jG (p:=(qE T s2).text = ⟨_⟩) hc];rw[if_neg (by rw[jG hc];simp)] at hP;conv=>whnf
     refine q8 0 0 (cA:=wI T (s2)) rfl rfl (Nat.zero_lt_succ _) rfl rfl (hxp).v (fun _ _ h=>h.elim) ?_;rintro c r ⟨rfl,rfl⟩;conv=>whnf
     refine⟨0,?_⟩;conv=>whnf
     refine⟨bK T s2 jQ,nm++[tx],out++[tx],rfl,by rw[List.length_append];rfl,by rw[iZ];rfl,by rw[List.length_append,iZ];rfl,by simp only[List.length_append,List.length_cons,List.length_nil];omega,by simp only[List.length_append,List.length_cons,List.length_nil];omega,vO hi1 _,?_⟩;subst hP
     by_cases hs:(qE T s2).text=jQ
     ·rw[if_pos (jK hs)]
      have e1:bK T s2 jQ=y8 T s2:=by unfold bK;rw[if_pos he1,if_pos hs]
      rw[e1];exact⟨by rw[(xX s2).1];exact he1,rfl,rfl,zC hT hi1 (xY hT hi1 (xK (by decide)) hs)⟩
     ·rw[if_neg (by rw[jG hs];simp)]
      have e1:bK T s2 jQ = ⟨s2.i,(qE T s2).pos,10⟩ := by unfold bK;rw[if_pos he1,if_neg hs]
      rw[e1];exact⟨show (10:Int) ≠ 0 by decide,rfl,rfl⟩
end
section
variable {T:List Tk}
def jaO:List ByteArray:=[nL,wRequest,wTimer,wMessage]
def Dh (T:List Tk) (s':S6) (P:Ph) (k:Int):Prop:=s'.i<T.length/\match P with
 | .ok n r=>s'.e=0/\k=n/\T.drop s'.i=r
 | .bad x e=>e ≠ 0/\s'.e=e/\s'.a=x
def stD (T:List Tk) (s:S6) (p:Int) (b:Bool):S6:=if s.e=0/\b=true then ⟨s.i,p,4⟩ else s
theorem je7 {hs:List (Int × Nt)} {us:List Tk} {s:S6} {k:Int} (h:Dh T s (tM us) k):Dh T (stD T s (hd us).pos (hs.any fun h=>decide (h.1=k))) (tK hs us) k:=by
 obtain⟨hi,h⟩ := h
 unfold tK stD
 cases hP:tM us with
 | ok n r =>
  rw[hP] at h
  obtain⟨h1,rfl,h2⟩ := h
  simp only
  by_cases hd:(hs.any fun h=>decide (h.1=k))=true
  ·rw[if_pos hd,if_pos ⟨h1,hd⟩];exact⟨hi,show (4:Int) ≠ 0 by decide,rfl,rfl⟩
  ·rw[if_neg hd,if_neg (fun h=>hd h.2)];exact⟨hi,h1,rfl,h2⟩
 | bad x e =>
  rw[hP] at h
  obtain⟨h1,h2,h3⟩ := h
  rw[if_neg (fun h=>h1 (h2.symm.trans h.1))];exact⟨hi,h1,h2,h3⟩
theorem jlJ (hT:Ks T) {s:S6} (hi:s.i<T.length) (h0:s.e=0) (m off:Int):Dh T (mB T s m) (mH (m+1) off (T.drop s.i)) (off+vaN T s m):=by
 refine⟨mU hi m,?_⟩;unfold mH
 have e0:hd (T.drop s.i)=qE T s:=rfl
 rw[e0]
 by_cases hk:(qE T s).kind=2
 ·have hk' : ¬ (qE T s).kind ≠ 2:=fun h=>h hk
  rw[if_neg hk']
  by_cases hm:m<(qE T s).n
  ·have e1:mB T s m = ⟨s.i,(qE T s).pos,6⟩ := by unfold mB;rw[if_pos h0,if_neg hk',if_pos hm]
   rw[e1,if_pos (by omega)];exact⟨show (6:Int) ≠ 0 by decide,rfl,rfl⟩
  ·have e1:mB T s m=y8 T s:=by unfold mB;rw[if_pos h0,if_neg hk',if_neg hm]
   have e2:vaN T s m=(qE T s).n:=by unfold vaN;rw[if_pos ⟨h0,hk,by omega⟩]
   rw[e1,e2,if_neg (by omega)];exact⟨by rw[(xX s).1];exact h0,rfl,zC hT hi (by rw[hk];decide)⟩
 ·have e1:mB T s m = ⟨s.i,(qE T s).pos,10⟩ := by unfold mB;rw[if_pos h0,if_pos hk]
  rw[e1,if_pos hk];exact⟨show (10:Int) ≠ 0 by decide,rfl,rfl⟩
theorem jeR (hT:Ks T) {s:S6} (hi:s.i<T.length) {m:Int} (hm:0<=m):0<=vaN T s m/\vaN T s m<=m:=by
 unfold vaN
 have:=(hT.p hi).good.2.2.2.1
 change 0<=(qE T s).n at this
 split
 ·omega
 ·omega
theorem rP {T:List Tk} {s:S6} {k0:Nat} {b c:Bool} : (if c=true then stF T (stD T s (hd (T.drop k0)).pos b) 4 k0 else stD T s (hd (T.drop k0)).pos b)=stD T s (hd (T.drop k0)).pos (b || c):=by
 unfold stF stD
 by_cases h0:s.e=0
 ·cases b <;> cases c <;> simp[h0]
 ·cases b <;> cases c <;> simp[h0]
theorem pK (p:Int × Nt->Bool) (l:List (Int × Nt)) (j:Nat) (h:j<l.length):(l.take (j+1)).any p=((l.take j).any p || p l[j]):=by
 rw[List.take_succ_eq_append_getElem h,List.any_append,List.any_cons,List.any_nil,Bool.or_false]
theorem jqE (hT:Ks T) {s:S6} (hi:s.i<T.length) (h:j9 jaO (qE T s).text=false):tM (T.drop s.i) = .bad (hd (T.drop s.i)).pos 10:=by
 have hn:∀ w ∈ jaO,Ws6 w -> ¬ zK w (T.drop s.i)=true:=fun w hw h6 e=>by
  rw[q9 hT hi h6] at e
  have e2:j9 jaO (qE T s).text=true:=List.any_eq_true.2 ⟨w,hw,jK (of_decide_eq_true e).symm⟩
  rw[h] at e2;cases e2
 unfold tM;rw[if_neg (hn nL (by simp[jaO]) (xK (by decide))),if_neg (hn wRequest (by simp[jaO]) (xK (by decide))),if_neg (hn wTimer (by simp[jaO]) (xK (by decide))),if_neg (hn wMessage (by simp[jaO]) (xK (by decide)))]
theorem jgv (hT:Ks T) (hs:List (Int × Nt)) (hlen:hs.length<=1000000) (s0:S6) (hi0:s0.i<T.length) (h0:s0.e=0) :
  SpecU 48 (wI T s0) [.box 0 0,.sl 5 hs.length (z6 hs)] fun c r => ∃ s' k,c=wI T s'/\r=intA k/\0<=k/\k<=100/\Dh T s' (tK hs (T.drop s0.i)) k:=fun y hy=>by
 have hnx:=xM hi0 y hy
 have hta:=nK hT hi0 y hy
 have hhs:=xT jaO (qE T s0).text (by decide)
 obtain⟨P,hP⟩ : ∃ P,tK hs (T.drop s0.i)=P:=⟨_,rfl⟩
 rw[hP];unfold tK at hP
 have hfl:=nI s0.i hi0 10 (s:=s0) y hy
 obtain⟨t,ht⟩ : ∃ t,(qE T s0).text=t:=⟨_,rfl⟩
 rw[ht] at hnx hhs;refine eN jR (fun _=>[0]) 1 Tryz.func48 rfl ?_;intro _;conv=>whnf
 refine jS 0 [] hnx ?_;rintro o r ⟨c,ho,rfl,rfl⟩;cases ho;conv=>whnf
 (refine kU [0] hhs ?_;rintro r rfl;conv=>whnf)
 conv=>whnf
 cases hw:j9 jaO t with
 | false =>
  unfold stF at hfl;rw[if_pos h0] at hfl;conv=>whnf
  refine jS 0 [] hfl ?_;rintro o r ⟨c,ho,rfl,rfl⟩;cases ho;conv=>whnf
  refine⟨_,rfl,⟨s0.i,(hd (T.drop s0.i)).pos,10⟩,0,rfl,rfl,by omega,by omega,hi0,?_⟩;rw[jqE hT hi0 (by rw[ht];exact hw)] at hP;subst hP;exact⟨show (10:Int) ≠ 0 by decide,rfl,rfl⟩
 | true =>
  have hkd:(qE T s0).kind ≠ 0:=by
   obtain⟨w,hw1,hw2⟩ := List.any_eq_true.1 hw
   have hw2:=(of_decide_eq_true hw2).symm
   refine xY hT hi0 (w:=w) ?_ (ht.trans hw2);simp only[jaO,List.mem_cons,List.not_mem_nil,or_false] at hw1
   rcases hw1 with e | e | e | e <;> rw[e] <;> exact xK (by decide)
  conv=>whnf
  refine jS 0 [] hta ?_;rintro o r ⟨c,ho,rfl,rfl⟩;cases ho;conv=>whnf
  by_cases g1:t=nL
  ·have n1 : ¬ t=wRequest:=fun e=>by rw[g1] at e;exact absurd e (by decide)
   have n2 : ¬ t=wTimer:=fun e=>by rw[g1] at e;exact absurd e (by decide)
   have n3 : ¬ t=wMessage:=fun e=>by rw[g1] at e;exact absurd e (by decide)
   rw[jG (p:=t = ⟨_⟩) n1];conv=>whnf
   rw[jG (p:=t = ⟨_⟩) n2];conv=>whnf
   rw[jG (p:=t = ⟨_⟩) n3];conv=>whnf
   have hs1:Dh T (y8 T s0) (tM (T.drop s0.i)) 0:=by
    unfold tM;rw[q9 hT hi0 (w:=nL) (xK (by decide)),if_pos (jK (ht.trans g1))];exact⟨nD hi0,by rw[(xX s0).1];exact h0,rfl,zC hT hi0 hkd⟩
   refine gY [] ?_;conv=>whnf
   refine jB [0,1,5,7] ?_;conv=>whnf
   have hdh:=je7 (hs:=hs) hs1
   unfold tK at hdh;rw[hP] at hdh;refine jH (fun x:Nat × S6=>[(8,.v (.int .i64 x.1))]) (fun x=>[wI T x.2++[.v y]]) (fun _=>[]) (fun x=>x.1<=hs.length/\x.2=stD T (y8 T s0) (hd (T.drop s0.i)).pos ((hs.take x.1).any fun h=>decide (h.1=0))) (fun x=>hs.length-x.1) (0,y8 T s0) ?_ ⟨Nat.zero_le _,by unfold stD;rw[if_neg (fun h=>by simp at h)]⟩ ?_
   ·repeat' constructor
   rintro⟨j,s2⟩ ⟨hj,hs2⟩
   simp only at hj hs2
   conv=>whnf
   by_cases hlt:j<hs.length
   ·rw[jK (show (j:Int)<hs.length by omega)]
    have hrow:=gF hs j hlt
    have hst:=rP (T:=T) (s:=y8 T s0) (k0:=s0.i) (b:=(hs.take j).any fun h=>decide (h.1=0)) (c:=decide (hs[j].1=0))
    rw[<- pK (fun h=>decide (h.1=0)) hs j hlt,<- hs2] at hst;generalize hs[j]=h at *
    have hf4:=nI s0.i hi0 4 (s:=s2) y hy
    conv=>whnf
    refine⟨by omega,?_⟩;conv=>whnf
    (generalize hrq:jC _ _ (z6 hs)=rq;obtain rfl:rq=hnA h:=hrq.symm.trans (hrow);clear hrq;conv=>whnf)
    by_cases hk:h.1=0
    ·rw[jK (show _=_ from hk)];rw[if_pos (jK hk)] at hst;conv=>whnf
     refine jS 0 [] hf4 ?_;rintro o r ⟨c,ho,rfl,rfl⟩;cases ho;conv=>whnf
     refine⟨jJ (by omega),?_⟩;conv=>whnf
     refine⟨(j+1,stF T s2 4 s0.i),jE [] ?_,⟨hlt,hst⟩,by simp only;omega⟩;conv=>whnf
     repeat' constructor
    ·rw[jG (show ¬ _=_ from hk)];rw[if_neg (by rw[jG hk];simp)] at hst;conv=>whnf
     refine⟨jJ (by omega),?_⟩;conv=>whnf
     refine⟨(j+1,s2),jE [] ?_,⟨hlt,hst⟩,by simp only;omega⟩;conv=>whnf
     repeat' constructor
   ·rw[jG (show ¬ (j:Int)<hs.length by omega)];rw[show j=hs.length by omega,List.take_length] at hs2;rw[<- hs2] at hdh;conv=>whnf
    exact⟨_,rfl,s2,0,rfl,rfl,by omega,by omega,hdh⟩
  have h1 : ¬ zK nL (T.drop s0.i)=true:=by rw[q9 hT hi0 (w:=nL) (xK (by decide)),ht,jG g1];simp
  by_cases g2:t=wRequest
  ·have n2 : ¬ t=wTimer:=fun e=>by rw[g2] at e;exact absurd e (by decide)
   have n3 : ¬ t=wMessage:=fun e=>by rw[g2] at e;exact absurd e (by decide)
   rw[jK (p:=t = ⟨_⟩) g2];conv=>whnf
   rw[jG (p:=t = ⟨_⟩) n2];conv=>whnf
   rw[jG (p:=t = ⟨_⟩) n3];conv=>whnf
   have hs1:Dh T (y8 T s0) (tM (T.drop s0.i)) 1:=by
    unfold tM;rw[if_neg h1,q9 hT hi0 (w:=wRequest) (xK (by decide)),if_pos (jK (ht.trans g2))];exact⟨nD hi0,by rw[(xX s0).1];exact h0,rfl,zC hT hi0 hkd⟩
   refine gY [] ?_;conv=>whnf
   refine jB [0,1,5,7] ?_;conv=>whnf
   have hdh:=je7 (hs:=hs) hs1
   unfold tK at hdh;rw[hP] at hdh;refine jH (fun x:Nat × S6=>[(8,.v (.int .i64 x.1))]) (fun x=>[wI T x.2++[.v y]]) (fun _=>[]) (fun x=>x.1<=hs.length/\x.2=stD T (y8 T s0) (hd (T.drop s0.i)).pos ((hs.take x.1).any fun h=>decide (h.1=1))) (fun x=>hs.length-x.1) (0,y8 T s0) ?_ ⟨Nat.zero_le _,by unfold stD;rw[if_neg (fun h=>by simp at h)]⟩ ?_
   ·repeat' constructor
   rintro⟨j,s2⟩ ⟨hj,hs2⟩
   simp only at hj hs2
   conv=>whnf
   by_cases hlt:j<hs.length
   ·rw[jK (show (j:Int)<hs.length by omega)]
    have hrow:=gF hs j hlt
    have hst:=rP (T:=T) (s:=y8 T s0) (k0:=s0.i) (b:=(hs.take j).any fun h=>decide (h.1=1)) (c:=decide (hs[j].1=1))
    rw[<- pK (fun h=>decide (h.1=1)) hs j hlt,<- hs2] at hst;generalize hs[j]=h at *
    have hf4:=nI s0.i hi0 4 (s:=s2) y hy
    conv=>whnf
    refine⟨by omega,?_⟩;conv=>whnf
    (generalize hrq:jC _ _ (z6 hs)=rq;obtain rfl:rq=hnA h:=hrq.symm.trans (hrow);clear hrq;conv=>whnf)
    by_cases hk:h.1=1
    ·rw[jK (show _=_ from hk)];rw[if_pos (jK hk)] at hst;conv=>whnf
     refine jS 0 [] hf4 ?_;rintro o r ⟨c,ho,rfl,rfl⟩;cases ho;conv=>whnf
     refine⟨jJ (by omega),?_⟩;conv=>whnf
     refine⟨(j+1,stF T s2 4 s0.i),jE [] ?_,⟨hlt,hst⟩,by simp only;omega⟩;conv=>whnf
     repeat' constructor
    ·rw[jG (show ¬ _=_ from hk)];rw[if_neg (by rw[jG hk];simp)] at hst;conv=>whnf
     refine⟨jJ (by omega),?_⟩;conv=>whnf
     refine⟨(j+1,s2),jE [] ?_,⟨hlt,hst⟩,by simp only;omega⟩;conv=>whnf
     repeat' constructor
   ·rw[jG (show ¬ (j:Int)<hs.length by omega)];rw[show j=hs.length by omega,List.take_length] at hs2;rw[<- hs2] at hdh;conv=>whnf
    exact⟨_,rfl,s2,1,rfl,rfl,by omega,by omega,hdh⟩
  rw[jG (p:=t = ⟨_⟩) g2];conv=>whnf
  have h2 : ¬ zK wRequest (T.drop s0.i)=true:=by rw[q9 hT hi0 (w:=wRequest) (xK (by decide)),ht,jG g2];simp
  have hi1:=nD hi0
  by_cases g3:t=wTimer
  ·have n3 : ¬ t=wMessage:=fun e=>by rw[g3] at e;exact absurd e (by decide)
   have hnx2:tM (T.drop s0.i)=mH 8 2 (T.drop s0.i).tail:=by
    unfold tM;rw[if_neg h1,if_neg h2,q9 hT hi0 (w:=wTimer) (xK (by decide)),if_pos (jK (ht.trans g3))]
   rw[jK (p:=t = ⟨_⟩) g3];conv=>whnf
   refine jS 0 [] (jgw hT hi1 7 y hy) ?_;rintro o r ⟨c,ho,rfl,rfl⟩;cases ho;conv=>whnf
   refine⟨jJ (by have:=jeR hT hi1 (m:=7) (by decide);omega),?_⟩;conv=>whnf
   have hvb:=jeR hT hi1 (m:=7) (by decide)
   have hs1:Dh T (mB T (y8 T s0) 7) (tM (T.drop s0.i)) (2+vaN T (y8 T s0) 7):=by
    have hd:=jlJ hT hi1 (by rw[(xX s0).1];exact h0) 7 2
    rw[zC hT hi0 hkd] at hd;rw[hnx2];exact hd
   generalize vaN T (y8 T s0) 7=v at *;rw[jG (p:=t = ⟨_⟩) n3];conv=>whnf
   refine gY [] ?_;conv=>whnf
   refine jB [0,1,5,7] ?_;conv=>whnf
   have hdh:=je7 (hs:=hs) hs1
   unfold tK at hdh;rw[hP] at hdh;refine jH (fun x:Nat × S6=>[(8,.v (.int .i64 x.1))]) (fun x=>[wI T x.2++[.v y]]) (fun _=>[]) (fun x=>x.1<=hs.length/\x.2=stD T (mB T (y8 T s0) 7) (hd (T.drop s0.i)).pos ((hs.take x.1).any fun h=>decide (h.1=(2+v)))) (fun x=>hs.length-x.1) (0,mB T (y8 T s0) 7) ?_ ⟨Nat.zero_le _,by unfold stD;rw[if_neg (fun h=>by simp at h)]⟩ ?_
   ·repeat' constructor
   rintro⟨j,s2⟩ ⟨hj,hs2⟩
   simp only at hj hs2
   conv=>whnf
   by_cases hlt:j<hs.length
   ·rw[jK (show (j:Int)<hs.length by omega)]
    have hrow:=gF hs j hlt
    have hst:=rP (T:=T) (s:=mB T (y8 T s0) 7) (k0:=s0.i) (b:=(hs.take j).any fun h=>decide (h.1=(2+v))) (c:=decide (hs[j].1=(2+v)))
    rw[<- pK (fun h=>decide (h.1=(2+v))) hs j hlt,<- hs2] at hst;generalize hs[j]=h at *
    have hf4:=nI s0.i hi0 4 (s:=s2) y hy
    conv=>whnf
    refine⟨by omega,?_⟩;conv=>whnf
    (generalize hrq:jC _ _ (z6 hs)=rq;obtain rfl:rq=hnA h:=hrq.symm.trans (hrow);clear hrq;conv=>whnf)
    by_cases hk:h.1=(2+v)
    ·rw[jK (show _=_ from hk)];rw[if_pos (jK hk)] at hst;conv=>whnf
     refine jS 0 [] hf4 ?_;rintro o r ⟨c,ho,rfl,rfl⟩;cases ho;conv=>whnf
     refine⟨jJ (by omega),?_⟩;conv=>whnf
     refine⟨(j+1,stF T s2 4 s0.i),jE [] ?_,⟨hlt,hst⟩,by simp only;omega⟩;conv=>whnf
     repeat' constructor
    ·rw[jG (show ¬ _=_ from hk)];rw[if_neg (by rw[jG hk];simp)] at hst;conv=>whnf
     refine⟨jJ (by omega),?_⟩;conv=>whnf
     refine⟨(j+1,s2),jE [] ?_,⟨hlt,hst⟩,by simp only;omega⟩;conv=>whnf
     repeat' constructor
   ·rw[jG (show ¬ (j:Int)<hs.length by omega)];rw[show j=hs.length by omega,List.take_length] at hs2;rw[<- hs2] at hdh;conv=>whnf
    exact⟨_,rfl,s2,(2+v),rfl,rfl,by omega,by omega,hdh⟩
  rw[jG (p:=t = ⟨_⟩) g3];conv=>whnf
  have h3 : ¬ zK wTimer (T.drop s0.i)=true:=by rw[q9 hT hi0 (w:=wTimer) (xK (by decide)),ht,jG g3];simp
  clear g3
  have g3:t=wMessage:=by
   obtain⟨w,hw1,hw2⟩ := List.any_eq_true.1 hw
   have hw2:=(of_decide_eq_true hw2).symm
   simp only[jaO,List.mem_cons,List.not_mem_nil,or_false] at hw1
   rcases hw1 with e | e | e | e <;> rw[e] at hw2 <;> first | exact hw2 | contradiction | skip
   exact absurd (by rw[q9 hT hi0 (w:=wTimer) (xK (by decide)),ht];exact jK hw2) h3
  have hnx2:tM (T.drop s0.i)=mH 30 10 (T.drop s0.i).tail:=by
   unfold tM;rw[if_neg h1,if_neg h2,if_neg h3,q9 hT hi0 (w:=wMessage) (xK (by decide)),if_pos (jK (ht.trans g3))]
  rw[jK (p:=t = ⟨_⟩) g3];conv=>whnf
  refine jS 0 [] (jgw hT hi1 29 y hy) ?_;rintro o r ⟨c,ho,rfl,rfl⟩;cases ho;conv=>whnf
  refine⟨jJ (by have:=jeR hT hi1 (m:=29) (by decide);omega),?_⟩;conv=>whnf
  have hvb:=jeR hT hi1 (m:=29) (by decide)
  have hs1:Dh T (mB T (y8 T s0) 29) (tM (T.drop s0.i)) (10+vaN T (y8 T s0) 29):=by
   have hd:=jlJ hT hi1 (by rw[(xX s0).1];exact h0) 29 10
   rw[zC hT hi0 hkd] at hd;rw[hnx2];exact hd
  generalize vaN T (y8 T s0) 29=v at *;refine gY [] ?_;conv=>whnf
  refine jB [0,1,5,7] ?_;conv=>whnf
  have hdh:=je7 (hs:=hs) hs1
  unfold tK at hdh;rw[hP] at hdh;refine jH (fun x:Nat × S6=>[(8,.v (.int .i64 x.1))]) (fun x=>[wI T x.2++[.v y]]) (fun _=>[]) (fun x=>x.1<=hs.length/\x.2=stD T (mB T (y8 T s0) 29) (hd (T.drop s0.i)).pos ((hs.take x.1).any fun h=>decide (h.1=(10+v)))) (fun x=>hs.length-x.1) (0,mB T (y8 T s0) 29) ?_ ⟨Nat.zero_le _,by unfold stD;rw[if_neg (fun h=>by simp at h)]⟩ ?_
  ·repeat' constructor
  rintro⟨j,s2⟩ ⟨hj,hs2⟩
  simp only at hj hs2
  conv=>whnf
  by_cases hlt:j<hs.length
  ·rw[jK (show (j:Int)<hs.length by omega)]
   have hrow:=gF hs j hlt
   have hst:=rP (T:=T) (s:=mB T (y8 T s0) 29) (k0:=s0.i) (b:=(hs.take j).any fun h=>decide (h.1=(10+v))) (c:=decide (hs[j].1=(10+v)))
   rw[<- pK (fun h=>decide (h.1=(10+v))) hs j hlt,<- hs2] at hst;generalize hs[j]=h at *
   have hf4:=nI s0.i hi0 4 (s:=s2) y hy
   conv=>whnf
   refine⟨by omega,?_⟩;conv=>whnf
   (generalize hrq:jC _ _ (z6 hs)=rq;obtain rfl:rq=hnA h:=hrq.symm.trans (hrow);clear hrq;conv=>whnf)
   by_cases hk:h.1=(10+v)
   ·rw[jK (show _=_ from hk)];rw[if_pos (jK hk)] at hst;conv=>whnf
    refine jS 0 [] hf4 ?_;rintro o r ⟨c,ho,rfl,rfl⟩;cases ho;conv=>whnf
    refine⟨jJ (by omega),?_⟩;conv=>whnf
    refine⟨(j+1,stF T s2 4 s0.i),jE [] ?_,⟨hlt,hst⟩,by simp only;omega⟩;conv=>whnf
    repeat' constructor
   ·rw[jG (show ¬ _=_ from hk)];rw[if_neg (by rw[jG hk];simp)] at hst;conv=>whnf
    refine⟨jJ (by omega),?_⟩;conv=>whnf
    refine⟨(j+1,s2),jE [] ?_,⟨hlt,hst⟩,by simp only;omega⟩;conv=>whnf
    repeat' constructor
  ·rw[jG (show ¬ (j:Int)<hs.length by omega)];rw[show j=hs.length by omega,List.take_length] at hs2;rw[<- hs2] at hdh;conv=>whnf
   exact⟨_,rfl,s2,(10+v),rfl,rfl,by omega,by omega,hdh⟩
end
theorem joh (h:Int × Nt) (l:List (Int × Nt)) (j:Nat) (hj:j<l.length) (hlt:l[j].1<h.1) (e:gU h l=l.take j++gU h (l.drop j)):gU h l=l.take (j+1)++gU h (l.drop (j+1)):=by
 rw[e,List.drop_eq_getElem_cons hj,List.take_succ_eq_append_getElem hj,List.append_assoc]
 congr 1
 rw[gU,if_neg (by omega)];rfl
theorem jfN (h:Int × Nt) (l:List (Int × Nt)) (j:Nat) (hs:∀ hj:j<l.length,¬ l[j].1<h.1) (e:gU h l=l.take j++gU h (l.drop j)):gU h l=l.take j++[h]++l.drop j:=by
 rw[e,List.append_assoc]
 congr 1
 by_cases hj:j<l.length
 ·rw[List.drop_eq_getElem_cons hj,gU,if_pos (by have:=hs hj;omega)];rfl
 ·rw[List.drop_of_length_le (by omega)];rfl
theorem jaP (l m:List (Int × Nt)):z6 (l++m)=z6 l++z6 m:=by unfold z6;rw[List.flatMap_append]
theorem jcN (l:List (Int × Nt)) (j:Nat):((z6 l).drop (j*5)).take ((l.drop j).length*5)=z6 (l.drop j):=by
 have e:z6 l=z6 (l.take j)++z6 (l.drop j):=by rw[<- jaP,List.take_append_drop]
 by_cases hj:j<=l.length
 ·rw[e,List.drop_left' (by rw[jfI,List.length_take];omega),List.take_of_length_le (by rw[jfI];exact Nat.le_refl _)]
 ·rw[List.drop_of_length_le (show l.length<=j by omega),List.length_nil,Nat.zero_mul,List.take_zero,gT]
theorem jsU (l:List (Int × Nt)) (h:Int × Nt) (hlen:l.length<=1000000):Spec Tryz.prog 50 [] [.sl 5 l.length (z6 l),.agg (hnA h)] fun _ r=>r = .sl 5 (gU h l).length (z6 (gU h l)):=by
 refine eN jsG j5 0 Tryz.func50 rfl ?_;intro _;conv=>whnf
 refine qS 67 5 [5] [] ?_;conv=>whnf
 refine⟨trivial,?_⟩;conv=>whnf
 refine jB [0,3,5] ?_;conv=>whnf
 refine jH (fun j:Nat=>[(6,.v (.int .i64 j))]) (fun j=>[hnA h]) (fun j=>[.live 67 5 (l.take j).length (z6 (l.take j))]) (fun j=>j<=l.length/\gU h l=l.take j++gU h (l.drop j)) (fun j=>l.length-j) 0 ?_ ⟨Nat.zero_le _,rfl⟩ ?_
 ·repeat' constructor
  show Row.live _ _ _ _=Row.live _ 5 0 (z6 [])
  rw[gT]
 rintro j ⟨hj,hin⟩;conv=>whnf
 by_cases hlt:j<l.length
 ·rw[jK (show (j:Int)<l.length by omega)]
  have hrow:=gF l j hlt
  have hnext:=joh h l j hlt
  have hstop:=fun (k : ¬ l[j].1<h.1)=>jfN h l j (fun _=>k) hin
  have htk:l.take (j+1)=l.take j++[l[j]]:=List.take_succ_eq_append_getElem hlt
  generalize l[j]=g at *;conv=>whnf
  refine⟨by omega,?_⟩;conv=>whnf
  (generalize hrq:jC _ _ (z6 l)=rq;obtain rfl:rq=hnA g:=hrq.symm.trans (hrow);clear hrq;conv=>whnf)
  by_cases hg:g.1<h.1
  ·rw[jK (show _<_ from hg)];conv=>whnf
   refine⟨by omega,?_⟩;conv=>whnf
   (generalize hrq:jC _ _ (z6 l)=rq;obtain rfl:rq=hnA g:=hrq.symm.trans (hrow);clear hrq;conv=>whnf)
   refine⟨⟨by rw[List.length_take];unfold maxLen;omega,by rw[List.length_take];omega⟩,?_⟩;conv=>whnf
   refine⟨jJ (by omega),?_⟩;conv=>whnf
   refine⟨j+1,jE [0] ?_,⟨hlt,hnext hg hin⟩,by omega⟩;conv=>whnf
   rw[htk]
   repeat' constructor
   show Row.live _ 5 _ _=Row.live _ 5 (l.take j++[g]).length (z6 (l.take j++[g]))
   rw[cQ,List.length_append];rfl
  ·rw[jG (show ¬ _<_ from hg)];conv=>whnf
   refine⟨⟨by rw[List.length_take];unfold maxLen;omega,by rw[List.length_take];omega⟩,?_⟩;conv=>whnf
   refine⟨by omega,?_⟩;conv=>whnf
   refine⟨⟨by rw[List.length_take];unfold maxLen;omega,by rw[List.length_take];omega⟩,?_⟩;conv=>whnf
   have hres:=hstop hg
   have e0:(((l.length:Int).toNat-(j:Int).toNat):Nat)=(l.drop j).length:=by rw[List.length_drop];omega
   rw[e0,show (j:Int).toNat=j by omega,jcN,hres]
   show A.sl 5 _ (z6 (l.take j)++hnA h++_)=_
   rw[jaP,cQ,List.length_append,List.length_append];rfl
 ·rw[jG (show ¬ (j:Int)<l.length by omega)]
  have hstop:=jfN h l j (fun k=>absurd k hlt) hin
  conv=>whnf
  refine⟨⟨by rw[List.length_take];unfold maxLen;omega,by rw[List.length_take];omega⟩,?_⟩;conv=>whnf
  refine⟨by omega,?_⟩;conv=>whnf
  refine⟨⟨by rw[List.length_take];unfold maxLen;omega,by rw[List.length_take];omega⟩,?_⟩;conv=>whnf
  have hres:=hstop
  have e0:(((l.length:Int).toNat-(j:Int).toNat):Nat)=(l.drop j).length:=by rw[List.length_drop];omega
  rw[e0,show (j:Int).toNat=j by omega,jcN,hres]
  show A.sl 5 _ (z6 (l.take j)++hnA h++_)=_
  rw[jaP,cQ,List.length_append,List.length_append];rfl
theorem jjn:∀ {l:List (Int × Nt)},(l.map (·.1)).Nodup -> ∀ a ∈ l,∀ b ∈ l,a.1=b.1->a=b
 | x :: l,h,a,ha,b,hb,e=>by
  rw[List.map_cons,List.nodup_cons] at h
  rcases List.mem_cons.1 ha with rfl | ha'
  ·rcases List.mem_cons.1 hb with rfl | hb'
   ·rfl
   ·exact absurd (List.mem_map.2 ⟨b,hb',e.symm⟩) h.1
  ·rcases List.mem_cons.1 hb with rfl | hb'
   ·exact absurd (List.mem_map.2 ⟨a,ha',e⟩) h.1
   ·exact jjn h.2 a ha' b hb' e
theorem jbz {hs:List (Int × Nt)} {h:Int × Nt} (hn:((hs++[h]).map (·.1)).Nodup):gU h (vM hs)=vM (hs++[h]):=by
 have p1:(gU h (vM hs)).Perm (hs++[h]):=(aF h _).trans (((wQ hs).cons h).trans (List.perm_append_comm (l₁:=[h]) (l₂:=hs)))
 have p2:=wQ (hs++[h])
 refine List.Perm.eq_of_pairwise (le:=fun a b=>a.1<=b.1) (fun a b ha hb h1 h2 => ?_) (iA h _ (aB hs)) (aB _) (p1.trans p2.symm);exact jjn hn a (p1.mem_iff.1 ha) b (p2.mem_iff.1 hb) (Int.le_antisymm h1 h2)
theorem jfH {l m:List (Int × Nt)} (h:l.Perm m) (ts:List Tk):tK l ts=tK m ts:=by
 unfold tK
 cases tM ts with
 | bad x e=>rfl
 | ok k r =>
  simp only
  have:(l.any fun h=>decide (h.1=k))=(m.any fun h=>decide (h.1=k)):=by
   rw[Bool.eq_iff_iff,List.any_eq_true,List.any_eq_true];exact⟨fun ⟨x,h1,h2⟩=>⟨x,h.mem_iff.1 h1,h2⟩,fun ⟨x,h1,h2⟩=>⟨x,h.mem_iff.2 h1,h2⟩⟩
  rw[this]
def jtk (id:Nat):List Nat:=match Nat.beq id 19 with
 | true=>[0]
 | false=>match Nat.beq id 12 with
  | true=>[]
  | false=>[1]
def jsQ (id:Nat):Tr:=match Nat.beq id 10 || Nat.beq id 11 with
 | true => .q 0 3 (.q 2 3 (.alt 1 2 (.alt 3 2 (.alt 4 2 (.q 5 3 (.alt 6 2 .nil .nil)) .nil) .nil) (.alt 3 2 (.alt 1 2 (.alt 4 2 (.q 5 3 (.alt 6 2 .nil .nil)) .nil) .nil) .nil)))
 | false=>jsB id
theorem jjg {T:List Tk} (hT:Ks T) {du vo:List ByteArray} {m:Nat} {hs:List (Int × Nt)} {s3 s4 s5:S6} (hi:s3.i<T.length) {k:Int} {b:Nt} {R:PU} (hdh:Dh T s4 (tK hs (T.drop s3.i)) k) (hq:Dq T s4 s5 ((pa 19).bl (T.drop s4.i)) b)
  (hP:(match tK hs (T.drop s3.i) with
   | .bad x e => .bad x e
   | .ok k r=>match (pa 19).bl r with
    | .bad x e => .bad x e
    | .ok b r=>sD du vo m (hs++[(k,b)]) r)=R) :
  (s5.e=0->(T.drop s5.i).length+1<=(T.drop s3.i).length/\(∀ p ∈ hs,k ≠ p.1)/\sD du vo m (hs++[(k,b)]) (T.drop s5.i)=R)/\(s5.e ≠ 0->R = .bad s5.a s5.e):=by
 obtain⟨h1,h2⟩ := hdh
 obtain⟨h3,h4,h5⟩ := hq
 cases hh:tK hs (T.drop s3.i) with
 | bad x e =>
  rw[hh] at h2 hP
  obtain⟨q1,q2,q3⟩ := h2
  obtain⟨q4,q5⟩ := h4 (by rw[q2];exact q1)
  refine⟨fun h=>absurd (q2.symm.trans (q5.symm.trans h)) q1,fun _ => ?_⟩;rw[q4,q5,q2,q3];exact hP.symm
 | ok k2 r =>
  rw[hh] at h2 hP
  obtain⟨q1,rfl,rfl⟩ := h2
  obtain⟨y1,y2,y3⟩ := jhK (hT.p hi) hh
  have h5:=h5 q1
  simp only at hP
  cases hb:(pa 19).bl (T.drop s4.i) with
  | bad x e =>
   rw[hb] at h5 hP
   obtain⟨q4,q5,q6⟩ := h5
   refine⟨fun h=>absurd (q5.symm.trans h) q4,fun _ => ?_⟩;rw[q5,q6];exact hP.symm
  | ok b2 r2 =>
   rw[hb] at h5 hP
   obtain⟨q4,q5,rfl,rfl⟩ := h5
   obtain⟨y4,y5⟩ := fU _ _ _ y2 hb
   exact⟨fun _=>⟨by omega,y1,hP⟩,fun h=>absurd q4 h⟩
theorem uL {T:List Tk} (hT:Ks T) {s1 s2:S6} (hi:s1.i<T.length) (hk:(qE T s1).kind ≠ 0) {nm nm2 out:List ByteArray} (g1:nm.length<=16) {F:List ByteArray->List ByteArray->List Tk->PU} {R:PU}
  (k:match aO (T.drop s1.i).length nm [] (T.drop s1.i) with
   | .ok n o r=>s2.e=0/\nm2=n/\out=o/\T.drop s2.i=r
   | .bad x e=>e ≠ 0/\s2.e=e/\s2.a=x)
  (hP:(match aO (T.drop s1.i).length nm [] (T.drop s1.i) with
   | .bad x e => .bad x e
   | .ok n o r=>F n o r)=R) :
  (s2.e=0->(T.drop s2.i).length+1<=(T.drop s1.i).length/\F nm2 out (T.drop s2.i)=R)/\(s2.e ≠ 0->R = .bad s2.a s2.e):=by
 cases hd:aO (T.drop s1.i).length nm [] (T.drop s1.i) with
 | ok n o r =>
  rw[hd] at k hP
  obtain⟨q1,rfl,rfl,rfl⟩ := k
  exact⟨fun _=>⟨(xR _ _ _ _ _ _ _ (hT.p hi) hk g1 hd).2.1,hP⟩,fun h=>absurd q1 h⟩
 | bad x e =>
  rw[hd] at k hP
  obtain⟨q1,q2,q3⟩ := k
  refine⟨fun h=>absurd (q2.symm.trans h) q1,fun _ => ?_⟩;rw[q2,q3];exact hP.symm
theorem jio (s:ByteArray) (hs:s.size<=1000000000):Spec Tryz.prog 14 [] [jX s] fun _ r=>r=jjC (i7 s):=by
 obtain⟨R,hR⟩ : ∃ R,i7 s=R:=⟨_,rfl⟩
 rw[hR]
 have htk:=jeH s hs
 refine eN jsQ jtk 0 Tryz.func14 rfl ?_;intro _;conv=>whnf
 unfold i7 at hR
 by_cases hbig:3000<s.size
 ·rw[if_pos hbig] at hR;rw[jK (by omega)];conv=>whnf
  subst hR;rfl
 rw[if_neg hbig] at hR;rw[jG (by omega)];conv=>whnf
 refine kU [] htk ?_;rintro r rfl
 have htb:=fun h=>jjI (s:=s) (by omega) h
 have hk6:=fun h=>jmP (s:=s) h
 unfold sK
 cases herr:(qN s).err with
 | some pe =>
  obtain⟨p,e⟩ := pe
  rw[herr] at hR
  simp only at hR
  have hne:=(gM (s.data.toList.length+1) 0 s.data.toList).2 p e herr
  conv=>whnf
  rw[jG hne.2.1];conv=>whnf
  subst hR;rfl
 | none =>
  rw[herr] at hR
  simp only at hR
  have htb:=htb herr
  have hk6:=hk6 herr
  have hrl:=gG herr
  rw[<- hrl]
  have hln:(qN s).toks.length+1=(iP s).length:=by rw[hrl];simp
  rw[hln];generalize iP s=T at *
  have hT:Ks T:=⟨hk6,htb.1.2,htb.1.1⟩
  conv=>whnf
  refine qS 9 1 [] [(1,4)] ?_;conv=>whnf
  refine⟨trivial,?_⟩;conv=>whnf
  refine qS 9 1 [] [(2,0)] ?_;conv=>whnf
  refine⟨trivial,?_⟩;conv=>whnf
  refine qS 9 1 [] [(2,1)] ?_;conv=>whnf
  refine⟨trivial,?_⟩;conv=>whnf
  refine jB [2,8,9] ?_;conv=>whnf
  refine jH (fun x:Nat × List ByteArray × List ByteArray × List ByteArray × S6=>[]) (fun x=>[bW,wI T x.2.2.2.2++[.own 0],[.own 1,.own 2,.v (.slice none 0 0)]]) (fun x=>[.live 9 1 x.2.1.length (vV x.2.1),.live 9 1 x.2.2.1.length (vV x.2.2.1),.live 9 1 x.2.2.2.1.length (vV x.2.2.2.1)])
   (fun x=>x.2.2.2.2.i<T.length/\x.2.1.length<=16/\x.2.2.1.length+x.2.2.2.1.length<=x.2.1.length/\(x.2.2.2.2.e=0->(T.drop x.2.2.2.2.i).length+1<=x.1/\jau x.1 x.2.1 x.2.2.1 x.2.2.2.1 (T.drop x.2.2.2.2.i)=R)/\(x.2.2.2.2.e ≠ 0->R = .bad x.2.2.2.2.a x.2.2.2.2.e)) (fun x=>if x.2.2.2.2.e=0 then (T.drop x.2.2.2.2.i).length+1 else 0) (T.length+1,[],[],[],⟨0,0,0⟩) ?_ ⟨htb.pos,Nat.zero_le _,Nat.le_refl _,fun _=>⟨Nat.le_refl _,hR⟩,fun h=>absurd rfl h⟩ ?_
  ·repeat' constructor
  clear hR htk hrl hln herr hbig;rintro⟨n,nm,du,vo,s1⟩ ⟨hi,g1,g2,g3,g4⟩
  simp only at hi g1 g2 g3 g4
  have hnx:=xM hi
  conv=>whnf
  by_cases h0:s1.e=0
  ·rw[jK h0]
   obtain⟨hn,hP⟩ := g3 h0
   obtain⟨m,rfl⟩ : ∃ m,n=m+1:=⟨n-1,by omega⟩
   rw[jau,q9 hT hi (w:=xH) (xK (by decide)),q9 hT hi (w:=x8) (xK (by decide))] at hP
   have hde:=fun k=>jsT hT nm s1 hi h0 k g1
   conv=>whnf
   refine q8 1 0 (cA:=wI T (s1)) rfl rfl (Nat.zero_lt_succ _) rfl rfl (hnx).v (fun _ _ h=>h.elim) ?_;rintro c r ⟨rfl,rfl⟩;conv=>whnf
   by_cases q1:(qE T s1).text=xH
   ·rw[jK (p:=(qE T s1).text = ⟨_⟩) q1];rw[if_pos (jK q1)] at hP
    have hkd:=xY hT hi (w:=xH) (xK (by decide)) q1
    have hde:=hde hkd
    conv=>whnf
    refine q8 1 0 (cA:=wI T (s1)) rfl rfl (Nat.zero_lt_succ _) rfl rfl (hnx).v (fun _ _ h=>h.elim) ?_;rintro c r ⟨rfl,rfl⟩;conv=>whnf
    rw[jK (p:=(qE T s1).text = ⟨_⟩) q1];conv=>whnf
    unfold fC;refine⟨_,?_,fun _ h=>h⟩;conv=>whnf
    refine⟨?_,?_⟩
    ·conv=>whnf
     refine qH 1 0 3 [] rfl rfl rfl rfl rfl rfl rfl (fun _=>hde) (fun ch bx' hp _ _=>hp.elim) ?_;rintro o n' cs' r ⟨s2,nm2,out,ho,rfl,rfl,rfl,k1,k2,k3,k4⟩;cases ho;conv=>whnf
     obtain⟨z1,z2⟩ := uL hT hi hkd g1 k4 hP
     refine⟨⟨by simp only;unfold maxLen;omega,by simp only;omega⟩,?_⟩;conv=>whnf
     refine⟨(m,nm2,du++out,vo,s2),jE [3,1,2] ?_,⟨k3,k1,by simp only[List.length_append];omega,fun e=>⟨by simp only;have:=(z1 e).1;omega,(z1 e).2⟩,z2⟩,?_⟩
     ·conv=>whnf
      simp only[List.length_append,bV]
      repeat' constructor
     ·simp only
      rw[if_pos h0]
      by_cases e2:s2.e=0
      ·rw[if_pos e2];have:=(z1 e2).1;omega
      ·rw[if_neg e2];omega
    ·conv=>whnf
     refine qH 1 0 3 [] rfl rfl rfl rfl rfl rfl rfl (fun _=>hde) (fun ch bx' hp _ _=>hp.elim) ?_;rintro o n' cs' r ⟨s2,nm2,out,ho,rfl,rfl,rfl,k1,k2,k3,k4⟩;cases ho;conv=>whnf
     obtain⟨z1,z2⟩ := uL hT hi hkd g1 k4 hP
     refine⟨⟨by simp only;unfold maxLen;omega,by simp only;omega⟩,?_⟩;conv=>whnf
     refine⟨(m,nm2,du++out,vo,s2),jE [3,1,2] ?_,⟨k3,k1,by simp only[List.length_append];omega,fun e=>⟨by simp only;have:=(z1 e).1;omega,(z1 e).2⟩,z2⟩,?_⟩
     ·conv=>whnf
      simp only[List.length_append,bV]
      repeat' constructor
     ·simp only
      rw[if_pos h0]
      by_cases e2:s2.e=0
      ·rw[if_pos e2];have:=(z1 e2).1;omega
      ·rw[if_neg e2];omega
   ·rw[jG (p:=(qE T s1).text = ⟨_⟩) q1];rw[if_neg (by rw[jG q1];simp)] at hP;conv=>whnf
    refine q8 1 0 (cA:=wI T (s1)) rfl rfl (Nat.zero_lt_succ _) rfl rfl (hnx).v (fun _ _ h=>h.elim) ?_;rintro c r ⟨rfl,rfl⟩;conv=>whnf
    by_cases q2:(qE T s1).text=x8
    ·rw[jK (p:=(qE T s1).text = ⟨_⟩) q2];rw[if_pos (jK q2)] at hP
     have hkd:=xY hT hi (w:=x8) (xK (by decide)) q2
     have hde:=hde hkd
     conv=>whnf
     refine q8 1 0 (cA:=wI T (s1)) rfl rfl (Nat.zero_lt_succ _) rfl rfl (hnx).v (fun _ _ h=>h.elim) ?_;rintro c r ⟨rfl,rfl⟩;conv=>whnf
     rw[jG (p:=(qE T s1).text = ⟨_⟩) q1];conv=>whnf
     unfold fC;refine⟨_,?_,fun _ h=>h⟩;conv=>whnf
     refine⟨?_,?_⟩
     ·conv=>whnf
      refine qH 1 0 3 [] rfl rfl rfl rfl rfl rfl rfl (fun _=>hde) (fun ch bx' hp _ _=>hp.elim) ?_;rintro o n' cs' r ⟨s2,nm2,out,ho,rfl,rfl,rfl,k1,k2,k3,k4⟩;cases ho;conv=>whnf
      obtain⟨z1,z2⟩ := uL hT hi hkd g1 k4 hP
      refine⟨⟨by simp only;unfold maxLen;omega,by simp only;omega⟩,?_⟩;conv=>whnf
      refine⟨(m,nm2,du,vo++out,s2),jE [3,1,2] ?_,⟨k3,k1,by simp only[List.length_append];omega,fun e=>⟨by simp only;have:=(z1 e).1;omega,(z1 e).2⟩,z2⟩,?_⟩
      ·conv=>whnf
       simp only[List.length_append,bV]
       repeat' constructor
      ·simp only
       rw[if_pos h0]
       by_cases e2:s2.e=0
       ·rw[if_pos e2];have:=(z1 e2).1;omega
       ·rw[if_neg e2];omega
     ·conv=>whnf
      refine qH 1 0 3 [] rfl rfl rfl rfl rfl rfl rfl (fun _=>hde) (fun ch bx' hp _ _=>hp.elim) ?_;rintro o n' cs' r ⟨s2,nm2,out,ho,rfl,rfl,rfl,k1,k2,k3,k4⟩;cases ho;conv=>whnf
      obtain⟨z1,z2⟩ := uL hT hi hkd g1 k4 hP
      refine⟨⟨by simp only;unfold maxLen;omega,by simp only;omega⟩,?_⟩;conv=>whnf
      refine⟨(m,nm2,du,vo++out,s2),jE [3,1,2] ?_,⟨k3,k1,by simp only[List.length_append];omega,fun e=>⟨by simp only;have:=(z1 e).1;omega,(z1 e).2⟩,z2⟩,?_⟩
      ·conv=>whnf
       simp only[List.length_append,bV]
       repeat' constructor
      ·simp only
       rw[if_pos h0]
       by_cases e2:s2.e=0
       ·rw[if_pos e2];have:=(z1 e2).1;omega
       ·rw[if_neg e2];omega
    ·rw[jG (p:=(qE T s1).text = ⟨_⟩) q2];rw[if_neg (by rw[jG q2];simp)] at hP;conv=>whnf
     clear g3;refine qS 67 5 [] [(2,2)] ?_;conv=>whnf
     refine⟨trivial,?_⟩;conv=>whnf
     refine gX [3] ?_;conv=>whnf
     refine gY [0,1,2] ?_;conv=>whnf
     refine jB [2,8,9] ?_;conv=>whnf
     refine jH (fun x:Nat × List (Int × Nt) × List (Int × Nt) × S6=>[]) (fun x=>[bW,wI T x.2.2.2++[.own 0],[.own 1,.own 2,.sl 5 x.2.2.1.length (z6 x.2.2.1)]]) (fun x=>[.live 9 1 nm.length (vV nm),.live 9 1 du.length (vV du),.live 9 1 vo.length (vV vo)])
      (fun x=>x.2.2.2.i<T.length/\x.2.2.1.length<=1000000/\(x.2.2.2.e=0->(T.drop x.2.2.2.i).length+1<=x.1/\(x.2.1.map (·.1)).Nodup/\x.2.2.1=vM x.2.1/\x.2.1.length+(T.drop x.2.2.2.i).length<=1000000/\sD du vo x.1 x.2.1 (T.drop x.2.2.2.i)=R)/\(x.2.2.2.e ≠ 0->R = .bad x.2.2.2.a x.2.2.2.e)) (fun x=>if x.2.2.2.e=0 then (T.drop x.2.2.2.i).length+1 else 0) ((T.drop s1.i).length+1,[],[],s1) ?_ ⟨hi,Nat.zero_le _,fun _=>⟨Nat.le_refl _,List.nodup_nil,rfl,by simp only[List.length_nil,List.length_drop];have:=hT.n;omega,hP⟩,g4⟩ ?_
     ·repeat' constructor
      show A.sl _ _ _=A.sl 5 0 (z6 [])
      rw[gT]
     clear g4;rintro⟨n,hs,L,s2⟩ ⟨hi,g3,g4,g5⟩
     simp only at hi g3 g4 g5
     conv=>whnf
     by_cases h0:s2.e=0
     ·rw[jK h0]
      obtain⟨hn,gnd,gL,g6,hP⟩ := g4 h0
      obtain⟨m,rfl⟩ : ∃ m,n=m+1:=⟨n-1,by omega⟩
      rw[uO] at hP
      have hrow:=xO T s2.i hi
      have htx0:hd (T.drop s2.i)=qE T s2:=rfl
      rw[htx0] at hP hrow;conv=>whnf
      (refine fN ?_;try with_reducible exact trivial)
      (generalize hrq:jC _ _ (zZ T)=rq;obtain rfl:rq=cB (qE T s2):=hrq.symm.trans (hrow);clear hrq;conv=>whnf)
      by_cases hk:(qE T s2).kind=0
      ·rw[jK hk];rw[if_pos hk] at hP;conv=>whnf
       rw[jK h0];conv=>whnf
       subst hP;rw[gL];rfl
      ·rw[jG hk];rw[if_neg hk,q9 hT hi (w:=wOn) (xK (by decide))] at hP
       have hx:=qK hT hi wOn
       by_cases hon:(qE T s2).text=wOn
       ·rw[if_neg (by rw[jK hon];simp),<- zC hT hi hk] at hP
        have e1:bK T s2 wOn=y8 T s2:=by unfold bK;rw[if_pos h0,if_pos hon]
        rw[e1] at hx
        have hi3:=nD hi
        have he3:(y8 T s2).e=0:=by rw[(xX s2).1];exact h0
        have hl3:(T.drop (y8 T s2).i).length+1=(T.drop s2.i).length:=by
         have e2:=bA hT hi hk
         rw[e2] at hi3;rw[e2,List.length_drop,List.length_drop]
         simp only at hi3 ⊢
         omega
        clear e1;generalize y8 T s2=s3 at *
        have hha:=jgv hT L g3 s3 hi3 he3
        rw[jfH (show L.Perm hs by rw[gL];exact wQ hs)] at hha;conv=>whnf
        refine q8 1 0 (cA:=wI T (s2)) rfl rfl (Nat.zero_lt_succ _) rfl rfl (hx).v (fun _ _ h=>h.elim) ?_;rintro c r ⟨rfl,rfl⟩;conv=>whnf
        rw[jK he3];conv=>whnf
        refine q8 1 0 (cA:=wI T s3) rfl rfl (Nat.zero_lt_succ _) rfl rfl hha.v (fun _ _ h=>h.elim) ?_;rintro c r ⟨s4,k,rfl,rfl,hk0,hk1,hdh⟩;conv=>whnf
        refine q8 1 0 (cA:=wI T s4) rfl rfl (Nat.zero_lt_succ _) rfl rfl (jjD hT s4 hdh.1).v (fun _ _ h=>h.elim) ?_;rintro c r ⟨s5,b,hq,rfl,rfl⟩;conv=>whnf
        refine kU [] (jsU L (k,b) g3) ?_;rintro r rfl;conv=>whnf
        obtain⟨z1,z2⟩ := jjg hT hi3 hdh hq hP
        refine⟨(m,hs++[(k,b)],gU (k,b) L,s5),jE [0,1,2] ?_,⟨hq.1,?_,fun e => ?_,z2⟩,?_⟩
        ·conv=>whnf
         repeat' constructor
        ·simp only
         rw[(aF (k,b) L).length_eq,gL,List.length_cons,(wQ hs).length_eq]
         have:0<(T.drop s2.i).length:=by rw[List.length_drop];omega
         omega
        ·obtain⟨y1,y2,y3⟩ := z1 e
         have hnd:((hs++[(k,b)]).map (·.1)).Nodup:=by
          rw[List.map_append,List.nodup_append];refine⟨gnd,by simp,fun a ha c hc e => ?_⟩
          simp at hc
          subst hc
          obtain⟨q,hq,rfl⟩ := List.mem_map.1 ha
          exact y2 q hq e.symm
         refine⟨by simp only;omega,hnd,by simp only;rw[gL];exact jbz hnd,by simp only[List.length_append,List.length_cons,List.length_nil];omega,y3⟩
        ·simp only
         rw[if_pos h0]
         by_cases e2:s5.e=0
         ·rw[if_pos e2];have:=(z1 e2).1;omega
         ·rw[if_neg e2];omega
       ·rw[if_pos (jG hon)] at hP
        have e1:bK T s2 wOn = ⟨s2.i,(qE T s2).pos,10⟩ := by unfold bK;rw[if_pos h0,if_neg hon]
        rw[e1] at hx;conv=>whnf
        refine q8 1 0 (cA:=wI T (s2)) rfl rfl (Nat.zero_lt_succ _) rfl rfl (hx).v (fun _ _ h=>h.elim) ?_;rintro c r ⟨rfl,rfl⟩;conv=>whnf
        subst hP;rfl
     ·rw[jG h0];conv=>whnf
      rw[jG h0];conv=>whnf
      rw[g5 h0];rfl
  ·rw[jG h0];conv=>whnf
   clear g3;refine qS 67 5 [] [(2,2)] ?_;conv=>whnf
   refine⟨trivial,?_⟩;conv=>whnf
   refine gX [3] ?_;conv=>whnf
   refine gY [0,1,2] ?_;conv=>whnf
   refine jB [2,8,9] ?_;conv=>whnf
   refine jH (fun x:Nat × List (Int × Nt) × List (Int × Nt) × S6=>[]) (fun x=>[bW,wI T x.2.2.2++[.own 0],[.own 1,.own 2,.sl 5 x.2.2.1.length (z6 x.2.2.1)]]) (fun x=>[.live 9 1 nm.length (vV nm),.live 9 1 du.length (vV du),.live 9 1 vo.length (vV vo)])
    (fun x=>x.2.2.2.i<T.length/\x.2.2.1.length<=1000000/\(x.2.2.2.e=0->(T.drop x.2.2.2.i).length+1<=x.1/\(x.2.1.map (·.1)).Nodup/\x.2.2.1=vM x.2.1/\x.2.1.length+(T.drop x.2.2.2.i).length<=1000000/\sD du vo x.1 x.2.1 (T.drop x.2.2.2.i)=R)/\(x.2.2.2.e ≠ 0->R = .bad x.2.2.2.a x.2.2.2.e)) (fun x=>if x.2.2.2.e=0 then (T.drop x.2.2.2.i).length+1 else 0) (0,[],[],s1) ?_ ⟨hi,Nat.zero_le _,fun e=>absurd e h0,g4⟩ ?_
   ·repeat' constructor
    show A.sl _ _ _=A.sl 5 0 (z6 [])
    rw[gT]
   clear g4;rintro⟨n,hs,L,s2⟩ ⟨hi,g3,g4,g5⟩
   simp only at hi g3 g4 g5
   conv=>whnf
   by_cases h0:s2.e=0
   ·rw[jK h0]
    obtain⟨hn,gnd,gL,g6,hP⟩ := g4 h0
    obtain⟨m,rfl⟩ : ∃ m,n=m+1:=⟨n-1,by omega⟩
    rw[uO] at hP
    have hrow:=xO T s2.i hi
    have htx0:hd (T.drop s2.i)=qE T s2:=rfl
    rw[htx0] at hP hrow;conv=>whnf
    (refine fN ?_;try with_reducible exact trivial)
    (generalize hrq:jC _ _ (zZ T)=rq;obtain rfl:rq=cB (qE T s2):=hrq.symm.trans (hrow);clear hrq;conv=>whnf)
    by_cases hk:(qE T s2).kind=0
    ·rw[jK hk];rw[if_pos hk] at hP;conv=>whnf
     rw[jK h0];conv=>whnf
     subst hP;rw[gL];rfl
    ·rw[jG hk];rw[if_neg hk,q9 hT hi (w:=wOn) (xK (by decide))] at hP
     have hx:=qK hT hi wOn
     by_cases hon:(qE T s2).text=wOn
     ·rw[if_neg (by rw[jK hon];simp),<- zC hT hi hk] at hP
      have e1:bK T s2 wOn=y8 T s2:=by unfold bK;rw[if_pos h0,if_pos hon]
      rw[e1] at hx
      have hi3:=nD hi
      have he3:(y8 T s2).e=0:=by rw[(xX s2).1];exact h0
      have hl3:(T.drop (y8 T s2).i).length+1=(T.drop s2.i).length:=by
       have e2:=bA hT hi hk
       rw[e2] at hi3;rw[e2,List.length_drop,List.length_drop]
       simp only at hi3 ⊢
       omega
      clear e1;generalize y8 T s2=s3 at *
      have hha:=jgv hT L g3 s3 hi3 he3
      rw[jfH (show L.Perm hs by rw[gL];exact wQ hs)] at hha;conv=>whnf
      refine q8 1 0 (cA:=wI T (s2)) rfl rfl (Nat.zero_lt_succ _) rfl rfl (hx).v (fun _ _ h=>h.elim) ?_;rintro c r ⟨rfl,rfl⟩;conv=>whnf
      rw[jK he3];conv=>whnf
      refine q8 1 0 (cA:=wI T s3) rfl rfl (Nat.zero_lt_succ _) rfl rfl hha.v (fun _ _ h=>h.elim) ?_;rintro c r ⟨s4,k,rfl,rfl,hk0,hk1,hdh⟩;conv=>whnf
      refine q8 1 0 (cA:=wI T s4) rfl rfl (Nat.zero_lt_succ _) rfl rfl (jjD hT s4 hdh.1).v (fun _ _ h=>h.elim) ?_;rintro c r ⟨s5,b,hq,rfl,rfl⟩;conv=>whnf
      refine kU [] (jsU L (k,b) g3) ?_;rintro r rfl;conv=>whnf
      obtain⟨z1,z2⟩ := jjg hT hi3 hdh hq hP
      refine⟨(m,hs++[(k,b)],gU (k,b) L,s5),jE [0,1,2] ?_,⟨hq.1,?_,fun e => ?_,z2⟩,?_⟩
      ·conv=>whnf
       repeat' constructor
      ·simp only
       rw[(aF (k,b) L).length_eq,gL,List.length_cons,(wQ hs).length_eq]
       have:0<(T.drop s2.i).length:=by rw[List.length_drop];omega
       omega
      ·obtain⟨y1,y2,y3⟩ := z1 e
       have hnd:((hs++[(k,b)]).map (·.1)).Nodup:=by
        rw[List.map_append,List.nodup_append];refine⟨gnd,by simp,fun a ha c hc e => ?_⟩
        simp at hc
        subst hc
        obtain⟨q,hq,rfl⟩ := List.mem_map.1 ha
        exact y2 q hq e.symm
       refine⟨by simp only;omega,hnd,by simp only;rw[gL];exact jbz hnd,by simp only[List.length_append,List.length_cons,List.length_nil];omega,y3⟩
      ·simp only
       rw[if_pos h0]
       by_cases e2:s5.e=0
       ·rw[if_pos e2];have:=(z1 e2).1;omega
       ·rw[if_neg e2];omega
     ·rw[if_pos (jG hon)] at hP
      have e1:bK T s2 wOn = ⟨s2.i,(qE T s2).pos,10⟩ := by unfold bK;rw[if_pos h0,if_neg hon]
      rw[e1] at hx;conv=>whnf
      refine q8 1 0 (cA:=wI T (s2)) rfl rfl (Nat.zero_lt_succ _) rfl rfl (hx).v (fun _ _ h=>h.elim) ?_;rintro c r ⟨rfl,rfl⟩;conv=>whnf
      subst hP;rfl
   ·rw[jG h0];conv=>whnf
    rw[jG h0];conv=>whnf
    rw[g5 h0];rfl
theorem jnN:Wk (.agg fK) (tT [] zE 0 0):=by
 unfold fK tT pgL;rw[p6];exact .agg (.cons (.nil 2) (WkL.refl _))
def CmpW (u:Ut) (c:List Ic) (e:Nat->Int) (du vo E:Int):Prop:=c.length<=400/\Wk (jc5 u) (.tup [tT c e du vo,intA E])
theorem jfn (u:Ut):∃ (c:List Ic) (e:Nat->Int) (du vo E:Int),CmpW u c e du vo E:=by
 unfold CmpW jc5
 by_cases h:uC u=0
 ·rw[if_pos h];refine⟨_,_,_,_,_,?_,.refl _⟩;unfold uC at h
  by_cases hb:400<(yS u).1.length
  ·rw[if_pos hb] at h;cases h
  ·omega
 ·rw[if_neg h];exact⟨[],zE,0,0,uC u,by decide,.tup (.cons jnN (WkL.refl _))⟩
theorem CmpW.prog {u:Ut} (hu:uH u) (hz:mW u.on<=900000) {c:List Ic} {e:Nat->Int} {du vo E:Int} (h:CmpW u c e du vo E):Spec Tryz.prog 12 [] [.agg (eZ u)] fun _ r=>r = .tup [tT c e du vo,intA E] :=
 (pS u hu hz).weaken fun o r hr=>⟨o,_,rfl,WkB.refl o,by rw[hr];exact h.2⟩
theorem jeN:Spec Tryz.prog 51 [] [] fun _ r => ∃ l:List ByteArray,l.length=12/\(∀ s ∈ l,s.size<=1000)/\r = .sl 1 12 (vV l):=by
 refine eN jR j5 0 Tryz.func51 rfl ?_;intro _;conv=>whnf
 refine⟨[_,_,_,_,_,_,_,_,_,_,_,_],rfl,?_,rfl⟩;intro s hs;simp only[List.mem_cons,List.not_mem_nil,or_false] at hs
 rcases hs with h | h | h | h | h | h | h | h | h | h | h | h
 all_goals (rw[h];decide)
theorem jgL (n:Int):Spec Tryz.prog 15 [] [intA n] fun _ r => ∃ s:ByteArray,s.size<=1000/\r=jX s:=by
 have hso:=jeN
 have har:=fS n 12 (by decide)
 refine eN jR j5 0 Tryz.func15 rfl ?_;intro _;conv=>whnf
 refine kU [] hso ?_;rintro r ⟨l,hl,hs,rfl⟩;conv=>whnf
 refine kU [] har ?_;rintro r ⟨hi,rfl⟩
 have hr:=tD (m:=12) hi (by decide)
 clear hi har;generalize bN n 12=j at *
 have hj:j.toNat<l.length:=by omega
 have hrow:=rN l j.toNat hj
 conv=>whnf
 refine⟨hr,?_⟩;conv=>whnf
 (generalize hrq:jC _ _ (vV l)=rq;obtain rfl:rq=[jX l[j.toNat]]:=hrq.symm.trans (hrow);clear hrq;conv=>whnf)
 exact⟨_,hs _ (List.getElem_mem hj),rfl⟩
theorem jpe:Wk (.agg bW) (.agg (eZ ⟨[],[],[]⟩)):=by
 unfold bW eZ;rw[gT];exact .agg (.cons (.nil 1) (.cons (.nil 1) (.cons (.nil 5) .nil)))
theorem jrJ:uH ⟨[],[],[]⟩ := ⟨by decide,by simp,by simp,.nil,by decide⟩
theorem jgy (s:ByteArray) (hs:s.size<=1000000000):Spec Tryz.prog 14 [] [jX s] fun _ r => ∃ (u:Ut) (x e:Int),uH u/\mW u.on<=900000/\r = .tup [.agg (eZ u),intA x,intA e]:=by
 refine (jio s hs).weaken fun o r hr => ?_
 subst hr
 cases hp:i7 s with
 | ok u =>
  obtain⟨hu,hz⟩ := jjZ hp
  exact⟨o,_,⟨u,0,0,hu,by omega,rfl⟩,WkB.refl o,.refl _⟩
 | bad x e=>exact⟨o,_,⟨_,x,e,jrJ,Nat.zero_le _,rfl⟩,WkB.refl o,.tup (.cons jpe (WkL.refl _))⟩
theorem CmpW.ref {u:Ut} (hu:uH u) (hz:mW u.on<=900000) {c:List Ic} {e:Nat->Int} {du vo E:Int} (h:CmpW u c e du vo E):Spec Tryz.prog 13 [] [.agg (eZ u)] fun _ r=>r = .tup [tT c e du vo,intA E] :=
 (jmK u hu hz).weaken fun o r hr=>⟨o,_,rfl,WkB.refl o,by rw[hr];exact h.2⟩
section
end
section
end
section
end
section
end
def phA (κ i:Nat):Nat:=if i<70 then (4*κ+12)*i else (4*κ+12)*70
def rV (κ i:Nat):Nat:=if i<70 then (4*κ+12)*i else (4*κ+12)*70+6*κ+18
theorem oT (κ i:Nat):phA κ i<=phA κ (i+1)/\(i<70->phA κ i+(4*κ+12)<=phA κ (i+1)):=by
 unfold phA;generalize 4*κ+12=c
 have e:c*(i+1)=c*i+c:=Nat.mul_succ c i
 by_cases h:i<70
 ·rw[if_pos h]
  by_cases h2:i+1<70
  ·rw[if_pos h2];omega
  ·rw[if_neg h2]
   obtain rfl:i=69:=by omega
   omega
 ·rw[if_neg h,if_neg (by omega)];omega
theorem jdd (κ i:Nat):(i<70->rV κ i=phA κ i)/\(70<=i->rV κ i=phA κ i+6*κ+18):=by
 unfold rV phA
 by_cases h:i<70
 ·rw[if_pos h,if_pos h];omega
 ·rw[if_neg h,if_neg h];omega
theorem gA (κ i:Nat):rV κ i<=rV κ (i+1)/\(i<70->rV κ i+(4*κ+12)<=rV κ (i+1)):=by
 have h1:=jdd κ i
 have h2:=jdd κ (i+1)
 have h3:=oT κ i
 omega
theorem eD {κ w b i j:Nat} (hij:i<=j) (h:w+phA κ i<=b+phA κ j):w+rV κ i<=b+rV κ j:=by
 have h1:=jdd κ i
 have h2:=jdd κ j
 omega
theorem jex (κ i:Nat):rV κ i<=(4*κ+12)*70+6*κ+18/\(67<=i->i<70->rV κ i+(4*κ+12)<=(4*κ+12)*70)/\(70<=i->rV κ i=(4*κ+12)*70+6*κ+18):=by
 unfold rV;generalize 4*κ+12=c
 by_cases h:i<70
 ·rw[if_pos h]
  have e:c*(i+1)=c*i+c:=Nat.mul_succ c i
  have e2:c*(i+1)<=c*70:=Nat.mul_le_mul_left c (by omega)
  omega
 ·rw[if_neg h];omega
def dgN (n:Int):Nat:=if n<10 then 1 else if n<100 then 2 else if n<1000 then 3 else 10
mutual
def wN (κ:Nat):Nt->Nat
 | .mk k n s kids=>(if k=12 then κ+dgN n else if k=13 then 5+κ else if k=14 then κ+s.size else if k=15 then κ+s.size else if k=16 then 6+3*κ else s.size+(2+3*κ))+wNs κ kids
def wNs (κ:Nat):List Nt->Nat
 | []=>0
 | f :: l=>wN κ f+wNs κ l
end
theorem jrx (κ:Nat) (n:Int):wN κ (.mk 12 n eB [])=κ+dgN n:=rfl
theorem jp9 (κ:Nat) (n:Int):wN κ (.mk 13 n eB [])=5+κ:=rfl
theorem jrz (κ:Nat) (s:ByteArray):wN κ (.mk 14 0 s [])=κ+s.size:=rfl
theorem jry (κ:Nat) (s:ByteArray):wN κ (.mk 15 0 s [])=κ+s.size:=rfl
theorem jrw (κ:Nat) (f:Nt):wN κ (.mk 16 0 eB [f])=6+3*κ+wN κ f:=rfl
theorem jnD (κ:Nat) (s:ByteArray) (f:Nt):wN κ (.mk 17 0 s [f])=s.size+(2+3*κ)+wN κ f:=by
 rw[wN,wNs,wNs];simp
theorem jiG (κ:Nat) (s:ByteArray) (f g:Nt):wN κ (.mk 18 0 s [f,g])=s.size+(2+3*κ)+(wN κ f+wN κ g):=by
 rw[wN,wNs,wNs,wNs];simp
def jqN (l:List Nt) (i:Nat):Nt:=l.getD i (.mk 0 0 eB [])
mutual
def wS (κ:Nat):Nt->Nat
 | .mk k n s kids=>if k=1 then s.size+2+3*κ+wNs κ kids else if k=4 then 9+6*κ+wNs κ kids else if k=5 then 7+3*κ else if k=6 then 8+3*κ else if k=7 then 5+2*κ else if k=10 then 5+2*κ else if k=8 then 7+3*κ+wNs κ kids else if k=9 then 5+2*κ+wNs κ kids else if k=3 then 5+κ+wN κ (jqN kids 0)+(wBs κ kids).getD 1 0 else 2+κ+wN κ (jqN kids 0)+(wBs κ kids).getD 1 0+(if 0<(jqN kids 2).kids.length then 4+κ+(wBs κ kids).getD 2 0 else 0)
def wB (κ:Nat):Nt->Nat
 | .mk _ _ _ kids=>2+2*κ+wSs κ kids
def wSs (κ:Nat):List Nt->Nat
 | []=>0
 | f :: l=>wS κ f+wSs κ l
def wBs (κ:Nat):List Nt->List Nat
 | []=>[]
 | f :: l=>wB κ f :: wBs κ l
end
theorem jeS (κ:Nat) (l:List Nt):wB κ (wL l)=2+2*κ+wSs κ l:=by unfold wL;rw[wB]
theorem jnE (κ:Nat) (s:ByteArray) (f:Nt):wS κ (.mk 1 0 s [f])=s.size+2+3*κ+wN κ f:=rfl
theorem jrE (κ:Nat) (n:Int) (f g h:Nt):wS κ (.mk 4 n eB [f,g,h])=9+6*κ+(wN κ f+(wN κ g+wN κ h)):=rfl
theorem jrH (κ:Nat) (n:Int):wS κ (.mk 5 n eB [])=7+3*κ:=rfl
theorem jrA (κ:Nat) (n:Int):wS κ (.mk 6 n eB [])=8+3*κ:=rfl
theorem jrG (κ:Nat):wS κ (.mk 7 0 eB [])=5+2*κ:=rfl
theorem jrF (κ:Nat):wS κ (.mk 10 0 eB [])=5+2*κ:=rfl
theorem jrD (κ:Nat) (f g:Nt):wS κ (.mk 8 0 eB [f,g])=7+3*κ+(wN κ f+wN κ g):=rfl
theorem jrB (κ:Nat) (f:Nt):wS κ (.mk 9 0 eB [f])=5+2*κ+wN κ f:=rfl
theorem jrI (κ:Nat) (c b:Nt):wS κ (.mk 3 0 eB [c,b])=5+κ+wN κ c+wB κ b:=rfl
theorem jrC (κ:Nat) (c b d:Nt):wS κ (.mk 2 0 eB [c,b,d])=2+κ+wN κ c+wB κ b+(if 0<d.kids.length then 4+κ+wB κ d else 0):=rfl
theorem jnF (κ:Nat) (c:Nt) (l m:List Nt):wS κ (.mk 2 0 eB [c,wL l,wL m])<=4+3*κ+wN κ c+wSs κ l+(6+3*κ+wSs κ m)/\(m.length=0->wS κ (.mk 2 0 eB [c,wL l,wL m])=4+3*κ+wN κ c+wSs κ l):=by
 rw[jrC,jeS,jeS];refine⟨by split <;> omega,fun h => ?_⟩;rw[if_neg (by show ¬ 0<m.length;omega)];omega
def wHs (κ:Nat):List (Int × Nt)->Nat
 | []=>0
 | x :: l=>11+3*κ+wB κ x.2+wHs κ l
end Go.Proofs.YtfbifdccmabdbaaGreatDoor.Vm
