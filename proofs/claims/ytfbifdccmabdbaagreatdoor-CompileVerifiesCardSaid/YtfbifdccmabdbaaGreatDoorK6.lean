/- Texts 6 of the proof: C39, C40, C41, C42, C43, C23, C24, C25, C26, C27, C28, C30, C44, Ta, C45, C46, C47, C48, C29, C31, L0, L1, L2, Q1, Q2, Q3, Q4, Q5, Q6, Q7, Q8, Q9, Q10, Q11, Q12, Q13, E1, E4, E2, E5, G0, G1, G2, G3, G4, G5. -/
import Derived.Test.YtfbifdccmabdbaaGreatDoorK5
namespace Go.Proofs.YtfbifdccmabdbaaGreatDoor.Vm
open Go.RowKit Go.Shelf
set_option linter.unusedSimpArgs false
set_option linter.unusedVariables false
set_option maxRecDepth 100000
def jzb (u:Ut) (a:A) (n:Int) (g:Int->List Ic) (z:Nat):Prop:=(∀ at':Int,(g at').length<=z) /\ ∀ at':Int,0<=at'->at'+z<=1000000->SpecF Tryz.prog 123 [.agg (utA u),a,intA n,intA at'] (jvg (g at'))
theorem jgL (u:Ut) (f:Nt) (hf:jbd u f) (hc:jco u f) (n:Int):jzb u (.sl 4 1 (ntA f)) n (jal (ixU u) f) (szN f):=⟨hf.1,fun at' h0 hz=>jrW u f hc n at' h0 hz⟩
theorem jnQ (u:Ut) (n:Int):jzb u (.v (.slice none 0 0)) n (fun _=>[(1,n)]) 1:=⟨fun _=>Nat.le_refl _,fun at' h0 hz=>jrV u n at'⟩
theorem jdX (u:Ut) (c:Nt) (hf:jbd u c) (hc:jco u c) (ya na:A) (n:Int) (y m:Int->List Ic) (zy zm:Nat) (hy:jzb u ya n y zy) (hn:jzb u na n m zm) (hya:(∃ cs,ya = .sl 4 1 cs) ∨ ya = .v (.slice none 0 0)) (hna:(∃ cs,na = .sl 4 1 cs) ∨ na = .v (.slice none 0 0)) (at':Int) (h0:0<=at') (hz:at'+(szN c+zy+zm+2:Nat)<=1000000):SpecF Tryz.prog 84 [.agg (utA u),.agg (ntA c),ya,na,intA n,intA at'] (jvg (brC (jal (ixU u) c) y m at')):=by
 have hcode:=hc at' h0 (by omega)
 have hcl:=hf.1 at'
 unfold brC
 simp only
 generalize jal (ixU u) c at'=l at hcode hcl
 have hyc:=hy.2 (at'+l.length+1) (by omega) (by omega)
 have hyl:=hy.1 (at'+l.length+1)
 generalize y (at'+l.length+1)=a at hyc hyl
 have hnc:=hn.2 (at'+l.length+1+a.length+1) (by omega) (by omega)
 have hnl:=hn.1 (at'+l.length+1+a.length+1)
 generalize m (at'+l.length+1+a.length+1)=b at hnc hnl;simp only[ntA] at hcode
 rcases hya with ⟨cy,rfl⟩ | rfl
 all_goals rcases hna with ⟨cn,rfl⟩ | rfl
 all_goals
  refine jat (ja2 jax xs0 0) (fun _ _ h=>h) Tryz.func84 rfl (by kernel_rfl) rfl (by kernel_rfl) ?_;intro _;conv=>whnf
  refine jcX 0 [] rfl rfl (fun _=>hcode) ?_;rintro e k n cs r ⟨rfl,rfl,rfl,rfl,rfl⟩;conv=>whnf
  refine⟨ja7 (by omega),?_⟩;conv=>whnf
  refine⟨ja7 (by omega),?_⟩;conv=>whnf
  refine jcX 1 [] rfl rfl (fun _=>hyc) ?_;rintro e k n cs r ⟨rfl,rfl,rfl,rfl,rfl⟩;conv=>whnf
  refine⟨ja7 (by omega),?_⟩;conv=>whnf
  refine⟨ja7 (by omega),?_⟩;conv=>whnf
  refine⟨ja7 (by omega),?_⟩;conv=>whnf
  refine⟨ja7 (by omega),?_⟩;conv=>whnf
  refine jcX 2 [] rfl rfl (fun _=>hnc) ?_;rintro e k n cs r ⟨rfl,rfl,rfl,rfl,rfl⟩;conv=>whnf
  refine⟨⟨by unfold maxLen;omega,by omega⟩,?_⟩;conv=>whnf
  refine⟨⟨by unfold maxLen;omega,by omega⟩,?_⟩;conv=>whnf
  refine⟨ja7 (by omega),?_⟩;conv=>whnf
  refine⟨⟨by unfold maxLen;omega,by omega⟩,?_⟩;conv=>whnf
  refine⟨⟨by unfold maxLen;omega,by omega⟩,?_⟩;conv=>whnf
  refine⟨0,?_⟩;conv=>whnf
  refine⟨rfl,rfl,?_,?_,rfl⟩
  ·simp only[List.length_append,List.length_cons];omega
  ·rw[jb3,jaW,jb3,jaW];simp only[icA,List.append_assoc,List.cons_append,List.nil_append];rfl
theorem jgz (u:Ut) (hu:WfU u) (s:ByteArray):Spec Tryz.prog 67 [] [.agg (utA u),jbm s] fun _ r=>r=intA (ixU u s):=by
 have hdv:=hu.du
 obtain⟨R,hR⟩ : ∃ R,ixU u s=R:=⟨_,rfl⟩
 rw[hR];unfold ixU jcM at hR;refine ja3 (ja2 jax xs0 0) (fun _ _ h=>h) Tryz.func67 rfl (by kernel_rfl) rfl (by kernel_rfl) ?_;intro _;conv=>whnf
 refine ja4 [1,2] ?_;conv=>whnf
 refine ja9 (fun j:Nat=>[(5,.v (.int .i64 j))]) (fun _=>[utA u]) (fun _=>[]) (fun j=>j<=u.du.length /\ ∀ i (h:i<u.du.length),i<j->(u.du[i] == s)=false) (fun j=>u.du.length-j) 0 ?_ ⟨Nat.zero_le _,fun i h h2=>by omega⟩ ?_
 ·repeat' constructor
 rintro j ⟨hj,hn⟩;conv=>whnf
 rcases Nat.lt_or_ge j u.du.length with hlt | hge
 ·have hrow:=jk9 u.du j hlt
  rw[decide_eq_true (show (j:Int)<(u.du.length:Int) by omega)];conv=>whnf
  refine⟨show (0:Int)<=(j:Int)/\(j:Int)<(u.du.length:Nat) from ⟨by omega,by omega⟩,?_⟩;conv=>whnf
  (generalize hrq:ja5 _ _ (txA u.du)=rq;obtain rfl:rq=[jbm u.du[j]]:=hrq.symm.trans (hrow);clear hrq;conv=>whnf)
  by_cases he:u.du[j]=s
  ·rw[decide_eq_true he]
   have hp:=jh3 hlt (fun i h h2=>hn i h h2) (show (u.du[j] == s)=true by rw[jhc,he,decide_eq_true rfl])
   rw[hp,if_pos (by omega)] at hR;conv=>whnf
   rw[<- hR];rfl
  rw[decide_eq_false he];conv=>whnf
  refine⟨show lo .i64<=(j:Int)+1/\(j:Int)+1<=hi .i64 from ja7 (by omega),?_⟩;conv=>whnf
  refine⟨j+1,ja0 [] ?_,⟨show j+1<=u.du.length by omega,fun i h h2 => ?_⟩,show u.du.length-(j+1)<u.du.length-j by omega⟩
  ·conv=>whnf
   repeat' constructor
  ·by_cases q:i=j
   ·subst q;rw[jhc,decide_eq_false he]
   ·exact hn i h (by omega)
 have m1:=jfu (l:=u.du) (s:=s) fun i h=>hn i h (by omega)
 rw[decide_eq_false (show ¬ (j:Int)<(u.du.length:Int) by omega)];clear hn hj hge;conv=>whnf
 rw[m1,if_neg (by omega)] at hR;refine ja4 [1,2] ?_;conv=>whnf
 refine ja9 (fun j:Nat=>[(6,.v (.int .i64 j))]) (fun _=>[utA u]) (fun _=>[]) (fun j=>j<=u.vo.length /\ ∀ i (h:i<u.vo.length),i<j->(u.vo[i] == s)=false) (fun j=>u.vo.length-j) 0 ?_ ⟨Nat.zero_le _,fun i h h2=>by omega⟩ ?_
 ·repeat' constructor
 rintro j ⟨hj,hn⟩;conv=>whnf
 rcases Nat.lt_or_ge j u.vo.length with hlt | hge
 ·have hrow:=jk9 u.vo j hlt
  rw[decide_eq_true (show (j:Int)<(u.vo.length:Int) by omega)];conv=>whnf
  refine⟨show (0:Int)<=(j:Int)/\(j:Int)<(u.vo.length:Nat) from ⟨by omega,by omega⟩,?_⟩;conv=>whnf
  (generalize hrq:ja5 _ _ (txA u.vo)=rq;obtain rfl:rq=[jbm u.vo[j]]:=hrq.symm.trans (hrow);clear hrq;conv=>whnf)
  by_cases he:u.vo[j]=s
  ·rw[decide_eq_true he]
   have hp:=jh3 hlt (fun i h h2=>hn i h h2) (show (u.vo[j] == s)=true by rw[jhc,he,decide_eq_true rfl])
   rw[hp,if_pos (by omega)] at hR;conv=>whnf
   refine⟨ja7 (by omega),?_⟩;conv=>whnf
   rw[<- hR];rfl
  rw[decide_eq_false he];conv=>whnf
  refine⟨show lo .i64<=(j:Int)+1/\(j:Int)+1<=hi .i64 from ja7 (by omega),?_⟩;conv=>whnf
  refine⟨j+1,ja0 [] ?_,⟨show j+1<=u.vo.length by omega,fun i h h2 => ?_⟩,show u.vo.length-(j+1)<u.vo.length-j by omega⟩
  ·conv=>whnf
   repeat' constructor
  ·by_cases q:i=j
   ·subst q;rw[jhc,decide_eq_false he]
   ·exact hn i h (by omega)
 have m2:=jfu (l:=u.vo) (s:=s) fun i h=>hn i h (by omega)
 rw[decide_eq_false (show ¬ (j:Int)<(u.vo.length:Int) by omega)];clear hn hj hge;conv=>whnf
 rw[m2,if_neg (by omega)] at hR;rw[<- hR];rfl
theorem joD (l:List Nt) (k:Nat) (hk:k<l.length):((jbQ l).drop (k*4)).take (1*4)=ntA l[k]:=by
 have h:=jaO l k hk
 unfold ja5 at h;rw[Nat.one_mul];exact h
def jb1 (u:Ut) (k n:Int) (s:ByteArray) (kids:List Nt) (l:List Ic) (at':Int):Prop:=SpecF Tryz.prog 42 [.agg (utA u),.agg [intA k,intA n,jbm s,.sl 4 kids.length (jbQ kids)],intA at'] (jvg l)
theorem juB (u:Ut) (k n:Int) (s:ByteArray) (kids:List Nt) (at':Int) (hk:k=12 ∨ k=13):jb1 u k n s kids [(1,n)] at':=by
 rcases hk with rfl | rfl
 all_goals
  unfold jb1;refine jat (ja2 jdz xs0 0) (fun _ _ h=>h) Tryz.func42 rfl (by kernel_rfl) rfl (by kernel_rfl) ?_;intro _;conv=>whnf
  refine⟨0,?_⟩;conv=>whnf
  exact⟨rfl,rfl,rfl,by unfold jaJ;rfl,rfl⟩
theorem jxK (u:Ut) (n:Int) (s:ByteArray) (kids:List Nt) (at':Int):jb1 u 5 n s kids [(18,n)] at':=by
 unfold jb1;refine jat (ja2 jdz xs0 0) (fun _ _ h=>h) Tryz.func42 rfl (by kernel_rfl) rfl (by kernel_rfl) ?_;intro _;conv=>whnf
 refine⟨0,?_⟩;conv=>whnf
 exact⟨rfl,rfl,rfl,by unfold jaJ;rfl,rfl⟩
theorem jxA (u:Ut) (n:Int) (s:ByteArray) (kids:List Nt) (at':Int):jb1 u 6 n s kids [(19,n)] at':=by
 unfold jb1;refine jat (ja2 jdz xs0 0) (fun _ _ h=>h) Tryz.func42 rfl (by kernel_rfl) rfl (by kernel_rfl) ?_;intro _;conv=>whnf
 refine⟨0,?_⟩;conv=>whnf
 exact⟨rfl,rfl,rfl,by unfold jaJ;rfl,rfl⟩
theorem jxJ (u:Ut) (n:Int) (s:ByteArray) (kids:List Nt) (at':Int):jb1 u 7 n s kids [(20,0)] at':=by
 unfold jb1;refine jat (ja2 jdz xs0 0) (fun _ _ h=>h) Tryz.func42 rfl (by kernel_rfl) rfl (by kernel_rfl) ?_;intro _;conv=>whnf
 refine⟨0,?_⟩;conv=>whnf
 exact⟨rfl,rfl,rfl,by unfold jaJ;rfl,rfl⟩
theorem jxI (u:Ut) (n:Int) (s:ByteArray) (kids:List Nt) (at':Int):jb1 u 10 n s kids [(23,0)] at':=by
 unfold jb1;refine jat (ja2 jdz xs0 0) (fun _ _ h=>h) Tryz.func42 rfl (by kernel_rfl) rfl (by kernel_rfl) ?_;intro _;conv=>whnf
 refine⟨0,?_⟩;conv=>whnf
 exact⟨rfl,rfl,rfl,by unfold jaJ;rfl,rfl⟩
theorem jxL (u:Ut) (hu:WfU u) (n:Int) (s:ByteArray) (kids:List Nt) (at':Int):jb1 u 14 n s kids [(2,ixU u s)] at':=by
 have hix:=jgz u hu s
 unfold jb1;refine jat (ja2 jdz xs0 0) (fun _ _ h=>h) Tryz.func42 rfl (by kernel_rfl) rfl (by kernel_rfl) ?_;intro _;conv=>whnf
 refine jac [] rfl (fun _=>hix) ?_;rintro r rfl;conv=>whnf
 refine⟨0,?_⟩;conv=>whnf
 exact⟨rfl,rfl,rfl,by unfold jaJ;rfl,rfl⟩
theorem jxE (u:Ut) (n:Int) (s:ByteArray) (kids:List Nt) (at':Int):jb1 u 15 n s kids [(4,biF s)] at':=by
 have hbu:=jio
 have hfi:=jnl builtL s (by decide)
 rw[jxn] at hfi;unfold jb1;refine jat (ja2 jdz xs0 0) (fun _ _ h=>h) Tryz.func42 rfl (by kernel_rfl) rfl (by kernel_rfl) ?_;intro _;conv=>whnf
 refine jac [] rfl (fun _=>hbu) ?_;rintro r rfl;conv=>whnf
 refine jac [] rfl (fun _=>hfi) ?_;rintro r rfl;conv=>whnf
 refine⟨0,?_⟩;conv=>whnf
 exact⟨rfl,rfl,rfl,by unfold jaJ;rfl,rfl⟩
theorem jxz (u:Ut) (n:Int) (s:ByteArray) (kids:List Nt) (hm:kids.length<=3002) (hf:∀ f ∈ kids,jbd u f) (hc:∀ f ∈ kids,jco u f) (at':Int) (h0:0<=at') (hz:at'+jbK kids<=1000000):jb1 u 11 n s kids (jc9 (jaf (ixU u) kids) at') at':=by
 have hsq:=jc0 u kids hm hf hc at' h0 hz
 generalize jc9 (jaf (ixU u) kids) at'=l at hsq;unfold jb1;refine jat (ja2 jdz xs0 0) (fun _ _ h=>h) Tryz.func42 rfl (by kernel_rfl) rfl (by kernel_rfl) ?_;intro _;conv=>whnf
 refine jcX 0 [] rfl rfl (fun _=>hsq) ?_;rintro e k n cs r ⟨rfl,rfl,rfl,rfl,rfl⟩;conv=>whnf
 refine⟨0,?_⟩;conv=>whnf
 exact⟨rfl,rfl,rfl,rfl,rfl⟩
theorem jxD (u:Ut) (n:Int) (s:ByteArray) (c y m:Nt) (h1:jbd u c/\jco u c) (h2:jbd u y/\jco u y) (h3:jbd u m/\jco u m) (at':Int) (h0:0<=at') (hz:at'+(szN c+szN y+szN m+2:Nat)<=1000000):jb1 u 2 n s [c,y,m] (brC (jal (ixU u) c) (jal (ixU u) y) (jal (ixU u) m) at') at':=by
 have hb:=jdX u c h1.1 h1.2 _ _ 0 _ _ _ _ (jgL u y h2.1 h2.2 0) (jgL u m h3.1 h3.2 0) (.inl ⟨_,rfl⟩) (.inl ⟨_,rfl⟩) at' h0 hz
 generalize brC (jal (ixU u) c) (jal (ixU u) y) (jal (ixU u) m) at'=l at hb
 have hr0:ja5 4 0 (jbQ [c,y,m])=ntA c:=jaO [c,y,m] 0 (by simp)
 unfold jb1;refine jat (ja2 jdz xs0 0) (fun _ _ h=>h) Tryz.func42 rfl (by kernel_rfl) rfl (by kernel_rfl) ?_;intro _;conv=>whnf
 refine⟨⟨by decide,show (0:Int)<((3:Nat):Int) by decide⟩,?_⟩;conv=>whnf
 (generalize hrq:ja5 _ _ (jbQ [c,y,m])=rq;obtain rfl:rq=ntA c:=hrq.symm.trans (hr0);clear hrq;conv=>whnf)
 refine⟨⟨by decide,by decide,show (2:Int)<=((3:Nat):Int) by decide⟩,?_⟩
 have e1:Int.toNat 2-Int.toNat 1=1:=rfl
 have e2:List.take (1*4) (List.drop (Int.toNat 1*4) (jbQ [c,y,m]))=ntA y:=joD [c,y,m] 1 (by simp)
 rw[e1,e2];conv=>whnf
 refine⟨⟨by decide,by decide,show (3:Int)<=((3:Nat):Int) by decide⟩,?_⟩
 have e3:Int.toNat 3-Int.toNat 2=1:=rfl
 have e4:List.take (1*4) (List.drop (Int.toNat 2*4) (jbQ [c,y,m]))=ntA m:=joD [c,y,m] 2 (by simp)
 rw[e3,e4];conv=>whnf
 refine jcX 0 [] rfl rfl (fun _=>hb) ?_;rintro e k n cs r ⟨rfl,rfl,rfl,rfl,rfl⟩;conv=>whnf
 refine⟨0,?_⟩;conv=>whnf
 exact⟨rfl,rfl,rfl,rfl,rfl⟩
theorem jxx (u:Ut) (n:Int) (c y:Nt) (h1:jbd u c/\jco u c) (h2:jbd u y/\jco u y) (at':Int) (h0:0<=at') (hz:at'+(szN c+szN y+1+2:Nat)<=1000000):jb1 u 18 n jga [c,y] (brC (jal (ixU u) c) (jal (ixU u) y) (fun _=>[(1,0)]) at') at':=by
 have hb:=jdX u c h1.1 h1.2 _ _ 0 _ _ _ _ (jgL u y h2.1 h2.2 0) (jnQ u 0) (.inl ⟨_,rfl⟩) (.inr rfl) at' h0 hz
 generalize brC (jal (ixU u) c) (jal (ixU u) y) (fun _=>[(1,0)]) at'=l at hb
 have hr0:ja5 4 0 (jbQ [c,y])=ntA c:=jaO [c,y] 0 (by simp)
 unfold jb1;refine jat (ja2 jdz xs0 0) (fun _ _ h=>h) Tryz.func42 rfl (by kernel_rfl) rfl (by kernel_rfl) ?_;intro _;conv=>whnf
 refine⟨⟨by decide,show (0:Int)<((2:Nat):Int) by decide⟩,?_⟩;conv=>whnf
 (generalize hrq:ja5 _ _ (jbQ [c,y])=rq;obtain rfl:rq=ntA c:=hrq.symm.trans (hr0);clear hrq;conv=>whnf)
 refine⟨⟨by decide,by decide,show (2:Int)<=((2:Nat):Int) by decide⟩,?_⟩
 have e1:Int.toNat 2-Int.toNat 1=1:=rfl
 have e2:List.take (1*4) (List.drop (Int.toNat 1*4) (jbQ [c,y]))=ntA y:=joD [c,y] 1 (by simp)
 rw[e1,e2];conv=>whnf
 refine jcX 0 [] rfl rfl (fun _=>hb) ?_;rintro e k n cs r ⟨rfl,rfl,rfl,rfl,rfl⟩;conv=>whnf
 refine⟨0,?_⟩;conv=>whnf
 exact⟨rfl,rfl,rfl,rfl,rfl⟩
theorem jzP (u:Ut) (n:Int) (c y:Nt) (h1:jbd u c/\jco u c) (h2:jbd u y/\jco u y) (at':Int) (h0:0<=at') (hz:at'+(szN c+1+szN y+2:Nat)<=1000000):jb1 u 18 n pOr [c,y] (brC (jal (ixU u) c) (fun _=>[(1,1)]) (jal (ixU u) y) at') at':=by
 have hb:=jdX u c h1.1 h1.2 _ _ 1 _ _ _ _ (jnQ u 1) (jgL u y h2.1 h2.2 1) (.inr rfl) (.inl ⟨_,rfl⟩) at' h0 hz
 generalize brC (jal (ixU u) c) (fun _=>[(1,1)]) (jal (ixU u) y) at'=l at hb
 have hr0:ja5 4 0 (jbQ [c,y])=ntA c:=jaO [c,y] 0 (by simp)
 unfold jb1;refine jat (ja2 jdz xs0 0) (fun _ _ h=>h) Tryz.func42 rfl (by kernel_rfl) rfl (by kernel_rfl) ?_;intro _;conv=>whnf
 refine⟨⟨by decide,show (0:Int)<((2:Nat):Int) by decide⟩,?_⟩;conv=>whnf
 (generalize hrq:ja5 _ _ (jbQ [c,y])=rq;obtain rfl:rq=ntA c:=hrq.symm.trans (hr0);clear hrq;conv=>whnf)
 refine⟨⟨by decide,by decide,show (2:Int)<=((2:Nat):Int) by decide⟩,?_⟩
 have e1:Int.toNat 2-Int.toNat 1=1:=rfl
 have e2:List.take (1*4) (List.drop (Int.toNat 1*4) (jbQ [c,y]))=ntA y:=joD [c,y] 1 (by simp)
 rw[e1,e2];conv=>whnf
 refine jcX 0 [] rfl rfl (fun _=>hb) ?_;rintro e k n cs r ⟨rfl,rfl,rfl,rfl,rfl⟩;conv=>whnf
 refine⟨0,?_⟩;conv=>whnf
 exact⟨rfl,rfl,rfl,rfl,rfl⟩
theorem jxM (u:Ut) (n:Int) (s:ByteArray) (c b:Nt) (h1:jbd u c/\jco u c) (h2:jbd u b/\jco u b) (at':Int) (h0:0<=at') (hz:at'+(szN c+szN b+2:Nat)<=1000000):jb1 u 3 n s [c,b] (jal (ixU u) c at'++(16,at'+(jal (ixU u) c at').length+(jal (ixU u) b (at'+(jal (ixU u) c at').length+1)).length+2) :: (jal (ixU u) b (at'+(jal (ixU u) c at').length+1)++[(15,at')])) at':=by
 have hcc:=h1.2 at' h0 (by omega)
 have hcl:=h1.1.1 at'
 generalize jal (ixU u) c at'=l at hcc hcl
 have hbc:=h2.2 (at'+l.length+1) (by omega) (by omega)
 have hbl:=h2.1.1 (at'+l.length+1)
 generalize jal (ixU u) b (at'+l.length+1)=m at hbc hbl
 have hr0:ja5 4 0 (jbQ [c,b])=ntA c:=jaO [c,b] 0 (by simp)
 have hr1:ja5 4 1 (jbQ [c,b])=ntA b:=jaO [c,b] 1 (by simp)
 unfold jb1;refine jat (ja2 jdz xs0 0) (fun _ _ h=>h) Tryz.func42 rfl (by kernel_rfl) rfl (by kernel_rfl) ?_;intro _;conv=>whnf
 refine⟨⟨by decide,show (0:Int)<((2:Nat):Int) by decide⟩,?_⟩;conv=>whnf
 (generalize hrq:ja5 _ _ (jbQ [c,b])=rq;obtain rfl:rq=ntA c:=hrq.symm.trans (hr0);clear hrq;conv=>whnf)
 refine jcX 0 [] rfl rfl (fun _=>hcc) ?_;rintro e k n cs r ⟨rfl,rfl,rfl,rfl,rfl⟩;conv=>whnf
 refine⟨⟨by decide,show (1:Int)<((2:Nat):Int) by decide⟩,?_⟩;conv=>whnf
 (generalize hrq:ja5 _ _ (jbQ [c,b])=rq;obtain rfl:rq=ntA b:=hrq.symm.trans (hr1);clear hrq;conv=>whnf)
 refine⟨ja7 (by omega),?_⟩;conv=>whnf
 refine⟨ja7 (by omega),?_⟩;conv=>whnf
 refine jcX 1 [] rfl rfl (fun _=>hbc) ?_;rintro e k n cs r ⟨rfl,rfl,rfl,rfl,rfl⟩;conv=>whnf
 refine⟨ja7 (by omega),?_⟩;conv=>whnf
 refine⟨ja7 (by omega),?_⟩;conv=>whnf
 refine⟨ja7 (by omega),?_⟩;conv=>whnf
 refine⟨⟨by unfold maxLen;omega,by omega⟩,?_⟩;conv=>whnf
 refine⟨⟨by unfold maxLen;omega,by omega⟩,?_⟩;conv=>whnf
 refine⟨⟨by unfold maxLen;omega,by omega⟩,?_⟩;conv=>whnf
 refine⟨0,?_⟩;conv=>whnf
 refine⟨rfl,rfl,?_,?_,rfl⟩
 ·simp only[List.length_append,List.length_cons,List.length_nil];omega
 ·rw[jb3,jaW,jb3,jcb];simp only[icA,List.append_assoc,List.cons_append,List.nil_append];rfl
theorem jxB (u:Ut) (n:Int) (s:ByteArray) (kids:List Nt) (hm:kids.length<=3002) (hf:∀ f ∈ kids,jbd u f) (hc:∀ f ∈ kids,jco u f) (at':Int) (h0:0<=at') (hz:at'+(jbK kids+3:Nat)<=1000000):jb1 u 16 n s kids (jc9 (jaf (ixU u) kids) at'++[(5,0)]) at':=by
 have hsq:=jc0 u kids hm hf hc at' h0 (by omega)
 have hsl:=jbb (u:=u) kids at' hf
 generalize jc9 (jaf (ixU u) kids) at'=l at hsq hsl;unfold jb1;refine jat (ja2 jdz xs0 0) (fun _ _ h=>h) Tryz.func42 rfl (by kernel_rfl) rfl (by kernel_rfl) ?_;intro _;conv=>whnf
 refine jcX 0 [] rfl rfl (fun _=>hsq) ?_;rintro e k n cs r ⟨rfl,rfl,rfl,rfl,rfl⟩;conv=>whnf
 refine⟨⟨by unfold maxLen;omega,by omega⟩,?_⟩;conv=>whnf
 refine⟨0,?_⟩;conv=>whnf
 refine⟨rfl,rfl,by rw[List.length_append];rfl,by rw[jb3,jcb];rfl,rfl⟩
theorem jxH (u:Ut) (n:Int) (s:ByteArray) (kids:List Nt) (hm:kids.length<=3002) (hf:∀ f ∈ kids,jbd u f) (hc:∀ f ∈ kids,jco u f) (at':Int) (h0:0<=at') (hz:at'+(jbK kids+3:Nat)<=1000000):jb1 u 4 n s kids (jc9 (jaf (ixU u) kids) at'++[(17,n)]) at':=by
 have hsq:=jc0 u kids hm hf hc at' h0 (by omega)
 have hsl:=jbb (u:=u) kids at' hf
 generalize jc9 (jaf (ixU u) kids) at'=l at hsq hsl;unfold jb1;refine jat (ja2 jdz xs0 0) (fun _ _ h=>h) Tryz.func42 rfl (by kernel_rfl) rfl (by kernel_rfl) ?_;intro _;conv=>whnf
 refine jcX 0 [] rfl rfl (fun _=>hsq) ?_;rintro e k n cs r ⟨rfl,rfl,rfl,rfl,rfl⟩;conv=>whnf
 refine⟨⟨by unfold maxLen;omega,by omega⟩,?_⟩;conv=>whnf
 refine⟨0,?_⟩;conv=>whnf
 refine⟨rfl,rfl,by rw[List.length_append];rfl,by rw[jb3,jcb];rfl,rfl⟩
theorem jxG (u:Ut) (n:Int) (s:ByteArray) (kids:List Nt) (hm:kids.length<=3002) (hf:∀ f ∈ kids,jbd u f) (hc:∀ f ∈ kids,jco u f) (at':Int) (h0:0<=at') (hz:at'+(jbK kids+3:Nat)<=1000000):jb1 u 8 n s kids (jc9 (jaf (ixU u) kids) at'++[(21,0)]) at':=by
 have hsq:=jc0 u kids hm hf hc at' h0 (by omega)
 have hsl:=jbb (u:=u) kids at' hf
 generalize jc9 (jaf (ixU u) kids) at'=l at hsq hsl;unfold jb1;refine jat (ja2 jdz xs0 0) (fun _ _ h=>h) Tryz.func42 rfl (by kernel_rfl) rfl (by kernel_rfl) ?_;intro _;conv=>whnf
 refine jcX 0 [] rfl rfl (fun _=>hsq) ?_;rintro e k n cs r ⟨rfl,rfl,rfl,rfl,rfl⟩;conv=>whnf
 refine⟨⟨by unfold maxLen;omega,by omega⟩,?_⟩;conv=>whnf
 refine⟨0,?_⟩;conv=>whnf
 refine⟨rfl,rfl,by rw[List.length_append];rfl,by rw[jb3,jcb];rfl,rfl⟩
theorem jxC (u:Ut) (n:Int) (s:ByteArray) (kids:List Nt) (hm:kids.length<=3002) (hf:∀ f ∈ kids,jbd u f) (hc:∀ f ∈ kids,jco u f) (at':Int) (h0:0<=at') (hz:at'+(jbK kids+3:Nat)<=1000000):jb1 u 9 n s kids (jc9 (jaf (ixU u) kids) at'++[(22,0)]) at':=by
 have hsq:=jc0 u kids hm hf hc at' h0 (by omega)
 have hsl:=jbb (u:=u) kids at' hf
 generalize jc9 (jaf (ixU u) kids) at'=l at hsq hsl;unfold jb1;refine jat (ja2 jdz xs0 0) (fun _ _ h=>h) Tryz.func42 rfl (by kernel_rfl) rfl (by kernel_rfl) ?_;intro _;conv=>whnf
 refine jcX 0 [] rfl rfl (fun _=>hsq) ?_;rintro e k n cs r ⟨rfl,rfl,rfl,rfl,rfl⟩;conv=>whnf
 refine⟨⟨by unfold maxLen;omega,by omega⟩,?_⟩;conv=>whnf
 refine⟨0,?_⟩;conv=>whnf
 refine⟨rfl,rfl,by rw[List.length_append];rfl,by rw[jb3,jcb];rfl,rfl⟩
theorem jxy (u:Ut) (n:Int) (s:ByteArray) (kids:List Nt) (hm:kids.length<=3002) (hf:∀ f ∈ kids,jbd u f) (hc:∀ f ∈ kids,jco u f) (at':Int) (h0:0<=at') (hz:at'+(jbK kids+3:Nat)<=1000000) (hu:WfU u):jb1 u 1 n s kids (jc9 (jaf (ixU u) kids) at'++[(3,ixU u s)]) at':=by
 have hix:=jgz u hu s
 have hsq:=jc0 u kids hm hf hc at' h0 (by omega)
 have hsl:=jbb (u:=u) kids at' hf
 generalize jc9 (jaf (ixU u) kids) at'=l at hsq hsl;unfold jb1;refine jat (ja2 jdz xs0 0) (fun _ _ h=>h) Tryz.func42 rfl (by kernel_rfl) rfl (by kernel_rfl) ?_;intro _;conv=>whnf
 refine jcX 0 [] rfl rfl (fun _=>hsq) ?_;rintro e k n cs r ⟨rfl,rfl,rfl,rfl,rfl⟩;conv=>whnf
 refine jac [] rfl (fun _=>hix) ?_;rintro r rfl;conv=>whnf
 refine⟨⟨by unfold maxLen;omega,by omega⟩,?_⟩;conv=>whnf
 refine⟨0,?_⟩;conv=>whnf
 refine⟨rfl,rfl,by rw[List.length_append];rfl,by rw[jb3,jcb];rfl,rfl⟩
theorem jxF (u:Ut) (n:Int) (s:ByteArray) (kids:List Nt) (hm:kids.length<=3002) (hf:∀ f ∈ kids,jbd u f) (hc:∀ f ∈ kids,jco u f) (at':Int) (h0:0<=at') (hz:at'+(jbK kids+3:Nat)<=1000000):jb1 u 17 n s kids (jc9 (jaf (ixU u) kids) at'++(if s=pMinus then [(10,0)] else [(14,0)])) at':=by
 have hsq:=jc0 u kids hm hf hc at' h0 (by omega)
 have hsl:=jbb (u:=u) kids at' hf
 generalize jc9 (jaf (ixU u) kids) at'=l at hsq hsl;unfold jb1;refine jat (ja2 jdz xs0 0) (fun _ _ h=>h) Tryz.func42 rfl (by kernel_rfl) rfl (by kernel_rfl) ?_;intro _;conv=>whnf
 refine jcX 0 [] rfl rfl (fun _=>hsq) ?_;rintro e k n cs r ⟨rfl,rfl,rfl,rfl,rfl⟩;conv=>whnf
 by_cases hs:s=pMinus
 ·rw[if_pos hs];rw[decide_eq_true (p:=s = ⟨_⟩) hs];conv=>whnf
  refine⟨⟨by unfold maxLen;omega,by omega⟩,?_⟩;conv=>whnf
  refine⟨0,?_⟩;conv=>whnf
  refine⟨rfl,rfl,by rw[List.length_append];rfl,by rw[jb3,jcb];rfl,rfl⟩
 ·rw[if_neg hs];rw[decide_eq_false (p:=s = ⟨_⟩) hs];conv=>whnf
  refine⟨⟨by unfold maxLen;omega,by omega⟩,?_⟩;conv=>whnf
  refine⟨0,?_⟩;conv=>whnf
  refine⟨rfl,rfl,by rw[List.length_append];rfl,by rw[jb3,jcb];rfl,rfl⟩
theorem jzO (u:Ut) (n:Int) (s:ByteArray) (kids:List Nt) (hm:kids.length<=3002) (hf:∀ f ∈ kids,jbd u f) (hc:∀ f ∈ kids,jco u f) (at':Int) (h0:0<=at') (hz:at'+(jbK kids+3:Nat)<=1000000) (ho:(opBin.any fun x=>decide (s=x))=true) (hA:s ≠ jga) (hO:s ≠ pOr):jb1 u 18 n s kids (jc9 (jaf (ixU u) kids) at'++opC s) at':=by
 have hop:=jhS s ho
 have hol:=joG s
 generalize opC s=m at hop hol
 have hsq:=jc0 u kids hm hf hc at' h0 (by omega)
 have hsl:=jbb (u:=u) kids at' hf
 generalize jc9 (jaf (ixU u) kids) at'=l at hsq hsl;unfold jb1;refine jat (ja2 jdz xs0 0) (fun _ _ h=>h) Tryz.func42 rfl (by kernel_rfl) rfl (by kernel_rfl) ?_;intro _;conv=>whnf
 rw[decide_eq_false (p:=s = ⟨_⟩) hA];conv=>whnf
 rw[decide_eq_false (p:=s = ⟨_⟩) hO];conv=>whnf
 refine jcX 0 [] rfl rfl (fun _=>hsq) ?_;rintro e k n cs r ⟨rfl,rfl,rfl,rfl,rfl⟩;conv=>whnf
 refine jcX 1 [] rfl rfl (fun _=>hop) ?_;rintro e k n cs r ⟨rfl,rfl,rfl,rfl,rfl⟩;conv=>whnf
 refine⟨⟨by unfold maxLen;omega,by omega⟩,?_⟩;conv=>whnf
 refine⟨0,?_⟩;conv=>whnf
 exact⟨rfl,rfl,by rw[List.length_append],by rw[jb3],rfl⟩
theorem jo9 (u:Ut) (hu:WfU u):∀ f:Nt,wfN f->jco u f
 | .mk k n s kids,hw=>by
  unfold wfN at hw
  obtain⟨ha,hwk,-⟩ := hw
  have hm:=jqr ha
  have hk:∀ f ∈ kids,jbd u f:=fun f hf=>jh1 u hu f (jh7 hwk hf)
  have hc:∀ f ∈ kids,jco u f:=fun f hf=>jo9 u hu f (jh7 hwk hf)
  have hss:=jkg kids
  intro at' h0 hz
  have hz:at'+(3+jbK kids:Nat)<=1000000:=hz
  show jb1 u k n s kids (jcW (ixU u) k n s (jaf (ixU u) kids) at') at'
  have hz3:at'+(jbK kids+3:Nat)<=1000000:=by omega
  unfold arN at ha
  by_cases h11:k=11
  ·subst h11
   have he:jcW (ixU u) 11 n s (jaf (ixU u) kids) at'=jc9 (jaf (ixU u) kids) at':=List.append_nil _
   rw[he];exact jxz u n s kids hm hk hc at' h0 (by omega)
  rw[if_neg h11] at ha
  by_cases hl:k=12 ∨ k=13 ∨ k=14 ∨ k=5 ∨ k=6 ∨ k=7 ∨ k=10
  ·rcases hl with rfl | rfl | rfl | rfl | rfl | rfl | rfl
   ·exact juB u 12 n s kids at' (.inl rfl)
   ·exact juB u 13 n s kids at' (.inr rfl)
   ·exact jxL u hu n s kids at'
   ·exact jxK u n s kids at'
   ·exact jxA u n s kids at'
   ·exact jxJ u n s kids at'
   ·exact jxI u n s kids at'
  rw[if_neg hl] at ha
  by_cases h15:k=15
  ·subst h15;exact jxE u n s kids at'
  rw[if_neg h15] at ha
  by_cases h1:k=16 ∨ k=1 ∨ k=9
  ·rcases h1 with rfl | rfl | rfl
   ·exact jxB u n s kids hm hk hc at' h0 hz3
   ·exact jxy u n s kids hm hk hc at' h0 hz3 hu
   ·exact jxC u n s kids hm hk hc at' h0 hz3
  rw[if_neg h1] at ha
  by_cases h17:k=17
  ·subst h17;exact jxF u n s kids hm hk hc at' h0 hz3
  rw[if_neg h17] at ha
  by_cases h18:k=18
  ·rw[if_pos h18,Bool.and_eq_true,decide_eq_true_eq] at ha;subst h18
   obtain⟨ha,hb⟩ := ha
   by_cases hA:s=jga
   ·subst hA
    match kids,ha,hk,hc,hz with
    | [c,y],_,hk,hc,hz =>
     have q:jbK [c,y]=szN c+(szN y+0):=rfl
     exact jxx u n c y ⟨hk c (by simp),hc c (by simp)⟩ ⟨hk y (by simp),hc y (by simp)⟩ at' h0 (by omega)
   by_cases hO:s=pOr
   ·subst hO
    match kids,ha,hk,hc,hz with
    | [c,y],_,hk,hc,hz =>
     have q:jbK [c,y]=szN c+(szN y+0):=rfl
     exact jzP u n c y ⟨hk c (by simp),hc c (by simp)⟩ ⟨hk y (by simp),hc y (by simp)⟩ at' h0 (by omega)
   have he:jcW (ixU u) 18 n s (jaf (ixU u) kids) at'=jc9 (jaf (ixU u) kids) at'++opC s:=by
    unfold jcW;rw[if_neg (by decide),if_neg (by decide),if_neg (by decide),if_neg (by decide),if_neg (by decide),if_neg (by decide),if_neg (by decide),if_neg (by decide),if_neg (by decide),if_neg (fun h=>hA h.2),if_neg (fun h=>hO h.2),if_pos rfl]
   rw[he];exact jzO u n s kids hm hk hc at' h0 hz3 (jlA hb hA hO) hA hO
  rw[if_neg h18] at ha
  by_cases h8:k=8 ∨ k=3
  ·rw[if_pos h8,decide_eq_true_eq] at ha
   rcases h8 with rfl | rfl
   ·exact jxG u n s kids hm hk hc at' h0 hz3
   ·match kids,ha,hk,hc,hz with
    | [c,b],_,hk,hc,hz =>
     have q:jbK [c,b]=szN c+(szN b+0):=rfl
     exact jxM u n s c b ⟨hk c (by simp),hc c (by simp)⟩ ⟨hk b (by simp),hc b (by simp)⟩ at' h0 (by omega)
  rw[if_neg h8] at ha
  by_cases h2:k=2 ∨ k=4
  ·rw[if_pos h2,decide_eq_true_eq] at ha
   rcases h2 with rfl | rfl
   ·match kids,ha,hk,hc,hz with
    | [c,y,m],_,hk,hc,hz =>
     have q:jbK [c,y,m]=szN c+(szN y+(szN m+0)):=rfl
     exact jxD u n s c y m ⟨hk c (by simp),hc c (by simp)⟩ ⟨hk y (by simp),hc y (by simp)⟩ ⟨hk m (by simp),hc m (by simp)⟩ at' h0 (by omega)
   ·exact jxH u n s kids hm hk hc at' h0 hz3
  rw[if_neg h2] at ha
  cases ha
def opI (code:List Ic) (a:Int):Int:=(code.getD a.toNat (0,0)).1
def sc (code:List Ic) (a:Int):List Int:=nxI a (code.getD a.toNat (0,0))
def lv (code:List Ic) (a d:Int):Int:=d-jay (opI code a)+jad (opI code a)
inductive Rch (code:List Ic) (x:Int):Int->Prop
 | here:Rch code x x
 | next {a k:Int} (h:Rch code x a) (hk:k ∈ sc code a) (hn:k<code.length):Rch code x k
structure jsQ (code:List Ic) (x:Int) (D:Int->Int):Prop where
 st:D x=0
 po:∀ a,Rch code x a->jay (opI code a)<=D a
 nx:∀ a,Rch code x a -> ∀ k ∈ sc code a,k<code.length->D k=lv code a (D a)
def Good (code:List Ic) (x:Int) (D:Int->Int):Prop:=jsQ code x D /\ ∀ a,Rch code x a->lv code a (D a)<=16
theorem Rch.rng {code:List Ic} (hj:jf5 code) {x:Int} (hx:0<=x/\x<code.length) {a:Int} (h:Rch code x a):0<=a/\a<code.length:=by
 induction h with
 | here=>exact hx
 | next h hk hn ih=>exact⟨jrB hj ih _ hk,hn⟩
theorem Good.le {code:List Ic} {x:Int} {D:Int->Int} (h:Good code x D) {a:Int} (ha:Rch code x a):D a<=16:=by
 cases ha with
 | here=>rw[h.1.st];decide
 | next h1 hk hn=>rw[h.1.nx _ h1 _ hk hn];exact h.2 _ h1
theorem jjP {n:Nat} {af:Int} : ∀ (l:List Int) (s s':Fs),jb0 n af l s=some s' -> ∃ t:List (Int × Int),s'.dm=s.dm++t/\s'.wk=s.wk++t.map (·.1)/\(∀ p ∈ t,p.1 ∈ l/\p.2=af)/\(∀ k ∈ l,k<n /\ ∃ d,(k,d) ∈ s'.dm)/\(s'.er=false->s.er=false /\ ∀ k ∈ l,(k,af) ∈ s'.dm)/\((s.er=false /\ ∀ k ∈ l,∀ d,(k,d) ∈ s.dm->d=af)->s'.er=false)
 | [],s,s',e=>by
  unfold jb0 at e
  cases e
  exact⟨[],by simp,by simp,by simp,by simp,fun h=>⟨h,by simp⟩,fun h=>h.1⟩
 | k :: l,s,s',e=>by
  unfold jb0 jcI at e
  by_cases hk:(n:Int)<=k
  ·rw[if_pos hk] at e;cases e
  rw[if_neg hk] at e
  cases hd:dF s.dm k with
  | some d =>
   rw[hd] at e
   simp only at e
   obtain⟨t,h1,h2,h3,h4,h5,h6⟩ := jjP l _ s' e
   have hm:=jkP hd
   refine⟨t,h1,h2,fun p hp=>⟨List.mem_cons_of_mem _ (h3 p hp).1,(h3 p hp).2⟩,?_,?_,?_⟩
   ·intro j hj'
    rcases List.mem_cons.1 hj' with rfl | hj'
    ·exact⟨by omega,d,by rw[h1];exact List.mem_append_left _ hm⟩
    ·exact h4 j hj'
   ·intro he
    obtain⟨q1,q2⟩ := h5 he
    simp only[Bool.or_eq_false_iff,decide_eq_false_iff_not,ne_eq,Decidable.not_not] at q1;refine⟨q1.1,fun j hj' => ?_⟩
    rcases List.mem_cons.1 hj' with rfl | hj'
    ·rw[h1,<- q1.2];exact List.mem_append_left _ hm
    ·exact q2 j hj'
   ·rintro⟨q1,q2⟩;refine h6 ⟨?_,fun j hj' d' hd' => q2 j (List.mem_cons_of_mem _ hj') d' hd'⟩;simp only[Bool.or_eq_false_iff,decide_eq_false_iff_not,ne_eq,Decidable.not_not];exact⟨q1,q2 k List.mem_cons_self d hm⟩
  | none =>
   rw[hd] at e
   simp only at e
   obtain⟨t,h1,h2,h3,h4,h5,h6⟩ := jjP l _ s' e
   simp only at h1 h2 h5 h6
   refine⟨(k,af) :: t,by rw[h1,List.append_assoc];rfl,by rw[h2,List.append_assoc];rfl,?_,?_,?_,?_⟩
   ·intro p hp
    rcases List.mem_cons.1 hp with rfl | hp
    ·exact⟨List.mem_cons_self,rfl⟩
    ·exact⟨List.mem_cons_of_mem _ (h3 p hp).1,(h3 p hp).2⟩
   ·intro j hj'
    rcases List.mem_cons.1 hj' with rfl | hj'
    ·exact⟨by omega,af,by rw[h1];exact List.mem_append_left _ (List.mem_append_right _ List.mem_cons_self)⟩
    ·exact h4 j hj'
   ·intro he
    obtain⟨q1,q2⟩ := h5 he
    refine⟨q1,fun j hj' => ?_⟩
    rcases List.mem_cons.1 hj' with rfl | hj'
    ·rw[h1];exact List.mem_append_left _ (List.mem_append_right _ List.mem_cons_self)
    ·exact q2 j hj'
   ·rintro⟨q1,q2⟩;refine h6 ⟨q1,fun j hj' d' hd' => ?_⟩
    rcases List.mem_append.1 hd' with hd' | hd'
    ·exact q2 j (List.mem_cons_of_mem _ hj') d' hd'
    ·rw[List.mem_singleton] at hd';exact (Prod.mk.inj hd').2
theorem jhz {n:Nat} {af:Int} : ∀ (l:List Int) (s:Fs),jb0 n af l s=none -> ∃ k ∈ l,(n:Int)<=k
 | [],s,e=>by unfold jb0 at e;cases e
 | k :: l,s,e=>by
  unfold jb0 jcI at e
  by_cases hk:(n:Int)<=k
  ·exact⟨k,List.mem_cons_self,hk⟩
  rw[if_neg hk] at e
  cases hd:dF s.dm k with
  | some d =>
   rw[hd] at e
   obtain⟨j,h1,h2⟩ := jhz l _ e
   exact⟨j,List.mem_cons_of_mem _ h1,h2⟩
  | none =>
   rw[hd] at e
   obtain⟨j,h1,h2⟩ := jhz l _ e
   exact⟨j,List.mem_cons_of_mem _ h1,h2⟩
theorem jyj {dm:List (Int × Int)} (h:(dm.map (·.1)).Nodup) {k d d':Int} (h1:(k,d) ∈ dm) (h2:(k,d') ∈ dm):d=d':=by
 induction dm with
 | nil=>cases h1
 | cons p l ih =>
  rw[List.map_cons,List.nodup_cons] at h
  rcases List.mem_cons.1 h1 with e1 | h1
  ·rcases List.mem_cons.1 h2 with e2 | h2
   ·rw[<- e1] at e2;exact (Prod.mk.inj e2).2.symm
   ·exact absurd (List.mem_map.2 ⟨_,h2,by rw[<- e1]⟩) h.1
  ·rcases List.mem_cons.1 h2 with e2 | h2
   ·exact absurd (List.mem_map.2 ⟨_,h1,by rw[<- e2]⟩) h.1
   ·exact ih h.2 h1 h2
structure Fi (code:List Ic) (x:Int) (s:Fs):Prop where
 ok:jmt code.length s
 rc:∀ p ∈ s.dm,Rch code x p.1
 st:(x,0) ∈ s.dm
 pr:∀ p ∈ s.dm,p.1 ∉ s.wk -> ∀ k ∈ sc code p.1,k<code.length /\ ∃ d,(k,d) ∈ s.dm
 gd:s.er=false -> ∀ p ∈ s.dm,p.1 ∉ s.wk->jay (opI code p.1)<=p.2/\lv code p.1 p.2<=16 /\ ∀ k ∈ sc code p.1,(k,lv code p.1 p.2) ∈ s.dm
 gu:∀ D,Good code x D->s.er=false /\ ∀ p ∈ s.dm,p.2=D p.1
theorem jvI {code:List Ic} (hj:jf5 code) {x:Int} {dm:List (Int × Int)} {pre:List Int} {a:Int} {er:Bool} {s':Fs} (h:Fi code x ⟨dm,pre++[a],er⟩) (e:jm9 code dm pre er a=some s'):Fi code x s':=by
 obtain⟨ok',-,-⟩ := jsw hj h.ok e
 obtain⟨d0,hd0⟩ := h.ok.wk a (List.mem_append_right _ List.mem_cons_self)
 obtain⟨d,hd⟩ := jmR hd0
 have hm:(a,d) ∈ dm:=jkP hd
 have ha:Rch code x a:=h.rc _ hm
 unfold jm9 at e
 obtain⟨t,h1,h2,h3,h4,h5,h6⟩ := jjP _ _ _ e
 have haf:afF code dm a=lv code a d:=by unfold afF;rw[hd];rfl
 have hbd:jqa code dm a=(decide (d<jay (opI code a)) || decide (16<lv code a d)):=by unfold jqa;rw[haf,hd];rfl
 rw[haf] at h3 h5 h6;rw[hbd] at h5 h6
 simp only at h1 h2 h5 h6
 change ∀ k ∈ sc code a,_ at h4
 change ∀ p ∈ t,p.1 ∈ sc code a/\_ at h3
 have hsub:∀ p ∈ dm,p ∈ s'.dm:=fun p hp=>by rw[h1];exact List.mem_append_left _ hp
 have hold:∀ p ∈ s'.dm,p.1 ∉ s'.wk->p.1 ≠ a->p ∈ dm/\p.1 ∉ pre++[a]:=fun p hp hw hne=>by
  rw[h2] at hw;rw[h1] at hp
  rcases List.mem_append.1 hp with hp | hp
  ·refine⟨hp,fun hq => ?_⟩
   rcases List.mem_append.1 hq with hq | hq
   ·exact hw (List.mem_append_left _ hq)
   ·exact hne (List.mem_singleton.1 hq)
  ·exact absurd (List.mem_append_right _ (List.mem_map.2 ⟨p,hp,rfl⟩)) hw
 refine⟨ok',fun p hp => ?_,hsub _ h.st,fun p hp hw => ?_,fun he p hp hw => ?_,fun D hD => ?_⟩
 ·rw[h1] at hp
  rcases List.mem_append.1 hp with hp | hp
  ·exact h.rc p hp
  ·exact .next ha (h3 p hp).1 (h4 _ (h3 p hp).1).1
 ·by_cases hpa:p.1=a
  ·rw[hpa];exact h4
  ·obtain⟨q1,q2⟩ := hold p hp hw hpa
   intro k hk
   obtain⟨q3,d',q4⟩ := h.pr p q1 q2 k hk
   exact⟨q3,d',hsub _ q4⟩
 ·obtain⟨q1,q2⟩ := h5 he
  simp only[Bool.or_eq_false_iff,decide_eq_false_iff_not] at q1
  by_cases hpa:p.1=a
  ·have hpd:p.2=d:=jyj ok'.nd (k:=a) (by rw[<- hpa];exact hp) (hsub _ hm)
   rw[hpa,hpd];exact⟨by omega,by omega,q2⟩
  ·obtain⟨w1,w2⟩ := hold p hp hw hpa
   obtain⟨w3,w4,w5⟩ := h.gd q1.1 p w1 w2
   exact⟨w3,w4,fun k hk=>hsub _ (w5 k hk)⟩
 ·obtain⟨q1,q2⟩ := h.gu D hD
  simp only at q1 q2
  have hda:d=D a:=q2 _ hm
  have hpo:=hD.1.po a ha
  have hle:=hD.2 a ha
  have hnx:∀ k ∈ sc code a,D k=lv code a d:=fun k hk=>by rw[hda];exact hD.1.nx a ha k hk (h4 k hk).1
  refine⟨h6 ⟨?_,fun k hk d' hd' => ?_⟩,fun p hp => ?_⟩
  ·rw[q1,decide_eq_false (show ¬ d<jay (opI code a) by omega),decide_eq_false (show ¬ 16<lv code a d by rw[hda];omega)];rfl
  ·exact (q2 _ hd').trans (hnx k hk)
  ·rw[h1] at hp
   rcases List.mem_append.1 hp with hp | hp
   ·exact q2 p hp
   ·rw[(h3 p hp).2,hnx _ (h3 p hp).1]
def jAC (code:List Ic) (x f:Int):Prop :=
 (f=12 /\ ∃ a,Rch code x a /\ ∃ k ∈ sc code a,(code.length:Int)<=k) ∨ ((∀ a,Rch code x a -> ∀ k ∈ sc code a,k<(code.length:Int))/\((f=0 /\ ∃ D,Good code x D) ∨ (f=13 /\ ¬ ∃ D,Good code x D)))
theorem jr0 {code:List Ic} (hj:jf5 code) {x:Int} : ∀ (m:Nat) (s:Fs),Fi code x s->s.wk.length+(code.length-s.dm.length)+1<=m->jAC code x (jvK code m s)
 | 0,s,h,hm=>by omega
 | m+1,⟨dm,wk,er⟩,h,hm=>by
  rw[jvK]
  rcases List.eq_nil_or_concat wk with rfl | ⟨pre,a,hw⟩
  ·simp only[List.getLast?_nil]
   have hall:∀ a,Rch code x a -> ∃ d,(a,d) ∈ dm:=fun a ha=>by
    induction ha with
    | here=>exact⟨0,h.st⟩
    | next h1 hk hn ih =>
     obtain⟨d,hd⟩ := ih
     exact (h.pr _ hd (by simp) _ hk).2
   refine .inr ⟨fun a ha k hk => ?_,?_⟩
   ·obtain⟨d,hd⟩ := hall a ha
    exact (h.pr _ hd (by simp) k hk).1
   ·cases er with
    | true =>
     refine .inr ⟨rfl,fun ⟨D,hD⟩ => ?_⟩
     have:=(h.gu D hD).1
     cases this
    | false =>
     refine .inl ⟨rfl,fun k=>(dF dm k).getD 0,?_⟩
     have hget:∀ k d,(k,d) ∈ dm->(dF dm k).getD 0=d:=fun k d hd=>by
      obtain⟨d',hd'⟩ := jmR hd
      rw[hd'];exact jyj h.ok.nd (jkP hd') hd
     have hgd:=h.gd rfl
     refine⟨⟨hget _ _ h.st,fun a ha => ?_,fun a ha k hk hn => ?_⟩,fun a ha => ?_⟩
     ·obtain⟨d,hd⟩ := hall a ha
      rw[hget a d hd];exact (hgd _ hd (by simp)).1
     ·obtain⟨d,hd⟩ := hall a ha
      rw[hget a d hd];exact hget _ _ ((hgd _ hd (by simp)).2.2 k hk)
     ·obtain⟨d,hd⟩ := hall a ha
      show lv code a ((dF dm a).getD 0)<=16
      rw[hget a d hd];exact (hgd _ hd (by simp)).2.1
  ·rw[List.concat_eq_append] at hw;subst hw;simp only[List.getLast?_append,List.getLast?_singleton,Option.some_or,List.dropLast_append_cons,List.dropLast_singleton,List.append_nil]
   cases hs:jm9 code dm pre er a with
   | none =>
    obtain⟨d0,hd0⟩ := h.ok.wk a (List.mem_append_right _ List.mem_cons_self)
    unfold jm9 at hs
    obtain⟨k,hk,hn⟩ := jhz _ _ hs
    exact .inl ⟨rfl,a,h.rc _ hd0,k,hk,hn⟩
   | some s' =>
    obtain⟨ok',q2,q3⟩ := jsw hj h.ok hs
    refine jr0 hj m s' (jvI hj h hs) ?_;simp only[List.length_append,List.length_singleton] at hm q2;omega
theorem jiL {code:List Ic} (hj:jf5 code) {x:Int} (hx:0<=x/\x<code.length):jAC code x (jb7 code x):=by
 unfold jb7;rw[if_neg (by omega)];refine jr0 hj _ _ ⟨⟨?_,?_,?_,?_⟩,?_,List.mem_singleton.2 rfl,?_,?_,?_⟩ ?_
 ·intro p hp;rw[List.mem_singleton.1 hp];exact hx
 ·simp
 ·intro k hk;rw[List.mem_singleton.1 hk];exact⟨0,List.mem_singleton.2 rfl⟩
 ·intro p hp;rw[List.mem_singleton.1 hp];simp only[List.length_singleton];omega
 ·intro p hp;rw[List.mem_singleton.1 hp];exact .here
 ·intro p hp hw;rw[List.mem_singleton.1 hp] at hw
  simp at hw
 ·intro _ p hp hw;rw[List.mem_singleton.1 hp] at hw
  simp at hw
 ·intro D hD;refine⟨rfl,fun p hp => ?_⟩;rw[List.mem_singleton.1 hp];exact hD.1.st.symm
 ·simp only[List.length_singleton];omega
def og (out:List Int) (i:Int):Int:=out.getD i.toNat (-1)
def cN (out:List Int):Nat:=out.countP fun v=>decide (0<=v)
theorem jrC {out:List Int} {i:Int} (h:0<=i) (hn:i<out.length):∃ h2:i.toNat<out.length,og out i=out[i.toNat]:=by
 have h2:i.toNat<out.length:=by omega
 exact⟨h2,by unfold og;rw[List.getD_eq_getElem?_getD,List.getElem?_eq_getElem h2];rfl⟩
theorem jlz {out:List Int} {k j d:Int} (hk:0<=k/\k<out.length) (hj:0<=j):og (out.set k.toNat d) j=if j=k then d else og out j:=by
 unfold og;rw[List.getD_eq_getElem?_getD,List.getElem?_set]
 by_cases h:j=k
 ·subst h;rw[if_pos rfl,if_pos rfl,if_pos (by omega)];rfl
 ·rw[if_neg (by omega),if_neg h,<- List.getD_eq_getElem?_getD]
theorem jqC:∀ (out:List Int) (k:Nat) (hk:k<out.length) (d:Int),out[k]<0->0<=d->cN (out.set k d)=cN out+1
 | [],k,hk,d,h1,h2=>by simp at hk
 | v :: l,0,hk,d,h1,h2=>by
  unfold cN;rw[List.set_cons_zero,List.countP_cons,List.countP_cons];simp only[List.getElem_cons_zero] at h1;rw[decide_eq_true h2,decide_eq_false (show ¬ 0<=v by omega)]
  simp
 | v :: l,k+1,hk,d,h1,h2=>by
  have ih:=jqC l k (by simpa using hk) d (by simpa using h1) h2
  unfold cN at ih ⊢;rw[List.set_cons_succ,List.countP_cons,List.countP_cons,ih];omega
theorem jps (out:List Int):cN out<=out.length:=List.countP_le_length
structure Di (code:List Ic) (x:Int) (out:List Int) (ok:Bool):Prop where
 ln:out.length=code.length
 bd:∀ v ∈ out,-1<=v/\v+1<=(cN out:Int)
 x0:og out x=0
 re:∀ i:Int,0<=i->i<code.length->0<=og out i->Rch code x i
 uq:∀ D,jsQ code x D->ok=true /\ ∀ i:Int,0<=i->i<code.length->0<=og out i->og out i=D i
def Pds (code:List Ic) (out:List Int) (ok:Bool) (j:Int) (l:List Int):Prop:=(ok=true->jay (opI code j)<=og out j) /\ ∀ k ∈ l,0<=k->k<code.length->0<=og out k/\(ok=true->og out k=lv code j (og out j))
theorem Di.bnd {code:List Ic} {x:Int} {out:List Int} {ok:Bool} (h:Di code x out ok) {i:Int} (hi:0<=i/\i<code.length) : -1<=og out i/\og out i+1<=cN out:=by
 obtain⟨h2,e⟩ := jrC hi.1 (by rw[h.ln];exact hi.2)
 rw[e];exact h.bd _ (List.getElem_mem h2)
theorem Di.init {code:List Ic} {x:Int} (hx:0<=x/\x<code.length):Di code x ((List.replicate code.length (-1)).set x.toNat 0) true:=by
 have hl:(List.replicate code.length (-1:Int)).length=code.length:=List.length_replicate
 have hog:∀ i,0<=i->og (List.replicate code.length (-1)) i = -1:=fun i hi=>by
  unfold og;rw[List.getD_eq_getElem?_getD,List.getElem?_replicate]
  split <;> rfl
 have hc:cN ((List.replicate code.length (-1:Int)).set x.toNat 0)=1:=by
  rw[jqC _ _ (by rw[hl];omega) _ (by rw[List.getElem_replicate];decide) (by decide)];unfold cN;rw[List.countP_replicate];rfl
 have hos:∀ i,0<=i->og ((List.replicate code.length (-1:Int)).set x.toNat 0) i=if i=x then 0 else -1:=fun i hi=>by
  rw[jlz (by rw[hl];exact hx) hi,hog i hi]
 refine⟨by rw[List.length_set,hl],fun v hv => ?_,?_,fun i h1 h2 h3 => ?_,fun D hD=>⟨rfl,fun i h1 h2 h3 => ?_⟩⟩
 ·rw[hc]
  rcases List.mem_or_eq_of_mem_set hv with h | h
  ·rw[List.eq_of_mem_replicate h];omega
  ·rw[h];omega
 ·rw[hos x hx.1,if_pos rfl]
 ·rw[hos i h1] at h3
  by_cases e:i=x
  ·rw[e];exact .here
  ·rw[if_neg e] at h3;omega
 ·rw[hos i h1] at h3 ⊢
  by_cases e:i=x
  ·rw[if_pos e,e];exact hD.st.symm
  ·rw[if_neg e] at h3;omega
theorem Di.put {code:List Ic} {x:Int} {out:List Int} {ok:Bool} (h:Di code x out ok) {i k d:Int} (hi:0<=i/\i<code.length) (hr:0<=og out i) (hk:k ∈ sc code i) (hkr:0<=k/\k<code.length) (hlt:og out k<0) (hd:0<=d/\d<=cN out) (hD:∀ D,jsQ code x D->d=D k):Di code x (out.set k.toNat d) ok/\cN (out.set k.toNat d)=cN out+1:=by
 have hkl:0<=k/\k<out.length:=by rw[h.ln];exact hkr
 obtain⟨h2,e2⟩ := jrC hkl.1 hkl.2
 have hc:=jqC out k.toNat h2 d (by rw[<- e2];exact hlt) hd.1
 have hkx:x ≠ k:=fun e=>by rw[<- e,h.x0] at hlt;omega
 refine⟨⟨by rw[List.length_set,h.ln],fun v hv => ?_,?_,fun j h1 h2 h3 => ?_,fun D hC=>⟨(h.uq D hC).1,fun j h1 h2 h3 => ?_⟩⟩,hc⟩
 ·rw[hc]
  rcases List.mem_or_eq_of_mem_set hv with h | h'
  ·have:=Di.bd ‹_› v h;omega
  ·rw[h'];omega
 ·by_cases hx:0<=x
  ·rw[jlz hkl hx,if_neg hkx];exact h.x0
  ·unfold og
   have e:=h.x0
   unfold og at e;rw[List.getD_eq_getElem?_getD,List.getElem?_set] at *
   by_cases q:k.toNat=x.toNat
   ·exfalso
    have:og out k=og out x:=by unfold og;rw[q]
    rw[h.x0] at this;omega
   ·rw[if_neg q];exact e
 ·rw[jlz hkl h1] at h3
  by_cases e:j=k
  ·rw[e];exact .next (h.re i hi.1 hi.2 hr) hk hkr.2
  ·rw[if_neg e] at h3;exact h.re j h1 h2 h3
 ·rw[jlz hkl h1] at h3 ⊢
  by_cases e:j=k
  ·rw[if_pos e,e];exact hD D hC
  ·rw[if_neg e] at h3 ⊢;exact (h.uq D hC).2 j h1 h2 h3
theorem Di.no {code:List Ic} {x:Int} {out:List Int} {ok:Bool} (h:Di code x out ok) (hD:∀ D,¬ jsQ code x D):Di code x out false:=⟨h.ln,h.bd,h.x0,h.re,fun D hC=>absurd hC (hD D)⟩
structure Dp (code:List Ic) (x:Int) (out:List Int) (ok:Bool):Prop where
 ln:out.length=code.length
 bd:∀ i:Int,0<=i->i<code.length -> -1<=og out i/\og out i<=code.length
 re:∀ i:Int,0<=i->i<code.length->(0<=og out i ↔ Rch code x i)
 con:ok=true->jsQ code x (og out)
 uq:∀ D,jsQ code x D->ok=true /\ ∀ i,Rch code x i->og out i=D i
theorem Dp.of {code:List Ic} (hj:jf5 code) {x:Int} (hx:0<=x/\x<code.length) {out:List Int} {ok:Bool} (h:Di code x out ok) (hp:∀ j:Int,0<=j->j<code.length->0<=og out j->Pds code out ok j (sc code j)):Dp code x out ok:=by
 have hc:cN out<=code.length:=by have:=jps out;rw[h.ln] at this;exact this
 have hr:∀ a,Rch code x a->0<=og out a:=fun a ha=>by
  induction ha with
  | here=>rw[h.x0];exact Int.le_refl 0
  | next h1 hk hn ih =>
   have q:=h1.rng hj hx
   exact ((hp _ q.1 q.2 ih).2 _ hk (jrB hj q _ hk) hn).1
 refine⟨h.ln,fun i h1 h2 => ?_,fun i h1 h2=>⟨h.re i h1 h2,hr i⟩,fun hok=>⟨h.x0,fun a ha => ?_,fun a ha k hk hn => ?_⟩,fun D hD=>⟨(h.uq D hD).1,fun i hi => ?_⟩⟩
 ·have:=h.bnd ⟨h1,h2⟩;omega
 ·have q:=ha.rng hj hx
  exact (hp a q.1 q.2 (hr a ha)).1 hok
 ·have q:=ha.rng hj hx
  exact ((hp a q.1 q.2 (hr a ha)).2 k hk (jrB hj q _ hk) hn).2 hok
 ·have q:=hi.rng hj hx
  exact (h.uq D hD).2 i q.1 q.2 (hr i hi)
theorem jjG {code:List Ic} {x:Int} {out out2:List Int} {ok ok2:Bool} (h:Dp code x out ok) (h2:Dp code x out2 ok2):(ok=true /\ ∀ i,Rch code x i->og out2 i<=16/\lv code i (og out2 i)<=16) ↔ ∃ D,Good code x D:=by
 constructor
 ·rintro⟨hok,hb⟩
  have hc:=h.con hok
  refine⟨og out,hc,fun a ha => ?_⟩;rw[<- (h2.uq _ hc).2 a ha];exact (hb a ha).2
 ·rintro⟨D,hD⟩;refine⟨(h.uq D hD.1).1,fun i hi => ?_⟩;rw[(h2.uq D hD.1).2 i hi];exact⟨hD.le hi,hD.2 i hi⟩
theorem jjV (k:Int):(k=1 ∨ k=2 ∨ k=3 ∨ k=4 ∨ k=5 ∨ k=6 ∨ k=7 ∨ k=8 ∨ k=9 ∨ k=10 ∨ k=11 ∨ k=12 ∨ k=13 ∨ k=14 ∨ k=15 ∨ k=16 ∨ k=17 ∨ k=18 ∨ k=19 ∨ k=20 ∨ k=21 ∨ k=22 ∨ k=23) ∨ (k<1 ∨ 23<k):=by omega
def jx1 (k:Int):Int:=if 1<=k/\k<=23 then jay k else -1
theorem jam (k:Int):Spec Tryz.prog 68 [] [intA k] fun _ r=>r=intA (jx1 k):=by
 rcases jjV k with h | h
 ·rcases h with rfl | rfl | rfl | rfl | rfl | rfl | rfl | rfl | rfl | rfl | rfl | rfl | rfl | rfl | rfl | rfl | rfl | rfl | rfl | rfl | rfl | rfl | rfl
  all_goals
   refine ja3 (ja2 jax xs0 0) (fun _ _ h=>h) Tryz.func68 rfl (by kernel_rfl) rfl (by kernel_rfl) ?_;intro _;conv=>whnf
   rfl
 unfold jx1;rw[if_neg (by omega)];refine ja3 (ja2 jax xs0 0) (fun _ _ h=>h) Tryz.func68 rfl (by kernel_rfl) rfl (by kernel_rfl) ?_;intro _;conv=>whnf
 rw[decide_eq_false (show ¬ k=1 by omega)];conv=>whnf
 rw[decide_eq_false (show ¬ k=2 by omega)];conv=>whnf
 rw[decide_eq_false (show ¬ k=4 by omega)];conv=>whnf
 rw[decide_eq_false (show ¬ k=15 by omega)];conv=>whnf
 rw[decide_eq_false (show ¬ k=18 by omega)];conv=>whnf
 rw[decide_eq_false (show ¬ k=19 by omega)];conv=>whnf
 rw[decide_eq_false (show ¬ k=20 by omega)];conv=>whnf
 rw[decide_eq_false (show ¬ k=23 by omega)];conv=>whnf
 rw[decide_eq_false (show ¬ k=5 by omega)];conv=>whnf
 rw[decide_eq_false (show ¬ k=10 by omega)];conv=>whnf
 rw[decide_eq_false (show ¬ k=14 by omega)];conv=>whnf
 rw[decide_eq_false (show ¬ k=3 by omega)];conv=>whnf
 rw[decide_eq_false (show ¬ k=16 by omega)];conv=>whnf
 rw[decide_eq_false (show ¬ k=22 by omega)];conv=>whnf
 rw[decide_eq_false (show ¬ k=6 by omega)];conv=>whnf
 rw[decide_eq_false (show ¬ k=7 by omega)];conv=>whnf
 rw[decide_eq_false (show ¬ k=8 by omega)];conv=>whnf
 rw[decide_eq_false (show ¬ k=9 by omega)];conv=>whnf
 rw[decide_eq_false (show ¬ k=11 by omega)];conv=>whnf
 rw[decide_eq_false (show ¬ k=12 by omega)];conv=>whnf
 rw[decide_eq_false (show ¬ k=13 by omega)];conv=>whnf
 rw[decide_eq_false (show ¬ k=21 by omega)];conv=>whnf
 rw[decide_eq_false (show ¬ k=17 by omega)];conv=>whnf
 rfl
theorem jhN (k:Int):Spec Tryz.prog 69 [] [intA k] fun _ r=>r=intA (jad k):=by
 rcases jjV k with h | h
 ·rcases h with rfl | rfl | rfl | rfl | rfl | rfl | rfl | rfl | rfl | rfl | rfl | rfl | rfl | rfl | rfl | rfl | rfl | rfl | rfl | rfl | rfl | rfl | rfl
  all_goals
   refine ja3 (ja2 jax xs0 0) (fun _ _ h=>h) Tryz.func69 rfl (by kernel_rfl) rfl (by kernel_rfl) ?_;intro _;conv=>whnf
   rfl
 have hp:jad k=0:=by unfold jad;rw[if_neg (by omega)]
 rw[hp];refine ja3 (ja2 jax xs0 0) (fun _ _ h=>h) Tryz.func69 rfl (by kernel_rfl) rfl (by kernel_rfl) ?_;intro _;conv=>whnf
 rw[decide_eq_false (show ¬ k=1 by omega)];conv=>whnf
 rw[decide_eq_false (show ¬ k=2 by omega)];conv=>whnf
 rw[decide_eq_false (show ¬ k=4 by omega)];conv=>whnf
 rw[decide_eq_false (show ¬ k=5 by omega)];conv=>whnf
 rw[decide_eq_false (show ¬ k=10 by omega)];conv=>whnf
 rw[decide_eq_false (show ¬ k=14 by omega)];conv=>whnf
 rw[decide_eq_false (show ¬ k=6 by omega)];conv=>whnf
 rw[decide_eq_false (show ¬ k=7 by omega)];conv=>whnf
 rw[decide_eq_false (show ¬ k=8 by omega)];conv=>whnf
 rw[decide_eq_false (show ¬ k=9 by omega)];conv=>whnf
 rw[decide_eq_false (show ¬ k=11 by omega)];conv=>whnf
 rw[decide_eq_false (show ¬ k=12 by omega)];conv=>whnf
 rw[decide_eq_false (show ¬ k=13 by omega)];conv=>whnf
 rfl
theorem jly (code:List Ic) (e:Nat->Int) (du vo:Int) (hl:code.length<=1000000) (i:Nat) (hi:i<code.length):Spec Tryz.prog 60 [] [pgA code e du vo,.v (.int .i64 i)] fun _ r=>r = .sl 1 (sc code i).length (jaq (sc code i)):=by
 have hrow:ja5 2 i (jaJ code)=icA code[i]:=jcz code i hi
 have hsc:sc code i=nxI i code[i]:=by
  unfold sc;rw[Int.toNat_natCast,List.getD_eq_getElem?_getD,List.getElem?_eq_getElem hi];rfl
 rw[hsc];generalize code[i]=p at hrow
 obtain⟨op,n⟩ := p
 unfold icA at hrow
 simp only at hrow
 unfold nxI
 simp only
 by_cases h1:op=23
 ·rw[if_pos h1];subst h1
  suffices h:Spec Tryz.prog 60 [] [pgA code e du vo,.v (.int .i64 i)] fun _ r=>r = .v (.slice none 0 0) by
   refine h.weaken fun o r hr=>⟨o,.sl 1 0 [],rfl,WkB.refl o,?_⟩
   rw[hr];exact .nil 1
  refine ja3 (ja2 jax xs0 0) (fun _ _ h=>h) Tryz.func60 rfl (by kernel_rfl) rfl (by kernel_rfl) ?_;intro _;conv=>whnf
  refine⟨show (0:Int)<=(i:Int)/\(i:Int)<(code.length:Nat) from ⟨by omega,by omega⟩,?_⟩;conv=>whnf
  (generalize hrq:ja5 _ _ (jaJ code)=rq;obtain rfl:rq=[intA 23,intA n]:=hrq.symm.trans (hrow);clear hrq;conv=>whnf)
  try rfl
 rw[if_neg h1]
 by_cases h2:op=15
 ·rw[if_pos h2];subst h2;refine ja3 (ja2 jax xs0 0) (fun _ _ h=>h) Tryz.func60 rfl (by kernel_rfl) rfl (by kernel_rfl) ?_;intro _;conv=>whnf
  refine⟨show (0:Int)<=(i:Int)/\(i:Int)<(code.length:Nat) from ⟨by omega,by omega⟩,?_⟩;conv=>whnf
  (generalize hrq:ja5 _ _ (jaJ code)=rq;obtain rfl:rq=[intA 15,intA n]:=hrq.symm.trans (hrow);clear hrq;conv=>whnf)
  refine⟨show (0:Int)<=(i:Int)/\(i:Int)<(code.length:Nat) from ⟨by omega,by omega⟩,?_⟩;conv=>whnf
  (generalize hrq:ja5 _ _ (jaJ code)=rq;obtain rfl:rq=[intA 15,intA n]:=hrq.symm.trans (hrow);clear hrq;conv=>whnf)
  try rfl
 rw[if_neg h2]
 by_cases h3:op=16
 ·rw[if_pos h3];subst h3;refine ja3 (ja2 jax xs0 0) (fun _ _ h=>h) Tryz.func60 rfl (by kernel_rfl) rfl (by kernel_rfl) ?_;intro _;conv=>whnf
  refine⟨show (0:Int)<=(i:Int)/\(i:Int)<(code.length:Nat) from ⟨by omega,by omega⟩,?_⟩;conv=>whnf
  (generalize hrq:ja5 _ _ (jaJ code)=rq;obtain rfl:rq=[intA 16,intA n]:=hrq.symm.trans (hrow);clear hrq;conv=>whnf)
  refine⟨ja7 (by omega),?_⟩;conv=>whnf
  refine⟨show (0:Int)<=(i:Int)/\(i:Int)<(code.length:Nat) from ⟨by omega,by omega⟩,?_⟩;conv=>whnf
  (generalize hrq:ja5 _ _ (jaJ code)=rq;obtain rfl:rq=[intA 16,intA n]:=hrq.symm.trans (hrow);clear hrq;conv=>whnf)
  try rfl
 rw[if_neg h3];refine ja3 (ja2 jax xs0 0) (fun _ _ h=>h) Tryz.func60 rfl (by kernel_rfl) rfl (by kernel_rfl) ?_;intro _;conv=>whnf
 refine⟨show (0:Int)<=(i:Int)/\(i:Int)<(code.length:Nat) from ⟨by omega,by omega⟩,?_⟩;conv=>whnf
 (generalize hrq:ja5 _ _ (jaJ code)=rq;obtain rfl:rq=[intA op,intA n]:=hrq.symm.trans (hrow);clear hrq;conv=>whnf)
 rw[decide_eq_false h1];conv=>whnf
 rw[decide_eq_false h2];conv=>whnf
 rw[decide_eq_false h3];conv=>whnf
 refine⟨ja7 (by omega),?_⟩;conv=>whnf
 rfl
theorem jw9 {v l:Int} {k n:Int} (h:k<1 ∨ 23<k):okI v l (k,n)=false:=by
 unfold okI
 have e:(shL v l).find? (fun p=>decide (k=p.1))=none:=by
  rw[List.find?_eq_none];intro p hp;unfold shL at hp;simp only[List.mem_cons,List.not_mem_nil,or_false] at hp
  rcases hp with rfl | rfl | rfl | rfl | rfl | rfl | rfl | rfl | rfl | rfl | rfl | rfl | rfl | rfl | rfl | rfl | rfl | rfl | rfl | rfl | rfl | rfl | rfl
  all_goals (simp only[decide_eq_true_eq];omega)
 simp only
 rw[e]
theorem jlB (code:List Ic) (e:Nat->Int) (du vo:Int) (hl:code.length<=1000000) (hd:0<=du/\du<=100) (hv:0<=vo/\vo<=100) (op n:Int):Spec Tryz.prog 58 [] [pgA code e du vo,.agg [intA op,intA n]] fun _ r=>r=jaw (okI (du+vo-1) (code.length-1) (op,n)):=by
 rcases jjV op with h | h
 ·rcases h with rfl | rfl | rfl | rfl | rfl | rfl | rfl | rfl | rfl | rfl | rfl | rfl | rfl | rfl | rfl | rfl | rfl | rfl | rfl | rfl | rfl | rfl | rfl
  ·show Spec Tryz.prog 58 [] [pgA code e du vo,.agg [intA 1,intA n]] fun _ r=>r=jaw (decide (-2147483647<=n) && decide (n<=2147483647))
   refine ja3 (ja2 jax xs0 0) (fun _ _ h=>h) Tryz.func58 rfl (by kernel_rfl) rfl (by kernel_rfl) ?_;intro _;conv=>whnf
   by_cases q1 : -2147483647<=n
   ·rw[decide_eq_true q1];conv=>whnf
    by_cases q2:n<=2147483647
    ·rw[decide_eq_true q2];conv=>whnf
     rfl
    ·rw[decide_eq_false q2];conv=>whnf
     rfl
   ·rw[decide_eq_false q1];conv=>whnf
    rfl
  ·show Spec Tryz.prog 58 [] [pgA code e du vo,.agg [intA 2,intA n]] fun _ r=>r=jaw (decide (0<=n) && decide (n<=du+vo-1))
   refine ja3 (ja2 jax xs0 0) (fun _ _ h=>h) Tryz.func58 rfl (by kernel_rfl) rfl (by kernel_rfl) ?_;intro _;conv=>whnf
   refine⟨ja7 (by omega),?_⟩;conv=>whnf
   refine⟨ja7 (by omega),?_⟩;conv=>whnf
   (refine jac [] rfl (fun _=>(jam 2)) ?_;rintro r rfl;conv=>whnf)
   by_cases q1:0<=n
   ·rw[decide_eq_true q1];conv=>whnf
    by_cases q2:n<=du+vo-1
    ·rw[decide_eq_true q2];conv=>whnf
     rfl
    ·rw[decide_eq_false q2];conv=>whnf
     rfl
   ·rw[decide_eq_false q1];conv=>whnf
    rfl
  ·show Spec Tryz.prog 58 [] [pgA code e du vo,.agg [intA 3,intA n]] fun _ r=>r=jaw (decide (0<=n) && decide (n<=du+vo-1))
   refine ja3 (ja2 jax xs0 0) (fun _ _ h=>h) Tryz.func58 rfl (by kernel_rfl) rfl (by kernel_rfl) ?_;intro _;conv=>whnf
   refine⟨ja7 (by omega),?_⟩;conv=>whnf
   refine⟨ja7 (by omega),?_⟩;conv=>whnf
   (refine jac [] rfl (fun _=>(jam 3)) ?_;rintro r rfl;conv=>whnf)
   by_cases q1:0<=n
   ·rw[decide_eq_true q1];conv=>whnf
    by_cases q2:n<=du+vo-1
    ·rw[decide_eq_true q2];conv=>whnf
     rfl
    ·rw[decide_eq_false q2];conv=>whnf
     rfl
   ·rw[decide_eq_false q1];conv=>whnf
    rfl
  ·show Spec Tryz.prog 58 [] [pgA code e du vo,.agg [intA 4,intA n]] fun _ r=>r=jaw (decide (0<=n) && decide (n<=8))
   refine ja3 (ja2 jax xs0 0) (fun _ _ h=>h) Tryz.func58 rfl (by kernel_rfl) rfl (by kernel_rfl) ?_;intro _;conv=>whnf
   (refine jac [] rfl (fun _=>(jam 4)) ?_;rintro r rfl;conv=>whnf)
   by_cases q1:0<=n
   ·rw[decide_eq_true q1];conv=>whnf
    by_cases q2:n<=8
    ·rw[decide_eq_true q2];conv=>whnf
     rfl
    ·rw[decide_eq_false q2];conv=>whnf
     rfl
   ·rw[decide_eq_false q1];conv=>whnf
    rfl
  ·show Spec Tryz.prog 58 [] [pgA code e du vo,.agg [intA 5,intA n]] fun _ r=>r=jaw (decide (0<=n) && decide (n<=0))
   refine ja3 (ja2 jax xs0 0) (fun _ _ h=>h) Tryz.func58 rfl (by kernel_rfl) rfl (by kernel_rfl) ?_;intro _;conv=>whnf
   (refine jac [] rfl (fun _=>(jam 5)) ?_;rintro r rfl;conv=>whnf)
   by_cases q1:0<=n
   ·rw[decide_eq_true q1];conv=>whnf
    by_cases q2:n<=0
    ·rw[decide_eq_true q2];conv=>whnf
     rfl
    ·rw[decide_eq_false q2];conv=>whnf
     rfl
   ·rw[decide_eq_false q1];conv=>whnf
    rfl
  ·show Spec Tryz.prog 58 [] [pgA code e du vo,.agg [intA 6,intA n]] fun _ r=>r=jaw (decide (0<=n) && decide (n<=0))
   refine ja3 (ja2 jax xs0 0) (fun _ _ h=>h) Tryz.func58 rfl (by kernel_rfl) rfl (by kernel_rfl) ?_;intro _;conv=>whnf
   (refine jac [] rfl (fun _=>(jam 6)) ?_;rintro r rfl;conv=>whnf)
   by_cases q1:0<=n
   ·rw[decide_eq_true q1];conv=>whnf
    by_cases q2:n<=0
    ·rw[decide_eq_true q2];conv=>whnf
     rfl
    ·rw[decide_eq_false q2];conv=>whnf
     rfl
   ·rw[decide_eq_false q1];conv=>whnf
    rfl
  ·show Spec Tryz.prog 58 [] [pgA code e du vo,.agg [intA 7,intA n]] fun _ r=>r=jaw (decide (0<=n) && decide (n<=0))
   refine ja3 (ja2 jax xs0 0) (fun _ _ h=>h) Tryz.func58 rfl (by kernel_rfl) rfl (by kernel_rfl) ?_;intro _;conv=>whnf
   (refine jac [] rfl (fun _=>(jam 7)) ?_;rintro r rfl;conv=>whnf)
   by_cases q1:0<=n
   ·rw[decide_eq_true q1];conv=>whnf
    by_cases q2:n<=0
    ·rw[decide_eq_true q2];conv=>whnf
     rfl
    ·rw[decide_eq_false q2];conv=>whnf
     rfl
   ·rw[decide_eq_false q1];conv=>whnf
    rfl
  ·show Spec Tryz.prog 58 [] [pgA code e du vo,.agg [intA 8,intA n]] fun _ r=>r=jaw (decide (0<=n) && decide (n<=0))
   refine ja3 (ja2 jax xs0 0) (fun _ _ h=>h) Tryz.func58 rfl (by kernel_rfl) rfl (by kernel_rfl) ?_;intro _;conv=>whnf
   (refine jac [] rfl (fun _=>(jam 8)) ?_;rintro r rfl;conv=>whnf)
   by_cases q1:0<=n
   ·rw[decide_eq_true q1];conv=>whnf
    by_cases q2:n<=0
    ·rw[decide_eq_true q2];conv=>whnf
     rfl
    ·rw[decide_eq_false q2];conv=>whnf
     rfl
   ·rw[decide_eq_false q1];conv=>whnf
    rfl
  ·show Spec Tryz.prog 58 [] [pgA code e du vo,.agg [intA 9,intA n]] fun _ r=>r=jaw (decide (0<=n) && decide (n<=0))
   refine ja3 (ja2 jax xs0 0) (fun _ _ h=>h) Tryz.func58 rfl (by kernel_rfl) rfl (by kernel_rfl) ?_;intro _;conv=>whnf
   (refine jac [] rfl (fun _=>(jam 9)) ?_;rintro r rfl;conv=>whnf)
   by_cases q1:0<=n
   ·rw[decide_eq_true q1];conv=>whnf
    by_cases q2:n<=0
    ·rw[decide_eq_true q2];conv=>whnf
     rfl
    ·rw[decide_eq_false q2];conv=>whnf
     rfl
   ·rw[decide_eq_false q1];conv=>whnf
    rfl
  ·show Spec Tryz.prog 58 [] [pgA code e du vo,.agg [intA 10,intA n]] fun _ r=>r=jaw (decide (0<=n) && decide (n<=0))
   refine ja3 (ja2 jax xs0 0) (fun _ _ h=>h) Tryz.func58 rfl (by kernel_rfl) rfl (by kernel_rfl) ?_;intro _;conv=>whnf
   (refine jac [] rfl (fun _=>(jam 10)) ?_;rintro r rfl;conv=>whnf)
   by_cases q1:0<=n
   ·rw[decide_eq_true q1];conv=>whnf
    by_cases q2:n<=0
    ·rw[decide_eq_true q2];conv=>whnf
     rfl
    ·rw[decide_eq_false q2];conv=>whnf
     rfl
   ·rw[decide_eq_false q1];conv=>whnf
    rfl
  ·show Spec Tryz.prog 58 [] [pgA code e du vo,.agg [intA 11,intA n]] fun _ r=>r=jaw (decide (0<=n) && decide (n<=0))
   refine ja3 (ja2 jax xs0 0) (fun _ _ h=>h) Tryz.func58 rfl (by kernel_rfl) rfl (by kernel_rfl) ?_;intro _;conv=>whnf
   (refine jac [] rfl (fun _=>(jam 11)) ?_;rintro r rfl;conv=>whnf)
   by_cases q1:0<=n
   ·rw[decide_eq_true q1];conv=>whnf
    by_cases q2:n<=0
    ·rw[decide_eq_true q2];conv=>whnf
     rfl
    ·rw[decide_eq_false q2];conv=>whnf
     rfl
   ·rw[decide_eq_false q1];conv=>whnf
    rfl
  ·show Spec Tryz.prog 58 [] [pgA code e du vo,.agg [intA 12,intA n]] fun _ r=>r=jaw (decide (0<=n) && decide (n<=0))
   refine ja3 (ja2 jax xs0 0) (fun _ _ h=>h) Tryz.func58 rfl (by kernel_rfl) rfl (by kernel_rfl) ?_;intro _;conv=>whnf
   (refine jac [] rfl (fun _=>(jam 12)) ?_;rintro r rfl;conv=>whnf)
   by_cases q1:0<=n
   ·rw[decide_eq_true q1];conv=>whnf
    by_cases q2:n<=0
    ·rw[decide_eq_true q2];conv=>whnf
     rfl
    ·rw[decide_eq_false q2];conv=>whnf
     rfl
   ·rw[decide_eq_false q1];conv=>whnf
    rfl
  ·show Spec Tryz.prog 58 [] [pgA code e du vo,.agg [intA 13,intA n]] fun _ r=>r=jaw (decide (0<=n) && decide (n<=0))
   refine ja3 (ja2 jax xs0 0) (fun _ _ h=>h) Tryz.func58 rfl (by kernel_rfl) rfl (by kernel_rfl) ?_;intro _;conv=>whnf
   (refine jac [] rfl (fun _=>(jam 13)) ?_;rintro r rfl;conv=>whnf)
   by_cases q1:0<=n
   ·rw[decide_eq_true q1];conv=>whnf
    by_cases q2:n<=0
    ·rw[decide_eq_true q2];conv=>whnf
     rfl
    ·rw[decide_eq_false q2];conv=>whnf
     rfl
   ·rw[decide_eq_false q1];conv=>whnf
    rfl
  ·show Spec Tryz.prog 58 [] [pgA code e du vo,.agg [intA 14,intA n]] fun _ r=>r=jaw (decide (0<=n) && decide (n<=0))
   refine ja3 (ja2 jax xs0 0) (fun _ _ h=>h) Tryz.func58 rfl (by kernel_rfl) rfl (by kernel_rfl) ?_;intro _;conv=>whnf
   (refine jac [] rfl (fun _=>(jam 14)) ?_;rintro r rfl;conv=>whnf)
   by_cases q1:0<=n
   ·rw[decide_eq_true q1];conv=>whnf
    by_cases q2:n<=0
    ·rw[decide_eq_true q2];conv=>whnf
     rfl
    ·rw[decide_eq_false q2];conv=>whnf
     rfl
   ·rw[decide_eq_false q1];conv=>whnf
    rfl
  ·show Spec Tryz.prog 58 [] [pgA code e du vo,.agg [intA 15,intA n]] fun _ r=>r=jaw (decide (0<=n) && decide (n<=(code.length:Int)-1))
   refine ja3 (ja2 jax xs0 0) (fun _ _ h=>h) Tryz.func58 rfl (by kernel_rfl) rfl (by kernel_rfl) ?_;intro _;conv=>whnf
   refine⟨ja7 (by omega),?_⟩;conv=>whnf
   (refine jac [] rfl (fun _=>(jam 15)) ?_;rintro r rfl;conv=>whnf)
   by_cases q1:0<=n
   ·rw[decide_eq_true q1];conv=>whnf
    by_cases q2:n<=(code.length:Int)-1
    ·rw[decide_eq_true q2];conv=>whnf
     rfl
    ·rw[decide_eq_false q2];conv=>whnf
     rfl
   ·rw[decide_eq_false q1];conv=>whnf
    rfl
  ·show Spec Tryz.prog 58 [] [pgA code e du vo,.agg [intA 16,intA n]] fun _ r=>r=jaw (decide (0<=n) && decide (n<=(code.length:Int)-1))
   refine ja3 (ja2 jax xs0 0) (fun _ _ h=>h) Tryz.func58 rfl (by kernel_rfl) rfl (by kernel_rfl) ?_;intro _;conv=>whnf
   refine⟨ja7 (by omega),?_⟩;conv=>whnf
   (refine jac [] rfl (fun _=>(jam 16)) ?_;rintro r rfl;conv=>whnf)
   by_cases q1:0<=n
   ·rw[decide_eq_true q1];conv=>whnf
    by_cases q2:n<=(code.length:Int)-1
    ·rw[decide_eq_true q2];conv=>whnf
     rfl
    ·rw[decide_eq_false q2];conv=>whnf
     rfl
   ·rw[decide_eq_false q1];conv=>whnf
    rfl
  ·show Spec Tryz.prog 58 [] [pgA code e du vo,.agg [intA 17,intA n]] fun _ r=>r=jaw (decide (0<=n) && decide (n<=29))
   refine ja3 (ja2 jax xs0 0) (fun _ _ h=>h) Tryz.func58 rfl (by kernel_rfl) rfl (by kernel_rfl) ?_;intro _;conv=>whnf
   (refine jac [] rfl (fun _=>(jam 17)) ?_;rintro r rfl;conv=>whnf)
   by_cases q1:0<=n
   ·rw[decide_eq_true q1];conv=>whnf
    by_cases q2:n<=29
    ·rw[decide_eq_true q2];conv=>whnf
     rfl
    ·rw[decide_eq_false q2];conv=>whnf
     rfl
   ·rw[decide_eq_false q1];conv=>whnf
    rfl
  ·show Spec Tryz.prog 58 [] [pgA code e du vo,.agg [intA 18,intA n]] fun _ r=>r=jaw (decide (0<=n) && decide (n<=7))
   refine ja3 (ja2 jax xs0 0) (fun _ _ h=>h) Tryz.func58 rfl (by kernel_rfl) rfl (by kernel_rfl) ?_;intro _;conv=>whnf
   (refine jac [] rfl (fun _=>(jam 18)) ?_;rintro r rfl;conv=>whnf)
   by_cases q1:0<=n
   ·rw[decide_eq_true q1];conv=>whnf
    by_cases q2:n<=7
    ·rw[decide_eq_true q2];conv=>whnf
     rfl
    ·rw[decide_eq_false q2];conv=>whnf
     rfl
   ·rw[decide_eq_false q1];conv=>whnf
    rfl
  ·show Spec Tryz.prog 58 [] [pgA code e du vo,.agg [intA 19,intA n]] fun _ r=>r=jaw (decide (0<=n) && decide (n<=7))
   refine ja3 (ja2 jax xs0 0) (fun _ _ h=>h) Tryz.func58 rfl (by kernel_rfl) rfl (by kernel_rfl) ?_;intro _;conv=>whnf
   (refine jac [] rfl (fun _=>(jam 19)) ?_;rintro r rfl;conv=>whnf)
   by_cases q1:0<=n
   ·rw[decide_eq_true q1];conv=>whnf
    by_cases q2:n<=7
    ·rw[decide_eq_true q2];conv=>whnf
     rfl
    ·rw[decide_eq_false q2];conv=>whnf
     rfl
   ·rw[decide_eq_false q1];conv=>whnf
    rfl
  ·show Spec Tryz.prog 58 [] [pgA code e du vo,.agg [intA 20,intA n]] fun _ r=>r=jaw (decide (0<=n) && decide (n<=0))
   refine ja3 (ja2 jax xs0 0) (fun _ _ h=>h) Tryz.func58 rfl (by kernel_rfl) rfl (by kernel_rfl) ?_;intro _;conv=>whnf
   (refine jac [] rfl (fun _=>(jam 20)) ?_;rintro r rfl;conv=>whnf)
   by_cases q1:0<=n
   ·rw[decide_eq_true q1];conv=>whnf
    by_cases q2:n<=0
    ·rw[decide_eq_true q2];conv=>whnf
     rfl
    ·rw[decide_eq_false q2];conv=>whnf
     rfl
   ·rw[decide_eq_false q1];conv=>whnf
    rfl
  ·show Spec Tryz.prog 58 [] [pgA code e du vo,.agg [intA 21,intA n]] fun _ r=>r=jaw (decide (0<=n) && decide (n<=0))
   refine ja3 (ja2 jax xs0 0) (fun _ _ h=>h) Tryz.func58 rfl (by kernel_rfl) rfl (by kernel_rfl) ?_;intro _;conv=>whnf
   (refine jac [] rfl (fun _=>(jam 21)) ?_;rintro r rfl;conv=>whnf)
   by_cases q1:0<=n
   ·rw[decide_eq_true q1];conv=>whnf
    by_cases q2:n<=0
    ·rw[decide_eq_true q2];conv=>whnf
     rfl
    ·rw[decide_eq_false q2];conv=>whnf
     rfl
   ·rw[decide_eq_false q1];conv=>whnf
    rfl
  ·show Spec Tryz.prog 58 [] [pgA code e du vo,.agg [intA 22,intA n]] fun _ r=>r=jaw (decide (0<=n) && decide (n<=0))
   refine ja3 (ja2 jax xs0 0) (fun _ _ h=>h) Tryz.func58 rfl (by kernel_rfl) rfl (by kernel_rfl) ?_;intro _;conv=>whnf
   (refine jac [] rfl (fun _=>(jam 22)) ?_;rintro r rfl;conv=>whnf)
   by_cases q1:0<=n
   ·rw[decide_eq_true q1];conv=>whnf
    by_cases q2:n<=0
    ·rw[decide_eq_true q2];conv=>whnf
     rfl
    ·rw[decide_eq_false q2];conv=>whnf
     rfl
   ·rw[decide_eq_false q1];conv=>whnf
    rfl
  ·show Spec Tryz.prog 58 [] [pgA code e du vo,.agg [intA 23,intA n]] fun _ r=>r=jaw (decide (0<=n) && decide (n<=0))
   refine ja3 (ja2 jax xs0 0) (fun _ _ h=>h) Tryz.func58 rfl (by kernel_rfl) rfl (by kernel_rfl) ?_;intro _;conv=>whnf
   (refine jac [] rfl (fun _=>(jam 23)) ?_;rintro r rfl;conv=>whnf)
   by_cases q1:0<=n
   ·rw[decide_eq_true q1];conv=>whnf
    by_cases q2:n<=0
    ·rw[decide_eq_true q2];conv=>whnf
     rfl
    ·rw[decide_eq_false q2];conv=>whnf
     rfl
   ·rw[decide_eq_false q1];conv=>whnf
    rfl
 rw[jw9 h]
 have hp:jx1 op = -1:=by unfold jx1;rw[if_neg (by omega)]
 have hps:=jam op
 rw[hp] at hps;refine ja3 (ja2 jax xs0 0) (fun _ _ h=>h) Tryz.func58 rfl (by kernel_rfl) rfl (by kernel_rfl) ?_;intro _;conv=>whnf
 rw[decide_eq_false (show ¬ op=1 by omega)];conv=>whnf
 rw[decide_eq_false (show ¬ op=2 by omega)];conv=>whnf
 rw[decide_eq_false (show ¬ op=3 by omega)];conv=>whnf
 rw[decide_eq_false (show ¬ op=4 by omega)];conv=>whnf
 rw[decide_eq_false (show ¬ op=17 by omega)];conv=>whnf
 rw[decide_eq_false (show ¬ op=18 by omega)];conv=>whnf
 rw[decide_eq_false (show ¬ op=19 by omega)];conv=>whnf
 rw[decide_eq_false (show ¬ op=15 by omega)];conv=>whnf
 rw[decide_eq_false (show ¬ op=16 by omega)];conv=>whnf
 (refine jac [] rfl (fun _=>hps) ?_;rintro r rfl;conv=>whnf)
 rfl
theorem jr6 (l:List Int) (x:Int) (hl:l.length<=1000000):Spec Tryz.prog 59 [] [.sl 1 l.length (jaq l),intA x] fun _ r=>r=jaw (l.any fun y=>decide (y=x)):=by
 refine ja3 (ja2 jax xs0 0) (fun _ _ h=>h) Tryz.func59 rfl (by kernel_rfl) rfl (by kernel_rfl) ?_;intro _;conv=>whnf
 refine ja4 [0,1] ?_;conv=>whnf
 refine ja9 (fun j:Nat=>[(5,.v (.int .i64 j))]) (fun _=>[]) (fun _=>[]) (fun j=>j<=l.length/\(l.take j).any (fun y=>decide (y=x))=false) (fun j=>l.length-j) 0 ?_ ⟨Nat.zero_le _,by rw[List.take_zero];rfl⟩ ?_
 ·repeat' constructor
 rintro j ⟨hj,hn⟩
 have hn:(l.take j).any (fun y=>decide (y=x))=false:=hn
 conv=>whnf
 rcases Nat.lt_or_ge j l.length with hlt | hge
 ·have hrow:=jbA l j hlt
  rw[decide_eq_true (show (j:Int)<(l.length:Int) by omega)];conv=>whnf
  refine⟨show (0:Int)<=(j:Int)/\(j:Int)<(l.length:Nat) from ⟨by omega,by omega⟩,?_⟩;conv=>whnf
  (generalize hrq:ja5 _ _ (jaq l)=rq;obtain rfl:rq=[intA l[j]]:=hrq.symm.trans (hrow);clear hrq;conv=>whnf)
  by_cases he:l[j]=x
  ·rw[decide_eq_true he]
   have:l.any (fun y=>decide (y=x))=true:=List.any_eq_true.2 ⟨l[j],List.getElem_mem hlt,decide_eq_true he⟩
   rw[this];conv=>whnf
   rfl
  rw[decide_eq_false he];conv=>whnf
  refine⟨show lo .i64<=(j:Int)+1/\(j:Int)+1<=hi .i64 from ja7 (by omega),?_⟩;conv=>whnf
  refine⟨j+1,ja0 [] ?_,⟨show j+1<=l.length by omega,?_⟩,show l.length-(j+1)<l.length-j by omega⟩
  ·conv=>whnf
   repeat' constructor
  ·show (l.take (j+1)).any (fun y=>decide (y=x))=false
   rw[List.take_succ_eq_append_getElem hlt,List.any_append,hn,List.any_cons,List.any_nil,decide_eq_false he];rfl
 rw[List.take_of_length_le hge] at hn;rw[decide_eq_false (show ¬ (j:Int)<(l.length:Int) by omega),hn];conv=>whnf
 rfl
structure DqC (code:List Ic) (x:Int) (c0:Nat) (i:Int) (out:List Int) (ok ch:Bool):Prop where
 di:Di code x out ok
 ct:c0+(if ch=true then 1 else 0)<=cN out
 pd:ch=false -> ∀ j,0<=j->j<i->0<=og out j->Pds code out ok j (sc code j)
structure Dr (code:List Ic) (x:Int) (c0:Nat) (i:Int) (v d:Int) (t:Nat) (out:List Int) (ok ch:Bool):Prop where
 dq:DqC code x c0 i out ok ch
 iv:og out i=v
 dd:0<=d/\d<=cN out
 dl:ok=true->jay (opI code i)<=v/\d=lv code i v
 dc:∀ D,jsQ code x D->d=lv code i v
 pr:ch=false->Pds code out ok i ((sc code i).take t)
theorem joE {out:List Int} {i:Nat} (hi:i<out.length):ja5 1 i (jaq out)=[intA (og out i)]:=by
 rw[jbA out i hi];unfold og;rw[Int.toNat_natCast,List.getD_eq_getElem?_getD,List.getElem?_eq_getElem hi]
 try rfl
theorem jre (l:List Int) (k:Nat) (v:Int):(jaq l).set k (intA v)=jaq (l.set k v):=by
 unfold jaq;rw[List.map_set]
 try rfl
theorem Dr.skip {code:List Ic} {x:Int} {c0:Nat} {i v d:Int} {t:Nat} {out:List Int} {ok ch:Bool} (h:Dr code x c0 i v d t out ok ch) (ht:t<(sc code i).length) (hk : ¬ (0<=(sc code i)[t]/\(sc code i)[t]<code.length)):Dr code x c0 i v d (t+1) out ok ch:=by
 refine⟨h.dq,h.iv,h.dd,h.dl,h.dc,fun hc=>⟨(h.pr hc).1,fun k hk' h1 h2 => ?_⟩⟩;rw[List.take_succ_eq_append_getElem ht,List.mem_append,List.mem_singleton] at hk'
 rcases hk' with hk' | rfl
 ·exact (h.pr hc).2 k hk' h1 h2
 ·exact absurd ⟨h1,h2⟩ hk
theorem Dr.put {code:List Ic} {x:Int} {c0:Nat} {i v d:Int} {t:Nat} {out:List Int} {ok ch:Bool} (h:Dr code x c0 i v d t out ok ch) (hi:0<=i/\i<code.length) (hv:0<=v) (ht:t<(sc code i).length) (hk:0<=(sc code i)[t]/\(sc code i)[t]<code.length) (hlt:og out (sc code i)[t]<0):Dr code x c0 i v d (t+1) (out.set ((sc code i)[t]).toNat d) ok true:=by
 have hm:=List.getElem_mem ht
 have hin:=fun D (hD:jsQ code x D)=>(h.dq.di.uq D hD).2 i hi.1 hi.2 (by rw[h.iv];exact hv)
 have hr:Rch code x i:=h.dq.di.re i hi.1 hi.2 (by rw[h.iv];exact hv)
 obtain⟨q1,q2⟩ := h.dq.di.put hi (by rw[h.iv];exact hv) hm hk hlt h.dd fun D hD=>by
  rw[h.dc D hD,<- h.iv,hin D hD];exact (hD.nx i hr _ hm hk.2).symm
 have hct:=h.dq.ct
 have hcc:(if ch=true then 1 else 0)<=1:=by split <;> omega
 refine⟨⟨q1,by rw[q2,if_pos rfl];omega,fun hc=>by cases hc⟩,?_,⟨h.dd.1,by rw[q2];have:=h.dd.2;omega⟩,h.dl,h.dc,fun hc=>by cases hc⟩;rw[jlz (by rw[h.dq.di.ln];exact hk) hi.1,if_neg ?_]
 ·exact h.iv
 ·intro e;rw[<- e,h.iv] at hlt;omega
theorem Dr.same {code:List Ic} {x:Int} {c0:Nat} {i v d:Int} {t:Nat} {out:List Int} {ok ch:Bool} (h:Dr code x c0 i v d t out ok ch) (hi:0<=i/\i<code.length) (ht:t<(sc code i).length) (hlt : ¬ og out (sc code i)[t]<0) (he:og out (sc code i)[t]=d):Dr code x c0 i v d (t+1) out ok ch:=by
 refine⟨h.dq,h.iv,h.dd,h.dl,h.dc,fun hc=>⟨(h.pr hc).1,fun k hk' h1 h2 => ?_⟩⟩;rw[List.take_succ_eq_append_getElem ht,List.mem_append,List.mem_singleton] at hk'
 rcases hk' with hk' | rfl
 ·exact (h.pr hc).2 k hk' h1 h2
 ·refine⟨by omega,fun hok => ?_⟩;rw[he,h.iv];exact (h.dl hok).2
theorem Di.bad {code:List Ic} {x:Int} {c0:Nat} {i v d:Int} {t:Nat} {out:List Int} {ok ch:Bool} (h:Dr code x c0 i v d t out ok ch) (hD:∀ D,¬ jsQ code x D):Dr code x c0 i v d t out false ch :=
 ⟨⟨h.dq.di.no hD,h.dq.ct,fun hc j h1 h2 h3=>⟨(fun e=>by cases e),fun k hk q1 q2=>⟨((h.dq.pd hc j h1 h2 h3).2 k hk q1 q2).1,fun e=>by cases e⟩⟩⟩,h.iv,h.dd,(fun e=>by cases e),h.dc,fun hc=>⟨(fun e=>by cases e),fun k hk q1 q2=>⟨((h.pr hc).2 k hk q1 q2).1,fun e=>by cases e⟩⟩⟩
theorem Dr.conf {code:List Ic} {x:Int} {c0:Nat} {i v d:Int} {t:Nat} {out:List Int} {ok ch:Bool} (h:Dr code x c0 i v d t out ok ch) (hi:0<=i/\i<code.length) (hv:0<=v) (ht:t<(sc code i).length) (hk:0<=(sc code i)[t]/\(sc code i)[t]<code.length) (hlt : ¬ og out (sc code i)[t]<0) (he:og out (sc code i)[t] ≠ d):Dr code x c0 i v d (t+1) out false ch:=by
 have hm:=List.getElem_mem ht
 have hr:Rch code x i:=h.dq.di.re i hi.1 hi.2 (by rw[h.iv];exact hv)
 have h':Dr code x c0 i v d t out false ch:=Di.bad h fun D hD=>by
  have e1:=(h.dq.di.uq D hD).2 i hi.1 hi.2 (by rw[h.iv];exact hv)
  have e2:=(h.dq.di.uq D hD).2 _ hk.1 hk.2 (by omega)
  apply he
  rw[e2,hD.nx i hr _ hm hk.2,<- e1,h.iv,h.dc D hD]
 refine⟨h'.dq,h'.iv,h'.dd,h'.dl,h'.dc,fun hc=>⟨(fun e=>by cases e),fun k hk' h1 h2 => ?_⟩⟩;rw[List.take_succ_eq_append_getElem ht,List.mem_append,List.mem_singleton] at hk'
 rcases hk' with hk' | rfl
 ·exact (h'.pr hc).2 k hk' h1 h2
 ·exact⟨by omega,fun e=>by cases e⟩
theorem Dr.done {code:List Ic} {x:Int} {c0:Nat} {i v d:Int} {out:List Int} {ok ch:Bool} (h:Dr code x c0 i v d (sc code i).length out ok ch) (hi:0<=i):DqC code x c0 (i+1) out ok ch:=by
 refine⟨h.dq.di,h.dq.ct,fun hc j h1 h2 h3 => ?_⟩
 by_cases e:j=i
 ·subst e
  have:=h.pr hc
  rw[List.take_length] at this;exact this
 ·exact h.dq.pd hc j h1 (by omega) h3
theorem DqC.jump {code:List Ic} {x:Int} {c0:Nat} {i:Int} {out:List Int} {ok ch:Bool} (h:DqC code x c0 i out ok ch) (hv:og out i<0):DqC code x c0 (i+1) out ok ch:=by
 refine⟨h.di,h.ct,fun hc j h1 h2 h3 => ?_⟩
 by_cases e:j=i
 ·subst e;omega
 ·exact h.pd hc j h1 (by omega) h3
theorem DqC.take {code:List Ic} {x:Int} {c0:Nat} {i:Int} {out:List Int} {ok ch:Bool} (h:DqC code x c0 i out ok ch) (hi:0<=i/\i<code.length) (hv:0<=og out i) (hl:jay (opI code i)<=og out i):Dr code x c0 i (og out i) (og out i-jay (opI code i)+jad (opI code i)) 0 out ok ch:=by
 have hb:=h.di.bnd hi
 have p1:=jhL (opI code i)
 have p2:=jen (opI code i)
 exact⟨h,rfl,⟨by omega,by omega⟩,fun _=>⟨hl,rfl⟩,fun D hD=>rfl,fun hc=>⟨fun _=>hl,fun k hk=>by rw[List.take_zero] at hk;cases hk⟩⟩
theorem DqC.under {code:List Ic} {x:Int} {c0:Nat} {i:Int} {out:List Int} {ok ch:Bool} (h:DqC code x c0 i out ok ch) (hi:0<=i/\i<code.length) (hv:0<=og out i) (hl:og out i<jay (opI code i)):Dr code x c0 i (og out i) (jad (opI code i)) 0 out false ch:=by
 have hr:Rch code x i:=h.di.re i hi.1 hi.2 hv
 have hb:=h.di.bnd hi
 have p2:=jen (opI code i)
 have hno:∀ D,¬ jsQ code x D:=fun D hD=>by
  have e1:=(h.di.uq D hD).2 i hi.1 hi.2 hv
  have e2:=hD.po i hr
  omega
 exact⟨⟨h.di.no hno,h.ct,fun hc j h1 h2 h3=>⟨(fun e=>by cases e),fun k hk q1 q2=>⟨((h.pd hc j h1 h2 h3).2 k hk q1 q2).1,fun e=>by cases e⟩⟩⟩,rfl,⟨by omega,by omega⟩,(fun e=>by cases e),fun D hD=>absurd hD (hno D),fun hc=>⟨(fun e=>by cases e),fun k hk=>by rw[List.take_zero] at hk;cases hk⟩⟩
theorem joV (n:Nat):jx2 n [Value.int .i64 0]=jaq (List.replicate n 0):=by
 rw[js4,List.map_singleton,List.flatten_replicate_singleton];unfold jaq;rw[List.map_replicate];rfl
theorem jsk (code:List Ic) (a:Int):(sc code a).length<=2:=by
 unfold sc nxI
 repeat' split
 all_goals simp
theorem jiR (l:List Int):(jaq l).length=l.length:=by unfold jaq;rw[List.length_map]
theorem je4 {l:List Int} {k:Nat} {v:Int} {K:List A->Prop} (hk:k<l.length) (h:K (jaq (l.set k v))):jhY (jaq l) (k*1) (intA v) K:=by
 rw[Nat.mul_one];refine jd3 (by rw[jiR];exact hk) ?_;rw[jre];exact h
theorem jeN {out:List Int} {i:Int} (h:0<=i/\i<out.length):(jaq out).drop (i.toNat*1)=intA (og out i) :: (jaq out).drop (i.toNat+1):=by
 obtain⟨h2,e⟩ := jrC h.1 h.2
 rw[Nat.mul_one,List.drop_eq_getElem_cons (by rw[jiR];exact h2),e]
 congr 1
 unfold jaq;rw[List.getElem_map]
 try rfl
def ini (n j:Nat):List Int:=List.replicate j (-1)++List.replicate (n-j) 0
theorem jrc (n j:Nat) (h:j<=n):(ini n j).length=n:=by unfold ini;rw[List.length_append,List.length_replicate,List.length_replicate];omega
theorem jrd (n j:Nat) (h:j<n):(ini n j).set j (-1)=ini n (j+1):=by
 unfold ini;rw[List.set_append_right _ _ (by rw[List.length_replicate];exact Nat.le_refl _),List.length_replicate,Nat.sub_self,show n-j=(n-(j+1))+1 by omega,List.replicate_succ,List.set_cons_zero,List.replicate_succ',List.append_assoc];rfl
theorem jrb (n:Nat):ini n n=List.replicate n (-1):=by unfold ini;rw[Nat.sub_self];exact List.append_nil _
def jyD (id:Nat):Tr:=match Nat.beq id 17 with
 | true => .q 0 3 (.q 1 3 (.q 2 3 (.q 4 3 (.q 5 0 (.q 6 3 (.q 7 3 (.q 8 3 (.q 9 0 (.alt 3 1 (.alt 10 1 (.q 11 3 (.q 12 3 .nil)) .nil) (.alt 10 1 (.alt 3 1 (.q 11 3 (.q 12 3 .nil)) .nil) .nil))))))))))
 | false => .nil
set_option maxHeartbeats 4000000 in
theorem jhk (code:List Ic) (e:Nat->Int) (du vo x:Int) (hl:code.length<=1000000) (hj:jf5 code) (ho:∀ i ∈ code,1<=i.1/\i.1<=23) (hx:0<=x/\x<code.length):Spec Tryz.prog 30 [] [pgA code e du vo,intA x] fun _ r => ∃ out ok,r = .tup [.sl 1 out.length (jaq out),jaw ok]/\Dp code x out ok:=by
 refine ja3 (ja2 jyD xs0 0) (fun _ _ h=>h) Tryz.func30 rfl (by kernel_rfl) rfl (by kernel_rfl) ?_;intro _;conv=>whnf
 refine⟨⟨by omega,rfl,by omega,by omega⟩,?_⟩;conv=>whnf
 refine ja4 [1,2,6] ?_;conv=>whnf
 refine ja9 (fun j:Nat=>[(7,.v (.int .i64 j))]) (fun _=>[pgL code e du vo]) (fun j=>[.live 3 1 code.length (jaq (ini code.length j))]) (fun j=>j<=code.length) (fun j=>code.length-j) 0 ?_ (Nat.zero_le _) ?_
 ·repeat' constructor
  show Row.live _ 1 code.length (jx2 code.length [Value.int .i64 0])=_
  rw[joV];rfl
 intro j hjn;conv=>whnf
 rcases Nat.lt_or_ge j code.length with hlt | hge
 ·rw[decide_eq_true (show (j:Int)<(code.length:Int) by omega)];conv=>whnf
  refine⟨show (0:Int)<=(j:Int)/\(j:Int)<(code.length:Nat) from ⟨by omega,by omega⟩,?_⟩;conv=>whnf
  refine je4 (l:=ini code.length j) (k:=j) (v := -1) (by rw[jrc _ _ hjn];exact hlt) ?_;rw[jrd _ _ hlt];conv=>whnf
  refine⟨show lo .i64<=(j:Int)+1/\(j:Int)+1<=hi .i64 from ja7 (by omega),?_⟩;conv=>whnf
  refine⟨j+1,ja0 [0] ?_,show j+1<=code.length by omega,show code.length-(j+1)<code.length-j by omega⟩;conv=>whnf
  repeat' constructor
 obtain rfl:j=code.length:=by omega
 rw[decide_eq_false (show ¬ (code.length:Int)<(code.length:Int) by omega)];rw[jrb];conv=>whnf
 rw[decide_eq_false (show ¬ x<0 by omega)];conv=>whnf
 rw[decide_eq_false (show ¬ (code.length:Int)<=x by omega)];conv=>whnf
 refine⟨show (0:Int)<=x/\x<(code.length:Nat) from hx,?_⟩;conv=>whnf
 refine je4 (l:=List.replicate code.length (-1)) (k:=x.toNat) (v:=0) (by rw[List.length_replicate];omega) ?_
 have hini:=Di.init hx
 generalize (List.replicate code.length (-1:Int)).set x.toNat 0=outI at hini;conv=>whnf
 refine ja4 [2,6] ?_;conv=>whnf
 refine ja9 (fun y:List Int × Bool × Bool=>[(8,jaw y.2.1),(9,jaw y.2.2)]) (fun _=>[pgL code e du vo]) (fun y=>[.live 3 1 code.length (jaq y.1)]) (fun y=>Di code x y.1 y.2.1/\(y.2.2=false -> ∀ j:Int,0<=j->j<code.length->0<=og y.1 j->Pds code y.1 y.2.1 j (sc code j))) (fun y=>code.length-cN y.1+(if y.2.2=true then 1 else 0)) (outI,true,true) ?_ ⟨hini,fun h=>by cases h⟩ ?_
 ·repeat' constructor
 rintro⟨out0,ok0,ch0⟩ ⟨g1,g2⟩
 simp only at g1 g2
 cases ch0 with
 | false =>
  conv=>whnf
  refine⟨out0,ok0,?_,Dp.of hj hx g1 (g2 rfl)⟩;rw[g1.ln]
  try rfl
 | true =>
  conv=>whnf
  refine ja4 [2,6] ?_;conv=>whnf
  refine ja9 (fun y:Nat × List Int × Bool × Bool=>[(8,jaw y.2.2.1),(9,jaw y.2.2.2),(10,.v (.int .i64 y.1))]) (fun _=>[pgL code e du vo]) (fun y=>[.live 3 1 code.length (jaq y.2.1)]) (fun y=>y.1<=code.length/\DqC code x (cN out0) y.1 y.2.1 y.2.2.1 y.2.2.2) (fun y=>code.length-y.1) (0,out0,ok0,false) ?_ ⟨Nat.zero_le _,g1,Nat.le_refl _,fun _ j h1 h2=>by omega⟩ ?_
  ·repeat' constructor
  rintro⟨i,out,ok,ch⟩ ⟨q1,q2⟩
  simp only at q1 q2
  have hln:=q2.di.ln
  conv=>whnf
  rcases Nat.lt_or_ge i code.length with hil | hig
  ·have hir:(0:Int)<=(i:Int)/\(i:Int)<code.length:=⟨by omega,by omega⟩
   have hbd:=q2.di.bnd hir
   rw[decide_eq_true (show (i:Int)<(code.length:Int) by omega)];conv=>whnf
   refine⟨show (0:Int)<=(i:Int)/\(i:Int)<(code.length:Nat) from hir,?_⟩;conv=>whnf
   rw[jeN (by rw[hln];exact hir)];conv=>whnf
   by_cases hv:og out i<0
   ·rw[decide_eq_true hv];conv=>whnf
    refine⟨show lo .i64<=(i:Int)+1/\(i:Int)+1<=hi .i64 from ja7 (by omega),?_⟩;conv=>whnf
    refine⟨(i+1,out,ok,ch),ja0 [0] ?_,⟨show i+1<=code.length by omega,q2.jump hv⟩,show code.length-(i+1)<code.length-i by omega⟩;conv=>whnf
    repeat' constructor
   rw[decide_eq_false hv]
   have hv:0<=og out i:=by omega
   have hrow:ja5 2 i (jaJ code)=icA code[i]:=jcz code i hil
   have hopi:opI code i=(code[i]).1:=by unfold opI;rw[Int.toNat_natCast,List.getD_eq_getElem?_getD,List.getElem?_eq_getElem hil];rfl
   have hoi:=ho _ (List.getElem_mem hil)
   have hnx:=jly code e du vo hl i hil
   have htake:=q2.take hir hv
   have hund:=q2.under hir hv
   rw[hopi] at htake hund;generalize code[i]=ci at hrow htake hund hoi
   obtain⟨op,n⟩ := ci
   unfold icA at hrow
   simp only at hrow htake hund hoi
   have hps:=jam op
   have hpu:=jhN op
   unfold jx1 at hps;rw[if_pos hoi] at hps
   have p1:=jhL op
   have p2:=jen op
   have hcn:=jps out
   rw[hln] at hcn;conv=>whnf
   apply jrg
   ·conv=>whnf
    refine⟨hir,?_⟩;conv=>whnf
    refine⟨hir,?_⟩;conv=>whnf
    (generalize hrq:ja5 _ _ (jaJ code)=rq;obtain rfl:rq=[intA op,intA n]:=hrq.symm.trans (hrow);clear hrq;conv=>whnf)
    refine⟨?_,?_⟩
    ·conv=>whnf
     rw[jeN (by rw[hln];exact hir)];conv=>whnf
     refine jac [] rfl (fun _=>hps) ?_;rintro r rfl;conv=>whnf
     refine⟨show lo .i64<=og out i-jay op/\og out i-jay op<=hi .i64 from ja7 (by omega),?_⟩;conv=>whnf
    ·conv=>whnf
     refine jac [] rfl (fun _=>hps) ?_;rintro r rfl;conv=>whnf
     rw[jeN (by rw[hln];exact hir)];conv=>whnf
     refine⟨show lo .i64<=og out i-jay op/\og out i-jay op<=hi .i64 from ja7 (by omega),?_⟩;conv=>whnf
   conv=>whnf
   by_cases hu:og out i-jay op<0
   ·rw[decide_eq_true hu];conv=>whnf
    refine⟨show (0:Int)<=(i:Int)/\(i:Int)<(code.length:Nat) from hir,?_⟩;conv=>whnf
    (generalize hrq:ja5 _ _ (jaJ code)=rq;obtain rfl:rq=[intA op,intA n]:=hrq.symm.trans (hrow);clear hrq;conv=>whnf)
    refine jac [] rfl (fun _=>hpu) ?_;rintro r rfl;conv=>whnf
    refine⟨ja7 (by omega),?_⟩;conv=>whnf
    refine jac [] rfl (fun _=>hnx) ?_;rintro r rfl;rw[Int.zero_add]
    have hdr0:=(hund (by omega))
    have hscl:=jsk code i
    have hdb:=hdr0.dd
    have hcn:=jps out
    rw[hln] at hcn
    obtain⟨d,hd⟩ : ∃ d,jad op=d:=⟨_,rfl⟩
    rw[hd] at hdr0 hdb ⊢;conv=>whnf
    refine ja4 [2,6,10,11,12] ?_;conv=>whnf
    refine ja9 (fun y:Nat × List Int × Bool × Bool=>[(8,jaw y.2.2.1),(9,jaw y.2.2.2),(13,.v (.int .i64 y.1))]) (fun _=>[pgL code e du vo]) (fun y=>[.live 3 1 code.length (jaq y.2.1)]) (fun y=>y.1<=(sc code i).length/\Dr code x (cN out0) i (og out i) d y.1 y.2.1 y.2.2.1 y.2.2.2) (fun y=>(sc code i).length-y.1) (0,out,false,ch) ?_ ⟨Nat.zero_le _,hdr0⟩ ?_
    ·repeat' constructor
    clear hdr0 hdb;rintro⟨t,out1,ok1,ch1⟩ ⟨f1,f2⟩
    simp only at f1 f2
    have hln1:=f2.dq.di.ln
    conv=>whnf
    rcases Nat.lt_or_ge t (sc code i).length with htl | htg
    ·have hrw:=jbA (sc code i) t htl
     obtain⟨k,hk⟩ : ∃ k,(sc code i)[t]=k:=⟨_,rfl⟩
     have hskip:=f2.skip htl
     have hput:=f2.put hir hv htl
     have hsame:=f2.same hir htl
     have hconf:=f2.conf hir hv htl
     rw[hk] at hrw hskip hput hsame hconf;rw[decide_eq_true (show (t:Int)<((sc code i).length:Int) by omega)];conv=>whnf
     refine⟨show (0:Int)<=(t:Int)/\(t:Int)<((sc code i).length:Nat) from ⟨by omega,by omega⟩,?_⟩;conv=>whnf
     (generalize hrq:ja5 _ _ (jaq (sc code i))=rq;obtain rfl:rq=[intA k]:=hrq.symm.trans (hrw);clear hrq;conv=>whnf)
     by_cases hk1:k<0
     ·rw[decide_eq_true hk1];conv=>whnf
      refine⟨show lo .i64<=(t:Int)+1/\(t:Int)+1<=hi .i64 from ja7 (by omega),?_⟩;conv=>whnf
      refine⟨(t+1,out1,ok1,ch1),ja0 [0] ?_,⟨show t+1<=(sc code i).length by omega,hskip (by omega)⟩,show (sc code i).length-(t+1)<(sc code i).length-t by omega⟩;conv=>whnf
      repeat' constructor
     rw[decide_eq_false hk1];conv=>whnf
     refine⟨show (0:Int)<=(t:Int)/\(t:Int)<((sc code i).length:Nat) from ⟨by omega,by omega⟩,?_⟩;conv=>whnf
     (generalize hrq:ja5 _ _ (jaq (sc code i))=rq;obtain rfl:rq=[intA k]:=hrq.symm.trans (hrw);clear hrq;conv=>whnf)
     by_cases hk2:(code.length:Int)<=k
     ·rw[decide_eq_true hk2];conv=>whnf
      refine⟨show lo .i64<=(t:Int)+1/\(t:Int)+1<=hi .i64 from ja7 (by omega),?_⟩;conv=>whnf
      refine⟨(t+1,out1,ok1,ch1),ja0 [0] ?_,⟨show t+1<=(sc code i).length by omega,hskip (by omega)⟩,show (sc code i).length-(t+1)<(sc code i).length-t by omega⟩;conv=>whnf
      repeat' constructor
     rw[decide_eq_false hk2]
     have hkr:0<=k/\k<code.length:=⟨by omega,by omega⟩
     conv=>whnf
     refine⟨show (0:Int)<=(t:Int)/\(t:Int)<((sc code i).length:Nat) from ⟨by omega,by omega⟩,?_⟩;conv=>whnf
     (generalize hrq:ja5 _ _ (jaq (sc code i))=rq;obtain rfl:rq=[intA k]:=hrq.symm.trans (hrw);clear hrq;conv=>whnf)
     refine⟨show (0:Int)<=k/\k<(code.length:Nat) from hkr,?_⟩;conv=>whnf
     rw[jeN (by rw[hln1];exact hkr)];conv=>whnf
     by_cases hneg:og out1 k<0
     ·rw[decide_eq_true hneg];conv=>whnf
      refine⟨show (0:Int)<=(t:Int)/\(t:Int)<((sc code i).length:Nat) from ⟨by omega,by omega⟩,?_⟩;conv=>whnf
      (generalize hrq:ja5 _ _ (jaq (sc code i))=rq;obtain rfl:rq=[intA k]:=hrq.symm.trans (hrw);clear hrq;conv=>whnf)
      refine⟨show (0:Int)<=k/\k<(code.length:Nat) from hkr,?_⟩;conv=>whnf
      refine je4 (l:=out1) (k:=k.toNat) (v:=d) (by rw[hln1];omega) ?_;conv=>whnf
      refine⟨show lo .i64<=(t:Int)+1/\(t:Int)+1<=hi .i64 from ja7 (by omega),?_⟩;conv=>whnf
      refine⟨(t+1,out1.set k.toNat d,ok1,true),ja0 [0] ?_,⟨show t+1<=(sc code i).length by omega,hput hkr hneg⟩,show (sc code i).length-(t+1)<(sc code i).length-t by omega⟩;conv=>whnf
      repeat' constructor
     rw[decide_eq_false hneg];conv=>whnf
     refine⟨show (0:Int)<=(t:Int)/\(t:Int)<((sc code i).length:Nat) from ⟨by omega,by omega⟩,?_⟩;conv=>whnf
     (generalize hrq:ja5 _ _ (jaq (sc code i))=rq;obtain rfl:rq=[intA k]:=hrq.symm.trans (hrw);clear hrq;conv=>whnf)
     refine⟨show (0:Int)<=k/\k<(code.length:Nat) from hkr,?_⟩;conv=>whnf
     rw[jeN (by rw[hln1];exact hkr)];conv=>whnf
     by_cases heq:og out1 k=d
     ·rw[decide_eq_true heq];conv=>whnf
      refine⟨show lo .i64<=(t:Int)+1/\(t:Int)+1<=hi .i64 from ja7 (by omega),?_⟩;conv=>whnf
      refine⟨(t+1,out1,ok1,ch1),ja0 [0] ?_,⟨show t+1<=(sc code i).length by omega,hsame hneg heq⟩,show (sc code i).length-(t+1)<(sc code i).length-t by omega⟩;conv=>whnf
      repeat' constructor
     ·rw[decide_eq_false heq];conv=>whnf
      refine⟨show lo .i64<=(t:Int)+1/\(t:Int)+1<=hi .i64 from ja7 (by omega),?_⟩;conv=>whnf
      refine⟨(t+1,out1,false,ch1),ja0 [0] ?_,⟨show t+1<=(sc code i).length by omega,hconf hkr hneg heq⟩,show (sc code i).length-(t+1)<(sc code i).length-t by omega⟩;conv=>whnf
      repeat' constructor
    rw[decide_eq_false (show ¬ (t:Int)<((sc code i).length:Int) by omega)]
    have htt:t=(sc code i).length:=by omega
    conv=>whnf
    refine⟨show lo .i64<=(i:Int)+1/\(i:Int)+1<=hi .i64 from ja7 (by omega),?_⟩;conv=>whnf
    refine⟨(i+1,out1,ok1,ch1),ja0 [0] ?_,⟨show i+1<=code.length by omega,?_⟩,show code.length-(i+1)<code.length-i by omega⟩
    ·conv=>whnf
     repeat' constructor
    ·have f3:=f2
     rw[htt] at f3;exact f3.done (by omega)
   ·rw[decide_eq_false hu];conv=>whnf
    refine⟨show (0:Int)<=(i:Int)/\(i:Int)<(code.length:Nat) from hir,?_⟩;conv=>whnf
    (generalize hrq:ja5 _ _ (jaJ code)=rq;obtain rfl:rq=[intA op,intA n]:=hrq.symm.trans (hrow);clear hrq;conv=>whnf)
    refine jac [] rfl (fun _=>hpu) ?_;rintro r rfl;conv=>whnf
    refine⟨show lo .i64<=og out i-jay op+jad op/\og out i-jay op+jad op<=hi .i64 from ja7 (by omega),?_⟩;conv=>whnf
    refine jac [] rfl (fun _=>hnx) ?_;rintro r rfl
    have hdr0:=(htake (by omega))
    have hscl:=jsk code i
    have hdb:=hdr0.dd
    have hcn:=jps out
    rw[hln] at hcn
    obtain⟨d,hd⟩ : ∃ d,og out i-jay op+jad op=d:=⟨_,rfl⟩
    rw[hd] at hdr0 hdb ⊢;conv=>whnf
    refine ja4 [2,6,10,11,12] ?_;conv=>whnf
    refine ja9 (fun y:Nat × List Int × Bool × Bool=>[(8,jaw y.2.2.1),(9,jaw y.2.2.2),(13,.v (.int .i64 y.1))]) (fun _=>[pgL code e du vo]) (fun y=>[.live 3 1 code.length (jaq y.2.1)]) (fun y=>y.1<=(sc code i).length/\Dr code x (cN out0) i (og out i) d y.1 y.2.1 y.2.2.1 y.2.2.2) (fun y=>(sc code i).length-y.1) (0,out,ok,ch) ?_ ⟨Nat.zero_le _,hdr0⟩ ?_
    ·repeat' constructor
    clear hdr0 hdb;rintro⟨t,out1,ok1,ch1⟩ ⟨f1,f2⟩
    simp only at f1 f2
    have hln1:=f2.dq.di.ln
    conv=>whnf
    rcases Nat.lt_or_ge t (sc code i).length with htl | htg
    ·have hrw:=jbA (sc code i) t htl
     obtain⟨k,hk⟩ : ∃ k,(sc code i)[t]=k:=⟨_,rfl⟩
     have hskip:=f2.skip htl
     have hput:=f2.put hir hv htl
     have hsame:=f2.same hir htl
     have hconf:=f2.conf hir hv htl
     rw[hk] at hrw hskip hput hsame hconf;rw[decide_eq_true (show (t:Int)<((sc code i).length:Int) by omega)];conv=>whnf
     refine⟨show (0:Int)<=(t:Int)/\(t:Int)<((sc code i).length:Nat) from ⟨by omega,by omega⟩,?_⟩;conv=>whnf
     (generalize hrq:ja5 _ _ (jaq (sc code i))=rq;obtain rfl:rq=[intA k]:=hrq.symm.trans (hrw);clear hrq;conv=>whnf)
     by_cases hk1:k<0
     ·rw[decide_eq_true hk1];conv=>whnf
      refine⟨show lo .i64<=(t:Int)+1/\(t:Int)+1<=hi .i64 from ja7 (by omega),?_⟩;conv=>whnf
      refine⟨(t+1,out1,ok1,ch1),ja0 [0] ?_,⟨show t+1<=(sc code i).length by omega,hskip (by omega)⟩,show (sc code i).length-(t+1)<(sc code i).length-t by omega⟩;conv=>whnf
      repeat' constructor
     rw[decide_eq_false hk1];conv=>whnf
     refine⟨show (0:Int)<=(t:Int)/\(t:Int)<((sc code i).length:Nat) from ⟨by omega,by omega⟩,?_⟩;conv=>whnf
     (generalize hrq:ja5 _ _ (jaq (sc code i))=rq;obtain rfl:rq=[intA k]:=hrq.symm.trans (hrw);clear hrq;conv=>whnf)
     by_cases hk2:(code.length:Int)<=k
     ·rw[decide_eq_true hk2];conv=>whnf
      refine⟨show lo .i64<=(t:Int)+1/\(t:Int)+1<=hi .i64 from ja7 (by omega),?_⟩;conv=>whnf
      refine⟨(t+1,out1,ok1,ch1),ja0 [0] ?_,⟨show t+1<=(sc code i).length by omega,hskip (by omega)⟩,show (sc code i).length-(t+1)<(sc code i).length-t by omega⟩;conv=>whnf
      repeat' constructor
     rw[decide_eq_false hk2]
     have hkr:0<=k/\k<code.length:=⟨by omega,by omega⟩
     conv=>whnf
     refine⟨show (0:Int)<=(t:Int)/\(t:Int)<((sc code i).length:Nat) from ⟨by omega,by omega⟩,?_⟩;conv=>whnf
     (generalize hrq:ja5 _ _ (jaq (sc code i))=rq;obtain rfl:rq=[intA k]:=hrq.symm.trans (hrw);clear hrq;conv=>whnf)
     refine⟨show (0:Int)<=k/\k<(code.length:Nat) from hkr,?_⟩;conv=>whnf
     rw[jeN (by rw[hln1];exact hkr)];conv=>whnf
     by_cases hneg:og out1 k<0
     ·rw[decide_eq_true hneg];conv=>whnf
      refine⟨show (0:Int)<=(t:Int)/\(t:Int)<((sc code i).length:Nat) from ⟨by omega,by omega⟩,?_⟩;conv=>whnf
      (generalize hrq:ja5 _ _ (jaq (sc code i))=rq;obtain rfl:rq=[intA k]:=hrq.symm.trans (hrw);clear hrq;conv=>whnf)
      refine⟨show (0:Int)<=k/\k<(code.length:Nat) from hkr,?_⟩;conv=>whnf
      refine je4 (l:=out1) (k:=k.toNat) (v:=d) (by rw[hln1];omega) ?_;conv=>whnf
      refine⟨show lo .i64<=(t:Int)+1/\(t:Int)+1<=hi .i64 from ja7 (by omega),?_⟩;conv=>whnf
      refine⟨(t+1,out1.set k.toNat d,ok1,true),ja0 [0] ?_,⟨show t+1<=(sc code i).length by omega,hput hkr hneg⟩,show (sc code i).length-(t+1)<(sc code i).length-t by omega⟩;conv=>whnf
      repeat' constructor
     rw[decide_eq_false hneg];conv=>whnf
     refine⟨show (0:Int)<=(t:Int)/\(t:Int)<((sc code i).length:Nat) from ⟨by omega,by omega⟩,?_⟩;conv=>whnf
     (generalize hrq:ja5 _ _ (jaq (sc code i))=rq;obtain rfl:rq=[intA k]:=hrq.symm.trans (hrw);clear hrq;conv=>whnf)
     refine⟨show (0:Int)<=k/\k<(code.length:Nat) from hkr,?_⟩;conv=>whnf
     rw[jeN (by rw[hln1];exact hkr)];conv=>whnf
     by_cases heq:og out1 k=d
     ·rw[decide_eq_true heq];conv=>whnf
      refine⟨show lo .i64<=(t:Int)+1/\(t:Int)+1<=hi .i64 from ja7 (by omega),?_⟩;conv=>whnf
      refine⟨(t+1,out1,ok1,ch1),ja0 [0] ?_,⟨show t+1<=(sc code i).length by omega,hsame hneg heq⟩,show (sc code i).length-(t+1)<(sc code i).length-t by omega⟩;conv=>whnf
      repeat' constructor
     ·rw[decide_eq_false heq];conv=>whnf
      refine⟨show lo .i64<=(t:Int)+1/\(t:Int)+1<=hi .i64 from ja7 (by omega),?_⟩;conv=>whnf
      refine⟨(t+1,out1,false,ch1),ja0 [0] ?_,⟨show t+1<=(sc code i).length by omega,hconf hkr hneg heq⟩,show (sc code i).length-(t+1)<(sc code i).length-t by omega⟩;conv=>whnf
      repeat' constructor
    rw[decide_eq_false (show ¬ (t:Int)<((sc code i).length:Int) by omega)]
    have htt:t=(sc code i).length:=by omega
    conv=>whnf
    refine⟨show lo .i64<=(i:Int)+1/\(i:Int)+1<=hi .i64 from ja7 (by omega),?_⟩;conv=>whnf
    refine⟨(i+1,out1,ok1,ch1),ja0 [0] ?_,⟨show i+1<=code.length by omega,?_⟩,show code.length-(i+1)<code.length-i by omega⟩
    ·conv=>whnf
     repeat' constructor
    ·have f3:=f2
     rw[htt] at f3;exact f3.done (by omega)
  rw[decide_eq_false (show ¬ (i:Int)<(code.length:Int) by omega)]
  obtain rfl:i=code.length:=by omega
  conv=>whnf
  refine⟨(out,ok,ch),ja0 [0] ?_,⟨q2.di,fun hc j h1 h2 h3=>q2.pd hc j h1 h2 h3⟩,?_⟩
  ·conv=>whnf
   repeat' constructor
  ·have h1:=q2.ct
   have h2:=jps out
   have h3:=g1.ln
   have h4:=jps out0
   show code.length-cN out+(if ch=true then 1 else 0)<code.length-cN out0+1
   rw[hln] at h2
   split at h1 <;> simp_all <;> omega
theorem jfY (c0:A) (e:Nat->Int) (du vo:Int) (j:Nat) (hj:j<40):(c0 :: pgE e du vo).drop (1+j*1)=intA (e j) :: (c0 :: pgE e du vo).drop (j+2):=by
 have hlen:(enL e).length=40:=by unfold enL;rw[List.length_map,List.length_range]
 have hl:j<(enL e).length:=by rw[hlen];exact hj
 rw[show 1+j*1=j+1 by omega,List.drop_succ_cons,show j+2=(j+1)+1 by omega,List.drop_succ_cons,jhH];rw[List.drop_eq_getElem_cons (by rw[List.length_append];omega),List.getElem_append_left hl]
 have h0:=joa e j hj
 rw[Int.toNat_natCast,Nat.mul_one,List.getElem?_eq_getElem hl] at h0;rw[Option.some.inj h0]
theorem jiC (code:List Ic) (e:Nat->Int) (du vo:Int) (h:Nat) (hh:h<40) (hl:code.length<=1000000) (hj:jf5 code) (ho:∀ i ∈ code,1<=i.1/\i.1<=23) (hx:0<=e h/\e h<code.length):Spec Tryz.prog 43 [] [pgA code e du vo,.v (.int .i64 h)] fun _ r => ∃ out ok m,Dp code (e h) out ok/\r=intA m/\(m<=16 ↔ ∀ i,Rch code (e h) i->og out i<=16/\lv code i (og out i)<=16):=by
 have hds:=jhk code e du vo (e h) hl hj ho hx
 refine ja3 (ja2 jyC xs0 0) (fun _ _ h=>h) Tryz.func43 rfl (by kernel_rfl) rfl (by kernel_rfl) ?_;intro _;conv=>whnf
 refine⟨show (0:Int)<=(h:Int)/\(h:Int)<((40:Nat):Int) from ⟨by omega,by omega⟩,?_⟩;conv=>whnf
 generalize hrq:List.drop _ _=rq
 obtain rfl:rq=intA (e h) :: (A.sl 2 code.length (jaJ code) :: pgE e du vo).drop (h+2):=hrq.symm.trans (jfY _ e du vo h hh)
 clear hrq;conv=>whnf
 refine jac [] rfl (fun _=>hds) ?_;rintro r ⟨out,ok,rfl,hdp⟩
 have hln:=hdp.ln
 conv=>whnf
 refine ja4 [2,5] ?_;conv=>whnf
 refine ja9 (fun y:Nat × Int=>[(7,intA y.2),(8,.v (.int .i64 y.1))]) (fun _=>[pgL code e du vo]) (fun _=>[]) (fun y=>y.1<=code.length/\0<=y.2/\y.2<=code.length+1/\(y.2<=16 ↔ ∀ j:Int,0<=j->j<(y.1:Int)->0<=og out j->og out j<=16/\lv code j (og out j)<=16)) (fun y=>code.length-y.1) (0,0) ?_ ⟨Nat.zero_le _,Int.le_refl _,by simp only;omega,⟨fun _ j h1 h2=>by simp only at h2;omega,fun _=>by decide⟩⟩ ?_
 ·repeat' constructor
 rintro⟨i,m⟩ ⟨q1,q2,q3,q4⟩
 simp only at q1 q2 q3 q4
 conv=>whnf
 rcases Nat.lt_or_ge i code.length with hil | hig
 ·have hir:(0:Int)<=(i:Int)/\(i:Int)<code.length:=⟨by omega,by omega⟩
  have hbd:=hdp.bd i hir.1 hir.2
  have hro:=joE (out:=out) (i:=i) (by rw[hln];exact hil)
  have hnew:∀ m':Int,(m'<=16 ↔ m<=16/\(0<=og out i->og out i<=16/\lv code i (og out i)<=16))->(m'<=16 ↔ ∀ j:Int,0<=j->j<((i+1:Nat):Int)->0<=og out j->og out j<=16/\lv code j (og out j)<=16):=fun m' hm=>by
   rw[hm,q4]
   constructor
   ·rintro⟨h1,h2⟩ j h3 h4
    by_cases hji:j=i
    ·rw[hji];exact h2
    ·exact h1 j h3 (by omega)
   ·intro h1;exact⟨fun j h3 h4=>h1 j h3 (by omega),h1 i (by omega) (by omega)⟩
  have hrow:ja5 2 i (jaJ code)=icA code[i]:=jcz code i hil
  have hopi:opI code i=(code[i]).1:=by unfold opI;rw[Int.toNat_natCast,List.getD_eq_getElem?_getD,List.getElem?_eq_getElem hil];rfl
  have hoi:=ho _ (List.getElem_mem hil)
  unfold lv at hnew;rw[hopi] at hnew;generalize code[i]=ci at hrow hnew hoi
  obtain⟨op,n⟩ := ci
  unfold icA at hrow
  simp only at hrow hnew hoi
  have hps:=jam op
  have hpu:=jhN op
  unfold jx1 at hps;rw[if_pos hoi] at hps
  have p1:=jhL op
  have p2:=jen op
  rw[decide_eq_true (show (i:Int)<(out.length:Int) by rw[hln];omega)];conv=>whnf
  refine⟨show (0:Int)<=(i:Int)/\(i:Int)<(out.length:Nat) from ⟨by omega,by rw[hln];omega⟩,?_⟩;conv=>whnf
  (generalize hrq:ja5 _ _ (jaq out)=rq;obtain rfl:rq=[intA (og out i)]:=hrq.symm.trans (hro);clear hrq;conv=>whnf)
  by_cases hv:0<=og out i
  ·rw[decide_eq_true hv];conv=>whnf
   refine⟨show (0:Int)<=(i:Int)/\(i:Int)<(code.length:Nat) from hir,?_⟩;conv=>whnf
   (generalize hrq:ja5 _ _ (jaJ code)=rq;obtain rfl:rq=[intA op,intA n]:=hrq.symm.trans (hrow);clear hrq;conv=>whnf)
   have hio:(0:Int)<=(i:Int)/\(i:Int)<(out.length:Nat):=⟨by omega,by rw[hln];omega⟩
   refine⟨hio,?_⟩;conv=>whnf
   (generalize hrq:ja5 _ _ (jaq out)=rq;obtain rfl:rq=[intA (og out i)]:=hrq.symm.trans (hro);clear hrq;conv=>whnf)
   refine⟨hio,?_⟩;conv=>whnf
   (generalize hrq:ja5 _ _ (jaq out)=rq;obtain rfl:rq=[intA (og out i)]:=hrq.symm.trans (hro);clear hrq;conv=>whnf)
   refine jac [] rfl (fun _=>hps) ?_;rintro r rfl;conv=>whnf
   refine⟨show lo .i64<=og out i-jay op/\og out i-jay op<=hi .i64 from ja7 (by omega),?_⟩;conv=>whnf
   refine jac [] rfl (fun _=>hpu) ?_;rintro r rfl;conv=>whnf
   refine⟨show lo .i64<=og out i-jay op+jad op/\og out i-jay op+jad op<=hi .i64 from ja7 (by omega),?_⟩;conv=>whnf
   refine⟨show lo .i64<=(i:Int)+1/\(i:Int)+1<=hi .i64 from ja7 (by omega),?_⟩;conv=>whnf
   refine⟨(i+1,max (max m (og out i)) (og out i-jay op+jad op)),ja0 [] ?_,⟨show i+1<=code.length by omega,show (0:Int)<=max (max m (og out i)) (og out i-jay op+jad op) by omega,show max (max m (og out i)) (og out i-jay op+jad op)<=(code.length:Int)+1 by omega,hnew _ ⟨fun h=>⟨by omega,fun _=>⟨by omega,by omega⟩⟩,fun h=>by have:=h.2 hv;omega⟩⟩,show code.length-(i+1)<code.length-i by omega⟩;conv=>whnf
   repeat' constructor
  rw[decide_eq_false hv];conv=>whnf
  refine⟨show lo .i64<=(i:Int)+1/\(i:Int)+1<=hi .i64 from ja7 (by omega),?_⟩;conv=>whnf
  refine⟨(i+1,m),ja0 [] ?_,⟨show i+1<=code.length by omega,q2,q3,hnew m ⟨fun h=>⟨h,fun h2=>absurd h2 hv⟩,fun h=>h.1⟩⟩,show code.length-(i+1)<code.length-i by omega⟩;conv=>whnf
  repeat' constructor
 rw[decide_eq_false (show ¬ (i:Int)<(out.length:Int) by rw[hln];omega)];conv=>whnf
 refine⟨out,ok,m,hdp,rfl,?_⟩;rw[q4]
 constructor
 ·intro h1 a ha
  have hr:=ha.rng hj hx
  exact h1 a hr.1 (by omega) ((hdp.re a hr.1 hr.2).2 ha)
 ·intro h1 j h2 h3 h4;exact h1 j ((hdp.re j h2 (by omega)).1 h4)
theorem jpu (code:List Ic) (e:Nat->Int) (du vo x:Int) (hl:code.length<=1000000) (hx:x<0):Spec Tryz.prog 30 [] [pgA code e du vo,intA x] fun _ r=>r = .tup [.sl 1 code.length (jaq (List.replicate code.length (-1))),jaw true]:=by
 refine ja3 (ja2 jyD xs0 0) (fun _ _ h=>h) Tryz.func30 rfl (by kernel_rfl) rfl (by kernel_rfl) ?_;intro _;conv=>whnf
 refine⟨⟨by omega,rfl,by omega,by omega⟩,?_⟩;conv=>whnf
 refine ja4 [1,2,6] ?_;conv=>whnf
 refine ja9 (fun j:Nat=>[(7,.v (.int .i64 j))]) (fun _=>[pgL code e du vo]) (fun j=>[.live 3 1 code.length (jaq (ini code.length j))]) (fun j=>j<=code.length) (fun j=>code.length-j) 0 ?_ (Nat.zero_le _) ?_
 ·repeat' constructor
  show Row.live _ 1 code.length (jx2 code.length [Value.int .i64 0])=_
  rw[joV];rfl
 intro j hjn;conv=>whnf
 rcases Nat.lt_or_ge j code.length with hlt | hge
 ·rw[decide_eq_true (show (j:Int)<(code.length:Int) by omega)];conv=>whnf
  refine⟨show (0:Int)<=(j:Int)/\(j:Int)<(code.length:Nat) from ⟨by omega,by omega⟩,?_⟩;conv=>whnf
  refine je4 (l:=ini code.length j) (k:=j) (v := -1) (by rw[jrc _ _ hjn];exact hlt) ?_;rw[jrd _ _ hlt];conv=>whnf
  refine⟨show lo .i64<=(j:Int)+1/\(j:Int)+1<=hi .i64 from ja7 (by omega),?_⟩;conv=>whnf
  refine⟨j+1,ja0 [0] ?_,show j+1<=code.length by omega,show code.length-(j+1)<code.length-j by omega⟩;conv=>whnf
  repeat' constructor
 obtain rfl:j=code.length:=by omega
 rw[decide_eq_false (show ¬ (code.length:Int)<(code.length:Int) by omega)];rw[jrb];conv=>whnf
 rw[decide_eq_true hx];conv=>whnf
 rfl
theorem jyo (n i:Nat) (hi:i<n):ja5 1 i (jaq (List.replicate n (-1)))=[intA (-1)]:=by
 rw[jbA _ i (by rw[List.length_replicate];exact hi),List.getElem_replicate];rfl
theorem jqQ (code:List Ic) (e:Nat->Int) (du vo:Int) (h:Nat) (hh:h<40) (hl:code.length<=1000000) (hx:e h<0):Spec Tryz.prog 43 [] [pgA code e du vo,.v (.int .i64 h)] fun _ r=>r=intA 0:=by
 have hds:=jpu code e du vo (e h) hl hx
 refine ja3 (ja2 jyC xs0 0) (fun _ _ h=>h) Tryz.func43 rfl (by kernel_rfl) rfl (by kernel_rfl) ?_;intro _;conv=>whnf
 refine⟨show (0:Int)<=(h:Int)/\(h:Int)<((40:Nat):Int) from ⟨by omega,by omega⟩,?_⟩;conv=>whnf
 generalize hrq:List.drop _ _=rq
 obtain rfl:rq=intA (e h) :: (A.sl 2 code.length (jaJ code) :: pgE e du vo).drop (h+2):=hrq.symm.trans (jfY _ e du vo h hh)
 clear hrq;conv=>whnf
 refine jac [] rfl (fun _=>hds) ?_;rintro r rfl;conv=>whnf
 refine ja4 [2,5,7] ?_;conv=>whnf
 refine ja9 (fun i:Nat=>[(8,.v (.int .i64 i))]) (fun _=>[pgL code e du vo]) (fun _=>[]) (fun i=>i<=code.length) (fun i=>code.length-i) 0 ?_ (Nat.zero_le _) ?_
 ·repeat' constructor
 intro i hin;conv=>whnf
 rcases Nat.lt_or_ge i code.length with hil | hig
 ·have hro:=jyo code.length i hil
  rw[decide_eq_true (show (i:Int)<(code.length:Int) by omega)];conv=>whnf
  refine⟨show (0:Int)<=(i:Int)/\(i:Int)<(code.length:Nat) from ⟨by omega,by omega⟩,?_⟩;conv=>whnf
  (generalize hrq:ja5 _ _ (jaq (List.replicate code.length (-1)))=rq;obtain rfl:rq=[intA (-1)]:=hrq.symm.trans (hro);clear hrq;conv=>whnf)
  refine⟨show lo .i64<=(i:Int)+1/\(i:Int)+1<=hi .i64 from ja7 (by omega),?_⟩;conv=>whnf
  refine⟨i+1,ja0 [] ?_,show i+1<=code.length by omega,show code.length-(i+1)<code.length-i by omega⟩;conv=>whnf
  repeat' constructor
 rw[decide_eq_false (show ¬ (i:Int)<(code.length:Int) by omega)];conv=>whnf
 rfl
end Go.Proofs.YtfbifdccmabdbaaGreatDoor.Vm
namespace Go.Proofs.YtfbifdccmabdbaaGreatDoor.Vm
open Go.RowKit
set_option linter.unusedSimpArgs false
set_option linter.unusedVariables false
set_option maxRecDepth 100000
def jsT (n:Int):Int:=if n<0 then -(n+1) else n
def jcq (n m:Int):Int:=(jsT n).tmod m
theorem jnN {n:Int} (hn : -9223372036854775808<=n/\n<=9223372036854775807):0<=jsT n/\jsT n<=9223372036854775807:=by unfold jsT;split <;> omega
theorem jbO {n m:Int} (hn : -9223372036854775808<=n/\n<=9223372036854775807) (hm:1<=m):0<=jcq n m/\jcq n m<m:=by
 have h:=jnN hn
 unfold jcq;rw[Int.tmod_eq_emod_of_nonneg h.1];exact⟨Int.emod_nonneg _ (by omega),Int.emod_lt_of_pos _ (by omega)⟩
theorem jbv (n m:Int) (hm:1<=m/\m<=9223372036854775807):Spec Tryz.prog 27 [] [intA n,intA m] fun _ r=>(-9223372036854775808<=n/\n<=9223372036854775807)/\r=intA (jcq n m):=by
 refine ja3 (ja2 jax xs0 0) (fun _ _ h=>h) Tryz.func27 rfl (by kernel_rfl) rfl (by kernel_rfl) ?_;intro hok
 have hn : -9223372036854775808<=n/\n<=9223372036854775807:=okA_int.1 hok.1
 have hab:=jnN hn
 conv=>whnf
 by_cases h:n<0
 ·refine jb2 (b:=decide (n<0)) (decide_eq_true h) ?_;conv=>whnf
  refine⟨ja7 (by omega),?_⟩;conv=>whnf
  refine⟨ja7 (by omega),?_⟩;conv=>whnf
  refine⟨by omega,?_⟩;conv=>whnf
  refine⟨hn,?_⟩
  have:0-(n+1)=jsT n:=by unfold jsT;rw[if_pos h];omega
  rw[this];rfl
 ·refine jaz (b:=decide (n<0)) (decide_eq_false h) ?_;conv=>whnf
  refine⟨by omega,?_⟩;conv=>whnf
  refine⟨hn,?_⟩
  have:n=jsT n:=by unfold jsT;rw[if_neg h]
  show A.v (.int .i64 (n.tmod m))=intA ((jsT n).tmod m)
  rw[<- this];rfl
end Go.Proofs.YtfbifdccmabdbaaGreatDoor.Vm
namespace Go.Proofs.YtfbifdccmabdbaaGreatDoor.Vm
open Go.RowKit Go.Shelf
set_option linter.unusedSimpArgs false
set_option linter.unusedVariables false
set_option maxRecDepth 100000
def jAT (code:List Ic) (e:Nat->Int) (j:Nat):Prop:=0<=e j /\ ∃ out ok,Dp code (e j) out ok /\ ¬ ∀ i,Rch code (e j) i->og out i<=16/\lv code i (og out i)<=16
def OkE (code:List Ic) (e:Nat->Int) (j:Nat):Prop:=e j<0 ∨ 0<=e j /\ ∃ out ok,Dp code (e j) out ok /\ ∀ i,Rch code (e j) i->og out i<=16/\lv code i (og out i)<=16
def RcP (u:Ut) (r:A):Prop :=
 (400<(jks u).1.length/\r = .tup [.agg je9,intA 2]) ∨ (¬ 400<(jks u).1.length/\(((∃ j,j<40/\jAT (jks u).1 (jks u).2 j)/\r = .tup [.agg je9,intA 13]) ∨ ((∀ j,j<40->OkE (jks u).1 (jks u).2 j)/\r = .tup [pgA (jks u).1 (jks u).2 u.du.length u.vo.length,intA 0])))
theorem jtb {h:Int} (h1:0<=h/\h<40):jcq h 40=h:=by
 unfold jcq jsT;rw[if_neg (by omega),Int.tmod_eq_emod_of_nonneg h1.1];omega
theorem jcu (g:Nat):∀ l:List A,jqg g l l
 | []=>trivial
 | a :: l=>⟨.inl rfl,jcu g l⟩
theorem jlp {np:Nat} {f:S->(Exit->S->Prop)->Prop} {t:List A} {bx:List (List A)} {rw:List Row} {Q:Exit->S->Prop} (e k:Nat) (bx':List (List A)) (h2:jwW rw.length bx bx') (h:jd5 np f ⟨t,bx',rw++[.live e k 0 []]⟩ Q):jd5 np f ⟨t,bx,rw⟩ Q:=by
 have hle:Le np ⟨t,bx,rw⟩ ⟨t,bx',rw++[.live e k 0 []]⟩ := juK (s:=⟨t,bx,rw⟩) e k (jcu _ t) h2
 unfold jd5 at h ⊢
 obtain⟨X,F,φ,μ,⟨x,h3,h4⟩,h5⟩ := h
 exact⟨X,F,φ,μ,⟨x,hle.trans h3,h4⟩,h5⟩
set_option maxHeartbeats 4000000 in
theorem jk2 (u:Ut) (hu:WfU u) (hz:szH u.on<=900000):Spec Tryz.prog 13 [] [.agg (utA u)] fun _ r=>RcP u r:=by
 have hnode:=jh1 u hu
 have hcode:=jo9 u hu
 have hdv:=hu.du
 have hol:=hu.ol
 refine ja3 (ja2 jAk xs0 0) (fun _ _ h=>h) Tryz.func13 rfl (by kernel_rfl) rfl (by kernel_rfl) ?_;intro _;conv=>whnf
 refine ja4 [1,2,4] ?_;conv=>whnf
 refine ja9 (fun j:Nat=>[(5,.v (.int .i64 j))]) (fun j=>[utA u,je9,.v (.slice none 0 0) :: pgE (e1 j) u.du.length u.vo.length]) (fun _=>[]) (fun j=>j<=40) (fun j=>40-j) 0 ?_ (by omega) ?_
 ·repeat' constructor
 intro j hj;conv=>whnf
 rcases Nat.lt_or_ge j 40 with hlt | hge
 ·rw[decide_eq_true (show (j:Int)<40 by omega)];conv=>whnf
  refine⟨show (0:Int)<=(j:Int)/\(j:Int)<((40:Nat):Int) from ⟨by omega,by omega⟩,?_⟩;conv=>whnf
  refine jbu (.v (.slice none 0 0)) (e1 j) (e1 (j+1)) u.du.length u.vo.length (-1) j hlt (fun i hi => ?_) ?_
  ·unfold e1
   by_cases h:i=j
   ·rw[if_pos h,if_pos (by omega)]
   ·rw[if_neg h]
    by_cases h2:i<j
    ·rw[if_pos h2,if_pos (by omega)]
    ·rw[if_neg h2,if_neg (by omega)]
  conv=>whnf
  refine⟨show lo .i64<=(j:Int)+1/\(j:Int)+1<=hi .i64 from ja7 (by omega),?_⟩;conv=>whnf
  refine⟨j+1,ja0 [] ?_,show j+1<=40 by omega,show 40-(j+1)<40-j by omega⟩;conv=>whnf
  repeat' constructor
 rw[decide_eq_false (show ¬ (j:Int)<40 by omega)]
 obtain rfl:j=40:=by omega
 conv=>whnf
 refine jlp 52 2 [utA u,je9,.own 0 :: pgE (e1 40) u.du.length u.vo.length] ⟨jcu _ _,jcu _ _,⟨.inr ⟨rfl,rfl⟩,jcu _ _⟩,trivial⟩ ?_;conv=>whnf
 refine ja4 [1,2,4] ?_;conv=>whnf
 refine ja9 (fun x:Nat × List Ic × (Nat->Int)=>[(6,.v (.int .i64 x.1))]) (fun x=>[utA u,je9,.own 0 :: pgE x.2.2 u.du.length u.vo.length]) (fun x=>[.live 52 2 x.2.1.length (jaJ x.2.1)])
  (fun x=>x.1<=u.on.length/\hcL (ixU u) (u.on.drop x.1) x.2.1 x.2.2=jks u/\x.2.1.length+szH (u.on.drop x.1)<=900000/\(∀ i ∈ x.2.1,jwV i) /\ ∀ i,x.2.2 i<x.2.1.length) (fun x=>u.on.length-x.1) (0,[],noE) ?_ ⟨Nat.zero_le _,rfl,by simpa using hz,(fun i hi=>by cases hi),fun i=>show (-1:Int)<0 by decide⟩ ?_
 ·repeat' constructor
  show Row.live _ 2 0 []=Row.live _ 2 0 (jaJ [])
  rw[jdu]
 rintro⟨j,l,e⟩ ⟨g1,g2,g3,g4,g5⟩
 simp only at g1 g2 g3 g4 g5
 conv=>whnf
 rcases Nat.lt_or_ge j u.on.length with hlt | hge
 ·have hrow:ja5 5 j (jjL u.on)=hnA u.on[j]:=jlR u.on j hlt
  have hon:=hu.on _ (List.getElem_mem hlt)
  rw[List.drop_eq_getElem_cons hlt] at g2 g3;generalize u.on[j]=hb at hrow hon g2 g3
  obtain⟨h,b⟩ := hb
  obtain⟨o1,o2,o3⟩ := hon
  unfold hcL at g2;unfold szH at g3
  simp only at o1 o2 g2 g3
  have hcd:=hcode b o3 l.length (by omega) (by omega)
  have hsz:=(hnode b o3).1 l.length
  obtain⟨m,hmm⟩ : ∃ m,jal (ixU u) b l.length=m:=⟨_,rfl⟩
  have hcok:=jjA (ixU u) b l.length (by omega)
  rw[hmm] at hcd hsz g2 hcok
  have a2:=jbv h 40 (by decide)
  rw[jtb ⟨o1,o2⟩] at a2;unfold hnA at hrow
  simp only at hrow
  rw[decide_eq_true (show (j:Int)<(u.on.length:Int) by omega)];conv=>whnf
  refine⟨show (0:Int)<=(j:Int)/\(j:Int)<(u.on.length:Nat) from ⟨by omega,by omega⟩,?_⟩;conv=>whnf
  (generalize hrq:ja5 _ _ (jjL u.on)=rq;obtain rfl:rq=intA h :: ntA b:=hrq.symm.trans (hrow);clear hrq;conv=>whnf)
  refine jac [] rfl (fun _=>a2) ?_;rintro r ⟨_,rfl⟩;conv=>whnf
  refine⟨⟨o1,show h<((40:Nat):Int) by omega⟩,?_⟩;conv=>whnf
  refine jbu (.own 0) e (fun i=>if i=h.toNat then (l.length:Int) else e i) u.du.length u.vo.length l.length h.toNat (by omega) (fun i hi=>rfl) ?_;conv=>whnf
  refine⟨show (0:Int)<=(j:Int)/\(j:Int)<(u.on.length:Nat) from ⟨by omega,by omega⟩,?_⟩;conv=>whnf
  (generalize hrq:ja5 _ _ (jjL u.on)=rq;obtain rfl:rq=intA h :: ntA b:=hrq.symm.trans (hrow);clear hrq;conv=>whnf)
  refine jcX 1 [] rfl rfl (fun _=>hcd) ?_;rintro e9 k9 n9 cs9 r ⟨rfl,rfl,rfl,rfl,rfl⟩;conv=>whnf
  refine⟨⟨show l.length+m.length<=maxLen by unfold maxLen;omega,show (l.length+m.length)*16<=140737488355328 by omega⟩,?_⟩;conv=>whnf
  refine⟨⟨show l.length+m.length+1<=maxLen by unfold maxLen;omega,show (l.length+m.length+1)*16<=140737488355328 by omega⟩,?_⟩;conv=>whnf
  refine⟨show lo .i64<=(j:Int)+1/\(j:Int)+1<=hi .i64 from ja7 (by omega),?_⟩;conv=>whnf
  refine⟨(j+1,l++m++[(23,0)],fun i=>if i=h.toNat then (l.length:Int) else e i),ja0 [0] ?_,⟨show j+1<=u.on.length by omega,g2,?_,?_,?_⟩,show u.on.length-(j+1)<u.on.length-j by omega⟩
  ·conv=>whnf
   repeat' constructor
   show Row.live _ 2 (l.length+m.length+1) (jaJ l++jaJ m++[intA 23,intA 0])=Row.live _ 2 (l++m++[((23:Int),(0:Int))]).length (jaJ (l++m++[(23,0)]))
   rw[List.length_append,List.length_append,jav,jb3];rfl
  ·show (l++m++[((23:Int),(0:Int))]).length+szH (u.on.drop (j+1))<=900000
   rw[List.length_append,List.length_append,List.length_singleton];omega
  ·intro i hi
   simp only at hi
   rcases List.mem_append.1 hi with hi | hi
   ·rcases List.mem_append.1 hi with hi | hi
    ·exact g4 i hi
    ·exact hcok i hi
   ·rw[List.mem_singleton.1 hi];exact⟨by simp,fun h=>by simp at h⟩
  ·intro i
   show (if i=h.toNat then (l.length:Int) else e i)<((l++m++[((23:Int),(0:Int))]).length:Int)
   have g5i:=g5 i
   rw[List.length_append,List.length_append,List.length_singleton]
   split <;> omega
 rw[decide_eq_false (show ¬ (j:Int)<(u.on.length:Int) by omega)]
 have hcm:hcL (ixU u) [] l e=jks u:=by rw[<- g2,List.drop_of_length_le hge]
 have hcl:l.length<=900000:=by omega
 unfold hcL at hcm
 have hjm:jf5 l:=fun i hi=>(g4 i hi).2
 have hoo:∀ i ∈ l,1<=i.1/\i.1<=23:=fun i hi=>(g4 i hi).1
 conv=>whnf
 unfold RcP;rw[<- hcm]
 simp only
 by_cases hbig:400<l.length
 ·rw[decide_eq_true (show (400:Int)<(l.length:Int) by omega)];conv=>whnf
  exact .inl ⟨hbig,rfl⟩
 rw[decide_eq_false (show ¬ (400:Int)<(l.length:Int) by omega)];conv=>whnf
 refine jbC [0] ?_;conv=>whnf
 refine ja4 [2,4] ?_;conv=>whnf
 refine ja9 (fun j:Nat=>[(8,.v (.int .i64 j))]) (fun _=>[utA u,je9,pgL l e u.du.length u.vo.length]) (fun _=>[]) (fun j=>j<=40 /\ ∀ i,i<j->OkE l e i) (fun j=>40-j) 0 ?_ ⟨Nat.zero_le _,fun i hi=>by omega⟩ ?_
 ·repeat' constructor
 rintro j ⟨hj,hall⟩;conv=>whnf
 rcases Nat.lt_or_ge j 40 with hlt | hge
 ·rw[decide_eq_true (show (j:Int)<40 by omega)]
  by_cases hneg:e j<0
  ·have hdn:=jqQ l e u.du.length u.vo.length j hlt (by omega) hneg
   conv=>whnf
   refine jac [] rfl (fun _=>hdn) ?_;rintro r rfl;conv=>whnf
   refine⟨show lo .i64<=(j:Int)+1/\(j:Int)+1<=hi .i64 from ja7 (by omega),?_⟩;conv=>whnf
   refine⟨j+1,ja0 [] ?_,⟨show j+1<=40 by omega,fun i hi => ?_⟩,show 40-(j+1)<40-j by omega⟩
   ·conv=>whnf
    repeat' constructor
   ·by_cases q:i=j
    ·rw[q];exact .inl hneg
    ·exact hall i (by have:i<j+1:=hi;omega)
  have hdp:=jiC l e u.du.length u.vo.length j hlt (by omega) hjm hoo ⟨by omega,g5 j⟩
  conv=>whnf
  refine jac [] rfl (fun _=>hdp) ?_;rintro r ⟨out,ok,m,hd,rfl,hm⟩;conv=>whnf
  by_cases h16:(16:Int)<m
  ·rw[decide_eq_true h16];conv=>whnf
   exact .inr ⟨hbig,.inl ⟨⟨j,hlt,by omega,out,ok,hd,fun h=>by have:=hm.2 h;omega⟩,rfl⟩⟩
  rw[decide_eq_false h16];conv=>whnf
  refine⟨show lo .i64<=(j:Int)+1/\(j:Int)+1<=hi .i64 from ja7 (by omega),?_⟩;conv=>whnf
  refine⟨j+1,ja0 [] ?_,⟨show j+1<=40 by omega,fun i hi => ?_⟩,show 40-(j+1)<40-j by omega⟩
  ·conv=>whnf
   repeat' constructor
  ·by_cases q:i=j
   ·rw[q];exact .inr ⟨by omega,out,ok,hd,hm.1 (by omega)⟩
   ·exact hall i (by have:i<j+1:=hi;omega)
 obtain rfl:j=40:=by omega
 rw[decide_eq_false (show ¬ ((40:Nat):Int)<40 by omega)];conv=>whnf
 exact .inr ⟨hbig,.inr ⟨hall,rfl⟩⟩
def jxd (n:Nat) (r:A):Prop := ∃ (code:List Ic) (e:Nat->Int) (du vo:Int),code.length<=n/\r=pgA code e du vo
theorem je7 {a:Int} (b:Int) (h:0<=a):a.tmod b=a % b:=Int.tmod_eq_emod_of_nonneg h
theorem jhu:∀ (l:List Ic) (k:Nat) (hk:k<l.length) (v:Int),(jaJ l).set (k*2) (intA v)=jaJ (l.set k (v,l[k].2))
 | [],k,hk,v=>by simp at hk
 | a :: l,0,hk,v=>by rw[List.set_cons_zero,jaW,jaW];rfl
 | a :: l,k+1,hk,v=>by
  rw[List.set_cons_succ,jaW,jaW]
  have h:=jhu l k (by simpa using hk) v
  rw[show (k+1)*2=k*2+2 by omega]
  show intA a.1 :: intA a.2 :: (jaJ l).set (k*2) (intA v)=_
  rw[h];rfl
theorem jl6:∀ (l:List Ic) (k:Nat),(jaJ l).take (k*2)=jaJ (l.take k)
 | [],k=>by rw[List.take_nil,jdu,List.take_nil]
 | a :: l,0=>by rw[Nat.zero_mul,List.take_zero,List.take_zero,jdu]
 | a :: l,k+1=>by
  rw[List.take_succ_cons,jaW,jaW,show (k+1)*2=k*2+2 by omega,<- jl6 l k];rfl
set_option maxHeartbeats 4000000 in
theorem jqx (code:List Ic) (e:Nat->Int) (du vo how by':Int) (hl:code.length<=100000):Spec Tryz.prog 24 [] [pgA code e du vo,intA how,intA by'] fun _ r=>jxd code.length r:=by
 have a1:=jbv by' 1000000 (by decide)
 have a2:=jbv how 10 (by decide)
 have a3:=fun h=>jbv (how.tdiv 10) code.length h
 refine ja3 (ja2 jAm xs0 0) (fun _ _ h=>h) Tryz.func24 rfl (by kernel_rfl) rfl (by kernel_rfl) ?_;intro _;conv=>whnf
 refine⟨⟨by unfold maxLen;omega,by omega⟩,?_⟩;rw[Nat.zero_add code.length,List.nil_append];conv=>whnf
 refine jac [] rfl (fun _=>a1) ?_;rintro r ⟨hi1,rfl⟩
 have hz1:=jbO hi1 (m:=1000000) (by decide)
 generalize jcq by' 1000000=z at *
 conv=>whnf
 refine jac [] rfl (fun _=>a2) ?_;rintro r ⟨hi2,rfl⟩
 have hz2:=jbO hi2 (m:=10) (by decide)
 generalize jcq how 10=k at *;conv=>whnf
 by_cases h9:k=9
 ·rw[decide_eq_true h9];conv=>whnf
  refine⟨by decide,?_⟩;conv=>whnf
  refine⟨by rw[je7 20 hz1.1];exact ja7 (by omega),?_⟩;conv=>whnf
  exact⟨code,e,z.tmod 20-1,vo,Nat.le_refl _,rfl⟩
 rw[decide_eq_false h9]
 have hq:z.tdiv 40=z / 40:=Int.tdiv_eq_ediv_of_nonneg hz1.1
 have hm40:z.tmod 40=z % 40:=je7 40 hz1.1
 have hv:0<=(z.tdiv 40).tmod ((code.length:Int)+3)/\(z.tdiv 40).tmod ((code.length:Int)+3)<(code.length:Int)+3:=by
  rw[hq,je7 _ (by omega)];exact⟨Int.emod_nonneg _ (by omega),Int.emod_lt_of_pos _ (by omega)⟩
 conv=>whnf
 by_cases hn:code.length=0
 ·rw[decide_eq_true (show (code.length:Int)=0 by omega)];conv=>whnf
  refine⟨by decide,?_⟩;conv=>whnf
  refine⟨by decide,?_⟩;conv=>whnf
  refine⟨by rw[hq];exact ja7 (by omega),?_⟩;conv=>whnf
  refine⟨ja7 (by omega),?_⟩;conv=>whnf
  refine⟨by omega,?_⟩;conv=>whnf
  refine⟨show lo .i64<=(z.tdiv 40).tmod ((code.length:Int)+3)-2/\(z.tdiv 40).tmod ((code.length:Int)+3)-2<=hi .i64 from ja7 (by omega),?_⟩;conv=>whnf
  refine⟨show (0:Int)<=z.tmod 40/\z.tmod 40<((40:Nat):Int) from ⟨by omega,by omega⟩,?_⟩;conv=>whnf
  refine jbu (.own 0) e (fun i=>if i=(z.tmod 40).toNat then (z.tdiv 40).tmod ((code.length:Int)+3)-2 else e i) du vo ((z.tdiv 40).tmod ((code.length:Int)+3)-2) (z.tmod 40).toNat (by omega) (fun i hi=>rfl) ?_;conv=>whnf
  exact⟨code,fun i=>if i=(z.tmod 40).toNat then (z.tdiv 40).tmod ((code.length:Int)+3)-2 else e i,du,vo,Nat.le_refl _,rfl⟩
 rw[decide_eq_false (show ¬ (code.length:Int)=0 by omega)];conv=>whnf
 by_cases h8:k=8
 ·rw[decide_eq_true h8];conv=>whnf
  refine⟨by decide,?_⟩;conv=>whnf
  refine⟨by decide,?_⟩;conv=>whnf
  refine⟨by rw[hq];exact ja7 (by omega),?_⟩;conv=>whnf
  refine⟨ja7 (by omega),?_⟩;conv=>whnf
  refine⟨by omega,?_⟩;conv=>whnf
  refine⟨show lo .i64<=(z.tdiv 40).tmod ((code.length:Int)+3)-2/\(z.tdiv 40).tmod ((code.length:Int)+3)-2<=hi .i64 from ja7 (by omega),?_⟩;conv=>whnf
  refine⟨show (0:Int)<=z.tmod 40/\z.tmod 40<((40:Nat):Int) from ⟨by omega,by omega⟩,?_⟩;conv=>whnf
  refine jbu (.own 0) e (fun i=>if i=(z.tmod 40).toNat then (z.tdiv 40).tmod ((code.length:Int)+3)-2 else e i) du vo ((z.tdiv 40).tmod ((code.length:Int)+3)-2) (z.tmod 40).toNat (by omega) (fun i hi=>rfl) ?_;conv=>whnf
  exact⟨code,fun i=>if i=(z.tmod 40).toNat then (z.tdiv 40).tmod ((code.length:Int)+3)-2 else e i,du,vo,Nat.le_refl _,rfl⟩
 rw[decide_eq_false h8];conv=>whnf
 refine⟨by decide,?_⟩;conv=>whnf
 have htd:(how.tdiv 10).natAbs=how.natAbs / 10:=Int.natAbs_tdiv how 10
 refine⟨show lo .i64<=how.tdiv 10/\how.tdiv 10<=hi .i64 from ja7 (by omega),?_⟩;conv=>whnf
 refine jac [] rfl (fun _=>a3 ⟨by omega,by omega⟩) ?_;rintro r ⟨hi3,rfl⟩
 have hz3:=jbO hi3 (m:=code.length) (by omega)
 generalize jcq (how.tdiv 10) code.length=y at *
 have hy:y.toNat<code.length:=by omega
 have hw:0<=z.tmod ((code.length:Int)+2)/\z.tmod ((code.length:Int)+2)<(code.length:Int)+2:=by
  rw[je7 _ hz1.1];exact⟨Int.emod_nonneg _ (by omega),Int.emod_lt_of_pos _ (by omega)⟩
 rcases (show (k=0 ∨ k=1 ∨ k=2 ∨ k=3) ∨ (k=4 ∨ k=5) ∨ k=6 ∨ k=7 by omega) with h | h | h | h
 ·rcases h with rfl | rfl | rfl | rfl
  all_goals
   conv=>whnf
   refine⟨ja7 (by omega),?_⟩;conv=>whnf
   refine⟨by omega,?_⟩;conv=>whnf
   refine⟨show lo .i64<=z.tmod ((code.length:Int)+2)-1/\z.tmod ((code.length:Int)+2)-1<=hi .i64 from ja7 (by omega),?_⟩;conv=>whnf
   refine⟨show (0:Int)<=y/\y<(code.length:Nat) from ⟨by omega,by omega⟩,?_⟩;conv=>whnf
   refine jd3 (show y.toNat*2+1<(jaJ code).length by rw[jfh];omega) ?_;conv=>whnf
   refine⟨code.set y.toNat ((code[y.toNat]'hy).1,z.tmod ((code.length:Int)+2)-1),e,du,vo,by rw[List.length_set];exact Nat.le_refl _,?_⟩;unfold pgA pgL;rw[List.length_set,<- jgT code y.toNat hy];rfl
 ·rcases h with rfl | rfl
  all_goals
   conv=>whnf
   refine⟨by decide,?_⟩;conv=>whnf
   refine⟨show (0:Int)<=y/\y<(code.length:Nat) from ⟨by omega,by omega⟩,?_⟩;conv=>whnf
   refine jd3 (show y.toNat*2<(jaJ code).length by rw[jfh];omega) ?_;conv=>whnf
   refine⟨code.set y.toNat (z.tmod 25,(code[y.toNat]'hy).2),e,du,vo,by rw[List.length_set];exact Nat.le_refl _,?_⟩;unfold pgA pgL;rw[List.length_set,<- jhu code y.toNat hy];rfl
 ·subst h;conv=>whnf
  refine⟨by decide,?_⟩;conv=>whnf
  refine⟨by rw[je7 23 hz1.1];exact ja7 (by omega),?_⟩;conv=>whnf
  refine⟨show (0:Int)<=y/\y<(code.length:Nat) from ⟨by omega,by omega⟩,?_⟩;conv=>whnf
  refine jd3 (show y.toNat*2<(jaJ code).length by rw[jfh];omega) ?_;conv=>whnf
  refine jd3 (show y.toNat*2+1<((jaJ code).set (y.toNat*2) (intA (1+z.tmod 23))).length by rw[List.length_set,jfh];omega) ?_;conv=>whnf
  refine⟨(code.set y.toNat (1+z.tmod 23,(code[y.toNat]'hy).2)).set y.toNat (1+z.tmod 23,0),e,du,vo,by rw[List.length_set,List.length_set];exact Nat.le_refl _,?_⟩
  have hy2:y.toNat<(code.set y.toNat (1+z.tmod 23,(code[y.toNat]'hy).2)).length:=by rw[List.length_set];exact hy
  have e3:=jgT (code.set y.toNat (1+z.tmod 23,(code[y.toNat]'hy).2)) y.toNat hy2 0
  rw[List.getElem_set_self,<- jhu code y.toNat hy] at e3;unfold pgA pgL;rw[List.length_set,List.length_set,<- e3];rfl
 ·subst h;conv=>whnf
  refine⟨show (0:Int)<=0/\0<=y/\y<=(code.length:Int) from ⟨by omega,by omega,by omega⟩,?_⟩;conv=>whnf
  refine⟨code.take y.toNat,e,du,vo,by rw[List.length_take];omega,?_⟩
  have e4:(code.take y.toNat).length=y.toNat:=by rw[List.length_take];omega
  unfold pgA pgL;rw[e4,<- jl6];rfl
theorem jel (l:List Int) (i:Nat) (m:Int) (hm:1<=m/\m<=1000000):Spec Tryz.prog 56 [] [.sl 1 l.length (jaq l),.v (.int .i64 i),intA m] fun _ r => ∃ v:Int,(0<=v/\v<m)/\r=intA v:=by
 refine ja3 (ja2 jax xs0 0) (fun _ _ h=>h) Tryz.func56 rfl (by kernel_rfl) rfl (by kernel_rfl) ?_;intro hok;conv=>whnf
 rw[decide_eq_false (show ¬ (i:Int)<0 by omega)];conv=>whnf
 by_cases hi:i<l.length
 ·have hr:=jbA l i hi
  rw[decide_eq_false (show ¬ (l.length:Int)<=i by omega)];generalize l[i]=x at hr
  have ha:=jbv x m ⟨by omega,by omega⟩
  conv=>whnf
  refine⟨show (0:Int)<=(i:Int)/\(i:Int)<(l.length:Nat) from ⟨by omega,by omega⟩,?_⟩;conv=>whnf
  (generalize hrq:ja5 _ _ (jaq l)=rq;obtain rfl:rq=[intA x]:=hrq.symm.trans (hr);clear hrq;conv=>whnf)
  refine jac [] rfl (fun _=>ha) ?_;rintro r ⟨hx,rfl⟩;conv=>whnf
  exact⟨_,jbO hx (by omega),rfl⟩
 ·rw[decide_eq_true (show (l.length:Int)<=i by omega)];conv=>whnf
  exact⟨0,⟨by omega,by omega⟩,rfl⟩
set_option maxHeartbeats 8000000 in
theorem jtV (l:List Int):Spec Tryz.prog 23 [] [.sl 1 l.length (jaq l)] fun _ r=>jxd 24 r:=by
 have p0:=jel l 0 3 (by decide)
 have p1:=jel l 1 3 (by decide)
 refine ja3 (ja2 jax xs0 0) (fun _ _ h=>h) Tryz.func23 rfl (by kernel_rfl) rfl (by kernel_rfl) ?_;intro _;conv=>whnf
 refine jac [] rfl (fun _=>p0) ?_;rintro r ⟨du,hdu,rfl⟩;conv=>whnf
 refine jac [] rfl (fun _=>p1) ?_;rintro r ⟨v0,hv0,rfl⟩;conv=>whnf
 refine⟨ja7 (by omega),?_⟩
 obtain⟨vo,hvo⟩ : ∃ vo,v0+1=vo:=⟨_,rfl⟩
 rw[hvo];conv=>whnf
 refine ja4 [0,2,3] ?_;conv=>whnf
 refine ja9 (fun j:Nat=>[(4,.v (.int .i64 j))]) (fun j=>[je9,.v (.slice none 0 0) :: pgE (e1 j) du vo]) (fun _=>[]) (fun j=>j<=40) (fun j=>40-j) 0 ?_ (by omega) ?_
 ·repeat' constructor
 intro j hj;conv=>whnf
 rcases Nat.lt_or_ge j 40 with hlt | hge
 ·rw[decide_eq_true (show (j:Int)<40 by omega)];conv=>whnf
  refine⟨show (0:Int)<=(j:Int)/\(j:Int)<((40:Nat):Int) from ⟨by omega,by omega⟩,?_⟩;conv=>whnf
  refine jbu (.v (.slice none 0 0)) (e1 j) (e1 (j+1)) du vo (-1) j hlt (fun i hi => ?_) ?_
  ·unfold e1
   by_cases h:i=j
   ·rw[if_pos h,if_pos (by omega)]
   ·rw[if_neg h]
    by_cases h2:i<j
    ·rw[if_pos h2,if_pos (by omega)]
    ·rw[if_neg h2,if_neg (by omega)]
  conv=>whnf
  refine⟨show lo .i64<=(j:Int)+1/\(j:Int)+1<=hi .i64 from ja7 (by omega),?_⟩;conv=>whnf
  refine⟨j+1,ja0 [] ?_,show j+1<=40 by omega,show 40-(j+1)<40-j by omega⟩;conv=>whnf
  repeat' constructor
 rw[decide_eq_false (show ¬ (j:Int)<40 by omega)]
 obtain rfl:j=40:=by omega
 conv=>whnf
 refine jlp 52 2 [je9,.own 0 :: pgE (e1 40) du vo] ⟨jcu _ _,⟨.inr ⟨rfl,rfl⟩,jcu _ _⟩,trivial⟩ ?_;conv=>whnf
 refine ja4 [0,2,3] ?_;conv=>whnf
 refine ja9 (fun x:Nat × List Ic=>[(5,.v (.int .i64 x.1))]) (fun x=>[je9,.own 0 :: pgE (e1 40) du vo]) (fun x=>[.live 52 2 x.2.length (jaJ x.2)]) (fun x=>x.1<=l.length/\x.1<=24/\x.2.length=x.1) (fun x=>l.length-x.1) (0,[]) ?_ ⟨Nat.zero_le _,Nat.zero_le _,rfl⟩ ?_
 ·repeat' constructor
  show Row.live _ 2 0 []=Row.live _ 2 0 (jaJ [])
  rw[jdu]
 rintro⟨i,c⟩ ⟨g1,g2,g3⟩
 simp only at g1 g2 g3
 conv=>whnf
 by_cases hA:i<l.length
 ·rw[decide_eq_true (show (i:Int)<(l.length:Int) by omega)];conv=>whnf
  by_cases hB:i<24
  ·rw[decide_eq_true (show (i:Int)<24 by omega)]
   have hr:=jbA l i hA
   generalize l[i]=x at hr
   have ha:=jbv x 10000000 (by decide)
   conv=>whnf
   refine⟨show (0:Int)<=(i:Int)/\(i:Int)<(l.length:Nat) from ⟨by omega,by omega⟩,?_⟩;conv=>whnf
   (generalize hrq:ja5 _ _ (jaq l)=rq;obtain rfl:rq=[intA x]:=hrq.symm.trans (hr);clear hrq;conv=>whnf)
   refine jac [] rfl (fun _=>ha) ?_;rintro r ⟨hx,rfl⟩
   have hz:=jbO hx (m:=10000000) (by decide)
   generalize jcq x 10000000=z at *
   have hq23:z.tdiv 23=z / 23:=Int.tdiv_eq_ediv_of_nonneg hz.1
   have hq851:z.tdiv 851=z / 851:=Int.tdiv_eq_ediv_of_nonneg hz.1
   have hq943:z.tdiv 943=z / 943:=Int.tdiv_eq_ediv_of_nonneg hz.1
   have hm36:(z.tdiv 851).tmod 36=z / 851 % 36:=by rw[hq851];exact je7 36 (by omega)
   have hm23:z.tmod 23=z % 23:=je7 23 hz.1
   conv=>whnf
   refine⟨by decide,?_⟩;conv=>whnf
   refine⟨by rw[hm23];exact ja7 (by omega),?_⟩
   obtain⟨op,hop⟩ : ∃ op,1+z.tmod 23=op:=⟨_,rfl⟩
   rw[hop];clear hop
   by_cases k1:op=1 ∨ op=4 ∨ op=17 ∨ op=18 ∨ op=19
   ·rcases k1 with h | h | h | h | h
    all_goals
     rw[h];conv=>whnf
     refine⟨by decide,?_⟩;conv=>whnf
     refine⟨by rw[hq23];exact ja7 (by omega),?_⟩;conv=>whnf
     refine⟨by decide,?_⟩;conv=>whnf
     refine⟨by decide,?_⟩;conv=>whnf
     refine⟨by rw[hq23];exact ja7 (by omega),?_⟩;conv=>whnf
     refine⟨by decide,?_⟩;conv=>whnf
     by_cases t1:(z.tdiv 23).tmod 37=36
     ·rw[decide_eq_true t1];conv=>whnf
      refine⟨by decide,?_⟩;conv=>whnf
      refine⟨by rw[hq851];exact ja7 (by omega),?_⟩;conv=>whnf
      refine⟨by decide,?_⟩;conv=>whnf
      refine⟨by rw[hm36];exact ja7 (by omega),?_⟩;conv=>whnf
      refine⟨by decide,?_⟩;conv=>whnf
      refine⟨by rw[hq23];exact ja7 (by omega),?_⟩;conv=>whnf
      refine⟨by decide,?_⟩;conv=>whnf
      by_cases t2:(z.tdiv 23).tmod 41=40
      ·rw[decide_eq_true t2];conv=>whnf
       refine⟨by decide,?_⟩;conv=>whnf
       refine⟨by rw[hq943];exact ja7 (by omega),?_⟩;conv=>whnf
       refine⟨by decide,?_⟩;conv=>whnf
       refine⟨⟨show c.length+1<=maxLen by unfold maxLen;omega,show (c.length+1)*16<=140737488355328 by omega⟩,?_⟩;conv=>whnf
       refine⟨show lo .i64<=(i:Int)+1/\(i:Int)+1<=hi .i64 from ja7 (by omega),?_⟩;conv=>whnf
       refine⟨(i+1,c++[(((z.tdiv 943).tmod 27),((z.tdiv 851).tmod 36-3))]),ja0 [0] ?_,⟨show i+1<=l.length by omega,show i+1<=24 by omega,show (c++[((((z.tdiv 943).tmod 27):Int),(((z.tdiv 851).tmod 36-3):Int))]).length=i+1 by rw[List.length_append,g3];rfl⟩,show l.length-(i+1)<l.length-i by omega⟩;conv=>whnf
       repeat' constructor
       rw[show (i+1,c++[((((z.tdiv 943).tmod 27):Int),(((z.tdiv 851).tmod 36-3):Int))]).2=c++[((((z.tdiv 943).tmod 27):Int),(((z.tdiv 851).tmod 36-3):Int))] from rfl,List.length_append,jav]
       try rw[h]
       rfl
      ·rw[decide_eq_false t2];conv=>whnf
       refine⟨⟨show c.length+1<=maxLen by unfold maxLen;omega,show (c.length+1)*16<=140737488355328 by omega⟩,?_⟩;conv=>whnf
       refine⟨show lo .i64<=(i:Int)+1/\(i:Int)+1<=hi .i64 from ja7 (by omega),?_⟩;conv=>whnf
       refine⟨(i+1,c++[(op,((z.tdiv 851).tmod 36-3))]),ja0 [0] ?_,⟨show i+1<=l.length by omega,show i+1<=24 by omega,show (c++[((op:Int),(((z.tdiv 851).tmod 36-3):Int))]).length=i+1 by rw[List.length_append,g3];rfl⟩,show l.length-(i+1)<l.length-i by omega⟩;conv=>whnf
       repeat' constructor
       rw[show (i+1,c++[((op:Int),(((z.tdiv 851).tmod 36-3):Int))]).2=c++[((op:Int),(((z.tdiv 851).tmod 36-3):Int))] from rfl,List.length_append,jav]
       try rw[h]
       rfl
     ·rw[decide_eq_false t1];conv=>whnf
      refine⟨by decide,?_⟩;conv=>whnf
      refine⟨by rw[hq23];exact ja7 (by omega),?_⟩;conv=>whnf
      refine⟨by decide,?_⟩;conv=>whnf
      by_cases t2:(z.tdiv 23).tmod 41=40
      ·rw[decide_eq_true t2];conv=>whnf
       refine⟨by decide,?_⟩;conv=>whnf
       refine⟨by rw[hq943];exact ja7 (by omega),?_⟩;conv=>whnf
       refine⟨by decide,?_⟩;conv=>whnf
       refine⟨⟨show c.length+1<=maxLen by unfold maxLen;omega,show (c.length+1)*16<=140737488355328 by omega⟩,?_⟩;conv=>whnf
       refine⟨show lo .i64<=(i:Int)+1/\(i:Int)+1<=hi .i64 from ja7 (by omega),?_⟩;conv=>whnf
       refine⟨(i+1,c++[(((z.tdiv 943).tmod 27),((z.tdiv 23).tmod 8))]),ja0 [0] ?_,⟨show i+1<=l.length by omega,show i+1<=24 by omega,show (c++[((((z.tdiv 943).tmod 27):Int),(((z.tdiv 23).tmod 8):Int))]).length=i+1 by rw[List.length_append,g3];rfl⟩,show l.length-(i+1)<l.length-i by omega⟩;conv=>whnf
       repeat' constructor
       rw[show (i+1,c++[((((z.tdiv 943).tmod 27):Int),(((z.tdiv 23).tmod 8):Int))]).2=c++[((((z.tdiv 943).tmod 27):Int),(((z.tdiv 23).tmod 8):Int))] from rfl,List.length_append,jav]
       try rw[h]
       rfl
      ·rw[decide_eq_false t2];conv=>whnf
       refine⟨⟨show c.length+1<=maxLen by unfold maxLen;omega,show (c.length+1)*16<=140737488355328 by omega⟩,?_⟩;conv=>whnf
       refine⟨show lo .i64<=(i:Int)+1/\(i:Int)+1<=hi .i64 from ja7 (by omega),?_⟩;conv=>whnf
       refine⟨(i+1,c++[(op,((z.tdiv 23).tmod 8))]),ja0 [0] ?_,⟨show i+1<=l.length by omega,show i+1<=24 by omega,show (c++[((op:Int),(((z.tdiv 23).tmod 8):Int))]).length=i+1 by rw[List.length_append,g3];rfl⟩,show l.length-(i+1)<l.length-i by omega⟩;conv=>whnf
       repeat' constructor
       rw[show (i+1,c++[((op:Int),(((z.tdiv 23).tmod 8):Int))]).2=c++[((op:Int),(((z.tdiv 23).tmod 8):Int))] from rfl,List.length_append,jav]
       try rw[h]
       rfl
   by_cases k2:op=2 ∨ op=3
   ·rcases k2 with h | h
    all_goals
     rw[h];conv=>whnf
     refine⟨by decide,?_⟩;conv=>whnf
     refine⟨by rw[hq23];exact ja7 (by omega),?_⟩;conv=>whnf
     refine⟨ja7 (by omega),?_⟩;conv=>whnf
     refine⟨by omega,?_⟩;conv=>whnf
     refine⟨by decide,?_⟩;conv=>whnf
     refine⟨by rw[hq23];exact ja7 (by omega),?_⟩;conv=>whnf
     refine⟨by decide,?_⟩;conv=>whnf
     by_cases t1:(z.tdiv 23).tmod 37=36
     ·rw[decide_eq_true t1];conv=>whnf
      refine⟨by decide,?_⟩;conv=>whnf
      refine⟨by rw[hq851];exact ja7 (by omega),?_⟩;conv=>whnf
      refine⟨by decide,?_⟩;conv=>whnf
      refine⟨by rw[hm36];exact ja7 (by omega),?_⟩;conv=>whnf
      refine⟨by decide,?_⟩;conv=>whnf
      refine⟨by rw[hq23];exact ja7 (by omega),?_⟩;conv=>whnf
      refine⟨by decide,?_⟩;conv=>whnf
      by_cases t2:(z.tdiv 23).tmod 41=40
      ·rw[decide_eq_true t2];conv=>whnf
       refine⟨by decide,?_⟩;conv=>whnf
       refine⟨by rw[hq943];exact ja7 (by omega),?_⟩;conv=>whnf
       refine⟨by decide,?_⟩;conv=>whnf
       refine⟨⟨show c.length+1<=maxLen by unfold maxLen;omega,show (c.length+1)*16<=140737488355328 by omega⟩,?_⟩;conv=>whnf
       refine⟨show lo .i64<=(i:Int)+1/\(i:Int)+1<=hi .i64 from ja7 (by omega),?_⟩;conv=>whnf
       refine⟨(i+1,c++[(((z.tdiv 943).tmod 27),((z.tdiv 851).tmod 36-3))]),ja0 [0] ?_,⟨show i+1<=l.length by omega,show i+1<=24 by omega,show (c++[((((z.tdiv 943).tmod 27):Int),(((z.tdiv 851).tmod 36-3):Int))]).length=i+1 by rw[List.length_append,g3];rfl⟩,show l.length-(i+1)<l.length-i by omega⟩;conv=>whnf
       repeat' constructor
       rw[show (i+1,c++[((((z.tdiv 943).tmod 27):Int),(((z.tdiv 851).tmod 36-3):Int))]).2=c++[((((z.tdiv 943).tmod 27):Int),(((z.tdiv 851).tmod 36-3):Int))] from rfl,List.length_append,jav]
       try rw[h]
       rfl
      ·rw[decide_eq_false t2];conv=>whnf
       refine⟨⟨show c.length+1<=maxLen by unfold maxLen;omega,show (c.length+1)*16<=140737488355328 by omega⟩,?_⟩;conv=>whnf
       refine⟨show lo .i64<=(i:Int)+1/\(i:Int)+1<=hi .i64 from ja7 (by omega),?_⟩;conv=>whnf
       refine⟨(i+1,c++[(op,((z.tdiv 851).tmod 36-3))]),ja0 [0] ?_,⟨show i+1<=l.length by omega,show i+1<=24 by omega,show (c++[((op:Int),(((z.tdiv 851).tmod 36-3):Int))]).length=i+1 by rw[List.length_append,g3];rfl⟩,show l.length-(i+1)<l.length-i by omega⟩;conv=>whnf
       repeat' constructor
       rw[show (i+1,c++[((op:Int),(((z.tdiv 851).tmod 36-3):Int))]).2=c++[((op:Int),(((z.tdiv 851).tmod 36-3):Int))] from rfl,List.length_append,jav]
       try rw[h]
       rfl
     ·rw[decide_eq_false t1];conv=>whnf
      refine⟨by decide,?_⟩;conv=>whnf
      refine⟨by rw[hq23];exact ja7 (by omega),?_⟩;conv=>whnf
      refine⟨by decide,?_⟩;conv=>whnf
      by_cases t2:(z.tdiv 23).tmod 41=40
      ·rw[decide_eq_true t2];conv=>whnf
       refine⟨by decide,?_⟩;conv=>whnf
       refine⟨by rw[hq943];exact ja7 (by omega),?_⟩;conv=>whnf
       refine⟨by decide,?_⟩;conv=>whnf
       refine⟨⟨show c.length+1<=maxLen by unfold maxLen;omega,show (c.length+1)*16<=140737488355328 by omega⟩,?_⟩;conv=>whnf
       refine⟨show lo .i64<=(i:Int)+1/\(i:Int)+1<=hi .i64 from ja7 (by omega),?_⟩;conv=>whnf
       refine⟨(i+1,c++[(((z.tdiv 943).tmod 27),((z.tdiv 23).tmod (du+vo)))]),ja0 [0] ?_,⟨show i+1<=l.length by omega,show i+1<=24 by omega,show (c++[((((z.tdiv 943).tmod 27):Int),(((z.tdiv 23).tmod (du+vo)):Int))]).length=i+1 by rw[List.length_append,g3];rfl⟩,show l.length-(i+1)<l.length-i by omega⟩;conv=>whnf
       repeat' constructor
       rw[show (i+1,c++[((((z.tdiv 943).tmod 27):Int),(((z.tdiv 23).tmod (du+vo)):Int))]).2=c++[((((z.tdiv 943).tmod 27):Int),(((z.tdiv 23).tmod (du+vo)):Int))] from rfl,List.length_append,jav]
       try rw[h]
       rfl
      ·rw[decide_eq_false t2];conv=>whnf
       refine⟨⟨show c.length+1<=maxLen by unfold maxLen;omega,show (c.length+1)*16<=140737488355328 by omega⟩,?_⟩;conv=>whnf
       refine⟨show lo .i64<=(i:Int)+1/\(i:Int)+1<=hi .i64 from ja7 (by omega),?_⟩;conv=>whnf
       refine⟨(i+1,c++[(op,((z.tdiv 23).tmod (du+vo)))]),ja0 [0] ?_,⟨show i+1<=l.length by omega,show i+1<=24 by omega,show (c++[((op:Int),(((z.tdiv 23).tmod (du+vo)):Int))]).length=i+1 by rw[List.length_append,g3];rfl⟩,show l.length-(i+1)<l.length-i by omega⟩;conv=>whnf
       repeat' constructor
       rw[show (i+1,c++[((op:Int),(((z.tdiv 23).tmod (du+vo)):Int))]).2=c++[((op:Int),(((z.tdiv 23).tmod (du+vo)):Int))] from rfl,List.length_append,jav]
       try rw[h]
       rfl
   by_cases k3:op=15 ∨ op=16
   ·rcases k3 with h | h
    all_goals
     rw[h];conv=>whnf
     refine⟨by decide,?_⟩;conv=>whnf
     refine⟨by rw[hq23];exact ja7 (by omega),?_⟩;conv=>whnf
     refine⟨by omega,?_⟩;conv=>whnf
     refine⟨by decide,?_⟩;conv=>whnf
     refine⟨by rw[hq23];exact ja7 (by omega),?_⟩;conv=>whnf
     refine⟨by decide,?_⟩;conv=>whnf
     by_cases t1:(z.tdiv 23).tmod 37=36
     ·rw[decide_eq_true t1];conv=>whnf
      refine⟨by decide,?_⟩;conv=>whnf
      refine⟨by rw[hq851];exact ja7 (by omega),?_⟩;conv=>whnf
      refine⟨by decide,?_⟩;conv=>whnf
      refine⟨by rw[hm36];exact ja7 (by omega),?_⟩;conv=>whnf
      refine⟨by decide,?_⟩;conv=>whnf
      refine⟨by rw[hq23];exact ja7 (by omega),?_⟩;conv=>whnf
      refine⟨by decide,?_⟩;conv=>whnf
      by_cases t2:(z.tdiv 23).tmod 41=40
      ·rw[decide_eq_true t2];conv=>whnf
       refine⟨by decide,?_⟩;conv=>whnf
       refine⟨by rw[hq943];exact ja7 (by omega),?_⟩;conv=>whnf
       refine⟨by decide,?_⟩;conv=>whnf
       refine⟨⟨show c.length+1<=maxLen by unfold maxLen;omega,show (c.length+1)*16<=140737488355328 by omega⟩,?_⟩;conv=>whnf
       refine⟨show lo .i64<=(i:Int)+1/\(i:Int)+1<=hi .i64 from ja7 (by omega),?_⟩;conv=>whnf
       refine⟨(i+1,c++[(((z.tdiv 943).tmod 27),((z.tdiv 851).tmod 36-3))]),ja0 [0] ?_,⟨show i+1<=l.length by omega,show i+1<=24 by omega,show (c++[((((z.tdiv 943).tmod 27):Int),(((z.tdiv 851).tmod 36-3):Int))]).length=i+1 by rw[List.length_append,g3];rfl⟩,show l.length-(i+1)<l.length-i by omega⟩;conv=>whnf
       repeat' constructor
       rw[show (i+1,c++[((((z.tdiv 943).tmod 27):Int),(((z.tdiv 851).tmod 36-3):Int))]).2=c++[((((z.tdiv 943).tmod 27):Int),(((z.tdiv 851).tmod 36-3):Int))] from rfl,List.length_append,jav]
       try rw[h]
       rfl
      ·rw[decide_eq_false t2];conv=>whnf
       refine⟨⟨show c.length+1<=maxLen by unfold maxLen;omega,show (c.length+1)*16<=140737488355328 by omega⟩,?_⟩;conv=>whnf
       refine⟨show lo .i64<=(i:Int)+1/\(i:Int)+1<=hi .i64 from ja7 (by omega),?_⟩;conv=>whnf
       refine⟨(i+1,c++[(op,((z.tdiv 851).tmod 36-3))]),ja0 [0] ?_,⟨show i+1<=l.length by omega,show i+1<=24 by omega,show (c++[((op:Int),(((z.tdiv 851).tmod 36-3):Int))]).length=i+1 by rw[List.length_append,g3];rfl⟩,show l.length-(i+1)<l.length-i by omega⟩;conv=>whnf
       repeat' constructor
       rw[show (i+1,c++[((op:Int),(((z.tdiv 851).tmod 36-3):Int))]).2=c++[((op:Int),(((z.tdiv 851).tmod 36-3):Int))] from rfl,List.length_append,jav]
       try rw[h]
       rfl
     ·rw[decide_eq_false t1];conv=>whnf
      refine⟨by decide,?_⟩;conv=>whnf
      refine⟨by rw[hq23];exact ja7 (by omega),?_⟩;conv=>whnf
      refine⟨by decide,?_⟩;conv=>whnf
      by_cases t2:(z.tdiv 23).tmod 41=40
      ·rw[decide_eq_true t2];conv=>whnf
       refine⟨by decide,?_⟩;conv=>whnf
       refine⟨by rw[hq943];exact ja7 (by omega),?_⟩;conv=>whnf
       refine⟨by decide,?_⟩;conv=>whnf
       refine⟨⟨show c.length+1<=maxLen by unfold maxLen;omega,show (c.length+1)*16<=140737488355328 by omega⟩,?_⟩;conv=>whnf
       refine⟨show lo .i64<=(i:Int)+1/\(i:Int)+1<=hi .i64 from ja7 (by omega),?_⟩;conv=>whnf
       refine⟨(i+1,c++[(((z.tdiv 943).tmod 27),((z.tdiv 23).tmod (min (l.length:Int) 24)))]),ja0 [0] ?_,⟨show i+1<=l.length by omega,show i+1<=24 by omega,show (c++[((((z.tdiv 943).tmod 27):Int),(((z.tdiv 23).tmod (min (l.length:Int) 24)):Int))]).length=i+1 by rw[List.length_append,g3];rfl⟩,show l.length-(i+1)<l.length-i by omega⟩;conv=>whnf
       repeat' constructor
       rw[show (i+1,c++[((((z.tdiv 943).tmod 27):Int),(((z.tdiv 23).tmod (min (l.length:Int) 24)):Int))]).2=c++[((((z.tdiv 943).tmod 27):Int),(((z.tdiv 23).tmod (min (l.length:Int) 24)):Int))] from rfl,List.length_append,jav]
       try rw[h]
       rfl
      ·rw[decide_eq_false t2];conv=>whnf
       refine⟨⟨show c.length+1<=maxLen by unfold maxLen;omega,show (c.length+1)*16<=140737488355328 by omega⟩,?_⟩;conv=>whnf
       refine⟨show lo .i64<=(i:Int)+1/\(i:Int)+1<=hi .i64 from ja7 (by omega),?_⟩;conv=>whnf
       refine⟨(i+1,c++[(op,((z.tdiv 23).tmod (min (l.length:Int) 24)))]),ja0 [0] ?_,⟨show i+1<=l.length by omega,show i+1<=24 by omega,show (c++[((op:Int),(((z.tdiv 23).tmod (min (l.length:Int) 24)):Int))]).length=i+1 by rw[List.length_append,g3];rfl⟩,show l.length-(i+1)<l.length-i by omega⟩;conv=>whnf
       repeat' constructor
       rw[show (i+1,c++[((op:Int),(((z.tdiv 23).tmod (min (l.length:Int) 24)):Int))]).2=c++[((op:Int),(((z.tdiv 23).tmod (min (l.length:Int) 24)):Int))] from rfl,List.length_append,jav]
       try rw[h]
       rfl
   ·conv=>whnf
    rw[decide_eq_false (show ¬ op=1 by omega)];conv=>whnf
    rw[decide_eq_false (show ¬ op=4 by omega)];conv=>whnf
    rw[decide_eq_false (show ¬ op=17 by omega)];conv=>whnf
    rw[decide_eq_false (show ¬ op=18 by omega)];conv=>whnf
    rw[decide_eq_false (show ¬ op=19 by omega)];conv=>whnf
    rw[decide_eq_false (show ¬ op=2 by omega)];conv=>whnf
    rw[decide_eq_false (show ¬ op=3 by omega)];conv=>whnf
    rw[decide_eq_false (show ¬ op=15 by omega)];conv=>whnf
    rw[decide_eq_false (show ¬ op=16 by omega)];conv=>whnf
    refine⟨by decide,?_⟩;conv=>whnf
    refine⟨by rw[hq23];exact ja7 (by omega),?_⟩;conv=>whnf
    refine⟨by decide,?_⟩;conv=>whnf
    by_cases t1:(z.tdiv 23).tmod 37=36
    ·rw[decide_eq_true t1];conv=>whnf
     refine⟨by decide,?_⟩;conv=>whnf
     refine⟨by rw[hq851];exact ja7 (by omega),?_⟩;conv=>whnf
     refine⟨by decide,?_⟩;conv=>whnf
     refine⟨by rw[hm36];exact ja7 (by omega),?_⟩;conv=>whnf
     refine⟨by decide,?_⟩;conv=>whnf
     refine⟨by rw[hq23];exact ja7 (by omega),?_⟩;conv=>whnf
     refine⟨by decide,?_⟩;conv=>whnf
     by_cases t2:(z.tdiv 23).tmod 41=40
     ·rw[decide_eq_true t2];conv=>whnf
      refine⟨by decide,?_⟩;conv=>whnf
      refine⟨by rw[hq943];exact ja7 (by omega),?_⟩;conv=>whnf
      refine⟨by decide,?_⟩;conv=>whnf
      refine⟨⟨show c.length+1<=maxLen by unfold maxLen;omega,show (c.length+1)*16<=140737488355328 by omega⟩,?_⟩;conv=>whnf
      refine⟨show lo .i64<=(i:Int)+1/\(i:Int)+1<=hi .i64 from ja7 (by omega),?_⟩;conv=>whnf
      refine⟨(i+1,c++[(((z.tdiv 943).tmod 27),((z.tdiv 851).tmod 36-3))]),ja0 [0] ?_,⟨show i+1<=l.length by omega,show i+1<=24 by omega,show (c++[((((z.tdiv 943).tmod 27):Int),(((z.tdiv 851).tmod 36-3):Int))]).length=i+1 by rw[List.length_append,g3];rfl⟩,show l.length-(i+1)<l.length-i by omega⟩;conv=>whnf
      repeat' constructor
      rw[show (i+1,c++[((((z.tdiv 943).tmod 27):Int),(((z.tdiv 851).tmod 36-3):Int))]).2=c++[((((z.tdiv 943).tmod 27):Int),(((z.tdiv 851).tmod 36-3):Int))] from rfl,List.length_append,jav]
      try rw[h]
      rfl
     ·rw[decide_eq_false t2];conv=>whnf
      refine⟨⟨show c.length+1<=maxLen by unfold maxLen;omega,show (c.length+1)*16<=140737488355328 by omega⟩,?_⟩;conv=>whnf
      refine⟨show lo .i64<=(i:Int)+1/\(i:Int)+1<=hi .i64 from ja7 (by omega),?_⟩;conv=>whnf
      refine⟨(i+1,c++[(op,((z.tdiv 851).tmod 36-3))]),ja0 [0] ?_,⟨show i+1<=l.length by omega,show i+1<=24 by omega,show (c++[((op:Int),(((z.tdiv 851).tmod 36-3):Int))]).length=i+1 by rw[List.length_append,g3];rfl⟩,show l.length-(i+1)<l.length-i by omega⟩;conv=>whnf
      repeat' constructor
      rw[show (i+1,c++[((op:Int),(((z.tdiv 851).tmod 36-3):Int))]).2=c++[((op:Int),(((z.tdiv 851).tmod 36-3):Int))] from rfl,List.length_append,jav]
      try rw[h]
      rfl
    ·rw[decide_eq_false t1];conv=>whnf
     refine⟨by decide,?_⟩;conv=>whnf
     refine⟨by rw[hq23];exact ja7 (by omega),?_⟩;conv=>whnf
     refine⟨by decide,?_⟩;conv=>whnf
     by_cases t2:(z.tdiv 23).tmod 41=40
     ·rw[decide_eq_true t2];conv=>whnf
      refine⟨by decide,?_⟩;conv=>whnf
      refine⟨by rw[hq943];exact ja7 (by omega),?_⟩;conv=>whnf
      refine⟨by decide,?_⟩;conv=>whnf
      refine⟨⟨show c.length+1<=maxLen by unfold maxLen;omega,show (c.length+1)*16<=140737488355328 by omega⟩,?_⟩;conv=>whnf
      refine⟨show lo .i64<=(i:Int)+1/\(i:Int)+1<=hi .i64 from ja7 (by omega),?_⟩;conv=>whnf
      refine⟨(i+1,c++[(((z.tdiv 943).tmod 27),0)]),ja0 [0] ?_,⟨show i+1<=l.length by omega,show i+1<=24 by omega,show (c++[((((z.tdiv 943).tmod 27):Int),(0:Int))]).length=i+1 by rw[List.length_append,g3];rfl⟩,show l.length-(i+1)<l.length-i by omega⟩;conv=>whnf
      repeat' constructor
      rw[show (i+1,c++[((((z.tdiv 943).tmod 27):Int),(0:Int))]).2=c++[((((z.tdiv 943).tmod 27):Int),(0:Int))] from rfl,List.length_append,jav]
      try rw[h]
      rfl
     ·rw[decide_eq_false t2];conv=>whnf
      refine⟨⟨show c.length+1<=maxLen by unfold maxLen;omega,show (c.length+1)*16<=140737488355328 by omega⟩,?_⟩;conv=>whnf
      refine⟨show lo .i64<=(i:Int)+1/\(i:Int)+1<=hi .i64 from ja7 (by omega),?_⟩;conv=>whnf
      refine⟨(i+1,c++[(op,0)]),ja0 [0] ?_,⟨show i+1<=l.length by omega,show i+1<=24 by omega,show (c++[((op:Int),(0:Int))]).length=i+1 by rw[List.length_append,g3];rfl⟩,show l.length-(i+1)<l.length-i by omega⟩;conv=>whnf
      repeat' constructor
      rw[show (i+1,c++[((op:Int),(0:Int))]).2=c++[((op:Int),(0:Int))] from rfl,List.length_append,jav]
      try rw[h]
      rfl
  rw[decide_eq_false (show ¬ (i:Int)<24 by omega)];conv=>whnf
  refine ja4 [0,2,3] ?_;conv=>whnf
  refine ja9 (fun x:Nat × (Nat->Int)=>[(8,.v (.int .i64 x.1))]) (fun x=>[je9,.own 0 :: pgE x.2 du vo]) (fun _=>[.live 52 2 c.length (jaJ c)]) (fun x=>x.1<=3) (fun x=>3-x.1) (0,e1 40) ?_ (Nat.zero_le _) ?_
  ·repeat' constructor
  rintro⟨j,e⟩ hj
  have hj:j<=3:=hj
  conv=>whnf
  rcases Nat.lt_or_ge j 3 with hlt | hge
  rotate_left
  ·rw[decide_eq_false (show ¬ (j:Int)<3 by omega)];conv=>whnf
   exact⟨c,e,du,vo,by omega,rfl⟩
  rw[decide_eq_true (show (j:Int)<3 by omega)];conv=>whnf
  by_cases hc0:c.length=0
  ·rw[decide_eq_false (show ¬ (0:Int)<(c.length:Int) by omega)];conv=>whnf
   exact⟨c,e,du,vo,by omega,rfl⟩
  rw[decide_eq_true (show (0:Int)<(c.length:Int) by omega)]
  have pj:=jel l j 1000 (by decide)
  conv=>whnf
  refine jac [] rfl (fun _=>pj) ?_;rintro r ⟨p,hp,rfl⟩
  have hq40:p.tdiv 40=p / 40:=Int.tdiv_eq_ediv_of_nonneg hp.1
  have hm40:p.tmod 40=p % 40:=je7 40 hp.1
  have hvv:0<=(p.tdiv 40).tmod ((c.length:Int)+2)/\(p.tdiv 40).tmod ((c.length:Int)+2)<(c.length:Int)+2:=by
   rw[hq40,je7 _ (by omega)];exact⟨Int.emod_nonneg _ (by omega),Int.emod_lt_of_pos _ (by omega)⟩
  conv=>whnf
  refine⟨by decide,?_⟩;conv=>whnf
  refine⟨by decide,?_⟩;conv=>whnf
  refine⟨by rw[hq40];exact ja7 (by omega),?_⟩;conv=>whnf
  refine⟨ja7 (by omega),?_⟩;conv=>whnf
  refine⟨by omega,?_⟩;conv=>whnf
  refine⟨show lo .i64<=(p.tdiv 40).tmod ((c.length:Int)+2)-1/\(p.tdiv 40).tmod ((c.length:Int)+2)-1<=hi .i64 from ja7 (by omega),?_⟩;conv=>whnf
  refine⟨show (0:Int)<=p.tmod 40/\p.tmod 40<((40:Nat):Int) from ⟨by omega,by omega⟩,?_⟩;conv=>whnf
  refine jbu (.own 0) e (fun i=>if i=(p.tmod 40).toNat then (p.tdiv 40).tmod ((c.length:Int)+2)-1 else e i) du vo ((p.tdiv 40).tmod ((c.length:Int)+2)-1) (p.tmod 40).toNat (by omega) (fun i hi=>rfl) ?_
  obtain⟨e8,he8⟩ : ∃ e8:Nat->Int,(fun i=>if i=(p.tmod 40).toNat then (p.tdiv 40).tmod ((c.length:Int)+2)-1 else e i)=e8:=⟨_,rfl⟩
  rw[he8];clear he8;conv=>whnf
  refine⟨by decide,?_⟩;conv=>whnf
  by_cases h7:p.tmod 7<4
  ·rw[decide_eq_true h7];conv=>whnf
   refine⟨by decide,?_⟩;conv=>whnf
   refine⟨show lo .i64<=(c.length:Int)-1/\(c.length:Int)-1<=hi .i64 from ja7 (by omega),?_⟩;conv=>whnf
   refine⟨show (0:Int)<=p.tmod 40/\p.tmod 40<((40:Nat):Int) from ⟨by omega,by omega⟩,?_⟩;conv=>whnf
   refine jbu (.own 0) e8 (fun i=>if i=(p.tmod 40).toNat then min (j:Int) ((c.length:Int)-1) else e8 i) du vo (min (j:Int) ((c.length:Int)-1)) (p.tmod 40).toNat (by omega) (fun i hi=>rfl) ?_
   obtain⟨e9,he9⟩ : ∃ e9:Nat->Int,(fun i=>if i=(p.tmod 40).toNat then min (j:Int) ((c.length:Int)-1) else e8 i)=e9:=⟨_,rfl⟩
   rw[he9];clear he9;conv=>whnf
   refine⟨show lo .i64<=(j:Int)+1/\(j:Int)+1<=hi .i64 from ja7 (by omega),?_⟩;conv=>whnf
   refine⟨(j+1,e9),ja0 [0] ?_,show j+1<=3 by omega,show 3-(j+1)<3-j by omega⟩;conv=>whnf
   repeat' constructor
  rw[decide_eq_false h7];conv=>whnf
  refine⟨show lo .i64<=(j:Int)+1/\(j:Int)+1<=hi .i64 from ja7 (by omega),?_⟩;conv=>whnf
  refine⟨(j+1,e8),ja0 [0] ?_,show j+1<=3 by omega,show 3-(j+1)<3-j by omega⟩;conv=>whnf
  repeat' constructor
 rw[decide_eq_false (show ¬ (i:Int)<(l.length:Int) by omega)];conv=>whnf
 refine ja4 [0,2,3] ?_;conv=>whnf
 refine ja9 (fun x:Nat × (Nat->Int)=>[(8,.v (.int .i64 x.1))]) (fun x=>[je9,.own 0 :: pgE x.2 du vo]) (fun _=>[.live 52 2 c.length (jaJ c)]) (fun x=>x.1<=3) (fun x=>3-x.1) (0,e1 40) ?_ (Nat.zero_le _) ?_
 ·repeat' constructor
 rintro⟨j,e⟩ hj
 have hj:j<=3:=hj
 conv=>whnf
 rcases Nat.lt_or_ge j 3 with hlt | hge
 rotate_left
 ·rw[decide_eq_false (show ¬ (j:Int)<3 by omega)];conv=>whnf
  exact⟨c,e,du,vo,by omega,rfl⟩
 rw[decide_eq_true (show (j:Int)<3 by omega)];conv=>whnf
 by_cases hc0:c.length=0
 ·rw[decide_eq_false (show ¬ (0:Int)<(c.length:Int) by omega)];conv=>whnf
  exact⟨c,e,du,vo,by omega,rfl⟩
 rw[decide_eq_true (show (0:Int)<(c.length:Int) by omega)]
 have pj:=jel l j 1000 (by decide)
 conv=>whnf
 refine jac [] rfl (fun _=>pj) ?_;rintro r ⟨p,hp,rfl⟩
 have hq40:p.tdiv 40=p / 40:=Int.tdiv_eq_ediv_of_nonneg hp.1
 have hm40:p.tmod 40=p % 40:=je7 40 hp.1
 have hvv:0<=(p.tdiv 40).tmod ((c.length:Int)+2)/\(p.tdiv 40).tmod ((c.length:Int)+2)<(c.length:Int)+2:=by
  rw[hq40,je7 _ (by omega)];exact⟨Int.emod_nonneg _ (by omega),Int.emod_lt_of_pos _ (by omega)⟩
 conv=>whnf
 refine⟨by decide,?_⟩;conv=>whnf
 refine⟨by decide,?_⟩;conv=>whnf
 refine⟨by rw[hq40];exact ja7 (by omega),?_⟩;conv=>whnf
 refine⟨ja7 (by omega),?_⟩;conv=>whnf
 refine⟨by omega,?_⟩;conv=>whnf
 refine⟨show lo .i64<=(p.tdiv 40).tmod ((c.length:Int)+2)-1/\(p.tdiv 40).tmod ((c.length:Int)+2)-1<=hi .i64 from ja7 (by omega),?_⟩;conv=>whnf
 refine⟨show (0:Int)<=p.tmod 40/\p.tmod 40<((40:Nat):Int) from ⟨by omega,by omega⟩,?_⟩;conv=>whnf
 refine jbu (.own 0) e (fun i=>if i=(p.tmod 40).toNat then (p.tdiv 40).tmod ((c.length:Int)+2)-1 else e i) du vo ((p.tdiv 40).tmod ((c.length:Int)+2)-1) (p.tmod 40).toNat (by omega) (fun i hi=>rfl) ?_
 obtain⟨e8,he8⟩ : ∃ e8:Nat->Int,(fun i=>if i=(p.tmod 40).toNat then (p.tdiv 40).tmod ((c.length:Int)+2)-1 else e i)=e8:=⟨_,rfl⟩
 rw[he8];clear he8;conv=>whnf
 refine⟨by decide,?_⟩;conv=>whnf
 by_cases h7:p.tmod 7<4
 ·rw[decide_eq_true h7];conv=>whnf
  refine⟨by decide,?_⟩;conv=>whnf
  refine⟨show lo .i64<=(c.length:Int)-1/\(c.length:Int)-1<=hi .i64 from ja7 (by omega),?_⟩;conv=>whnf
  refine⟨show (0:Int)<=p.tmod 40/\p.tmod 40<((40:Nat):Int) from ⟨by omega,by omega⟩,?_⟩;conv=>whnf
  refine jbu (.own 0) e8 (fun i=>if i=(p.tmod 40).toNat then min (j:Int) ((c.length:Int)-1) else e8 i) du vo (min (j:Int) ((c.length:Int)-1)) (p.tmod 40).toNat (by omega) (fun i hi=>rfl) ?_
  obtain⟨e9,he9⟩ : ∃ e9:Nat->Int,(fun i=>if i=(p.tmod 40).toNat then min (j:Int) ((c.length:Int)-1) else e8 i)=e9:=⟨_,rfl⟩
  rw[he9];clear he9;conv=>whnf
  refine⟨show lo .i64<=(j:Int)+1/\(j:Int)+1<=hi .i64 from ja7 (by omega),?_⟩;conv=>whnf
  refine⟨(j+1,e9),ja0 [0] ?_,show j+1<=3 by omega,show 3-(j+1)<3-j by omega⟩;conv=>whnf
  repeat' constructor
 rw[decide_eq_false h7];conv=>whnf
 refine⟨show lo .i64<=(j:Int)+1/\(j:Int)+1<=hi .i64 from ja7 (by omega),?_⟩;conv=>whnf
 refine⟨(j+1,e8),ja0 [0] ?_,show j+1<=3 by omega,show 3-(j+1)<3-j by omega⟩;conv=>whnf
 repeat' constructor
theorem jrF {v l:Int} {i:Ic} (h:okI v l i=true) (hj:i.1=15 ∨ i.1=16):i.2<=l:=by
 obtain⟨a,b⟩ := i
 simp only at hj ⊢
 rcases hj with rfl | rfl
 all_goals
  change (decide ((0:Int)<=b) && decide (b<=l))=true at h
  rw[Bool.and_eq_true,decide_eq_true_eq,decide_eq_true_eq] at h;exact h.2
theorem jvE {code:List Ic} {v:Int} (hops:∀ i ∈ code,okI v (code.length-1) i=true) (hj:jf5 code) {x:Int} (hx:0<=x/\x<code.length):jb7 code x=12 ↔ Rch code x (code.length-1)/\(code.length:Int) ∈ sc code (code.length-1):=by
 have hf:=jiL hj hx
 constructor
 ·intro h12
  rcases hf with ⟨_,a,ha,k,hk,hn⟩ | ⟨_,h⟩
  ·have hr:=ha.rng hj hx
   have hil:a.toNat<code.length:=by omega
   have hgi:code.getD a.toNat (0,0)=code[a.toNat]:=by rw[List.getD_eq_getElem?_getD,List.getElem?_eq_getElem hil];rfl
   have hok:=hops _ (List.getElem_mem hil)
   have hk':=hk
   unfold sc at hk';rw[hgi] at hk'
   have hka:k=a+1:=by
    unfold nxI at hk'
    by_cases h1:(code[a.toNat]).1=23
    ·rw[if_pos h1] at hk';cases hk'
    rw[if_neg h1] at hk'
    by_cases h2:(code[a.toNat]).1=15
    ·rw[if_pos h2,List.mem_singleton] at hk'
     have:=jrF hok (.inl h2);omega
    rw[if_neg h2] at hk'
    by_cases h3:(code[a.toNat]).1=16
    ·rw[if_pos h3] at hk';simp only[List.mem_cons,List.not_mem_nil,or_false] at hk'
     have:=jrF hok (.inr h3)
     rcases hk' with hk' | hk'
     ·exact hk'
     ·omega
    rw[if_neg h3,List.mem_singleton] at hk';exact hk'
   have e1:a=(code.length:Int)-1:=by omega
   have e2:k=(code.length:Int):=by omega
   rw[<- e1];exact⟨ha,by rw[<- e2];exact hk⟩
  ·rcases h with h | h <;> omega
 ·rintro⟨h1,h2⟩
  rcases hf with ⟨h,_⟩ | ⟨h,_⟩
  ·exact h
  ·exact absurd (h _ h1 _ h2) (by omega)
theorem jvL {code:List Ic} (hj:jf5 code) {x:Int} (hx:0<=x/\x<code.length) (h12:jb7 code x ≠ 12):(jb7 code x=0 /\ ∃ D,Good code x D) ∨ (jb7 code x=13 /\ ¬ ∃ D,Good code x D):=by
 rcases jiL hj hx with ⟨h,_⟩ | ⟨_,h⟩
 ·exact absurd h h12
 ·exact h
set_option maxHeartbeats 4000000 in
theorem js9 (code:List Ic) (e:Nat->Int) (du vo:Int) (hl:code.length<=1000000):Spec Tryz.prog 26 [] [pgA code e du vo] fun _ r=>r=intA (jva code e du vo):=by
 obtain⟨R,hR⟩ : ∃ R,jva code e du vo=R:=⟨_,rfl⟩
 rw[hR];unfold jva at hR;refine ja3 (ja2 jAn xs0 0) (fun _ _ h=>h) Tryz.func26 rfl (by kernel_rfl) rfl (by kernel_rfl) ?_;intro _;conv=>whnf
 by_cases h0:400<code.length
 ·rw[decide_eq_true (show (400:Int)<(code.length:Int) by omega)];rw[if_pos h0] at hR;conv=>whnf
  rw[<- hR];rfl
 rw[decide_eq_false (show ¬ (400:Int)<(code.length:Int) by omega)];rw[if_neg h0] at hR;conv=>whnf
 by_cases h1:du<0
 ·rw[decide_eq_true h1];rw[if_pos (.inl h1)] at hR;conv=>whnf
  rw[<- hR];rfl
 rw[decide_eq_false h1];conv=>whnf
 by_cases h2:vo<0
 ·rw[decide_eq_true h2];rw[if_pos (.inr (.inl h2))] at hR;conv=>whnf
  rw[<- hR];rfl
 rw[decide_eq_false h2];conv=>whnf
 by_cases h3:16<du
 ·rw[decide_eq_true h3];rw[if_pos (.inr (.inr (.inl h3)))] at hR;conv=>whnf
  rw[<- hR];rfl
 rw[decide_eq_false h3];conv=>whnf
 refine⟨ja7 (by omega),?_⟩;conv=>whnf
 by_cases h4:16-du<vo
 ·rw[decide_eq_true h4];rw[if_pos (.inr (.inr (.inr h4)))] at hR;conv=>whnf
  rw[<- hR];rfl
 rw[decide_eq_false h4];rw[if_neg (by omega)] at hR
 have hopd:=jlB code e du vo hl (by omega) (by omega)
 conv=>whnf
 refine ja4 [1,3] ?_;conv=>whnf
 refine ja9 (fun j:Nat=>[(4,.v (.int .i64 j))]) (fun _=>[pgL code e du vo]) (fun _=>[]) (fun j=>j<=code.length/\(code.take j).all (okI (du+vo-1) (code.length-1))=true) (fun j=>code.length-j) 0 ?_ ⟨Nat.zero_le _,by rw[List.take_zero];rfl⟩ ?_
 ·repeat' constructor
 rintro j ⟨hj,hall⟩
 have hall:(code.take j).all (okI (du+vo-1) (code.length-1))=true:=hall
 conv=>whnf
 rcases Nat.lt_or_ge j code.length with hlt | hge
 ·have hrow:ja5 2 j (jaJ code)=icA code[j]:=jcz code j hlt
  have htk:(code.take (j+1)).all (okI (du+vo-1) (code.length-1))=okI (du+vo-1) (code.length-1) code[j]:=by
   rw[List.take_succ_eq_append_getElem hlt,List.all_append,hall,Bool.true_and,List.all_cons,List.all_nil,Bool.and_true]
  have hcn:okI (du+vo-1) (code.length-1) code[j]=false->R=12:=fun hb=>by
   have h5:code.all (okI (du+vo-1) (code.length-1))=false:=by
    rw[List.all_eq_false];exact⟨code[j],List.getElem_mem hlt,by rw[hb];simp⟩
   rw[<- hR,if_pos h5]
  have hop:=hopd (code[j]).1 (code[j]).2
  rw[show ((code[j]).1,(code[j]).2)=code[j] from rfl] at hop;generalize hv:okI (du+vo-1) (code.length-1) code[j]=v at htk hcn hop;clear hv;generalize code[j]=i at hrow hop
  obtain⟨op,n⟩ := i
  unfold icA at hrow
  simp only at hrow hop
  rw[decide_eq_true (show (j:Int)<(code.length:Int) by omega)];conv=>whnf
  refine⟨show (0:Int)<=(j:Int)/\(j:Int)<(code.length:Nat) from ⟨by omega,by omega⟩,?_⟩;conv=>whnf
  (generalize hrq:ja5 _ _ (jaJ code)=rq;obtain rfl:rq=[intA op,intA n]:=hrq.symm.trans (hrow);clear hrq;conv=>whnf)
  refine jac [] rfl (fun _=>hop) ?_;rintro r rfl
  cases v with
  | false =>
   have hcn:=hcn rfl
   conv=>whnf
   rw[hcn];rfl
  | true =>
   conv=>whnf
   refine⟨show lo .i64<=(j:Int)+1/\(j:Int)+1<=hi .i64 from ja7 (by omega),?_⟩;conv=>whnf
   refine⟨j+1,ja0 [] ?_,⟨show j+1<=code.length by omega,htk⟩,show code.length-(j+1)<code.length-j by omega⟩;conv=>whnf
   repeat' constructor
 rw[decide_eq_false (show ¬ (j:Int)<(code.length:Int) by omega)]
 have hall2:code.all (okI (du+vo-1) (code.length-1))=true:=by
  have:=hall
  rw[List.take_of_length_le hge] at this;exact this
 rw[hall2,if_neg (by decide)] at hR
 have hok:=fun i hi=>List.all_eq_true.1 hall2 i hi
 have hops:=fun i hi=>juO (List.all_eq_true.1 hall2 i hi)
 have hjm:jf5 code:=fun i hi=>(hops i hi).2
 have hoo:∀ i ∈ code,1<=i.1/\i.1<=23:=fun i hi=>(hops i hi).1
 clear hall hopd;conv=>whnf
 refine ja4 [1,3] ?_;conv=>whnf
 refine ja9 (fun j:Nat=>[(5,.v (.int .i64 j))]) (fun _=>[pgL code e du vo]) (fun _=>[]) (fun j=>j<=40/\jgK (jeS code.length) e j (40-j)=jgK (jeS code.length) e 0 40) (fun j=>40-j) 0 ?_ ⟨Nat.zero_le _,rfl⟩ ?_
 ·repeat' constructor
 clear hge hj;rintro j ⟨hj,hall⟩;conv=>whnf
 rcases Nat.lt_or_ge j 40 with hlt | hge
 ·rw[decide_eq_true (show (j:Int)<40 by omega)]
  have hst:jgK (jeS code.length) e j (40-j)=(jeS code.length (e j) && jgK (jeS code.length) e (j+1) (40-(j+1))):=by
   rw[show 40-j=(40-(j+1))+1 by omega];rfl
  have hall':jgK (jeS code.length) e j (40-j)=jgK (jeS code.length) e 0 40:=hall
  conv=>whnf
  refine⟨show (0:Int)<=(j:Int)/\(j:Int)<((40:Nat):Int) from ⟨by omega,by omega⟩,?_⟩;conv=>whnf
  generalize hrq:List.drop _ _=rq
  obtain rfl:rq=intA (e j) :: (A.sl 2 code.length (jaJ code) :: pgE e du vo).drop (j+2):=hrq.symm.trans (jfY _ e du vo j hlt)
  clear hrq;conv=>whnf
  by_cases hlo:e j < -1
  ·rw[decide_eq_true hlo];rw[if_pos (by rw[<- hall',hst];unfold jeS;rw[decide_eq_false (show ¬ -1<=e j by omega)];rfl)] at hR;conv=>whnf
   rw[<- hR];rfl
  rw[decide_eq_false hlo];conv=>whnf
  refine⟨show (0:Int)<=(j:Int)/\(j:Int)<((40:Nat):Int) from ⟨by omega,by omega⟩,?_⟩;conv=>whnf
  generalize hrq:List.drop _ _=rq
  obtain rfl:rq=intA (e j) :: (A.sl 2 code.length (jaJ code) :: pgE e du vo).drop (j+2):=hrq.symm.trans (jfY _ e du vo j hlt)
  clear hrq;conv=>whnf
  by_cases hhi:(code.length:Int)<=e j
  ·rw[decide_eq_true hhi];rw[if_pos (by rw[<- hall',hst];unfold jeS;rw[decide_eq_false (show ¬ e j<code.length by omega),Bool.and_false];rfl)] at hR;conv=>whnf
   rw[<- hR];rfl
  rw[decide_eq_false hhi];conv=>whnf
  refine⟨show lo .i64<=(j:Int)+1/\(j:Int)+1<=hi .i64 from ja7 (by omega),?_⟩;conv=>whnf
  refine⟨j+1,ja0 [] ?_,⟨show j+1<=40 by omega,?_⟩,show 40-(j+1)<40-j by omega⟩
  ·conv=>whnf
   repeat' constructor
  ·show jgK (jeS code.length) e (j+1) (40-(j+1))=_
   rw[<- hall',hst];unfold jeS;rw[decide_eq_true (show -1<=e j by omega),decide_eq_true (show e j<code.length by omega)];rfl
 obtain rfl:j=40:=by omega
 have hall2:jgK (jeS code.length) e 0 40=true:=by
  have:jgK (jeS code.length) e 40 (40-40)=jgK (jeS code.length) e 0 40:=hall
  rw[<- this];rfl
 rw[decide_eq_false (show ¬ ((40:Nat):Int)<40 by omega)];rw[hall2,if_neg (by decide)] at hR
 have hent:=jjr _ _ _ _ hall2
 clear hall hge hj;conv=>whnf
 refine ja4 [1,3] ?_;conv=>whnf
 refine ja9 (fun x:Nat × Int=>[(6,intA x.2),(7,.v (.int .i64 x.1))]) (fun _=>[pgL code e du vo]) (fun _=>[]) (fun x=>x.1<=40/\jx6 code e x.1 (40-x.1) x.2=R) (fun x=>40-x.1) (0,0) ?_ ⟨Nat.zero_le _,hR⟩ ?_
 ·repeat' constructor
 rintro⟨j,q⟩ ⟨hj,hv⟩
 simp only at hj hv
 conv=>whnf
 rcases Nat.lt_or_ge j 40 with hlt | hge
 ·rw[decide_eq_true (show (j:Int)<40 by omega)];rw[show 40-j=(40-(j+1))+1 by omega] at hv;unfold jx6 at hv
  have hq:=hent j (by omega) (by omega)
  unfold jeS at hq;rw[Bool.and_eq_true,decide_eq_true_eq,decide_eq_true_eq] at hq;conv=>whnf
  refine⟨show (0:Int)<=(j:Int)/\(j:Int)<((40:Nat):Int) from ⟨by omega,by omega⟩,?_⟩;conv=>whnf
  generalize hrq:List.drop _ _=rq
  obtain rfl:rq=intA (e j) :: (A.sl 2 code.length (jaJ code) :: pgE e du vo).drop (j+2):=hrq.symm.trans (jfY _ e du vo j hlt)
  clear hrq;conv=>whnf
  by_cases hneg:e j<0
  ·rw[decide_eq_true hneg]
   have hf0:jb7 code (e j)=0:=by unfold jb7;rw[if_pos hneg]
   rw[hf0,if_neg (by decide),if_neg (by decide)] at hv;conv=>whnf
   refine⟨show lo .i64<=(j:Int)+1/\(j:Int)+1<=hi .i64 from ja7 (by omega),?_⟩;conv=>whnf
   refine⟨(j+1,q),ja0 [] ?_,⟨show j+1<=40 by omega,hv⟩,show 40-(j+1)<40-j by omega⟩;conv=>whnf
   repeat' constructor
  rw[decide_eq_false hneg]
  have hx:0<=e j/\e j<code.length:=⟨by omega,hq.2⟩
  have hds:=jhk code e du vo (e j) hl hjm hoo hx
  have hdp:=jiC code e du vo j hlt hl hjm hoo hx
  have hend:=jvE hok hjm hx
  have hval:=fun h=>jvL hjm hx h
  have hn1:code.length-1<code.length:=by omega
  have hnx:=jly code e du vo hl (code.length-1) hn1
  have hcast:((code.length-1:Nat):Int)=(code.length:Int)-1:=by omega
  rw[hcast] at hnx
  have hrl:∀ out:List Int,out.length=code.length->ja5 1 ((code.length:Int)-1).toNat (jaq out)=[intA (og out ((code.length:Int)-1))]:=fun out ho=>by
   rw[show ((code.length:Int)-1).toNat=code.length-1 by omega,joE (by rw[ho];exact hn1),hcast]
  have hhas:=jr6 (sc code ((code.length:Int)-1)) code.length (by have:=jsk code ((code.length:Int)-1);omega)
  generalize jb7 code (e j)=f at hv hend hval;conv=>whnf
  refine⟨show (0:Int)<=(j:Int)/\(j:Int)<((40:Nat):Int) from ⟨by omega,by omega⟩,?_⟩;conv=>whnf
  generalize hrq:List.drop _ _=rq
  obtain rfl:rq=intA (e j) :: (A.sl 2 code.length (jaJ code) :: pgE e du vo).drop (j+2):=hrq.symm.trans (jfY _ e du vo j hlt)
  clear hrq;conv=>whnf
  refine jac [] rfl (fun _=>hds) ?_;rintro r ⟨out,ok,rfl,hdpp⟩
  have hln:=hdpp.ln
  have hre:=hdpp.re ((code.length:Int)-1) (by omega) (by omega)
  conv=>whnf
  refine⟨show lo .i64<=(code.length:Int)-1/\(code.length:Int)-1<=hi .i64 from ja7 (by omega),?_⟩;conv=>whnf
  refine⟨show (0:Int)<=(code.length:Int)-1/\(code.length:Int)-1<(out.length:Nat) from ⟨by omega,by rw[hln];omega⟩,?_⟩;conv=>whnf
  (generalize hrq:ja5 _ _ (jaq out)=rq;obtain rfl:rq=[intA (og out ((code.length:Int)-1))]:=hrq.symm.trans ((hrl out hln));clear hrq;conv=>whnf)
  by_cases hl1:0<=og out ((code.length:Int)-1)
  ·rw[decide_eq_true hl1];conv=>whnf
   refine⟨show lo .i64<=(code.length:Int)-1/\(code.length:Int)-1<=hi .i64 from ja7 (by omega),?_⟩;conv=>whnf
   refine jac [] rfl (fun _=>hnx) ?_;rintro r rfl;conv=>whnf
   refine jac [] rfl (fun _=>hhas) ?_;rintro r rfl;generalize hb:((sc code ((code.length:Int)-1)).any fun y=>decide (y=(code.length:Int)))=b
   cases b with
   | true =>
    have h12:f=12:=hend.2 ⟨hre.1 hl1,by
     rw[List.any_eq_true] at hb
     obtain⟨y,hy,hye⟩ := hb
     rw[decide_eq_true_eq] at hye
     rw[hye] at hy;exact hy⟩
    rw[if_pos h12] at hv;conv=>whnf
    rw[<- hv];rfl
   | false =>
    have h12:f ≠ 12:=fun h=>by
     have:=(hend.1 h).2
     rw[List.any_eq_false] at hb;exact hb _ this (by simp)
    conv=>whnf
    have hvl:=hval h12
    rw[if_neg h12] at hv
    cases ok with
    | false =>
     have h13:f=13:=by
      rcases hvl with ⟨_,hg⟩ | ⟨h,_⟩
      ·have:=((jjG hdpp hdpp).2 hg).1
       cases this
      ·exact h
     rw[if_pos h13] at hv;conv=>whnf
     refine⟨show lo .i64<=(j:Int)+1/\(j:Int)+1<=hi .i64 from ja7 (by omega),?_⟩;conv=>whnf
     refine⟨(j+1,13),ja0 [] ?_,⟨show j+1<=40 by omega,hv⟩,show 40-(j+1)<40-j by omega⟩;conv=>whnf
     repeat' constructor
    | true =>
     conv=>whnf
     refine jac [] rfl (fun _=>hdp) ?_;rintro r ⟨out2,ok2,m,hdp2,rfl,hm⟩
     have hgd:=jjG hdpp hdp2
     by_cases h16:(16:Int)<m
     ·have h13:f=13:=by
       rcases hvl with ⟨_,hg⟩ | ⟨h,_⟩
       ·have h1:=(hgd.2 hg).2
        have:=hm.2 h1
        omega
       ·exact h
      rw[if_pos h13] at hv;conv=>whnf
      rw[decide_eq_true h16];conv=>whnf
      refine⟨show lo .i64<=(j:Int)+1/\(j:Int)+1<=hi .i64 from ja7 (by omega),?_⟩;conv=>whnf
      refine⟨(j+1,13),ja0 [] ?_,⟨show j+1<=40 by omega,hv⟩,show 40-(j+1)<40-j by omega⟩;conv=>whnf
      repeat' constructor
     ·have h0 : ¬ f=13:=by
       rcases hvl with ⟨h,_⟩ | ⟨_,hg⟩
       ·rw[h];decide
       ·exact absurd (hgd.1 ⟨rfl,hm.1 (by omega)⟩) hg
      rw[if_neg h0] at hv;conv=>whnf
      rw[decide_eq_false h16];conv=>whnf
      refine⟨show lo .i64<=(j:Int)+1/\(j:Int)+1<=hi .i64 from ja7 (by omega),?_⟩;conv=>whnf
      refine⟨(j+1,q),ja0 [] ?_,⟨show j+1<=40 by omega,hv⟩,show 40-(j+1)<40-j by omega⟩;conv=>whnf
      repeat' constructor
  ·rw[decide_eq_false hl1]
   have h12:f ≠ 12:=fun h=>hl1 (hre.2 (hend.1 h).1)
   conv=>whnf
   have hvl:=hval h12
   rw[if_neg h12] at hv
   cases ok with
   | false =>
    have h13:f=13:=by
     rcases hvl with ⟨_,hg⟩ | ⟨h,_⟩
     ·have:=((jjG hdpp hdpp).2 hg).1
      cases this
     ·exact h
    rw[if_pos h13] at hv;conv=>whnf
    refine⟨show lo .i64<=(j:Int)+1/\(j:Int)+1<=hi .i64 from ja7 (by omega),?_⟩;conv=>whnf
    refine⟨(j+1,13),ja0 [] ?_,⟨show j+1<=40 by omega,hv⟩,show 40-(j+1)<40-j by omega⟩;conv=>whnf
    repeat' constructor
   | true =>
    conv=>whnf
    refine jac [] rfl (fun _=>hdp) ?_;rintro r ⟨out2,ok2,m,hdp2,rfl,hm⟩
    have hgd:=jjG hdpp hdp2
    by_cases h16:(16:Int)<m
    ·have h13:f=13:=by
      rcases hvl with ⟨_,hg⟩ | ⟨h,_⟩
      ·have h1:=(hgd.2 hg).2
       have:=hm.2 h1
       omega
      ·exact h
     rw[if_pos h13] at hv;conv=>whnf
     rw[decide_eq_true h16];conv=>whnf
     refine⟨show lo .i64<=(j:Int)+1/\(j:Int)+1<=hi .i64 from ja7 (by omega),?_⟩;conv=>whnf
     refine⟨(j+1,13),ja0 [] ?_,⟨show j+1<=40 by omega,hv⟩,show 40-(j+1)<40-j by omega⟩;conv=>whnf
     repeat' constructor
    ·have h0 : ¬ f=13:=by
      rcases hvl with ⟨h,_⟩ | ⟨_,hg⟩
      ·rw[h];decide
      ·exact absurd (hgd.1 ⟨rfl,hm.1 (by omega)⟩) hg
     rw[if_neg h0] at hv;conv=>whnf
     rw[decide_eq_false h16];conv=>whnf
     refine⟨show lo .i64<=(j:Int)+1/\(j:Int)+1<=hi .i64 from ja7 (by omega),?_⟩;conv=>whnf
     refine⟨(j+1,q),ja0 [] ?_,⟨show j+1<=40 by omega,hv⟩,show 40-(j+1)<40-j by omega⟩;conv=>whnf
     repeat' constructor
 obtain rfl:j=40:=by omega
 rw[decide_eq_false (show ¬ ((40:Nat):Int)<40 by omega)];conv=>whnf
 rw[<- hv];rfl
end Go.Proofs.YtfbifdccmabdbaaGreatDoor.Vm
namespace Go.Proofs.YtfbifdccmabdbaaGreatDoor.Vm
open Go.RowKit
set_option linter.unusedSimpArgs false
set_option linter.unusedVariables false
section
set_option maxRecDepth 100000
end
section
set_option maxRecDepth 100000
end
section
set_option maxRecDepth 100000
end
end Go.Proofs.YtfbifdccmabdbaaGreatDoor.Vm
namespace Go.Proofs.YtfbifdccmabdbaaGreatDoor.Vm
open Go.RowKit Go.Shelf
set_option linter.unusedSimpArgs false
set_option linter.unusedVariables false
set_option maxRecDepth 100000
theorem jtw {T:List Tk} {i:Nat} (h:i<T.length):hd (T.drop i)=T[i]:=by
 rw[List.drop_eq_getElem_cons h];rfl
theorem jq6 (T:List Tk) (i:Nat):(T.drop i).tail=T.drop (i+1):=by rw[List.tail_drop]
theorem jmi:∀ {T:List Tk} {i:Nat},TkW T->i<T.length->TkW (T.drop i)
 | [],i,_,h=>by simp at h
 | t :: T,0,h,_=>h
 | t :: T,i+1,h,hi=>by
  rcases h.2 with ⟨rfl,_⟩ | ⟨_,hw⟩
  ·simp at hi
  ·exact jmi (T:=T) hw (by simpa using hi)
structure Ks (T:List Tk):Prop where
 t:∀ t ∈ T,K6 t
 n:T.length<=1000000
 w:TkW T
theorem Ks.p {T:List Tk} (h:Ks T) {i:Nat} (hi:i<T.length):TkP (T.drop i) :=
 ⟨⟨jmi h.w hi,by rw[List.length_drop];have:=h.n;omega⟩,fun t ht=>juI (h.t t (List.mem_of_mem_drop ht))⟩
theorem Ks.hd {T:List Tk} (h:Ks T) {i:Nat} (hi:i<T.length):K6 (Vm.hd (T.drop i)):=by rw[jtw hi];exact h.t _ (List.getElem_mem hi)
theorem Ks.next {T:List Tk} (h:Ks T) {i:Nat} (hi:i<T.length) (hk:(Vm.hd (T.drop i)).kind ≠ 0):i+1<T.length:=by
 obtain⟨q1,q2⟩ := (h.p hi).tail hk
 have:=q1.pos
 rw[jq6,List.length_drop] at this;omega
structure S6 where
 i:Nat
 a:Int
 e:Int
def bxS (T:List Tk) (s:S6):List A:=[.sl 4 T.length (jey T),.v (.int .i64 s.i),intA s.a,intA s.e]
def SpecU (f:Nat) (cs args:List A) (post:List A->A->Prop):Prop := ∀ y:Value,okV y->Spec Tryz.prog f [cs++[.v y]] args fun o r => ∃ c,o=[c++[.v y]]/\post c r
theorem SpecU.v {f:Nat} {cs args:List A} {post:List A->A->Prop} (h:SpecU f cs args post):SpecV Tryz.prog f cs args post fun _=>False:=fun y hy=>(h y hy).toP
theorem SpecU.weaken {f:Nat} {cs args:List A} {post post':List A->A->Prop} (h:SpecU f cs args post') (k:∀ c r,post' c r -> ∃ c' r',post c' r'/\c=c'/\Wk r r'):SpecU f cs args post:=fun y hy =>
 Spec.weaken (h y hy) fun o r ⟨c,h1,h2⟩=>by
  obtain⟨c',r',k1,rfl,k3⟩ := k c r h2
  exact⟨o,r',⟨c,h1,k1⟩,.refl _,k3⟩
theorem jjx:Spec Tryz.prog 142 [] [] fun _ r=>r = .sl 1 builtL.length (ji4 builtL):=by
 refine ja3 (ja2 jax xs0 0) (fun _ _ h=>h) Tryz.func142 rfl (by kernel_rfl) rfl (by kernel_rfl) ?_;intro _;conv=>whnf
 rfl
section
def Dq (T:List Tk) (s s':S6) (P:Pn) (f:Nt):Prop:=s'.i<T.length/\(s.e ≠ 0->s'.a=s.a/\s'.e=s.e)/\(s.e=0->match P with
 | .ok g r=>s'.e=0/\s'.a=s.a/\f=g/\T.drop s'.i=r
 | .bad x e=>e ≠ 0/\s'.e=e/\s'.a=x)
variable {T:List Tk}
def RU (T:List Tk) (s:S6) (op:List Tk->Pn) (c:List A) (r:A):Prop := ∃ s' f,Dq T s s' (op (T.drop s.i)) f/\c=bxS T s'/\r = .agg (ntA f)
def RW (T:List Tk) (s:S6) (op:List Tk->Pn) (c:List A) (r:A):Prop := ∃ s' f l,Dq T s s' (op (T.drop s.i)) f/\c=bxS T s'/\r = .agg l/\WkL l (ntA f)
theorem RU.w {s:S6} {op:List Tk->Pn} {c:List A} {r:A} (h:RU T s op c r):RW T s op c r:=by
 obtain⟨s',f,h1,h2,h3⟩ := h
 exact⟨s',f,_,h1,h2,h3,jaU _⟩
def jvj (T:List Tk) (lv prec:Int) (op:List Tk->Pn):Prop := ∀ s:S6,s.i<T.length->SpecU 129 (bxS T s) [.box 0 0,intA lv,intA prec] (RU T s op)
def jzC (T:List Tk) (g:Nat) (lv:Int) (op:List Tk->Pn):Prop := ∀ s:S6,s.i<T.length->SpecU g (bxS T s) [.box 0 0,intA lv] (RU T s op)
end
section
def LowR6 (T:List Tk) (lv:Int) (low:Option Pa):Prop:=0<=lv/\((low=none/\lv=20) ∨ ∃ p,low=some p/\lv+1<=20 ∧
 jvj T (lv+1) 3 p.no/\jvj T (lv+1) 7 p.un/\jvj T (lv+1) 1 p.ex/\jzC T 49 (lv+1) p.bl)
theorem LowR6.le {T:List Tk} {lv:Int} {low:Option Pa} (h:LowR6 T lv low):0<=lv/\lv<=20:=by
 obtain⟨h0,⟨_,rfl⟩ | ⟨_,_,h,_⟩⟩ := h
 ·omega
 ·omega
variable {T:List Tk}
end
section
variable {T:List Tk}
def opsA:List A:=[.v (.slice none 0 0),.sl 1 1 [jbm pOr],.sl 1 1 [jbm jga],.v (.slice none 0 0),.sl 1 6 [jbm pLt,jbm pLe,jbm pGt,jbm pGe,jbm jyE,jbm pNe],.sl 1 2 [jbm jgJ,jbm pMinus],.sl 1 2 [jbm jdW,jbm jbX]]
end
section
variable {T:List Tk}
end
section
variable {T:List Tk}
end
section
variable {T:List Tk}
end
section
variable {T:List Tk}
theorem jAB (f b:Nt):WkL [intA 2,intA 0,jbm eB,.sl 4 3 (ntA f++(ntA b++jzm (jeL [])))] [intA 2,intA 0,jbm eB,.sl 4 3 (ntA f++(ntA b++ntA (jeL [])))] :=
 .cons (.refl _) (.cons (.refl _) (.cons (.refl _) (.cons (.sl 4 3 (WkL.app (WkL.refl (ntA f)) (WkL.app (WkL.refl (ntA b)) (jb9 (f:=jeL []) rfl)))) .nil)))
end
section
variable {T:List Tk}
end
section
variable {T:List Tk}
end
section
variable {T:List Tk}
end
section
set_option maxRecDepth 100000
end
section
set_option maxRecDepth 100000
end
section
set_option maxRecDepth 100000
end
section
set_option maxRecDepth 100000
end
section
set_option maxRecDepth 100000
end
section
set_option maxRecDepth 100000
end
def phA (κ i:Nat):Nat:=if i<70 then (4*κ+12)*i else (4*κ+12)*70
def phi (κ i:Nat):Nat:=if i<70 then (4*κ+12)*i else (4*κ+12)*70+6*κ+18
theorem jhI (κ i:Nat):phA κ i<=phA κ (i+1)/\(i<70->phA κ i+(4*κ+12)<=phA κ (i+1)):=by
 unfold phA;generalize 4*κ+12=c
 have e:c*(i+1)=c*i+c:=Nat.mul_succ c i
 by_cases h:i<70
 ·rw[if_pos h]
  by_cases h2:i+1<70
  ·rw[if_pos h2];omega
  ·rw[if_neg h2]
   obtain rfl:i=69:=by omega
   omega
 ·rw[if_neg h,if_neg (by omega)];omega
theorem jpS (κ i:Nat):(i<70->phi κ i=phA κ i)/\(70<=i->phi κ i=phA κ i+6*κ+18):=by
 unfold phi phA
 by_cases h:i<70
 ·rw[if_pos h,if_pos h];omega
 ·rw[if_neg h,if_neg h];omega
theorem jdf (κ i:Nat):phi κ i<=phi κ (i+1)/\(i<70->phi κ i+(4*κ+12)<=phi κ (i+1)):=by
 have h1:=jpS κ i
 have h2:=jpS κ (i+1)
 have h3:=jhI κ i
 omega
theorem jeT {κ w b i j:Nat} (hij:i<=j) (h:w+phA κ i<=b+phA κ j):w+phi κ i<=b+phi κ j:=by
 have h1:=jpS κ i
 have h2:=jpS κ j
 omega
theorem jnh (κ i:Nat):phi κ i<=(4*κ+12)*70+6*κ+18/\(67<=i->i<70->phi κ i+(4*κ+12)<=(4*κ+12)*70)/\(70<=i->phi κ i=(4*κ+12)*70+6*κ+18):=by
 unfold phi;generalize 4*κ+12=c
 by_cases h:i<70
 ·rw[if_pos h]
  have e:c*(i+1)=c*i+c:=Nat.mul_succ c i
  have e2:c*(i+1)<=c*70:=Nat.mul_le_mul_left c (by omega)
  omega
 ·rw[if_neg h];omega
def dgN (n:Int):Nat:=if n<10 then 1 else if n<100 then 2 else if n<1000 then 3 else 10
mutual
def wN (κ:Nat):Nt->Nat
 | .mk k n s kids=>(if k=12 then κ+dgN n else if k=13 then 5+κ else if k=14 then κ+s.size else if k=15 then κ+s.size else if k=16 then 6+3*κ else s.size+(2+3*κ))+wNs κ kids
def wNs (κ:Nat):List Nt->Nat
 | []=>0
 | f :: l=>wN κ f+wNs κ l
end
theorem jyX (κ:Nat) (n:Int):wN κ (.mk 12 n eB [])=κ+dgN n:=rfl
theorem jwP (κ:Nat) (n:Int):wN κ (.mk 13 n eB [])=5+κ:=rfl
theorem jyZ (κ:Nat) (s:ByteArray):wN κ (.mk 14 0 s [])=κ+s.size:=rfl
theorem jyY (κ:Nat) (s:ByteArray):wN κ (.mk 15 0 s [])=κ+s.size:=rfl
theorem jyW (κ:Nat) (f:Nt):wN κ (.mk 16 0 eB [f])=6+3*κ+wN κ f:=rfl
theorem jvb (κ:Nat) (s:ByteArray) (f:Nt):wN κ (.mk 17 0 s [f])=s.size+(2+3*κ)+wN κ f:=by
 rw[wN,wNs,wNs];simp
theorem jsE (κ:Nat) (s:ByteArray) (f g:Nt):wN κ (.mk 18 0 s [f,g])=s.size+(2+3*κ)+(wN κ f+wN κ g):=by
 rw[wN,wNs,wNs,wNs];simp
def jAb (l:List Nt) (i:Nat):Nt:=l.getD i (.mk 0 0 eB [])
mutual
def wS (κ:Nat):Nt->Nat
 | .mk k n s kids=>if k=1 then s.size+2+3*κ+wNs κ kids else if k=4 then 9+6*κ+wNs κ kids else if k=5 then 7+3*κ else if k=6 then 8+3*κ else if k=7 then 5+2*κ else if k=10 then 5+2*κ else if k=8 then 7+3*κ+wNs κ kids else if k=9 then 5+2*κ+wNs κ kids else if k=3 then 5+κ+wN κ (jAb kids 0)+(wBs κ kids).getD 1 0 else 2+κ+wN κ (jAb kids 0)+(wBs κ kids).getD 1 0+(if 0<(jAb kids 2).kids.length then 4+κ+(wBs κ kids).getD 2 0 else 0)
def wB (κ:Nat):Nt->Nat
 | .mk _ _ _ kids=>2+2*κ+wSs κ kids
def wSs (κ:Nat):List Nt->Nat
 | []=>0
 | f :: l=>wS κ f+wSs κ l
def wBs (κ:Nat):List Nt->List Nat
 | []=>[]
 | f :: l=>wB κ f :: wBs κ l
end
theorem jpf (κ:Nat) (l:List Nt):wB κ (jeL l)=2+2*κ+wSs κ l:=by unfold jeL;rw[wB]
theorem jvc (κ:Nat) (s:ByteArray) (f:Nt):wS κ (.mk 1 0 s [f])=s.size+2+3*κ+wN κ f:=rfl
theorem jz4 (κ:Nat) (n:Int) (f g h:Nt):wS κ (.mk 4 n eB [f,g,h])=9+6*κ+(wN κ f+(wN κ g+wN κ h)):=rfl
theorem jz7 (κ:Nat) (n:Int):wS κ (.mk 5 n eB [])=7+3*κ:=rfl
theorem jz0 (κ:Nat) (n:Int):wS κ (.mk 6 n eB [])=8+3*κ:=rfl
theorem jz6 (κ:Nat):wS κ (.mk 7 0 eB [])=5+2*κ:=rfl
theorem jz5 (κ:Nat):wS κ (.mk 10 0 eB [])=5+2*κ:=rfl
theorem jz3 (κ:Nat) (f g:Nt):wS κ (.mk 8 0 eB [f,g])=7+3*κ+(wN κ f+wN κ g):=rfl
theorem jz1 (κ:Nat) (f:Nt):wS κ (.mk 9 0 eB [f])=5+2*κ+wN κ f:=rfl
theorem jz8 (κ:Nat) (c b:Nt):wS κ (.mk 3 0 eB [c,b])=5+κ+wN κ c+wB κ b:=rfl
theorem jz2 (κ:Nat) (c b d:Nt):wS κ (.mk 2 0 eB [c,b,d])=2+κ+wN κ c+wB κ b+(if 0<d.kids.length then 4+κ+wB κ d else 0):=rfl
theorem jvd (κ:Nat) (c:Nt) (l m:List Nt):wS κ (.mk 2 0 eB [c,jeL l,jeL m])<=4+3*κ+wN κ c+wSs κ l+(6+3*κ+wSs κ m)/\(m.length=0->wS κ (.mk 2 0 eB [c,jeL l,jeL m])=4+3*κ+wN κ c+wSs κ l):=by
 rw[jz2,jpf,jpf];refine⟨by split <;> omega,fun h => ?_⟩;rw[if_neg (by show ¬ 0<m.length;omega)];omega
def wHs (κ:Nat):List (Int × Nt)->Nat
 | []=>0
 | x :: l=>11+3*κ+wB κ x.2+wHs κ l
def pkF (l:List Int) (i:Nat):Int:=if i<l.length then jcq (l.getD i 0) 1000000 else 0
theorem jAw (l:List Int) (i:Nat):Spec Tryz.prog 56 [] [.sl 1 l.length (jaq l),intA i,intA 1000000] fun _ r=>(0<=pkF l i/\pkF l i<1000000)/\r=intA (pkF l i):=by
 unfold pkF;refine ja3 (ja2 jax xs0 0) (fun _ _ h=>h) Tryz.func56 rfl (by kernel_rfl) rfl (by kernel_rfl) ?_;intro hok;conv=>whnf
 rw[decide_eq_false (show ¬ (i:Int)<0 by omega)];conv=>whnf
 by_cases hi:i<l.length
 ·have hr:=jbA l i hi
  have e:l.getD i 0=l[i]:=by rw[List.getD_eq_getElem?_getD,List.getElem?_eq_getElem hi];rfl
  rw[<- e] at hr;rw[if_pos hi,decide_eq_false (show ¬ (l.length:Int)<=i by omega)];generalize l.getD i 0=x at *
  have ha:=jbv x 1000000 (by omega)
  conv=>whnf
  (refine goA ?_;try with_reducible exact trivial)
  (generalize hrq:ja5 _ _ (jaq l)=rq;obtain rfl:rq=[intA x]:=hrq.symm.trans (hr);clear hrq;conv=>whnf)
  refine jac [] rfl (fun _=>ha) ?_;rintro r ⟨hx,rfl⟩;conv=>whnf
  exact⟨jbO hx (by omega),rfl⟩
 ·rw[if_neg hi,decide_eq_true (show (l.length:Int)<=i by omega)];conv=>whnf
  exact⟨by omega,rfl⟩
def bxG (l:List Int) (i:Nat):List A:=[.sl 1 l.length (jaq l),.v (.int .i64 i)]
def pk (l:List Int) (i m:Nat):Nat:=(pkF l i).toNat % m
theorem jdA (l:List Int) (i:Nat) {m:Nat} (h:0<m):pk l i m<m:=Nat.mod_lt _ h
theorem jdt (l:List Int) (i m:Nat) (hi:i<=1000000000) (hm:1<=m/\m<=1000):Spec Tryz.prog 37 [bxG l i] [.box 0 0,.v (.int .i64 m)] fun o r=>o=[bxG l (i+1)]/\r = .v (.int .i64 (pk l i m)):=by
 unfold pk;refine ja3 (ja2 jAo xs0 1) (fun _ _ h=>h) Tryz.func37 rfl (by kernel_rfl) rfl (by kernel_rfl) ?_;intro hok;conv=>whnf
 refine jac [] rfl (fun _=>jAw l i) ?_;rintro r ⟨hr,rfl⟩
 obtain⟨k,hk⟩ : ∃ k:Nat,pkF l i=(k:Int):=⟨(pkF l i).toNat,by omega⟩
 rw[hk] at hr ⊢;conv=>whnf
 (refine goA ?_;try with_reducible exact trivial)
 have e:((k:Int)).tmod (m:Int)=((k % m:Nat):Int):=by rw[Int.tmod_eq_emod_of_nonneg (by omega)];omega
 exact⟨rfl,by rw[e];rfl⟩
theorem jdO {α:Type} (f:α->A) (l:List α) (i:Nat) (h:i<l.length):(l.map f).drop (i*1)=f l[i] :: (l.map f).drop (i+1):=by
 rw[Nat.mul_one,List.drop_eq_getElem_cons (by simpa using h),List.getElem_map]
theorem jhK (l:List Int) (i m:Nat) (h:l.length<=70):70<=i->pk l i m=0:=fun hi=>by
 unfold pk pkF;rw[if_neg (by omega)];exact Nat.zero_mod m
def varL:List ByteArray:=[⟨#[100]⟩,⟨#[100,100,49]⟩,⟨#[118]⟩,⟨#[119,50]⟩]
theorem jzX (l:List Int) (i:Nat) (hi:i<=1000000000):∃ s ∈ varL,(s.size<=3/\(l.length<=70->70<=i->s.size=1))/\Spec Tryz.prog 112 [bxG l i] [.box 0 0] fun o r=>o=[bxG l (i+1)]/\r=jbm s:=by
 have hp:=jdt l i 4 hi (by decide)
 have hlt:=jdA l i (m:=4) (by decide)
 have ho:=jhK l i 4
 generalize pk l i 4=k at *;refine⟨varL[k]'hlt,List.getElem_mem _,?_,?_⟩
 ·have h4:∀ (k:Nat) (h:k<varL.length),(varL[k]'h).size<=3/\(k=0->(varL[k]'h).size=1):=by decide
  exact⟨(h4 k hlt).1,fun a b=>(h4 k hlt).2 (ho a b)⟩
 have hr:=jdO jbm varL k hlt
 generalize varL[k]'hlt=s at *;refine ja3 (ja2 jax xs0 1) (fun _ _ h=>h) Tryz.func112 rfl (by kernel_rfl) rfl (by kernel_rfl) ?_;intro hok;conv=>whnf
 refine ja8 0 [] rfl rfl rfl rfl (fun _=>hp) ?_;rintro o r ⟨ho,rfl⟩;cases ho;conv=>whnf
 refine⟨⟨by omega,by omega⟩,?_⟩;conv=>whnf
 generalize hrq:List.drop (Int.toNat (k:Int)*_) _=rq
 obtain rfl:rq=_ :: _:=hrq.symm.trans hr
 clear hrq;conv=>whnf
 exact⟨rfl,rfl⟩
def litL:List Int:=[0,1,2,3,7,100,2147483647,30]
def opL:List ByteArray:=[jgJ,pMinus,jdW,jbX]
inductive EI:Nat->Nt->Prop
 | lit (d:Nat) (n:Int) (h:n ∈ litL):EI d (.mk 12 n eB [])
 | var (d:Nat) (s:ByteArray) (h:s ∈ varL):EI d (.mk 14 0 s [])
 | nam (d:Nat) (s:ByteArray) (h:s ∈ builtL):EI d (.mk 15 0 s [])
 | drw (d:Nat) (f:Nt) (h:EI d f):EI (d+1) (.mk 16 0 eB [f])
 | neg (d:Nat) (f:Nt) (h:EI d f):EI (d+1) (.mk 17 0 pMinus [f])
 | bin (d:Nat) (s:ByteArray) (f g:Nt) (hs:s ∈ opL) (h1:EI d f) (h2:EI d g):EI (d+1) (.mk 18 0 s [f,g])
def bI:Nat->Nat
 | 0=>2
 | d+1=>2+2*bI d
theorem jxm:∀ d,2<=bI d
 | 0=>Nat.le_refl _
 | d+1=>by unfold bI;omega
def jzt (l:List Int) (d:Nat):Prop:=l.length<=70 -> ∀ (i:Nat) (z:Int),z.toNat=d -> -5<=z->z<=10->i+bI d<=1000000000 -> ∃ f i',EI d f/\i<=i'/\i'<=i+bI d/\(∀ κ,1<=κ->κ<=7->wN κ f+phA κ i<=1+κ+phA κ i')/\Spec Tryz.prog 113 [bxG l i] [.box 0 0,.v (.int .i64 z)] fun o r=>o=[bxG l i']/\r = .agg (ntA f)
theorem gw {P:Program} {f:Nat} {cs args:List A} {X:List (List A)} {t:Nt} (h:Spec P f [cs] args fun o r=>o=X /\ ∃ l,r = .agg l/\WkL l (ntA t)):Spec P f [cs] args fun o r=>o=X/\r = .agg (ntA t) :=
 Spec.weaken h fun o r ⟨h1,l,h2,h3⟩=>⟨o,.agg (ntA t),⟨h1,rfl⟩,.refl _,by rw[h2];exact .agg h3⟩
set_option maxHeartbeats 1000000 in
theorem jAK (l:List Int) (d:Nat) (ih:∀ e,d=e+1->jzt l e):jzt l d:=fun hl i z hz h1 h2 hi=>by
 have hge:=jxm d
 have hp:=jdt l i 12 (by omega) (by decide)
 have hlt:=jdA l i (m:=12) (by decide)
 have ho:=jhK l i 12 hl
 have p0:=fun κ=>jhI κ i
 have p1:=fun κ=>jhI κ (i+1)
 have pe2:∀ κ,phA κ (i+2)=phA κ (i+1+1):=fun _=>rfl
 generalize pk l i 12=n0 at *
 obtain⟨n,hn⟩ : ∃ n,(if z<=0 then n0 % 6 else n0)=n:=⟨_,rfl⟩
 have hn12:n<12:=by split at hn <;> omega
 have hn6:z<=0->n<6:=fun h=>by rw[if_pos h] at hn;omega
 have hlo:n ≠ 0->i<70:=fun h=>by
  by_cases h70:70<=i
  ·have:=ho h70
   split at hn <;> omega
  ·omega
 by_cases hA:n<=1
 ·have hp2:=jdt l (i+1) 8 (by omega) (by decide)
  have hlt2:=jdA l (i+1) (m:=8) (by decide)
  have ho2:=jhK l (i+1) 8 hl
  generalize pk l (i+1) 8=k8 at *
  have hlw:∀ (k:Nat) (h:k<litL.length),dgN (litL[k]'h)<=10/\(k=0->dgN (litL[k]'h)=1):=by decide
  have hlk:=hlw k8 hlt2
  refine⟨.mk 12 (litL[k8]'hlt2) eB [],i+2,.lit _ _ (List.getElem_mem _),by omega,by omega,fun κ ka kb=>by have p0:=p0 κ;have p1:=p1 κ;have pe2:=pe2 κ;rw[jyX];omega,?_⟩;clear hlw hlk
  have hr:=jdO intA litL k8 hlt2
  generalize litL[k8]'hlt2=x at *
  rcases (by omega:n=0 ∨ n=1) with rfl | rfl
  all_goals
   refine gw ?_;refine ja3 (ja2 jiX (fun _=>[0]) 1) (fun _ _ h=>h) Tryz.func113 rfl (by kernel_rfl) rfl (by kernel_rfl) ?_;intro hok;conv=>whnf
   refine ja8 0 [] rfl rfl rfl rfl (fun _=>hp) ?_;rintro o r ⟨ho,rfl⟩;cases ho;conv=>whnf
   by_cases hz0:z<=0
   all_goals
    first
    | (rw[if_pos hz0] at hn;rw[decide_eq_true hz0];(conv=>whnf);refine⟨by decide,?_⟩;rw[Int.tmod_eq_emod_of_nonneg (by omega),show (n0:Int) % 6=((n0 % 6:Nat):Int) by omega,hn])
    | (rw[if_neg hz0] at hn;rw[decide_eq_false hz0];(conv=>whnf);rw[hn])
    conv=>whnf
   all_goals
    refine ja8 0 [] rfl rfl rfl rfl (fun _=>hp2) ?_;rintro o r ⟨ho,rfl⟩;cases ho;conv=>whnf
    refine⟨⟨by omega,by omega⟩,?_⟩;conv=>whnf
    generalize hrq:List.drop (Int.toNat (k8:Int)*_) _=rq
    obtain rfl:rq=_ :: _:=hrq.symm.trans hr
    clear hrq;conv=>whnf
    exact⟨rfl,_,rfl,jb9 (f := .mk 12 x eB []) rfl⟩
 by_cases hB:n<=3
 ·obtain⟨s,hs1,hs2,hp2⟩ := jzX l (i+1) (by omega)
  refine⟨.mk 14 0 s [],i+2,.var _ _ hs1,by omega,by omega,fun κ ka kb=>by have p0:=p0 κ;have p1:=p1 κ;have pe2:=pe2 κ;rw[jyZ];omega,?_⟩
  rcases (by omega:n=2 ∨ n=3) with rfl | rfl
  all_goals
   refine gw ?_;refine ja3 (ja2 jiX (fun _=>[0]) 1) (fun _ _ h=>h) Tryz.func113 rfl (by kernel_rfl) rfl (by kernel_rfl) ?_;intro hok;conv=>whnf
   refine ja8 0 [] rfl rfl rfl rfl (fun _=>hp) ?_;rintro o r ⟨ho,rfl⟩;cases ho;conv=>whnf
   by_cases hz0:z<=0
   all_goals
    first
    | (rw[if_pos hz0] at hn;rw[decide_eq_true hz0];(conv=>whnf);refine⟨by decide,?_⟩;rw[Int.tmod_eq_emod_of_nonneg (by omega),show (n0:Int) % 6=((n0 % 6:Nat):Int) by omega,hn])
    | (rw[if_neg hz0] at hn;rw[decide_eq_false hz0];(conv=>whnf);rw[hn])
    conv=>whnf
   all_goals
    refine ja8 0 [] rfl rfl rfl rfl (fun _=>hp2) ?_;rintro o r ⟨ho,rfl⟩;cases ho;conv=>whnf
    exact⟨rfl,_,rfl,jb9 (f := .mk 14 0 s []) rfl⟩
 by_cases hC:n<=5
 ·have hp2:=jdt l (i+1) 9 (by omega) (by decide)
  have hlt2:=jdA l (i+1) (m:=9) (by decide)
  generalize pk l (i+1) 9=k8 at *
  have hlw:∀ (k:Nat) (h:k<builtL.length),(builtL[k]'h).size<=5:=by decide
  have hlk:=hlw k8 hlt2
  refine⟨.mk 15 0 (builtL[k8]'hlt2) [],i+2,.nam _ _ (List.getElem_mem _),by omega,by omega,fun κ ka kb=>by have p0:=p0 κ;have p1:=p1 κ;have pe2:=pe2 κ;rw[jyY];omega,?_⟩;clear hlw hlk
  have hr:ja5 1 k8 (ji4 builtL)=[jbm (builtL[k8]'hlt2)]:=jbZ jbm builtL k8 hlt2
  have hbu:=jjx
  generalize builtL[k8]'hlt2=s at *
  rcases (by omega:n=4 ∨ n=5) with rfl | rfl
  all_goals
   refine gw ?_;refine ja3 (ja2 jiX (fun _=>[0]) 1) (fun _ _ h=>h) Tryz.func113 rfl (by kernel_rfl) rfl (by kernel_rfl) ?_;intro hok;conv=>whnf
   refine ja8 0 [] rfl rfl rfl rfl (fun _=>hp) ?_;rintro o r ⟨ho,rfl⟩;cases ho;conv=>whnf
   by_cases hz0:z<=0
   all_goals
    first
    | (rw[if_pos hz0] at hn;rw[decide_eq_true hz0];(conv=>whnf);refine⟨by decide,?_⟩;rw[Int.tmod_eq_emod_of_nonneg (by omega),show (n0:Int) % 6=((n0 % 6:Nat):Int) by omega,hn])
    | (rw[if_neg hz0] at hn;rw[decide_eq_false hz0];(conv=>whnf);rw[hn])
    conv=>whnf
   all_goals
    (refine jac [] rfl (fun _=>hbu) ?_;rintro r rfl;conv=>whnf)
    refine ja8 0 [] rfl rfl rfl rfl (fun _=>hp2) ?_;rintro o r ⟨ho,rfl⟩;cases ho;conv=>whnf
    refine⟨⟨by omega,by show (k8:Int)<9;omega⟩,?_⟩;conv=>whnf
    (generalize hrq:ja5 _ _ (ji4 builtL)=rq;obtain rfl:rq=[jbm s]:=hrq.symm.trans (hr);clear hrq;conv=>whnf)
    exact⟨rfl,_,rfl,jb9 (f := .mk 15 0 s []) rfl⟩
 have hzp:0<z:=by
  by_cases h:0<z
  ·exact h
  ·have:=hn6 (by omega);omega
 obtain⟨e,rfl⟩ : ∃ e,d=e+1:=⟨d-1,by omega⟩
 have ihe:=ih e rfl
 unfold bI at hi
 by_cases hD:n<=7
 ·obtain⟨f,i2,hf,g1,g2,w1,hs⟩ := ihe hl (i+1) (z-1) (by omega) (by omega) (by omega) (by omega)
  rcases (by omega:n=6 ∨ n=7) with rfl | rfl
  ·refine⟨.mk 16 0 eB [f],i2,.drw _ _ hf,by omega,by unfold bI;omega,fun κ ka kb=>by have p0:=p0 κ;have p1:=p1 κ;have pe2:=pe2 κ;have w1:=w1 κ ka kb;rw[jyW];omega,?_⟩;refine gw ?_;refine ja3 (ja2 jiX (fun _=>[0]) 1) (fun _ _ h=>h) Tryz.func113 rfl (by kernel_rfl) rfl (by kernel_rfl) ?_;intro hok;conv=>whnf
   refine ja8 0 [] rfl rfl rfl rfl (fun _=>hp) ?_;rintro o r ⟨ho,rfl⟩;cases ho;conv=>whnf
   by_cases hz0:z<=0
   all_goals
    first
    | (rw[if_pos hz0] at hn;rw[decide_eq_true hz0];(conv=>whnf);refine⟨by decide,?_⟩;rw[Int.tmod_eq_emod_of_nonneg (by omega),show (n0:Int) % 6=((n0 % 6:Nat):Int) by omega,hn])
    | (rw[if_neg hz0] at hn;rw[decide_eq_false hz0];(conv=>whnf);rw[hn])
    conv=>whnf
   ·exact absurd hz0 (by omega)
   refine⟨ja7 (by omega),?_⟩;conv=>whnf
   refine ja8 0 [] rfl rfl rfl rfl (fun _=>hs) ?_;rintro o r ⟨ho,rfl⟩;cases ho;conv=>whnf
   exact⟨rfl,_,rfl,by rw[jc7];exact jaU _⟩
  ·have hsz:pMinus.size=1:=rfl
   refine⟨.mk 17 0 pMinus [f],i2,.neg _ _ hf,by omega,by unfold bI;omega,fun κ ka kb=>by have p0:=p0 κ;have p1:=p1 κ;have pe2:=pe2 κ;have w1:=w1 κ ka kb;rw[jvb];omega,?_⟩;refine gw ?_;refine ja3 (ja2 jiX (fun _=>[0]) 1) (fun _ _ h=>h) Tryz.func113 rfl (by kernel_rfl) rfl (by kernel_rfl) ?_;intro hok;conv=>whnf
   refine ja8 0 [] rfl rfl rfl rfl (fun _=>hp) ?_;rintro o r ⟨ho,rfl⟩;cases ho;conv=>whnf
   by_cases hz0:z<=0
   all_goals
    first
    | (rw[if_pos hz0] at hn;rw[decide_eq_true hz0];(conv=>whnf);refine⟨by decide,?_⟩;rw[Int.tmod_eq_emod_of_nonneg (by omega),show (n0:Int) % 6=((n0 % 6:Nat):Int) by omega,hn])
    | (rw[if_neg hz0] at hn;rw[decide_eq_false hz0];(conv=>whnf);rw[hn])
    conv=>whnf
   ·exact absurd hz0 (by omega)
   refine⟨ja7 (by omega),?_⟩;conv=>whnf
   refine ja8 0 [] rfl rfl rfl rfl (fun _=>hs) ?_;rintro o r ⟨ho,rfl⟩;cases ho;conv=>whnf
   exact⟨rfl,_,rfl,by rw[jc7];exact jaU _⟩
 have hp2:=jdt l (i+1) 4 (by omega) (by decide)
 have hlt2:=jdA l (i+1) (m:=4) (by decide)
 generalize pk l (i+1) 4=k8 at *
 obtain⟨f,i2,hf,g1,g2,w1,hs⟩ := ihe hl (i+1+1) (z-1) (by omega) (by omega) (by omega) (by omega)
 obtain⟨g,i3,hg,g3,g4,w2,hs2⟩ := ihe hl i2 (z-1) (by omega) (by omega) (by omega) (by omega)
 have hlw:∀ (k:Nat) (h:k<opL.length),(opL[k]'h).size=1:=by decide
 have hlk:=hlw k8 hlt2
 refine⟨.mk 18 0 (opL[k8]'hlt2) [f,g],i3,.bin _ _ _ _ (List.getElem_mem _) hf hg,by omega,by unfold bI;omega,fun κ ka kb=>by have p0:=p0 κ;have p1:=p1 κ;have pe2:=pe2 κ;have w1:=w1 κ ka kb;have w2:=w2 κ ka kb;rw[jsE];omega,?_⟩;clear hlw hlk
 have hr:=jdO jbm opL k8 hlt2
 generalize opL[k8]'hlt2=s at *
 rcases (by omega:n=8 ∨ n=9 ∨ n=10 ∨ n=11) with rfl | rfl | rfl | rfl
 all_goals
  refine gw ?_;refine ja3 (ja2 jiX (fun _=>[0]) 1) (fun _ _ h=>h) Tryz.func113 rfl (by kernel_rfl) rfl (by kernel_rfl) ?_;intro hok;conv=>whnf
  refine ja8 0 [] rfl rfl rfl rfl (fun _=>hp) ?_;rintro o r ⟨ho,rfl⟩;cases ho;conv=>whnf
  by_cases hz0:z<=0
  all_goals
   first
   | (rw[if_pos hz0] at hn;rw[decide_eq_true hz0];(conv=>whnf);refine⟨by decide,?_⟩;rw[Int.tmod_eq_emod_of_nonneg (by omega),show (n0:Int) % 6=((n0 % 6:Nat):Int) by omega,hn])
   | (rw[if_neg hz0] at hn;rw[decide_eq_false hz0];(conv=>whnf);rw[hn])
   conv=>whnf
  ·exact absurd hz0 (by omega)
  refine ja8 0 [] rfl rfl rfl rfl (fun _=>hp2) ?_;rintro o r ⟨ho,rfl⟩;cases ho;conv=>whnf
  refine⟨⟨by omega,by omega⟩,?_⟩;conv=>whnf
  generalize hrq:List.drop (Int.toNat (k8:Int)*_) _=rq
  obtain rfl:rq=_ :: _:=hrq.symm.trans hr
  clear hrq;conv=>whnf
  refine⟨ja7 (by omega),?_⟩;conv=>whnf
  refine ja8 0 [] rfl rfl rfl rfl (fun _=>hs) ?_;rintro o r ⟨ho,rfl⟩;cases ho;conv=>whnf
  refine⟨ja7 (by omega),?_⟩;conv=>whnf
  refine ja8 0 [] rfl rfl rfl rfl (fun _=>hs2) ?_;rintro o r ⟨ho,rfl⟩;cases ho;conv=>whnf
  exact⟨rfl,_,rfl,by rw[jd1];exact jaU _⟩
theorem jhr (l:List Int):∀ d,jzt l d
 | 0=>jAK l 0 fun e h=>by omega
 | d+1=>jAK l (d+1) fun e h=>by
  obtain rfl:d=e:=by omega
  exact jhr l d
def bolL:List ByteArray:=[jga,pOr]
inductive EB:Nat->Nt->Prop
 | lit (d n:Nat) (h:n<2):EB d (.mk 13 n eB [])
 | nt (d:Nat) (f:Nt) (h:EB d f):EB (d+1) (.mk 17 0 pNot [f])
 | bin (d:Nat) (s:ByteArray) (f g:Nt) (hs:s ∈ bolL) (h1:EB d f) (h2:EB d g):EB (d+1) (.mk 18 0 s [f,g])
 | cmp (d:Nat) (s:ByteArray) (f g:Nt) (hs:s ∈ cmpL) (h1:EI (d-1) f) (h2:EI (d-1) g):EB d (.mk 18 0 s [f,g])
def bB:Nat->Nat
 | 0=>6
 | d+1=>2+2*bB d+2*bI d
theorem jzK:∀ d,2+2*bI (d-1)<=bB d
 | 0=>by decide
 | d+1=>by unfold bB;rw[Nat.add_sub_cancel];omega
def jzs (l:List Int) (d:Nat):Prop:=l.length<=70 -> ∀ (i:Nat) (z:Int),z.toNat=d -> -3<=z->z<=10->i+bB d<=1000000000 -> ∃ f i',EB d f/\i<=i'/\i'<=i+bB d/\(∀ κ,1<=κ->κ<=7->wN κ f+phA κ i<=5+κ+phA κ i')/\Spec Tryz.prog 114 [bxG l i] [.box 0 0,.v (.int .i64 z)] fun o r=>o=[bxG l i']/\r = .agg (ntA f)
set_option maxHeartbeats 1000000 in
theorem jy3 (l:List Int) (d:Nat) (ih:∀ e,d=e+1->jzs l e):jzs l d:=fun hl i z hz h1 h2 hi=>by
 have hge:=jzK d
 have hge2:=jxm (d-1)
 have hp:=jdt l i 8 (by omega) (by decide)
 have hlt:=jdA l i (m:=8) (by decide)
 have ho:=jhK l i 8 hl
 have p0:=fun κ=>jhI κ i
 have p1:=fun κ=>jhI κ (i+1)
 have pe2:∀ κ,phA κ (i+2)=phA κ (i+1+1):=fun _=>rfl
 generalize pk l i 8=n0 at *
 obtain⟨n,hn⟩ : ∃ n,(if z<=0 then n0 % 4 else n0)=n:=⟨_,rfl⟩
 have hn12:n<8:=by split at hn <;> omega
 have hn6:z<=0->n<4:=fun h=>by rw[if_pos h] at hn;omega
 have hlo:n ≠ 0->i<70:=fun h=>by
  by_cases h70:70<=i
  ·have:=ho h70
   split at hn <;> omega
  ·omega
 by_cases hA:n=0
 ·have hp2:=jdt l (i+1) 2 (by omega) (by decide)
  have hlt2:=jdA l (i+1) (m:=2) (by decide)
  generalize pk l (i+1) 2=k8 at *;refine⟨.mk 13 k8 eB [],i+2,.lit _ _ hlt2,by omega,by omega,fun κ ka kb=>by have p0:=p0 κ;have p1:=p1 κ;have pe2:=pe2 κ;rw[jwP];omega,?_⟩;subst hA;refine gw ?_;refine ja3 (ja2 joI (fun _=>[0]) 1) (fun _ _ h=>h) Tryz.func114 rfl (by kernel_rfl) rfl (by kernel_rfl) ?_;intro hok;conv=>whnf
  refine ja8 0 [] rfl rfl rfl rfl (fun _=>hp) ?_;rintro o r ⟨ho,rfl⟩;cases ho;conv=>whnf
  by_cases hz0:z<=0
  all_goals
   first
   | (rw[if_pos hz0] at hn;rw[decide_eq_true hz0];(conv=>whnf);refine⟨by decide,?_⟩;rw[Int.tmod_eq_emod_of_nonneg (by omega),show (n0:Int) % 4=((n0 % 4:Nat):Int) by omega,hn])
   | (rw[if_neg hz0] at hn;rw[decide_eq_false hz0];(conv=>whnf);rw[hn])
   conv=>whnf
  all_goals
   refine ja8 0 [] rfl rfl rfl rfl (fun _=>hp2) ?_;rintro o r ⟨ho,rfl⟩;cases ho;conv=>whnf
   exact⟨rfl,_,rfl,jb9 (f := .mk 13 k8 eB []) rfl⟩
 by_cases hB:n<=4
 ·have hp2:=jdt l (i+1) 6 (by omega) (by decide)
  have hlt2:=jdA l (i+1) (m:=6) (by decide)
  generalize pk l (i+1) 6=k8 at *
  obtain⟨f,i2,hf,g1,g2,w1,hs⟩ := jhr l (d-1) hl (i+1+1) (z-1) (by omega) (by omega) (by omega) (by omega)
  obtain⟨g,i3,hg,g3,g4,w2,hs2⟩ := jhr l (d-1) hl i2 (z-1) (by omega) (by omega) (by omega) (by omega)
  have hlw:∀ (k:Nat) (h:k<cmpL.length),(cmpL[k]'h).size<=2:=by decide
  have hlk:=hlw k8 hlt2
  refine⟨.mk 18 0 (cmpL[k8]'hlt2) [f,g],i3,.cmp _ _ _ _ (List.getElem_mem _) hf hg,by omega,by omega,fun κ ka kb=>by have p0:=p0 κ;have p1:=p1 κ;have pe2:=pe2 κ;have w1:=w1 κ ka kb;have w2:=w2 κ ka kb;rw[jsE];omega,?_⟩;clear hlw hlk
  have hr:=jdO jbm cmpL k8 hlt2
  generalize cmpL[k8]'hlt2=s at *
  rcases (by omega:n=1 ∨ n=2 ∨ n=3 ∨ n=4) with rfl | rfl | rfl | rfl
  all_goals
   refine gw ?_;refine ja3 (ja2 joI (fun _=>[0]) 1) (fun _ _ h=>h) Tryz.func114 rfl (by kernel_rfl) rfl (by kernel_rfl) ?_;intro hok;conv=>whnf
   refine ja8 0 [] rfl rfl rfl rfl (fun _=>hp) ?_;rintro o r ⟨ho,rfl⟩;cases ho;conv=>whnf
   by_cases hz0:z<=0
   all_goals
    first
    | (rw[if_pos hz0] at hn;rw[decide_eq_true hz0];(conv=>whnf);refine⟨by decide,?_⟩;rw[Int.tmod_eq_emod_of_nonneg (by omega),show (n0:Int) % 4=((n0 % 4:Nat):Int) by omega,hn])
    | (rw[if_neg hz0] at hn;rw[decide_eq_false hz0];(conv=>whnf);rw[hn])
    conv=>whnf
   all_goals
    refine ja8 0 [] rfl rfl rfl rfl (fun _=>hp2) ?_;rintro o r ⟨ho,rfl⟩;cases ho;conv=>whnf
    refine⟨⟨by omega,by omega⟩,?_⟩;conv=>whnf
    generalize hrq:List.drop (Int.toNat (k8:Int)*_) _=rq
    obtain rfl:rq=_ :: _:=hrq.symm.trans hr
    clear hrq;conv=>whnf
    refine⟨ja7 (by omega),?_⟩;conv=>whnf
    refine ja8 0 [] rfl rfl rfl rfl (fun _=>hs) ?_;rintro o r ⟨ho,rfl⟩;cases ho;conv=>whnf
    refine⟨ja7 (by omega),?_⟩;conv=>whnf
    refine ja8 0 [] rfl rfl rfl rfl (fun _=>hs2) ?_;rintro o r ⟨ho,rfl⟩;cases ho;conv=>whnf
    exact⟨rfl,_,rfl,by rw[jd1];exact jaU _⟩
 have hzp:0<z:=by
  by_cases h:0<z
  ·exact h
  ·have:=hn6 (by omega);omega
 obtain⟨e,rfl⟩ : ∃ e,d=e+1:=⟨d-1,by omega⟩
 have ihe:=ih e rfl
 unfold bB at hi
 by_cases hD:n=5
 ·obtain⟨f,i2,hf,g1,g2,w1,hs⟩ := ihe hl (i+1) (z-1) (by omega) (by omega) (by omega) (by omega)
  subst hD
  have hsz:pNot.size=1:=rfl
  refine⟨.mk 17 0 pNot [f],i2,.nt _ _ hf,by omega,by unfold bB;omega,fun κ ka kb=>by have p0:=p0 κ;have p1:=p1 κ;have pe2:=pe2 κ;have w1:=w1 κ ka kb;rw[jvb];omega,?_⟩;refine gw ?_;refine ja3 (ja2 joI (fun _=>[0]) 1) (fun _ _ h=>h) Tryz.func114 rfl (by kernel_rfl) rfl (by kernel_rfl) ?_;intro hok;conv=>whnf
  refine ja8 0 [] rfl rfl rfl rfl (fun _=>hp) ?_;rintro o r ⟨ho,rfl⟩;cases ho;conv=>whnf
  by_cases hz0:z<=0
  all_goals
   first
   | (rw[if_pos hz0] at hn;rw[decide_eq_true hz0];(conv=>whnf);refine⟨by decide,?_⟩;rw[Int.tmod_eq_emod_of_nonneg (by omega),show (n0:Int) % 4=((n0 % 4:Nat):Int) by omega,hn])
   | (rw[if_neg hz0] at hn;rw[decide_eq_false hz0];(conv=>whnf);rw[hn])
   conv=>whnf
  ·exact absurd hz0 (by omega)
  refine⟨ja7 (by omega),?_⟩;conv=>whnf
  refine ja8 0 [] rfl rfl rfl rfl (fun _=>hs) ?_;rintro o r ⟨ho,rfl⟩;cases ho;conv=>whnf
  exact⟨rfl,_,rfl,by rw[jc7];exact jaU _⟩
 have hp2:=jdt l (i+1) 2 (by omega) (by decide)
 have hlt2:=jdA l (i+1) (m:=2) (by decide)
 generalize pk l (i+1) 2=k8 at *
 obtain⟨f,i2,hf,g1,g2,w1,hs⟩ := ihe hl (i+1+1) (z-1) (by omega) (by omega) (by omega) (by omega)
 obtain⟨g,i3,hg,g3,g4,w2,hs2⟩ := ihe hl i2 (z-1) (by omega) (by omega) (by omega) (by omega)
 have hlw:∀ (k:Nat) (h:k<bolL.length),(bolL[k]'h).size=2:=by decide
 have hlk:=hlw k8 hlt2
 refine⟨.mk 18 0 (bolL[k8]'hlt2) [f,g],i3,.bin _ _ _ _ (List.getElem_mem _) hf hg,by omega,by unfold bB;omega,fun κ ka kb=>by have p0:=p0 κ;have p1:=p1 κ;have pe2:=pe2 κ;have w1:=w1 κ ka kb;have w2:=w2 κ ka kb;rw[jsE];omega,?_⟩;clear hlw hlk
 have hr:=jdO jbm bolL k8 hlt2
 generalize bolL[k8]'hlt2=s at *
 rcases (by omega:n=6 ∨ n=7) with rfl | rfl
 all_goals
  refine gw ?_;refine ja3 (ja2 joI (fun _=>[0]) 1) (fun _ _ h=>h) Tryz.func114 rfl (by kernel_rfl) rfl (by kernel_rfl) ?_;intro hok;conv=>whnf
  refine ja8 0 [] rfl rfl rfl rfl (fun _=>hp) ?_;rintro o r ⟨ho,rfl⟩;cases ho;conv=>whnf
  by_cases hz0:z<=0
  all_goals
   first
   | (rw[if_pos hz0] at hn;rw[decide_eq_true hz0];(conv=>whnf);refine⟨by decide,?_⟩;rw[Int.tmod_eq_emod_of_nonneg (by omega),show (n0:Int) % 4=((n0 % 4:Nat):Int) by omega,hn])
   | (rw[if_neg hz0] at hn;rw[decide_eq_false hz0];(conv=>whnf);rw[hn])
   conv=>whnf
  ·exact absurd hz0 (by omega)
  refine ja8 0 [] rfl rfl rfl rfl (fun _=>hp2) ?_;rintro o r ⟨ho,rfl⟩;cases ho;conv=>whnf
  refine⟨⟨by omega,by omega⟩,?_⟩;conv=>whnf
  generalize hrq:List.drop (Int.toNat (k8:Int)*_) _=rq
  obtain rfl:rq=_ :: _:=hrq.symm.trans hr
  clear hrq;conv=>whnf
  refine⟨ja7 (by omega),?_⟩;conv=>whnf
  refine ja8 0 [] rfl rfl rfl rfl (fun _=>hs) ?_;rintro o r ⟨ho,rfl⟩;cases ho;conv=>whnf
  refine⟨ja7 (by omega),?_⟩;conv=>whnf
  refine ja8 0 [] rfl rfl rfl rfl (fun _=>hs2) ?_;rintro o r ⟨ho,rfl⟩;cases ho;conv=>whnf
  exact⟨rfl,_,rfl,by rw[jd1];exact jaU _⟩
theorem jr1 (l:List Int):∀ d,jzs l d
 | 0=>jy3 l 0 fun e h=>by omega
 | d+1=>jy3 l (d+1) fun e h=>by
  obtain rfl:d=e:=by omega
  exact jr1 l d
inductive ES:Nat->Nt->Prop
 | asg (d e:Nat) (s:ByteArray) (f:Nt) (hs:s ∈ varL) (h:EI e f) (he:e<=2):ES d (.mk 1 0 s [f])
 | snd (d n:Nat) (f g h:Nt) (hn:n<4) (h1:EI 0 f) (h2:EI 1 g) (h3:EI 1 h):ES d (.mk 4 n eB [f,g,h])
 | tim (d n:Nat) (hn:n<3):ES d (.mk 5 n eB [])
 | can (d n:Nat) (hn:n<3):ES d (.mk 6 n eB [])
 | syn (d:Nat):ES d (.mk 7 0 eB [])
 | rep (d:Nat) (f g:Nt) (h1:EI 0 f) (h2:EI 1 g):ES d (.mk 8 0 eB [f,g])
 | fai (d:Nat) (f:Nt) (h1:EI 1 f):ES d (.mk 9 0 eB [f])
 | stp (d:Nat):ES d (.mk 10 0 eB [])
 | whi (d:Nat) (c:Nt) (l:List Nt) (h1:EB 1 c) (h2:l.length<=2) (h3:∀ s ∈ l,ES d s):ES (d+1) (.mk 3 0 eB [c,jeL l])
 | iff (d:Nat) (c:Nt) (l m:List Nt) (h1:EB 2 c) (h2:l.length<=2) (h3:∀ s ∈ l,ES d s) (h4:m.length<=2) (h5:∀ s ∈ m,ES d s):ES (d+1) (.mk 2 0 eB [c,jeL l,jeL m])
theorem jzj (c:Nat) {n:Nat} (h:n<=2):(n=0/\c*n=0) ∨ (n=1/\c*n=c) ∨ (n=2/\c*n=2*c):=by
 rcases (by omega:n=0 ∨ n=1 ∨ n=2) with rfl | rfl | rfl <;> omega
def bS:Nat->Nat
 | 0=>60
 | d+1=>62+4*bS d
theorem jzL:∀ d,60<=bS d
 | 0=>Nat.le_refl _
 | d+1=>by unfold bS;omega
def jx8 (l:List Int) (d:Nat):Prop:=l.length<=70 -> ∀ (i:Nat) (z:Int),z.toNat=d->0<=z->z<=5->i+bS d<=1000000000 -> ∃ f i',ES d f/\i<=i'/\i'<=i+bS d/\(∀ κ,1<=κ->κ<=7->wS κ f+phi κ i<=4+4*κ+phi κ i')/\Spec Tryz.prog 75 [bxG l i] [.box 0 0,.v (.int .i64 z)] fun o r=>o=[bxG l i']/\r = .agg (ntA f)
def jzu (l:List Int) (d:Nat):Prop:=l.length<=70 -> ∀ (i m:Nat) (z:Int),z.toNat=d->0<=z->z<=5->m<=3->i+(1+m*bS d)<=1000000000 -> ∃ k i',k.length<=m/\(∀ s ∈ k,ES d s)/\i<=i'/\i'<=i+(1+m*bS d)/\((∀ κ,1<=κ->κ<=7->wSs κ k+phi κ (i+1)<=(4+4*κ)*k.length+phi κ i')/\(70<=i->k.length=0))/\Spec Tryz.prog 38 [bxG l i] [.box 0 0,.v (.int .i64 z),.v (.int .i64 m)] fun o r=>o=[bxG l i']/\r = .agg (ntA (jeL k))
set_option maxHeartbeats 2000000 in
theorem jzV (l:List Int) (d:Nat) (ih:∀ e,d=e+1->jzu l e):jx8 l d:=fun hl i z hz h1 h2 hi=>by
 have hge:=jzL d
 have b0:bI 0=2:=rfl
 have b1:bI 1=6:=rfl
 have b2:bI 2=14:=rfl
 have c1:bB 1=18:=rfl
 have c2:bB 2=50:=rfl
 have hp:=jdt l i 14 (by omega) (by decide)
 have hlt:=jdA l i (m:=14) (by decide)
 have ho:=jhK l i 14 hl
 have p0:=fun κ=>jdf κ i
 have p1:=fun κ=>jdf κ (i+1)
 have pe2:∀ κ,phi κ (i+2)=phi κ (i+1+1):=fun _=>rfl
 have p2:=fun κ=>jdf κ (i+1+1)
 generalize pk l i 14=n0 at *
 obtain⟨n,hn⟩ : ∃ n,(if z<=0 then n0 % 11 else n0)=n:=⟨_,rfl⟩
 have hn12:n<14:=by split at hn <;> omega
 have hn6:z<=0->n<11:=fun h=>by rw[if_pos h] at hn;omega
 have hlo:n ≠ 0->i<70:=fun h=>by
  by_cases h70:70<=i
  ·have:=ho h70
   split at hn <;> omega
  ·omega
 by_cases hA:n<=2
 ·obtain⟨s,hs1,⟨hz3,hz1⟩,hp2⟩ := jzX l (i+1) (by omega)
  have hz1:=hz1 hl
  obtain⟨f,i2,hf,g1,g2,w1,hs⟩ := jhr l 2 hl (i+1+1) 2 (by omega) (by omega) (by omega) (by omega)
  have w1:=fun κ ka kb=>jeT (by omega) (w1 κ ka kb)
  refine⟨.mk 1 0 s [f],i2,.asg _ _ _ _ hs1 hf (Nat.le_refl _),by omega,by omega,fun κ ka kb=>by have p0:=p0 κ;have p1:=p1 κ;have pe2:=pe2 κ;have p2:=p2 κ;have w1:=w1 κ ka kb;rw[jvc];omega,?_⟩
  rcases (by omega:n=0 ∨ n=1 ∨ n=2) with rfl | rfl | rfl
  all_goals
   refine gw ?_;refine ja3 (ja2 jgH (fun _=>[0]) 1) (fun _ _ h=>h) Tryz.func75 rfl (by kernel_rfl) rfl (by kernel_rfl) ?_;intro hok;conv=>whnf
   refine ja8 0 [] rfl rfl rfl rfl (fun _=>hp) ?_;rintro o r ⟨ho,rfl⟩;cases ho;conv=>whnf
   by_cases hz0:z<=0
   all_goals
    first
    | (rw[if_pos hz0] at hn;rw[decide_eq_true hz0];(conv=>whnf);refine⟨by decide,?_⟩;rw[Int.tmod_eq_emod_of_nonneg (by omega),show (n0:Int) % 11=((n0 % 11:Nat):Int) by omega,hn])
    | (rw[if_neg hz0] at hn;rw[decide_eq_false hz0];(conv=>whnf);rw[hn])
    conv=>whnf
   all_goals
    refine ja8 0 [] rfl rfl rfl rfl (fun _=>hp2) ?_;rintro o r ⟨ho,rfl⟩;cases ho;conv=>whnf
    refine ja8 0 [] rfl rfl rfl rfl (fun _=>hs) ?_;rintro o r ⟨ho,rfl⟩;cases ho;conv=>whnf
    exact⟨rfl,_,rfl,by rw[jc7];exact jaU _⟩
 by_cases hB:n<=4
 ·obtain⟨f,i2,hf,g1,g2,w1,hs1⟩ := jhr l 0 hl (i+1) 0 (by omega) (by omega) (by omega) (by omega)
  have hp2:=jdt l i2 4 (by omega) (by decide)
  have hlt2:=jdA l i2 (m:=4) (by decide)
  generalize pk l i2 4=k8 at *
  have p3:=fun κ=>jhI κ i2
  have q0:=fun κ=>jhI κ i
  have qi:=fun κ=>jpS κ i
  obtain⟨g,i3,hg,g3,g4,w2,hs2⟩ := jhr l 1 hl (i2+1) 1 (by omega) (by omega) (by omega) (by omega)
  obtain⟨h,i4,hh,g5,g6,w3,hs3⟩ := jhr l 1 hl i3 1 (by omega) (by omega) (by omega) (by omega)
  refine⟨.mk 4 k8 eB [f,g,h],i4,.snd _ _ _ _ _ hlt2 hf hg hh,by omega,by omega,fun κ ka kb=>by have qj:=jpS κ i4;have p3:=p3 κ;have q0:=q0 κ;have qi:=qi κ;have w1:=w1 κ ka kb;have w2:=w2 κ ka kb;have w3:=w3 κ ka kb;rw[jz4];omega,?_⟩
  rcases (by omega:n=3 ∨ n=4) with rfl | rfl
  all_goals
   refine gw ?_;refine ja3 (ja2 jgH (fun _=>[0]) 1) (fun _ _ h=>h) Tryz.func75 rfl (by kernel_rfl) rfl (by kernel_rfl) ?_;intro hok;conv=>whnf
   refine ja8 0 [] rfl rfl rfl rfl (fun _=>hp) ?_;rintro o r ⟨ho,rfl⟩;cases ho;conv=>whnf
   by_cases hz0:z<=0
   all_goals
    first
    | (rw[if_pos hz0] at hn;rw[decide_eq_true hz0];(conv=>whnf);refine⟨by decide,?_⟩;rw[Int.tmod_eq_emod_of_nonneg (by omega),show (n0:Int) % 11=((n0 % 11:Nat):Int) by omega,hn])
    | (rw[if_neg hz0] at hn;rw[decide_eq_false hz0];(conv=>whnf);rw[hn])
    conv=>whnf
   all_goals
    refine ja8 0 [] rfl rfl rfl rfl (fun _=>hs1) ?_;rintro o r ⟨ho,rfl⟩;cases ho;conv=>whnf
    refine ja8 0 [] rfl rfl rfl rfl (fun _=>hp2) ?_;rintro o r ⟨ho,rfl⟩;cases ho;conv=>whnf
    refine ja8 0 [] rfl rfl rfl rfl (fun _=>hs2) ?_;rintro o r ⟨ho,rfl⟩;cases ho;conv=>whnf
    refine ja8 0 [] rfl rfl rfl rfl (fun _=>hs3) ?_;rintro o r ⟨ho,rfl⟩;cases ho;conv=>whnf
    exact⟨rfl,_,rfl,by rw[jdV];exact jaU _⟩
 by_cases hC:n<=6
 ·have hp2:=jdt l (i+1) 3 (by omega) (by decide)
  have hlt2:=jdA l (i+1) (m:=3) (by decide)
  generalize pk l (i+1) 3=k8 at *
  rcases (by omega:n=5 ∨ n=6) with rfl | rfl
  ·refine⟨.mk 5 k8 eB [],i+2,.tim _ _ hlt2,by omega,by omega,fun κ ka kb=>by have p0:=p0 κ;have p1:=p1 κ;have pe2:=pe2 κ;have p2:=p2 κ;rw[jz7];omega,?_⟩;refine gw ?_;refine ja3 (ja2 jgH (fun _=>[0]) 1) (fun _ _ h=>h) Tryz.func75 rfl (by kernel_rfl) rfl (by kernel_rfl) ?_;intro hok;conv=>whnf
   refine ja8 0 [] rfl rfl rfl rfl (fun _=>hp) ?_;rintro o r ⟨ho,rfl⟩;cases ho;conv=>whnf
   by_cases hz0:z<=0
   all_goals
    first
    | (rw[if_pos hz0] at hn;rw[decide_eq_true hz0];(conv=>whnf);refine⟨by decide,?_⟩;rw[Int.tmod_eq_emod_of_nonneg (by omega),show (n0:Int) % 11=((n0 % 11:Nat):Int) by omega,hn])
    | (rw[if_neg hz0] at hn;rw[decide_eq_false hz0];(conv=>whnf);rw[hn])
    conv=>whnf
   all_goals
    refine ja8 0 [] rfl rfl rfl rfl (fun _=>hp2) ?_;rintro o r ⟨ho,rfl⟩;cases ho;conv=>whnf
    exact⟨rfl,_,rfl,jb9 (f := .mk 5 k8 eB []) rfl⟩
  ·refine⟨.mk 6 k8 eB [],i+2,.can _ _ hlt2,by omega,by omega,fun κ ka kb=>by have p0:=p0 κ;have p1:=p1 κ;have pe2:=pe2 κ;have p2:=p2 κ;rw[jz0];omega,?_⟩;refine gw ?_;refine ja3 (ja2 jgH (fun _=>[0]) 1) (fun _ _ h=>h) Tryz.func75 rfl (by kernel_rfl) rfl (by kernel_rfl) ?_;intro hok;conv=>whnf
   refine ja8 0 [] rfl rfl rfl rfl (fun _=>hp) ?_;rintro o r ⟨ho,rfl⟩;cases ho;conv=>whnf
   by_cases hz0:z<=0
   all_goals
    first
    | (rw[if_pos hz0] at hn;rw[decide_eq_true hz0];(conv=>whnf);refine⟨by decide,?_⟩;rw[Int.tmod_eq_emod_of_nonneg (by omega),show (n0:Int) % 11=((n0 % 11:Nat):Int) by omega,hn])
    | (rw[if_neg hz0] at hn;rw[decide_eq_false hz0];(conv=>whnf);rw[hn])
    conv=>whnf
   all_goals
    refine ja8 0 [] rfl rfl rfl rfl (fun _=>hp2) ?_;rintro o r ⟨ho,rfl⟩;cases ho;conv=>whnf
    exact⟨rfl,_,rfl,jb9 (f := .mk 6 k8 eB []) rfl⟩
 by_cases hD:n=7
 ·subst hD;refine⟨.mk 7 0 eB [],i+1,.syn _,by omega,by omega,fun κ ka kb=>by have p0:=p0 κ;have p1:=p1 κ;have pe2:=pe2 κ;have p2:=p2 κ;rw[jz6];omega,?_⟩;refine gw ?_;refine ja3 (ja2 jgH (fun _=>[0]) 1) (fun _ _ h=>h) Tryz.func75 rfl (by kernel_rfl) rfl (by kernel_rfl) ?_;intro hok;conv=>whnf
  refine ja8 0 [] rfl rfl rfl rfl (fun _=>hp) ?_;rintro o r ⟨ho,rfl⟩;cases ho;conv=>whnf
  by_cases hz0:z<=0
  all_goals
   first
   | (rw[if_pos hz0] at hn;rw[decide_eq_true hz0];(conv=>whnf);refine⟨by decide,?_⟩;rw[Int.tmod_eq_emod_of_nonneg (by omega),show (n0:Int) % 11=((n0 % 11:Nat):Int) by omega,hn])
   | (rw[if_neg hz0] at hn;rw[decide_eq_false hz0];(conv=>whnf);rw[hn])
   conv=>whnf
  all_goals
   exact⟨rfl,_,rfl,jb9 (f := .mk 7 0 eB []) rfl⟩
 by_cases hE:n=8
 ·subst hE
  obtain⟨f,i2,hf,g1,g2,w1,hs1⟩ := jhr l 0 hl (i+1) 0 (by omega) (by omega) (by omega) (by omega)
  have w1:=fun κ ka kb=>jeT (by omega) (w1 κ ka kb)
  obtain⟨g,i3,hg,g3,g4,w2,hs2⟩ := jhr l 1 hl i2 1 (by omega) (by omega) (by omega) (by omega)
  have w2:=fun κ ka kb=>jeT (by omega) (w2 κ ka kb)
  refine⟨.mk 8 0 eB [f,g],i3,.rep _ _ _ hf hg,by omega,by omega,fun κ ka kb=>by have p0:=p0 κ;have p1:=p1 κ;have pe2:=pe2 κ;have p2:=p2 κ;have w1:=w1 κ ka kb;have w2:=w2 κ ka kb;rw[jz3];omega,?_⟩;refine gw ?_;refine ja3 (ja2 jgH (fun _=>[0]) 1) (fun _ _ h=>h) Tryz.func75 rfl (by kernel_rfl) rfl (by kernel_rfl) ?_;intro hok;conv=>whnf
  refine ja8 0 [] rfl rfl rfl rfl (fun _=>hp) ?_;rintro o r ⟨ho,rfl⟩;cases ho;conv=>whnf
  by_cases hz0:z<=0
  all_goals
   first
   | (rw[if_pos hz0] at hn;rw[decide_eq_true hz0];(conv=>whnf);refine⟨by decide,?_⟩;rw[Int.tmod_eq_emod_of_nonneg (by omega),show (n0:Int) % 11=((n0 % 11:Nat):Int) by omega,hn])
   | (rw[if_neg hz0] at hn;rw[decide_eq_false hz0];(conv=>whnf);rw[hn])
   conv=>whnf
  all_goals
   refine ja8 0 [] rfl rfl rfl rfl (fun _=>hs1) ?_;rintro o r ⟨ho,rfl⟩;cases ho;conv=>whnf
   refine ja8 0 [] rfl rfl rfl rfl (fun _=>hs2) ?_;rintro o r ⟨ho,rfl⟩;cases ho;conv=>whnf
   exact⟨rfl,_,rfl,by rw[jd1];exact jaU _⟩
 by_cases hF:n=9
 ·subst hF
  obtain⟨f,i2,hf,g1,g2,w1,hs1⟩ := jhr l 1 hl (i+1) 1 (by omega) (by omega) (by omega) (by omega)
  have w1:=fun κ ka kb=>jeT (by omega) (w1 κ ka kb)
  refine⟨.mk 9 0 eB [f],i2,.fai _ _ hf,by omega,by omega,fun κ ka kb=>by have p0:=p0 κ;have p1:=p1 κ;have pe2:=pe2 κ;have p2:=p2 κ;have w1:=w1 κ ka kb;rw[jz1];omega,?_⟩;refine gw ?_;refine ja3 (ja2 jgH (fun _=>[0]) 1) (fun _ _ h=>h) Tryz.func75 rfl (by kernel_rfl) rfl (by kernel_rfl) ?_;intro hok;conv=>whnf
  refine ja8 0 [] rfl rfl rfl rfl (fun _=>hp) ?_;rintro o r ⟨ho,rfl⟩;cases ho;conv=>whnf
  by_cases hz0:z<=0
  all_goals
   first
   | (rw[if_pos hz0] at hn;rw[decide_eq_true hz0];(conv=>whnf);refine⟨by decide,?_⟩;rw[Int.tmod_eq_emod_of_nonneg (by omega),show (n0:Int) % 11=((n0 % 11:Nat):Int) by omega,hn])
   | (rw[if_neg hz0] at hn;rw[decide_eq_false hz0];(conv=>whnf);rw[hn])
   conv=>whnf
  all_goals
   refine ja8 0 [] rfl rfl rfl rfl (fun _=>hs1) ?_;rintro o r ⟨ho,rfl⟩;cases ho;conv=>whnf
   exact⟨rfl,_,rfl,by rw[jc7];exact jaU _⟩
 by_cases hG:n=10
 ·subst hG
  have hp2:=jdt l (i+1) 3 (by omega) (by decide)
  have hlt2:=jdA l (i+1) (m:=3) (by decide)
  generalize pk l (i+1) 3=k8 at *
  by_cases hk:0<k8
  ·obtain⟨s,hs1,⟨hz3,_⟩,hp3⟩ := jzX l (i+1+1) (by omega)
   obtain⟨f,i2,hf,g1,g2,w1,hs⟩ := jhr l 1 hl (i+1+1+1) 1 (by omega) (by omega) (by omega) (by omega)
   have w1:=fun κ ka kb=>jeT (by omega) (w1 κ ka kb)
   refine⟨.mk 1 0 s [f],i2,.asg _ _ _ _ hs1 hf (by decide),by omega,by omega,fun κ ka kb=>by have p0:=p0 κ;have p1:=p1 κ;have pe2:=pe2 κ;have p2:=p2 κ;have w1:=w1 κ ka kb;rw[jvc];omega,?_⟩;refine gw ?_;refine ja3 (ja2 jgH (fun _=>[0]) 1) (fun _ _ h=>h) Tryz.func75 rfl (by kernel_rfl) rfl (by kernel_rfl) ?_;intro hok;conv=>whnf
   refine ja8 0 [] rfl rfl rfl rfl (fun _=>hp) ?_;rintro o r ⟨ho,rfl⟩;cases ho;conv=>whnf
   by_cases hz0:z<=0
   all_goals
    first
    | (rw[if_pos hz0] at hn;rw[decide_eq_true hz0];(conv=>whnf);refine⟨by decide,?_⟩;rw[Int.tmod_eq_emod_of_nonneg (by omega),show (n0:Int) % 11=((n0 % 11:Nat):Int) by omega,hn])
    | (rw[if_neg hz0] at hn;rw[decide_eq_false hz0];(conv=>whnf);rw[hn])
    conv=>whnf
   all_goals
    refine ja8 0 [] rfl rfl rfl rfl (fun _=>hp2) ?_;rintro o r ⟨ho,rfl⟩;cases ho;conv=>whnf
    rw[decide_eq_true (show 0<(k8:Int) by omega)];conv=>whnf
    refine ja8 0 [] rfl rfl rfl rfl (fun _=>hp3) ?_;rintro o r ⟨ho,rfl⟩;cases ho;conv=>whnf
    refine ja8 0 [] rfl rfl rfl rfl (fun _=>hs) ?_;rintro o r ⟨ho,rfl⟩;cases ho;conv=>whnf
    exact⟨rfl,_,rfl,by rw[jc7];exact jaU _⟩
  ·refine⟨.mk 10 0 eB [],i+2,.stp _,by omega,by omega,fun κ ka kb=>by have p0:=p0 κ;have p1:=p1 κ;have pe2:=pe2 κ;have p2:=p2 κ;rw[jz5];omega,?_⟩;refine gw ?_;refine ja3 (ja2 jgH (fun _=>[0]) 1) (fun _ _ h=>h) Tryz.func75 rfl (by kernel_rfl) rfl (by kernel_rfl) ?_;intro hok;conv=>whnf
   refine ja8 0 [] rfl rfl rfl rfl (fun _=>hp) ?_;rintro o r ⟨ho,rfl⟩;cases ho;conv=>whnf
   by_cases hz0:z<=0
   all_goals
    first
    | (rw[if_pos hz0] at hn;rw[decide_eq_true hz0];(conv=>whnf);refine⟨by decide,?_⟩;rw[Int.tmod_eq_emod_of_nonneg (by omega),show (n0:Int) % 11=((n0 % 11:Nat):Int) by omega,hn])
    | (rw[if_neg hz0] at hn;rw[decide_eq_false hz0];(conv=>whnf);rw[hn])
    conv=>whnf
   all_goals
    refine ja8 0 [] rfl rfl rfl rfl (fun _=>hp2) ?_;rintro o r ⟨ho,rfl⟩;cases ho;conv=>whnf
    rw[decide_eq_false (show ¬ 0<(k8:Int) by omega)];conv=>whnf
    exact⟨rfl,_,rfl,jb9 (f := .mk 10 0 eB []) rfl⟩
 have hzp:0<z:=by
  by_cases h:0<z
  ·exact h
  ·have:=hn6 (by omega);omega
 obtain⟨e,rfl⟩ : ∃ e,d=e+1:=⟨d-1,by omega⟩
 have ihe:=ih e rfl
 unfold bS at hi
 by_cases hH:n=11
 ·subst hH
  obtain⟨f,i2,hf,g1,g2,w1,hs1⟩ := jr1 l 1 hl (i+1) 1 (by omega) (by omega) (by omega) (by omega)
  have w1:=fun κ ka kb=>jeT (by omega) (w1 κ ka kb)
  have p3:=fun κ=>jdf κ i2
  obtain⟨k,i3,q1,q2,g3,g4,⟨w2,w3⟩,hs2⟩ := ihe hl i2 2 (z-1) (by omega) (by omega) (by omega) (by omega) (by omega)
  refine⟨.mk 3 0 eB [f,jeL k],i3,.whi _ _ _ hf q1 q2,by omega,by unfold bS;omega,fun κ ka kb=>by have p0:=p0 κ;have p1:=p1 κ;have pe2:=pe2 κ;have p2:=p2 κ;have w1:=w1 κ ka kb;have w2:=w2 κ ka kb;have p3:=p3 κ;have hm2:=jzj (4+4*κ) q1;rw[jz8,jpf];omega,?_⟩;refine gw ?_;refine ja3 (ja2 jgH (fun _=>[0]) 1) (fun _ _ h=>h) Tryz.func75 rfl (by kernel_rfl) rfl (by kernel_rfl) ?_;intro hok;conv=>whnf
  refine ja8 0 [] rfl rfl rfl rfl (fun _=>hp) ?_;rintro o r ⟨ho,rfl⟩;cases ho;conv=>whnf
  by_cases hz0:z<=0
  all_goals
   first
   | (rw[if_pos hz0] at hn;rw[decide_eq_true hz0];(conv=>whnf);refine⟨by decide,?_⟩;rw[Int.tmod_eq_emod_of_nonneg (by omega),show (n0:Int) % 11=((n0 % 11:Nat):Int) by omega,hn])
   | (rw[if_neg hz0] at hn;rw[decide_eq_false hz0];(conv=>whnf);rw[hn])
   conv=>whnf
  ·exact absurd hz0 (by omega)
  refine ja8 0 [] rfl rfl rfl rfl (fun _=>hs1) ?_;rintro o r ⟨ho,rfl⟩;cases ho;conv=>whnf
  refine⟨ja7 (by omega),?_⟩;conv=>whnf
  refine ja8 0 [] rfl rfl rfl rfl (fun _=>hs2) ?_;rintro o r ⟨ho,rfl⟩;cases ho;conv=>whnf
  exact⟨rfl,_,rfl,by rw[jd1];exact jaU _⟩
 obtain⟨f,i2,hf,g1,g2,w1,hs1⟩ := jr1 l 2 hl (i+1) 2 (by omega) (by omega) (by omega) (by omega)
 have w1:=fun κ ka kb=>jeT (by omega) (w1 κ ka kb)
 have p3:=fun κ=>jdf κ i2
 obtain⟨k,i3,q1,q2,g3,g4,⟨w2,w3⟩,hs2⟩ := ihe hl i2 2 (z-1) (by omega) (by omega) (by omega) (by omega) (by omega)
 have hp2:=jdt l i3 2 (by omega) (by decide)
 have hlt2:=jdA l i3 (m:=2) (by decide)
 generalize pk l i3 2=k8 at *
 by_cases hk:k8=1
 ·have p4:=fun κ=>jdf κ i3
  have p5:=fun κ=>jdf κ (i3+1)
  obtain⟨m,i4,q3,q4,g5,g6,⟨w4,w5⟩,hs3⟩ := ihe hl (i3+1) 2 (z-1) (by omega) (by omega) (by omega) (by omega) (by omega)
  refine⟨.mk 2 0 eB [f,jeL k,jeL m],i4,.iff _ _ _ _ hf q1 q2 q3 q4,by omega,by unfold bS;omega,fun κ ka kb=>by have p0:=p0 κ;have p1:=p1 κ;have pe2:=pe2 κ;have p2:=p2 κ;have p3:=p3 κ;have p4:=p4 κ;have p5:=p5 κ;have w1:=w1 κ ka kb;have w2:=w2 κ ka kb;have w4:=w4 κ ka kb;have hif:=jvd κ f k m;have hm2:=jzj (4+4*κ) q1;have hm3:=jzj (4+4*κ) q3;omega,?_⟩
  rcases (by omega:n=12 ∨ n=13) with rfl | rfl
  all_goals
   refine gw ?_;refine ja3 (ja2 jgH (fun _=>[0]) 1) (fun _ _ h=>h) Tryz.func75 rfl (by kernel_rfl) rfl (by kernel_rfl) ?_;intro hok;conv=>whnf
   refine ja8 0 [] rfl rfl rfl rfl (fun _=>hp) ?_;rintro o r ⟨ho,rfl⟩;cases ho;conv=>whnf
   by_cases hz0:z<=0
   all_goals
    first
    | (rw[if_pos hz0] at hn;rw[decide_eq_true hz0];(conv=>whnf);refine⟨by decide,?_⟩;rw[Int.tmod_eq_emod_of_nonneg (by omega),show (n0:Int) % 11=((n0 % 11:Nat):Int) by omega,hn])
    | (rw[if_neg hz0] at hn;rw[decide_eq_false hz0];(conv=>whnf);rw[hn])
    conv=>whnf
   ·exact absurd hz0 (by omega)
   refine ja8 0 [] rfl rfl rfl rfl (fun _=>hs1) ?_;rintro o r ⟨ho,rfl⟩;cases ho;conv=>whnf
   refine⟨ja7 (by omega),?_⟩;conv=>whnf
   refine ja8 0 [] rfl rfl rfl rfl (fun _=>hs2) ?_;rintro o r ⟨ho,rfl⟩;cases ho;conv=>whnf
   refine ja8 0 [] rfl rfl rfl rfl (fun _=>hp2) ?_;rintro o r ⟨ho,rfl⟩;cases ho;conv=>whnf
   rw[decide_eq_true (show (k8:Int)=1 by omega)];conv=>whnf
   refine⟨ja7 (by omega),?_⟩;conv=>whnf
   refine ja8 0 [] rfl rfl rfl rfl (fun _=>hs3) ?_;rintro o r ⟨ho,rfl⟩;cases ho;conv=>whnf
   exact⟨rfl,_,rfl,by rw[jdV];exact jaU _⟩
 ·have p4:=fun κ=>jdf κ i3
  refine⟨.mk 2 0 eB [f,jeL k,jeL []],i3+1,.iff _ _ _ _ hf q1 q2 (by decide) (by simp),by omega,by unfold bS;omega,fun κ ka kb=>by have p0:=p0 κ;have p1:=p1 κ;have pe2:=pe2 κ;have p2:=p2 κ;have p3:=p3 κ;have p4:=p4 κ;have w1:=w1 κ ka kb;have w2:=w2 κ ka kb;have hif:=(jvd κ f k []).2 rfl;have hm2:=jzj (4+4*κ) q1;omega,?_⟩
  rcases (by omega:n=12 ∨ n=13) with rfl | rfl
  all_goals
   refine gw ?_;refine ja3 (ja2 jgH (fun _=>[0]) 1) (fun _ _ h=>h) Tryz.func75 rfl (by kernel_rfl) rfl (by kernel_rfl) ?_;intro hok;conv=>whnf
   refine ja8 0 [] rfl rfl rfl rfl (fun _=>hp) ?_;rintro o r ⟨ho,rfl⟩;cases ho;conv=>whnf
   by_cases hz0:z<=0
   all_goals
    first
    | (rw[if_pos hz0] at hn;rw[decide_eq_true hz0];(conv=>whnf);refine⟨by decide,?_⟩;rw[Int.tmod_eq_emod_of_nonneg (by omega),show (n0:Int) % 11=((n0 % 11:Nat):Int) by omega,hn])
    | (rw[if_neg hz0] at hn;rw[decide_eq_false hz0];(conv=>whnf);rw[hn])
    conv=>whnf
   ·exact absurd hz0 (by omega)
   refine ja8 0 [] rfl rfl rfl rfl (fun _=>hs1) ?_;rintro o r ⟨ho,rfl⟩;cases ho;conv=>whnf
   refine⟨ja7 (by omega),?_⟩;conv=>whnf
   refine ja8 0 [] rfl rfl rfl rfl (fun _=>hs2) ?_;rintro o r ⟨ho,rfl⟩;cases ho;conv=>whnf
   refine ja8 0 [] rfl rfl rfl rfl (fun _=>hp2) ?_;rintro o r ⟨ho,rfl⟩;cases ho;conv=>whnf
   rw[decide_eq_false (show ¬ (k8:Int)=1 by omega)];conv=>whnf
   exact⟨rfl,_,rfl,by rw[jdV];exact jAB f (jeL k)⟩
inductive Chn (l:List Int) (z:Int):Nat->List Nt->Nat->Prop
 | nil (i:Nat):Chn l z i [] i
 | cons (i i1 i2:Nat) (f:Nt) (ss:List Nt) (h:Spec Tryz.prog 75 [bxG l i] [.box 0 0,.v (.int .i64 z)] fun o r=>o=[bxG l i1]/\r = .agg (ntA f)) (k:Chn l z i1 ss i2):Chn l z i (f :: ss) i2
theorem juA {l:List Int} {d:Nat} (hS:jx8 l d) (hl:l.length<=70) {z:Int} (hz:z.toNat=d) (h1:0<=z) (h2:z<=5):∀ (k i:Nat),i+k*bS d<=1000000000 -> ∃ ss i',ss.length=k/\(∀ s ∈ ss,ES d s)/\i<=i'/\i'<=i+k*bS d/\(∀ κ,1<=κ->κ<=7->wSs κ ss+phi κ i<=(4+4*κ)*k+phi κ i')/\Chn l z i ss i'
 | 0,i,_=>⟨[],i,rfl,by simp,Nat.le_refl _,by omega,fun κ ka kb=>by show 0+phi κ i<=_;omega,.nil i⟩
 | k+1,i,hb=>by
  rw[Nat.succ_mul] at hb
  obtain⟨f,i1,hf,g1,g2,w1,hs⟩ := hS hl i z hz h1 h2 (by omega)
  obtain⟨ss,i2,e1,e2,g3,g4,w2,hc⟩ := juA hS hl hz h1 h2 k i1 (by omega)
  refine⟨f :: ss,i2,by rw[List.length_cons,e1],fun s hs => ?_,by omega,by rw[Nat.succ_mul];omega,fun κ ka kb=>by have w1:=w1 κ ka kb;have w2:=w2 κ ka kb;rw[wSs,Nat.mul_succ];omega,.cons _ _ _ _ _ hs hc⟩
  rcases List.mem_cons.1 hs with rfl | hs
  ·exact hf
  ·exact e2 s hs
set_option maxHeartbeats 1000000 in
theorem jAJ (l:List Int) (d:Nat) (hS:jx8 l d):jzu l d:=fun hl i m z hz h1 h2 hm hi=>by
 have hp:=jdt l i (m+1) (by omega) (by omega)
 have hlt:=jdA l i (m:=m+1) (by omega)
 have ho:=jhK l i (m+1) hl
 generalize pk l i (m+1)=k at *
 have hkm:k*bS d<=m*bS d:=Nat.mul_le_mul_right _ (by omega)
 obtain⟨ss,i2,e1,e2,g3,g4,w2,hc⟩ := juA hS hl hz h1 h2 k (i+1) (by omega)
 refine⟨ss,i2,by omega,e2,by omega,by omega,⟨fun κ ka kb=>by rw[e1];exact w2 κ ka kb,by omega⟩,?_⟩;refine ja3 (ja2 jAp (fun _=>[0]) 1) (fun _ _ h=>h) Tryz.func38 rfl (by kernel_rfl) rfl (by kernel_rfl) ?_;intro hok;conv=>whnf
 refine⟨ja7 (by omega),?_⟩;conv=>whnf
 refine ja8 0 [] rfl rfl rfl rfl (fun _=>hp) ?_;rintro o r ⟨ho,rfl⟩;cases ho;conv=>whnf
 refine jbT 65 4 [] [(2,3)] ?_;conv=>whnf
 refine⟨trivial,?_⟩;conv=>whnf
 refine ja4 [0,1,6,7] ?_;conv=>whnf
 refine ja9 (fun x:List Nt × List Nt × Nat=>[(8,.v (.int .i64 x.2.1.length))]) (fun x=>[bxG l x.2.2,jux,[intA 11,intA 0,jbm ⟨#[]⟩,.own 0]]) (fun x=>[.live 65 4 x.1.length (jbQ x.1)]) (fun x=>x.1++x.2.1=ss/\Chn l z x.2.2 x.2.1 i2) (fun x=>x.2.1.length) ([],ss,i+1) ?_ ⟨rfl,hc⟩ ?_
 ·rw[<- e1]
  repeat' constructor
  show Row.live _ _ _ _=Row.live _ 4 0 (jbQ [])
  rw[jbE]
 rintro⟨acc,rem,j⟩ ⟨hacc,hch⟩
 simp only at hacc hch
 conv=>whnf
 cases hch with
 | nil =>
  rw[List.append_nil] at hacc;conv=>whnf
  rw[<- hacc];exact⟨rfl,rfl⟩
 | cons _ i1 _ f rem hs hch =>
  have hln:acc.length+(rem.length+1)=ss.length:=by rw[<- hacc,List.length_append,List.length_cons]
  rw[show ((f :: rem).length:Int)=(rem.length:Int)+1 by simp];rw[decide_eq_true (show 0<(rem.length:Int)+1 by omega)];conv=>whnf
  refine ja8 0 [] rfl rfl rfl rfl (fun _=>hs) ?_;rintro o r ⟨ho,rfl⟩;cases ho;conv=>whnf
  refine⟨⟨by simp only;unfold maxLen;omega,by simp only;omega⟩,?_⟩;conv=>whnf
  refine⟨ja7 (by omega),?_⟩;rw[show (rem.length:Int)+1-1=rem.length by omega];conv=>whnf
  refine⟨(acc++[f],rem,i1),ja0 [0] ?_,⟨by simp only;rw[List.append_assoc];exact hacc,hch⟩,by simp only[List.length_cons];omega⟩;conv=>whnf
  simp only[List.length_append,List.length_cons,List.length_nil];rw[jhC]
  repeat' constructor
theorem jAv (l:List Int) (most:Nat) (hm:most<=1000):Spec Tryz.prog 36 [] [.sl 1 l.length (jaq l),.v (.int .i64 most)] fun _ r=>r = .sl 1 (l.take most).length (jaq (l.take most)):=by
 refine ja3 (ja2 jax xs0 0) (fun _ _ h=>h) Tryz.func36 rfl (by kernel_rfl) rfl (by kernel_rfl) ?_;intro hok
 have e1:(min (l.length:Int) (most:Int)).toNat-Int.toNat 0=(l.take most).length:=by rw[List.length_take];omega
 have e2:List.take ((l.take most).length*1) (List.drop (Int.toNat 0*1) (jaq l))=jaq (l.take most):=by
  rw[Nat.mul_one,List.length_take];simp only[jaq,Int.toNat_zero,Nat.zero_mul,List.drop_zero];rw[<- List.map_take]
  congr 1
  rcases Nat.le_total most l.length with h | h
  ·rw[Nat.min_eq_left h]
  ·rw[Nat.min_eq_right h,List.take_of_length_le h,List.take_of_length_le (Nat.le_refl _)]
 have e3:(l.take most).length<=most:=by rw[List.length_take];omega
 conv=>whnf
 (refine goA ?_;try with_reducible exact trivial)
 rw[e1,e2];generalize l.take most=L at *;refine⟨⟨by unfold maxLen;omega,by omega⟩,?_⟩;conv=>whnf
 rfl
theorem jAI (l:List Int):∀ d,jx8 l d/\jzu l d
 | 0=>⟨jzV l 0 fun e h=>by omega,jAJ l 0 (jzV l 0 fun e h=>by omega)⟩
 | d+1=>by
  have h1:jx8 l (d+1):=jzV l (d+1) fun e h=>by
   obtain rfl:d=e:=by omega
   exact (jAI l d).2
  exact⟨h1,jAJ l (d+1) h1⟩
def hnG (l:List Int) (j i:Nat):Int:=match j with
 | 0=>0
 | 1=>1
 | 2=>2+pk l (i+1) 8
 | _=>10+pk l (i+1+1) 30
inductive PCh (l:List Int):Nat->Nat->List (Int × Nt)->Prop
 | nil (i:Nat):PCh l 4 i []
 | skip (j i:Nat) (hs:List (Int × Nt)) (hj:j<4) (hi:i<=900000000) (hp:pk l i 5=0) (k:PCh l (j+1) (i+1) hs):PCh l j i hs
 | take (j i i2:Nat) (b:Nt) (hs:List (Int × Nt)) (hj:j<4) (hi:i<=900000000) (hp:0<pk l i 5) (h:Spec Tryz.prog 38 [bxG l (i+1+1+1)] [.box 0 0,.v (.int .i64 2),.v (.int .i64 3)] fun o r=>o=[bxG l i2]/\r = .agg (ntA b)) (k:PCh l (j+1) i2 hs):PCh l j i ((hnG l j i,b) :: hs)
def EK (b:Nt):Prop := ∃ k,b=jeL k/\k.length<=3 /\ ∀ s ∈ k,ES 2 s
def loG:Nat->Int
 | 0=>0
 | 1=>1
 | 2=>2
 | 3=>10
 | _=>40
def EHs (j:Nat) (hs:List (Int × Nt)):Prop:=(∀ h ∈ hs,loG j<=h.1/\h.1<40/\EK h.2)/\hs.Pairwise (fun a b=>a.1<b.1)/\hs.length+j<=4
theorem jB6 (c:Nat) {n:Nat} (h:n<=3):(n=0/\c*n=0) ∨ (n ≠ 0/\c*n<=3*c):=by
 rcases (by omega:n=0 ∨ n=1 ∨ n=2 ∨ n=3) with rfl | rfl | rfl | rfl <;> omega
theorem jrQ (l:List Int) (hl:l.length<=70):∀ (k j i:Nat),j+k=4->i+k*5000<=800000000 -> ∃ hs,EHs j hs/\(∀ κ,1<=κ->κ<=7->wHs κ hs+phi κ i<=(4*κ+12)*70+6*κ+18)/\PCh l j i hs
 | 0,j,i,hj,hb=>by
  obtain rfl:j=4:=by omega
  exact⟨[],⟨by simp,.nil,by decide⟩,fun κ ka kb=>by have:=(jnh κ i).1;show 0+phi κ i<=_;omega,.nil i⟩
 | k+1,j,i,hj,hb=>by
  rw[Nat.succ_mul] at hb
  have hjs:j=0 ∨ j=1 ∨ j=2 ∨ j=3:=by omega
  have hlo:loG j<=loG (j+1):=by rcases hjs with rfl | rfl | rfl | rfl <;> decide
  by_cases hp:pk l i 5=0
  ·obtain⟨hs,⟨e1,e2,e3⟩,w1,hc⟩ := jrQ l hl k (j+1) (i+1) (by omega) (by omega)
   exact⟨hs,⟨fun h hh=>⟨by have:=(e1 h hh).1;omega,(e1 h hh).2⟩,e2,by omega⟩,fun κ ka kb=>by have:=(jdf κ i).1;have w1:=w1 κ ka kb;omega,.skip _ _ _ (by omega) (by omega) hp hc⟩
  ·have hS:bS 2=1270:=rfl
   have ho:=jhK l i 5 hl
   obtain⟨b,i2,q1,q2,g1,g2,⟨w2,w3⟩,hs⟩ := (jAI l 2).2 hl (i+1+1+1) 3 2 rfl (by decide) (by decide) (by decide) (by omega)
   obtain⟨hs2,⟨e1,e2,e3⟩,w1,hc⟩ := jrQ l hl k (j+1) i2 (by omega) (by omega)
   have hn:loG j<=hnG l j i/\hnG l j i<loG (j+1):=by
    have p8:=jdA l (i+1) (m:=8) (by decide)
    have p30:=jdA l (i+1+1) (m:=30) (by decide)
    rcases hjs with rfl | rfl | rfl | rfl <;> simp only[loG,hnG] <;> omega
   have hl4:loG (j+1)<=40:=by rcases hjs with rfl | rfl | rfl | rfl <;> decide
   refine⟨_,⟨fun h hh => ?_,List.pairwise_cons.2 ⟨fun b hb => ?_,e2⟩,by rw[List.length_cons];omega⟩,fun κ ka kb=>by have p0:=jdf κ i;have p1:=jdf κ (i+1);have p2:=jdf κ (i+1+1);have p3:=jdf κ (i+1+1+1);have p4:=jnh κ i;have p5:=jnh κ (i+1+1+1+1);have w1:=w1 κ ka kb;have w2:=w2 κ ka kb;have hm:=jB6 (4+4*κ) q1;rw[wHs,jpf];omega,.take j i i2 (jeL b) hs2 (by omega) (by omega) (by omega) hs hc⟩
   ·rcases List.mem_cons.1 hh with rfl | hh
    ·exact⟨hn.1,by simp only;omega,b,rfl,q1,q2⟩
    ·exact⟨by have:=(e1 h hh).1;omega,(e1 h hh).2⟩
   ·have:=(e1 b hb).1
    simp only;omega
def duL:List ByteArray:=[⟨#[100]⟩,⟨#[100,100,49]⟩]
def voL:List ByteArray:=[⟨#[118]⟩,⟨#[119,50]⟩]
def GU (u:Ut):Prop:=u.du=duL/\u.vo=voL/\EHs 0 u.on
def GW (u:Ut):Prop:=GU u /\ ∀ κ,1<=κ->κ<=7->wHs κ u.on<=(4*κ+12)*70+6*κ+18
set_option maxHeartbeats 1000000 in
theorem jy4 (l:List Int):∃ u,GW u/\Spec Tryz.prog 11 [] [.sl 1 l.length (jaq l)] fun _ r=>r = .agg (utA u):=by
 have hin:=jAv l 70 (by decide)
 obtain⟨hs,hE,hW,hc⟩ := jrQ (l.take 70) (by rw[List.length_take];omega) 4 0 0 rfl (by decide)
 refine⟨⟨duL,voL,hs⟩,⟨⟨rfl,rfl,hE⟩,fun κ ka kb=>by have:=hW κ ka kb;show wHs κ hs<=_;omega⟩,?_⟩;clear hW
 have hlen:=hE.2.2
 generalize l.take 70=L at *;refine ja3 (ja2 jAi (fun _=>[1]) 0) (fun _ _ h=>h) Tryz.func11 rfl (by kernel_rfl) rfl (by kernel_rfl) ?_;intro hok;conv=>whnf
 refine jac [] rfl (fun _=>hin) ?_;rintro r rfl;conv=>whnf
 refine jbT 67 5 [] [(2,2)] ?_;conv=>whnf
 refine⟨trivial,?_⟩;conv=>whnf
 refine ja4 [2,3,4] ?_;conv=>whnf
 refine ja9 (fun x:Nat × Nat × List (Int × Nt) × List (Int × Nt)=>[(5,.v (.int .i64 x.1))]) (fun x=>[jkq,bxG L x.2.1,[.own 0,.own 1,.own 2]]) (fun x=>[.live 9 1 2 (txA duL),.live 9 1 2 (txA voL),.live 67 5 x.2.2.1.length (jjL x.2.2.1)]) (fun x=>x.2.2.1++x.2.2.2=hs/\PCh L x.1 x.2.1 x.2.2.2) (fun x=>4-x.1) (0,0,[],hs) ?_ ⟨rfl,hc⟩ ?_
 ·repeat' constructor
  show Row.live _ _ _ _=Row.live _ 5 0 (jjL [])
  rw[joh]
 rintro⟨j,i,acc,rem⟩ ⟨hacc,hch⟩
 simp only at hacc hch
 have hal:acc.length<=4:=by
  have:=congrArg List.length hacc
  rw[List.length_append] at this;omega
 clear hin hc;conv=>whnf
 cases hch with
 | nil =>
  conv=>whnf
  rw[List.append_nil] at hacc;rw[<- hacc];rfl
 | skip _ _ _ hj hi hp hch =>
  have hpk:=jdt L i 5 (by omega) (by decide)
  rw[hp] at hpk;rw[decide_eq_true (show (j:Int)<4 by omega)];conv=>whnf
  refine ja8 1 [] rfl rfl rfl rfl (fun _=>hpk) ?_;rintro o r ⟨ho,rfl⟩;cases ho;conv=>whnf
  refine⟨ja7 (by omega),?_⟩;conv=>whnf
  refine⟨(j+1,i+1,acc,rem),ja0 [0,1,2] ?_,⟨hacc,hch⟩,by simp only;omega⟩;conv=>whnf
  repeat' constructor
 | take _ _ i2 b rem hj hi hp hs hch =>
  have hpk:=jdt L i 5 (by omega) (by decide)
  have hp8:=jdt L (i+1) 8 (by omega) (by decide)
  have hp30:=jdt L (i+1+1) 30 (by omega) (by decide)
  have l8:=jdA L (i+1) (m:=8) (by decide)
  have l30:=jdA L (i+1+1) (m:=30) (by decide)
  obtain⟨nn,hnn⟩ : ∃ nn,hnG L j i=nn:=⟨_,rfl⟩
  rw[hnn] at hacc;unfold hnG at hnn;generalize pk L i 5=k5 at *;generalize pk L (i+1) 8=k8 at *;generalize pk L (i+1+1) 30=k30 at *;rw[decide_eq_true (show (j:Int)<4 by omega)];conv=>whnf
  refine ja8 1 [] rfl rfl rfl rfl (fun _=>hpk) ?_;rintro o r ⟨ho,rfl⟩;cases ho;conv=>whnf
  rw[decide_eq_true (show 0<(k5:Int) by omega)];conv=>whnf
  refine ja8 1 [] rfl rfl rfl rfl (fun _=>hp8) ?_;rintro o r ⟨ho,rfl⟩;cases ho;conv=>whnf
  refine⟨ja7 (by omega),?_⟩;conv=>whnf
  refine ja8 1 [] rfl rfl rfl rfl (fun _=>hp30) ?_;rintro o r ⟨ho,rfl⟩;cases ho;conv=>whnf
  refine⟨ja7 (by omega),?_⟩;conv=>whnf
  refine⟨⟨by omega,by omega⟩,?_⟩
  rcases (by omega:j=0 ∨ j=1 ∨ j=2 ∨ j=3) with rfl | rfl | rfl | rfl
  all_goals
   simp only at hnn
   conv=>whnf
   refine ja8 1 [] rfl rfl rfl rfl (fun _=>hs) ?_;rintro o r ⟨ho,rfl⟩;cases ho;conv=>whnf
   refine⟨⟨by simp only;unfold maxLen;omega,by simp only;omega⟩,?_⟩;conv=>whnf
   refine⟨ja7 (by simp only;omega),?_⟩;conv=>whnf
   subst hnn;refine⟨(_,i2,acc++[(_,b)],rem),ja0 [0,1,2] ?_,⟨by simp only;rw[List.append_assoc];exact hacc,hch⟩,by simp only;omega⟩;conv=>whnf
   repeat' constructor
   rw[List.length_append,jl5];rfl
end Go.Proofs.YtfbifdccmabdbaaGreatDoor.Vm
