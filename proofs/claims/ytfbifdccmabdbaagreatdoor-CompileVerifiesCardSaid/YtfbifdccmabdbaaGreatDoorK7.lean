/- Texts 7 of the proof: C35, C49. -/
import Derived.Test.YtfbifdccmabdbaaGreatDoorK6
namespace Go.Proofs.YtfbifdccmabdbaaGreatDoor.Vm
open Go.RowKit Go.Shelf
set_option linter.unusedSimpArgs false
set_option linter.unusedVariables false
set_option maxRecDepth 100000
theorem jrt {l:List ByteArray} {s:ByteArray} (h:s ∈ l):(l.any fun x=>decide (s=x))=true:=List.any_eq_true.2 ⟨s,h,decide_eq_true rfl⟩
theorem jrL {s:ByteArray} (h:s ∈ opL ∨ s ∈ bolL ∨ s ∈ cmpL):(opAll.any fun x=>decide (s=x))=true:=by
 apply jrt
 unfold opAll
 rcases h with h | h | h
 ·unfold opL at h;simp only[List.mem_cons,List.not_mem_nil,or_false] at h ⊢
  rcases h with h | h | h | h <;> simp[h]
 ·unfold bolL at h;simp only[List.mem_cons,List.not_mem_nil,or_false] at h ⊢
  rcases h with h | h <;> simp[h]
 ·unfold cmpL at h;simp only[List.mem_cons,List.not_mem_nil,or_false] at h ⊢
  rcases h with h | h | h | h | h | h <;> simp[h]
theorem sz1 (k n:Int) (s:ByteArray) (f:Nt):szN (.mk k n s [f])=3+szN f:=rfl
theorem sz2 (k n:Int) (s:ByteArray) (f g:Nt):szN (.mk k n s [f,g])=3+(szN f+szN g):=rfl
theorem sz3 (k n:Int) (s:ByteArray) (f g h:Nt):szN (.mk k n s [f,g,h])=3+(szN f+(szN g+szN h)):=rfl
theorem sz0 (k n:Int) (s:ByteArray):szN (.mk k n s [])=3:=rfl
theorem jrS (d:Nat):2 ^ (d+1)=2*2 ^ d:=by rw[Nat.pow_succ,Nat.mul_comm]
theorem jkn {d:Nat} {f:Nt} (h:EI d f):Wc true f/\szN f+3<=12*2 ^ d:=by
 have hp:=fun d:Nat=>Nat.one_le_two_pow (n:=d)
 induction h with
 | lit d n h=>exact⟨⟨wx0 rfl,rfl⟩,by rw[sz0];have:=hp d;omega⟩
 | var d s h=>exact⟨⟨wx0 rfl,rfl⟩,by rw[sz0];have:=hp d;omega⟩
 | nam d s h =>
  refine⟨⟨wx0 ?_,rfl⟩,by rw[sz0];have:=hp d;omega⟩
  show (decide (0=0) && _)=true
  rw[jrt h];rfl
 | drw d f h ih=>exact⟨⟨wx1 rfl (by decide) ih.1,rfl⟩,by rw[sz1,jrS];have:=hp d;omega⟩
 | neg d f h ih=>exact⟨⟨wx1 (jvo (.inl rfl)) (by decide) ih.1,rfl⟩,by rw[sz1,jrS];have:=hp d;omega⟩
 | bin d s f g hs h1 h2 i1 i2=>exact⟨⟨wx2 (jkC (jrL (.inl hs))) (by decide) i1.1 i2.1,rfl⟩,by rw[sz2,jrS];have:=hp d;omega⟩
theorem jz9 {d:Nat} {f:Nt} (h:EB d f):Wc true f/\szN f+3<=24*2 ^ d:=by
 have hp:=fun d:Nat=>Nat.one_le_two_pow (n:=d)
 induction h with
 | lit d n h=>exact⟨⟨wx0 rfl,rfl⟩,by rw[sz0];have:=hp d;omega⟩
 | nt d f h ih=>exact⟨⟨wx1 (jvo (.inr rfl)) (by decide) ih.1,rfl⟩,by rw[sz1,jrS];have:=hp d;omega⟩
 | bin d s f g hs h1 h2 i1 i2=>exact⟨⟨wx2 (jkC (jrL (.inr (.inl hs)))) (by decide) i1.1 i2.1,rfl⟩,by rw[sz2,jrS];have:=hp d;omega⟩
 | cmp d s f g hs h1 h2 =>
  obtain⟨w1,s1⟩ := jkn h1
  obtain⟨w2,s2⟩ := jkn h2
  have hle:2 ^ (d-1)<=2 ^ d:=Nat.pow_le_pow_right (by decide) (by omega)
  exact⟨⟨wx2 (jkC (jrL (.inr (.inr hs)))) (by decide) w1 w2,rfl⟩,by rw[sz2];omega⟩
theorem jsx (B:Nat):∀ l:List Nt,(∀ f ∈ l,szN f<=B)->jbK l<=l.length*B
 | [],_=>Nat.zero_le _
 | f :: l,h=>by
  have h1:=h f List.mem_cons_self
  have h2:=jsx B l fun g hg=>h g (List.mem_cons_of_mem _ hg)
  show szN f+jbK l<=(l.length+1)*B
  rw[Nat.succ_mul];omega
def sB:Nat->Nat
 | 0=>54
 | d+1=>102+4*sB d
theorem jlT:∀ d,54<=sB d
 | 0=>Nat.le_refl _
 | d+1=>by unfold sB;omega
theorem jpi {l:List Nt} {m B:Nat} (hm:l.length<=m) (h3:m<=3000) (h:∀ s ∈ l,Wc false s/\szN s<=B):Wc false (jeL l)/\szN (jeL l)<=3+m*B:=by
 refine⟨wbk (by omega) fun f hf=>(h f hf).1,?_⟩
 ·have h1:=jsx B l fun f hf=>(h f hf).2
  have h2:l.length*B<=m*B:=Nat.mul_le_mul_right _ hm
  show 3+jbK l<=_
  omega
theorem jAz {d:Nat} {f:Nt} (h:ES d f):Wc false f/\szN f<=sB d:=by
 induction h with
 | asg d e s f hs h he =>
  obtain⟨w,z⟩ := jkn h
  have hle:2 ^ e<=2 ^ 2:=Nat.pow_le_pow_right (by decide) he
  have:=jlT d
  exact⟨⟨wx1 rfl (by decide) w,rfl⟩,by rw[sz1];omega⟩
 | snd d n f g h hn h1 h2 h3 =>
  obtain⟨w1,z1⟩ := jkn h1
  obtain⟨w2,z2⟩ := jkn h2
  obtain⟨w3,z3⟩ := jkn h3
  have:=jlT d
  exact⟨⟨wx3 rfl (by decide) w1 w2 w3,rfl⟩,by rw[sz3];omega⟩
 | tim d n hn=>exact⟨⟨wx0 rfl,rfl⟩,by rw[sz0];have:=jlT d;omega⟩
 | can d n hn=>exact⟨⟨wx0 rfl,rfl⟩,by rw[sz0];have:=jlT d;omega⟩
 | syn d=>exact⟨⟨wx0 rfl,rfl⟩,by rw[sz0];have:=jlT d;omega⟩
 | rep d f g h1 h2 =>
  obtain⟨w1,z1⟩ := jkn h1
  obtain⟨w2,z2⟩ := jkn h2
  have:=jlT d
  exact⟨⟨wx2 rfl (by decide) w1 w2,rfl⟩,by rw[sz2];omega⟩
 | fai d f h1 =>
  obtain⟨w1,z1⟩ := jkn h1
  have:=jlT d
  exact⟨⟨wx1 rfl (by decide) w1,rfl⟩,by rw[sz1];omega⟩
 | stp d=>exact⟨⟨wx0 rfl,rfl⟩,by rw[sz0];have:=jlT d;omega⟩
 | whi d c l h1 h2 h3 ih =>
  obtain⟨w1,z1⟩ := jz9 h1
  obtain⟨w2,z2⟩ := jpi h2 (by decide) ih
  have e:sB (d+1)=102+4*sB d:=rfl
  exact⟨wi2 w1 w2,by rw[sz2,e];omega⟩
 | iff d c l m h1 h2 h3 h4 h5 ih1 ih2 =>
  obtain⟨w1,z1⟩ := jz9 h1
  obtain⟨w2,z2⟩ := jpi h2 (by decide) ih1
  obtain⟨w3,z3⟩ := jpi h4 (by decide) ih2
  have e:sB (d+1)=102+4*sB d:=rfl
  exact⟨wi3 w1 w2 w3,by rw[sz3,e];omega⟩
theorem jv6 (B:Nat):∀ l:List (Int × Nt),(∀ h ∈ l,szN h.2<=B)->szH l<=l.length*(B+1)
 | [],_=>Nat.zero_le _
 | x :: l,h=>by
  have h1:=h x List.mem_cons_self
  have h2:=jv6 B l fun g hg=>h g (List.mem_cons_of_mem _ hg)
  show szN x.2+1+szH l<=(l.length+1)*(B+1)
  rw[Nat.succ_mul];omega
theorem jzW {u:Ut} (h:GU u):WfU u/\szH u.on<=900000 /\ ∀ x ∈ u.on,szN x.2<=5000:=by
 obtain⟨h1,h2,h3,h4,h5⟩ := h
 have hb:∀ x ∈ u.on,Wc false x.2/\szN x.2<=5000:=fun x hx=>by
  obtain⟨_,_,k,hk,hl,hs⟩ := h3 x hx
  rw[hk]
  have:=jpi (B:=sB 2) hl (by decide) fun s hs' => jAz (hs s hs')
  exact⟨this.1,by have:=this.2;have e:sB 2=1374:=rfl;omega⟩
 refine⟨⟨by rw[h1,h2];decide,fun x hx=>⟨(h3 x hx).1,(h3 x hx).2.1,(hb x hx).1.1⟩,fun x hx=>(hb x hx).1.2,h4.imp fun h=>by omega,by omega⟩,?_,fun x hx=>(hb x hx).2⟩
 have:=jv6 5000 u.on fun x hx=>(hb x hx).2
 have h6:u.on.length*(5000+1)<=4*(5000+1):=Nat.mul_le_mul_right _ (by omega)
 omega
theorem jsP:Wk (.agg je9) (pgA [] zE 0 0):=by
 unfold je9 pgA pgL;rw[jdu];exact .agg (.cons (.nil 2) (WkL.refl _))
theorem jwl (u:Ut) (hu:WfU u) (hz:szH u.on<=900000):Spec Tryz.prog 13 [] [.agg (utA u)] fun _ r => ∃ (c:List Ic) (e:Nat->Int) (du vo E:Int),c.length<=400/\r = .tup [pgA c e du vo,intA E]:=by
 refine (jk2 u hu hz).weaken fun o r hr => ?_
 rcases hr with ⟨_,rfl⟩ | ⟨h,⟨_,rfl⟩ | ⟨_,rfl⟩⟩
 ·exact⟨o,_,⟨[],zE,0,0,2,by simp,rfl⟩,WkB.refl o,.tup (.cons jsP (WkL.refl _))⟩
 ·exact⟨o,_,⟨[],zE,0,0,13,by simp,rfl⟩,WkB.refl o,.tup (.cons jsP (WkL.refl _))⟩
 ·exact⟨o,_,⟨_,_,_,_,0,by omega,rfl⟩,WkB.refl o,.refl _⟩
set_option maxHeartbeats 4000000 in
theorem verifies_spec (raw l:List Int) (how by':Int):Spec Tryz.prog 5 [] [.sl 1 raw.length (jaq raw),.sl 1 l.length (jaq l),intA how,intA by'] fun _ r=>r=jaw true:=by
 obtain⟨u,⟨hgu,-⟩,hprog⟩ := jy4 l
 obtain⟨hu,hz,-⟩ := jzW hgu
 have hraw:=jtV raw
 have hrc:=jwl u hu hz
 have hlv:=jpH
 have hbe:=fun c e du vo h=>jqx c e du vo how by' h
 have hv1:=fun (c:List Ic) (e:Nat->Int) (du vo:Int) (h:c.length<=1000000)=>ji8 c e du vo h
 have hv2:=fun (c:List Ic) (e:Nat->Int) (du vo:Int) (h:c.length<=1000000)=>js9 c e du vo h
 refine ja3 (ja2 jBa xs0 0) (fun _ _ h=>h) Tryz.func5 rfl (by kernel_rfl) rfl (by kernel_rfl) ?_;intro hok;conv=>whnf
 refine jac [] rfl (fun _=>hraw) ?_;rintro r ⟨c1,e1',d1,v1,n1,rfl⟩;conv=>whnf
 refine jac [] rfl (fun _=>hprog) ?_;rintro r rfl;conv=>whnf
 refine jac [] rfl (fun _=>hrc) ?_;rintro r ⟨c2,e2',d2,v2,E,n2,rfl⟩;conv=>whnf
 refine jac [] rfl (fun _=>hbe c1 e1' d1 v1 (by omega)) ?_;rintro r ⟨c3,e3',d3,v3,n3,rfl⟩;conv=>whnf
 refine jac [] rfl (fun _=>hbe c2 e2' d2 v2 (by omega)) ?_;rintro r ⟨c4,e4',d4,v4,n4,rfl⟩;conv=>whnf
 have hrows:∀ i:Nat,i<4 -> ∃ (c:List Ic) (e:Nat->Int) (d v:Int),c.length<=1000000/\ja5 43 i (pgL c1 e1' d1 v1++(pgL c2 e2' d2 v2++(pgL c3 e3' d3 v3++pgL c4 e4' d4 v4)))=pgL c e d v:=fun i hi=>by
  rcases (show i=0 ∨ i=1 ∨ i=2 ∨ i=3 by omega) with rfl | rfl | rfl | rfl
  ·exact⟨c1,e1',d1,v1,by omega,by unfold ja5;rfl⟩
  ·exact⟨c2,e2',d2,v2,by omega,by unfold ja5;rfl⟩
  ·exact⟨c3,e3',d3,v3,by omega,by unfold ja5;rfl⟩
  ·exact⟨c4,e4',d4,v4,by omega,by unfold ja5;rfl⟩
 refine jbC [0] ?_;conv=>whnf
 refine ja4 [12] ?_;conv=>whnf
 refine ja9 (fun i:Nat=>[(13,.v (.int .i64 i))]) (fun _=>[pgL c1 e1' d1 v1,pgL c2 e2' d2 v2]) (fun _=>[]) (fun i=>i<=4) (fun i=>4-i) 0 ?_ (Nat.zero_le _) ?_
 ·repeat' constructor
 intro i hi4;conv=>whnf
 rcases Nat.lt_or_ge i 4 with hlt | hge
 ·obtain⟨c,e,d,v,hc,hrow⟩ := hrows i hlt
  obtain⟨f,hf⟩ : ∃ f,jva c e d v=f:=⟨_,rfl⟩
  have w1:=hv1 c e d v hc
  have w2:=hv2 c e d v hc
  rw[hf] at w1 w2;clear hf;rw[decide_eq_true (show (i:Int)<((4:Nat):Int) by omega)];conv=>whnf
  refine⟨show (0:Int)<=(i:Int)/\(i:Int)<((4:Nat):Int) from ⟨by omega,by omega⟩,?_⟩;conv=>whnf
  generalize hrq:ja5 _ _ _=rq
  obtain rfl:rq=pgL c e d v:=hrq.symm.trans hrow
  clear hrq;conv=>whnf
  refine⟨show (0:Int)<=(i:Int)/\(i:Int)<((4:Nat):Int) from ⟨by omega,by omega⟩,?_⟩;conv=>whnf
  generalize hrq:ja5 _ _ _=rq
  obtain rfl:rq=pgL c e d v:=hrq.symm.trans hrow
  clear hrq;conv=>whnf
  refine jac [] rfl (fun _=>w1) ?_;rintro r rfl;conv=>whnf
  refine jac [] rfl (fun _=>w2) ?_;rintro r rfl;conv=>whnf
  rw[decide_eq_true (rfl:f=f)];conv=>whnf
  refine⟨show lo .i64<=(i:Int)+1/\(i:Int)+1<=hi .i64 from ja7 (by omega),?_⟩;conv=>whnf
  refine⟨i+1,ja0 [] ?_,show i+1<=4 by omega,show 4-(i+1)<4-i by omega⟩;conv=>whnf
  repeat' constructor
 rw[decide_eq_false (show ¬ (i:Int)<((4:Nat):Int) by omega)];conv=>whnf
 (refine jac [] rfl (fun _=>hlv) ?_;rintro r rfl;conv=>whnf)
 rfl
end Go.Proofs.YtfbifdccmabdbaaGreatDoor.Vm
