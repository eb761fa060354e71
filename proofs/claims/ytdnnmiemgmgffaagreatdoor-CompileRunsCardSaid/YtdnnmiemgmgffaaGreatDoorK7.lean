/- Part 7 of the proof. -/
import Derived.Test.YtdnnmiemgmgffaaGreatDoorK6
set_option maxRecDepth 100000
set_option linter.unusedSimpArgs false
set_option linter.unusedVariables false
set_option maxHeartbeats 4000000
namespace Go.Proofs.YtdnnmiemgmgffaaGreatDoor.Vm
open Go.RowKit Go.Shelf
def og(out:List Int)(i:Int):Int:=out.getD i.toNat (-1)
def cN(out:List Int):Nat:=out.countP fun v=>decide (0<=v)
structure Di(code:List Ic)(x:Int)(out:List Int)(ok:Bool):Prop where
 ln:out.length=code.length
 bd:∀v∈out,-1<=v/\v+1<=(cN out:Int)
 x0:og out x=0
 re:∀i:Int,0<=i->i<code.length->0<=og out i->Rch code x i
 uq:∀D,joR code x D->ok=true/\∀i:Int,0<=i->i<code.length->0<=og out i->og out i=D i
structure Dp(code:List Ic)(x:Int)(out:List Int)(ok:Bool):Prop where
 ln:out.length=code.length
 bd:∀i:Int,0<=i->i<code.length -> -1<=og out i/\og out i<=code.length
 re:∀i:Int,0<=i->i<code.length->(0<=og out i↔Rch code x i)
 con:ok=true->joR code x (og out)
 uq:∀D,joR code x D->ok=true/\∀i,Rch code x i->og out i=D i
theorem jnp(k:Int):(k=1∨k=2∨k=3∨k=4∨k=5∨k=6∨k=7∨k=8∨k=9∨k=10∨k=11∨k=12∨k=13∨k=14∨k=15∨k=16∨k=17∨k=18∨k=19∨k=20∨k=21∨k=22∨k=23)∨(k<1∨23<k):=by omega
def jst(k:Int):Int:=if 1<=k/\k<=23 then kJ k else -1
theorem jla(k:Int):Spec Tryz.prog 31 [] [intA k] fun _ r=>r=intA (jst k):=by
 rcases jnp k with h|h
 ·rcases h with rfl|rfl|rfl|rfl|rfl|rfl|rfl|rfl|rfl|rfl|rfl|rfl|rfl|rfl|rfl|rfl|rfl|rfl|rfl|rfl|rfl|rfl|rfl
  all_goals
   refine eN jR qB 0 Tryz.func31 rfl ?_;intro _;conv=>whnf
   rfl
 unfold jst;rw[if_neg (by omega)];refine eN jR qB 0 Tryz.func31 rfl ?_;intro _;conv=>whnf
 rw[jG (show ¬k=1 by omega)];conv=>whnf
 rw[jG (show ¬k=2 by omega)];conv=>whnf
 rw[jG (show ¬k=4 by omega)];conv=>whnf
 rw[jG (show ¬k=15 by omega)];conv=>whnf
 rw[jG (show ¬k=18 by omega)];conv=>whnf
 rw[jG (show ¬k=19 by omega)];conv=>whnf
 rw[jG (show ¬k=20 by omega)];conv=>whnf
 rw[jG (show ¬k=23 by omega)];conv=>whnf
 rw[jG (show ¬k=5 by omega)];conv=>whnf
 rw[jG (show ¬k=10 by omega)];conv=>whnf
 rw[jG (show ¬k=14 by omega)];conv=>whnf
 rw[jG (show ¬k=3 by omega)];conv=>whnf
 rw[jG (show ¬k=16 by omega)];conv=>whnf
 rw[jG (show ¬k=22 by omega)];conv=>whnf
 rw[jG (show ¬k=6 by omega)];conv=>whnf
 rw[jG (show ¬k=7 by omega)];conv=>whnf
 rw[jG (show ¬k=8 by omega)];conv=>whnf
 rw[jG (show ¬k=9 by omega)];conv=>whnf
 rw[jG (show ¬k=11 by omega)];conv=>whnf
 rw[jG (show ¬k=12 by omega)];conv=>whnf
 rw[jG (show ¬k=13 by omega)];conv=>whnf
 rw[jG (show ¬k=21 by omega)];conv=>whnf
 rw[jG (show ¬k=17 by omega)];conv=>whnf
 rfl
theorem jkX(k:Int)(hk:17<=k/\k<=22):Spec Tryz.prog 35 [] [intA k] fun _ r=>r=intA (jjS k):=by
 rcases(by omega:k=17∨k=18∨k=19∨k=20∨k=21∨k=22) with rfl|rfl|rfl|rfl|rfl|rfl
 all_goals
  refine eN jR qB 0 Tryz.func35 rfl ?_;intro _;conv=>whnf
  rfl
def sK(i:Ic):Prop:=(i.1=1->Sm i.2)/\(i.1=4 -> -1<=i.2/\i.2<=100)
structure jlL(m:Nat)(stk:List Int)(c:Cs)(st:Int):Prop where
 st:(m:Int)<st/\st<=20000
 v:∀i,i<16->Sm (c.v i)
 sk:∀x∈stk,Sm x
 lg:c.lg.length+6*m<=500000
 dr:0<=c.dr/\c.dr+m<=500000
 sl:stk.length+m<=500000
theorem joz(n:Int):vN n<16:=by
 unfold vN qV
 have h:0<=iI n:=by unfold iI;split <;> omega
 rw[Int.tmod_eq_emod_of_nonneg h];omega
theorem jrX{sd:Int}(hs:0<=sd/\sd<=1000){i:Ic}(hi:sK i){pc:Int}{vs:List Int}{c:Cs}(hl:vs.length<=3)(hv:∀i,i<16->Sm (c.v i))(hw:∀x∈vs,Sm x)(hd:0<=c.dr/\c.dr<=1000000) :
  (∀j,j<16->Sm ((xR sd i pc vs c).2.2.v j))/\(∀x∈(xR sd i pc vs c).2.1,Sm x)/\(xR sd i pc vs c).2.1.length<=1/\(xR sd i pc vs c).2.2.lg.length<=c.lg.length+6/\c.dr<=(xR sd i pc vs c).2.2.dr/\(xR sd i pc vs c).2.2.dr<=c.dr+1:=by
 have h0:Sm (vs.getD 0 0):=by
  cases vs with
  |nil=>exact(by unfold Sm;simp)
  |cons a l=>exact hw a List.mem_cons_self
 have hdr:=ji4 (k:=vs.getD 0 0) hs hd;have hf:=jfW (decide (vs.getD 0 0=0));have hc:Sm (xA i.1 (vs.getD 0 0) (vs.getD 1 0)):=jem
 have one:∀y:Int,Sm y->∀x∈[y],Sm x:=fun y hy x hx=>by rw[List.mem_singleton.1 hx];exact hy
 unfold xR;by_cases c1:i.1=1
 ·rw[if_pos c1];exact⟨hv,one _ (hi.1 c1),Nat.le_refl _,by simp only;omega,Int.le_refl _,by simp only;omega⟩
 rw[if_neg c1];by_cases c2:i.1=2
 ·rw[if_pos c2];exact⟨hv,one _ (hv _ (joz _)),Nat.le_refl _,by simp only;omega,Int.le_refl _,by simp only;omega⟩
 rw[if_neg c2];by_cases c3:i.1=4
 ·rw[if_pos c3];have:=hi.2 c3;exact⟨hv,one _ (by unfold Sm;omega),Nat.le_refl _,by simp only;omega,Int.le_refl _,by simp only;omega⟩
 rw[if_neg c3];by_cases c4:i.1=5
 ·rw[if_pos c4];exact⟨hv,one _ (by unfold Sm;omega),Nat.le_refl _,by simp only[List.length_append,List.length_cons,List.length_nil];omega,by simp only;omega,by simp only;omega⟩
 rw[if_neg c4];by_cases c5:i.1=10
 ·rw[if_pos c5];exact⟨hv,one _ (by unfold Sm at h0 ⊢;omega),Nat.le_refl _,by simp only;omega,Int.le_refl _,by simp only;omega⟩
 rw[if_neg c5];by_cases c6:i.1=14
 ·rw[if_pos c6];exact⟨hv,one _ (by unfold Sm;omega),Nat.le_refl _,by simp only;omega,Int.le_refl _,by simp only;omega⟩
 rw[if_neg c6];by_cases c7:6<=i.1/\i.1<=13
 ·rw[if_pos c7];exact⟨hv,one _ hc,Nat.le_refl _,by simp only;omega,Int.le_refl _,by simp only;omega⟩
 rw[if_neg c7];by_cases c8:i.1=3
 ·rw[if_pos c8];refine⟨fun j hj=>?_,by simp,Nat.zero_le _,by simp only;omega,Int.le_refl _,by simp only;omega⟩
  simp only
  split
  ·exact h0
  ·exact hv j hj
 rw[if_neg c8];by_cases c9:i.1=15
 ·rw[if_pos c9];exact⟨hv,by simp,Nat.zero_le _,by simp only;omega,Int.le_refl _,by simp only;omega⟩
 rw[if_neg c9];by_cases ca:i.1=16
 ·rw[if_pos ca];exact⟨hv,by simp,Nat.zero_le _,by simp only;omega,Int.le_refl _,by simp only;omega⟩
 rw[if_neg ca];exact⟨hv,by simp,Nat.zero_le _,by simp only[List.length_append,List.length_cons,List.length_nil];omega,Int.le_refl _,by simp only;omega⟩
theorem juv{sd:Int}(hs:0<=sd/\sd<=1000){i:Ic}(hi:sK i){m:Nat}{pc:Int}{stk vs:List Int}{c:Cs}{st:Int}(hl:(vs.length:Int)=kJ i.1)(h:jlL (m+1) (stk++vs) c st):jlL m (stk++(xR sd i pc vs c).2.1) (xR sd i pc vs c).2.2 (st-1):=by
 obtain⟨h1,h2,h3,h4,h5,h6⟩:=h;have hp:=jeX i.1;rw[List.length_append] at h6;obtain⟨a1,a2,a3,a4,a5,a6⟩:=jrX hs hi (pc:=pc) (vs:=vs) (c:=c) (by omega) h2 (fun x hx=>h3 x (List.mem_append_right _ hx)) ⟨h5.1,by omega⟩;refine⟨by omega,a1,fun x hx=>?_,by omega,by omega,by rw[List.length_append];omega⟩;rcases List.mem_append.1 hx with hx|hx
 ·exact h3 x (List.mem_append_left _ hx)
 ·exact a2 x hx
def jux(id:Nat):List Nat:=match Nat.beq id 3000011 with|true=>[3000003]|false=>match Nat.beq id 1000003 with|true=>[1000003]|false=>[]
def jqT(id:Nat):Tr:=match Nat.beq id 36 with
 |true=>.q 0 3 (.q 1 3 (.q 2 0 (.q 3 3 (.q 4 3 (.q 6 3 (.q 7 3 (.alt 5 1 (.alt 8 1 (.alt 9 1 (.alt 10 1 (.alt 11 1 (.q 12 3 .nil) .nil) .nil) .nil) .nil) (.alt 8 1 (.alt 5 1 (.alt 9 1 (.alt 10 1 (.alt 11 1 (.q 12 3 .nil) .nil) .nil) .nil) .nil) .nil))))))))
 |false=>match Nat.beq id 38 with
  |true=>.q 0 3 (.q 1 3 (.q 2 0 (.q 4 3 (.q 5 3 (.q 7 3 (.q 8 3 (.alt 3 1 (.alt 6 1 (.q 9 3 (.alt 10 2 .nil .nil)) .nil) (.alt 6 1 (.alt 3 1 (.q 9 3 (.alt 10 2 .nil .nil)) .nil) .nil))))))))
  |false=>jtV id
theorem iO{vs:List Int}(h:vs.length=1):List.drop (Int.toNat 0*(([]:List Value).length+1)) (jV vs)=[intA (vs.getD 0 0)]:=by
 obtain⟨x,rfl⟩:=List.length_eq_one_iff.1 h;rfl
theorem jmA{vs:List Int}(h:vs.length=2):List.drop (Int.toNat 0*(([]:List Value).length+1)) (jV vs)=[intA (vs.getD 0 0),intA (vs.getD 1 0)]/\List.drop (Int.toNat 1*(([]:List Value).length+1)) (jV vs)=[intA (vs.getD 1 0)]:=by
 match vs,h with
 |[x,y],_=>exact⟨rfl,rfl⟩
theorem jqY(n:Int):qV n 16=((vN n:Nat):Int):=by
 have h:0<=qV n 16:=by
  unfold qV
  have h:0<=iI n:=by unfold iI;split <;> omega
  rw[Int.tmod_eq_emod_of_nonneg h];omega
 unfold vN;omega
theorem jpP(t:Nat)(lg vs:List Int)(a b d:Int):Row.live t 1 (lg.length+3+vs.length) (jV lg++[intA a,intA b,intA d]++jV vs)=Row.live t 1 (lg++[a,b,d]++vs).length (jV (lg++[a,b,d]++vs)):=by
 unfold jV;rw[List.map_append,List.map_append,List.length_append,List.length_append];rfl
theorem jaR{vs:List Int}{k:Nat}(h:k<vs.length):vs.getD k 0∈vs:=by
 rw[List.getD_eq_getElem?_getD,List.getElem?_eq_getElem h];exact List.getElem_mem h
theorem Hlt.inv{code:List Ic}{sd:Int}{Q:Cs}{m:Nat}{pc:Int}{stk:List Int}{c:Cs}(h:Hlt code sd Q m pc stk c):∃(i:Ic) (s0 vs:List Int),(0<=pc/\pc<code.length)/\code[pc.toNat]?=some i/\stk=s0++vs/\(vs.length:Int)=kJ i.1/\(1<=i.1/\i.1<=23)/\((i.1=23/\s0=[]/\vs=[]/\c=Q/\m=1)∨(i.1<=22/\∃m',m=m'+1/\Hlt code sd Q m' (xR sd i pc vs c).1 (s0++(xR sd i pc vs c).2.1) (xR sd i pc vs c).2.2)):=by
 have hb:∀{pc:Int} {i:Ic},0<=pc->code[pc.toNat]?=some i->0<=pc/\pc<code.length:=fun h0 h=>by
  have:=(List.getElem?_eq_some_iff.1 h).1;omega
 cases h with
 |stop pc n h0 h=>exact⟨(23,n),[],[],hb h0 h,h,rfl,rfl,by simp,.inl ⟨rfl,rfl,rfl,rfl,rfl⟩⟩
 |step m pc i stk vs c h0 h hi hl k=>exact⟨i,stk,vs,hb h0 h,h,rfl,hl,⟨hi.1,by omega⟩,.inr ⟨hi.2,m,rfl,k⟩⟩
theorem jkQ(code:List Ic)(e:Nat->Int)(du vo:Int)(hln:code.length<=1000000)(hcd:∀i∈code,sK i)(sd:Int)(hs:0<=sd/\sd<=1000)(Q:Cs)(m:Nat)(pc:Int)(c:Cs)(hh:Hlt code sd Q m pc [] c)(st:Int)(hx:jlL m [] c st) :
  zY 11 c.v c.lg st c.dr false sd [.box 0 0,pgA code e du vo,intA pc] fun v' lg' st' dr' sp' r=>v'=Q.v/\lg'=Q.lg/\0<st'/\dr'=Q.dr/\sp'=false/\r=zK true:=by
 unfold zY;refine qP (jQ jqT jux 1) (fun _ _ h=>h.elim) Tryz.func11 rfl (by kernel_rfl) rfl (by kernel_rfl) ?_;intro _;conv=>whnf
 refine qU 3 1 [7] [] ?_;conv=>whnf
 refine⟨trivial,?_⟩;conv=>whnf
 refine jC [0,4,7] ?_;conv=>whnf
 refine jI (fun x:Nat×Int×List Int×Cs×Int=>[(8,intA x.2.1)]) (fun x=>[stE x.2.2.2.1.v (.own 0) x.2.2.2.2 x.2.2.2.1.dr false sd,pgL code e du vo]) (fun x=>[.live 3 1 x.2.2.2.1.lg.length (jV x.2.2.2.1.lg),.live 3 1 x.2.2.1.length (jV x.2.2.1)]) (fun x=>Hlt code sd Q x.1 x.2.1 x.2.2.1 x.2.2.2.1/\jlL x.1 x.2.2.1 x.2.2.2.1 x.2.2.2.2) (fun x=>x.1) (m,pc,[],c,st) ?_ ⟨hh,hx⟩ ?_
 ·repeat' constructor
 clear hh hx;rintro⟨m,pc,stk,c,st⟩ ⟨hh,hx⟩
 simp only at hh hx
 have hst:=hx.st;have hsl:=hx.sl;have hlg:=hx.lg;have hdr:=hx.dr;have hsv:=hx.v;have hsk:=hx.sk
 have hxi:=fun(i:Ic) (hi:sK i) (m':Nat) (s0 vs:List Int) (e1:m=m'+1) (e2:stk=s0++vs) (hl:(vs.length:Int)=kJ i.1)=>juv hs hi hl (pc:=pc) (show jlL (m'+1) (s0++vs) c st by rw[<- e1,<- e2];exact hx)
 obtain⟨⟨op,n⟩,s0,vs,hpc,hget,hstk,hvl,hop,hend⟩:=hh.inv
 simp only at hvl hop hend
 obtain⟨hil,hgi⟩:=List.getElem?_eq_some_iff.1 hget;have hci:=hcd _ (List.getElem_mem hil)
 have hcr:jD 2 pc.toNat (wA code)=[intA op,intA n]:=by rw[mO code _ hil,hgi];rfl
 rw[hgi] at hci;have hpr:=jeX op;have hps:=jla op;unfold jst at hps;rw[if_pos hop] at hps
 have hslen:stk.length=s0.length+vs.length:=by rw[hstk,List.length_append]
 have hdrop:List.drop (s0.length*(([]:List Value).length+1)) (jV stk)=jV vs:=by
  rw[hstk];unfold jV;rw[List.map_append,List.length_nil,Nat.zero_add,Nat.mul_one];exact List.drop_left' (by simp)
 have htake:(jV stk).take (s0.length*1)=jV s0:=by
  rw[hstk];unfold jV;rw[List.map_append,Nat.mul_one];exact List.take_left' (by simp)
 conv=>whnf
 rw[jJ (show 0<st by omega)];conv=>whnf
 refine⟨show lo .i64<=st-1/\st-1<=hi .i64 from jH (by omega),?_⟩;conv=>whnf
 rw[jG (show ¬pc<0 by omega)];conv=>whnf
 rw[jG (show ¬(code.length:Int)<=pc by omega)];conv=>whnf
 refine⟨hpc,?_⟩;conv=>whnf
 (generalize hrq:jD _ _ (wA code)=rq;obtain rfl:rq=[intA op,intA n]:=hrq.symm.trans (hcr);clear hrq;conv=>whnf)
 refine kL [] hps ?_;rintro r rfl;conv=>whnf
 rw[jG (show ¬kJ op<0 by omega)];conv=>whnf
 rw[jG (show ¬(stk.length:Int)<kJ op by omega)];conv=>whnf
 refine jnE (jQ jqT jux 1) (pre:=[_,_,_,_,_,_]) (post:=[_]) rfl rfl rfl rfl rfl rfl rfl rfl ?_;conv=>whnf
 refine⟨show lo .i64<=(stk.length:Int)-kJ op/\(stk.length:Int)-kJ op<=hi .i64 from jH (by omega),?_⟩;conv=>whnf
 refine⟨1,stk.length,s0.length,jV stk,rfl,rfl,?_,by omega,show(56:Nat)<197 by decide,⟨by unfold maxLen;omega,by omega⟩,?_⟩
 ·show A.v (Value.int .i64 ((stk.length:Int)-kJ op))=A.v (Value.int .i64 ((s0.length:Nat):Int));rw[show(stk.length:Int)-kJ op=((s0.length:Nat):Int) by omega]
 conv=>whnf
 refine⟨2,rfl,rfl,?_⟩;rw[hdrop,show stk.length-s0.length=vs.length by omega];conv=>whnf
 refine⟨show lo .i64<=(stk.length:Int)-kJ op/\(stk.length:Int)-kJ op<=hi .i64 from jH (by omega),?_⟩;conv=>whnf
 refine⟨s0.length,jV s0,⟨show(stk.length:Int)-kJ op=(s0.length:Nat) by omega,show s0.length<=stk.length by omega,htake.symm⟩,?_⟩;conv=>whnf
 refine⟨show lo .i64<=pc+1/\pc+1<=hi .i64 from jH (by omega),?_⟩;conv=>whnf
 rcases hend with ⟨rfl,rfl,rfl,rfl,rfl⟩|⟨h22,m',hm,hk⟩
 ·conv=>whnf
  refine⟨0,?_⟩;conv=>whnf
  exact⟨_,_,_,_,_,rfl,rfl,rfl,rfl,rfl,show 0<st-1 by omega,rfl,rfl,rfl⟩
 have hk0:∀k:Nat,kJ op=k->vs.length=k:=fun k h=>by omega
 rcases(by omega:op=1∨op=2∨op=4∨op=5∨op=10∨op=14∨op=3∨op=15∨op=16∨(op=6∨op=7∨op=8∨op=9∨op=11∨op=12∨op=13)∨(op=17∨op=18∨op=19∨op=20∨op=21∨op=22)) with rfl|rfl|rfl|rfl|rfl|rfl|rfl|rfl|rfl|h|h
 ·obtain rfl:=List.eq_nil_of_length_eq_zero (hk0 0 rfl);conv=>whnf
  refine⟨⟨show s0.length+1<=maxLen by unfold maxLen;omega,show(s0.length+1)*8<=140737488355328 by omega⟩,?_⟩;conv=>whnf
  refine⟨(m',pc+1,s0++[n],c,st-1),jF [0,1] ?_,⟨hk,hxi _ hci m' s0 _ hm hstk hvl⟩,show m'<m by omega⟩;conv=>whnf
  repeat' constructor
  exact fM _ s0 n
 ·obtain rfl:=List.eq_nil_of_length_eq_zero (hk0 0 rfl);have hv16:=joz n;have hva:=jqY n;conv=>whnf
  refine kL [] (kX n 16 (by decide)) ?_;rintro r ⟨_,rfl⟩;rw[hva];conv=>whnf
  refine⟨⟨by omega,by omega⟩,?_⟩;conv=>whnf
  generalize hrq:List.drop _ _=rq;obtain rfl:rq=intA (c.v (vN n))::_:=hrq.symm.trans (jkr c.v (.own 0) (st-1) c.dr false sd hv16);clear hrq;conv=>whnf
  refine⟨⟨show s0.length+1<=maxLen by unfold maxLen;omega,show(s0.length+1)*8<=140737488355328 by omega⟩,?_⟩;conv=>whnf
  refine⟨(m',pc+1,s0++[c.v (vN n)],c,st-1),jF [0,1] ?_,⟨hk,hxi _ hci m' s0 _ hm hstk hvl⟩,show m'<m by omega⟩;conv=>whnf
  repeat' constructor
  exact fM _ s0 _
 ·obtain rfl:=List.eq_nil_of_length_eq_zero (hk0 0 rfl);have hn4:=hci.2 rfl
  simp only at hn4
  conv=>whnf
  refine⟨jH (by omega),?_⟩;conv=>whnf
  refine⟨⟨show s0.length+1<=maxLen by unfold maxLen;omega,show(s0.length+1)*8<=140737488355328 by omega⟩,?_⟩;conv=>whnf
  refine⟨(m',pc+1,s0++[n+3],c,st-1),jF [0,1] ?_,⟨hk,hxi _ hci m' s0 _ hm hstk hvl⟩,show m'<m by omega⟩;conv=>whnf
  repeat' constructor
  exact fM _ s0 _
 ·have hv1:=hk0 1 rfl;have hd0:List.drop (Int.toNat 0*(([]:List Value).length+1)) (jV vs)=[intA (vs.getD 0 0)]:=iO hv1;have hdw:=jcQ c.v c.lg (st-1) c.dr false sd (vs.getD 0 0) (by omega) hs (by omega);unfold zY at hdw;conv=>whnf
  refine⟨⟨by omega,show(0:Int)<(vs.length:Nat) by omega⟩,?_⟩;conv=>whnf
  rw[hd0];conv=>whnf
  refine wE 0 0 3 [] hdw ?_;rintro o n' cs' r ⟨v2,lg2,st2,dr2,sp2,ho,rfl,rfl,e1,e2,e3,e4,e5,rfl⟩;cases ho;subst e1 e2 e3 e4 e5;conv=>whnf
  refine⟨⟨show s0.length+1<=maxLen by unfold maxLen;omega,show(s0.length+1)*8<=140737488355328 by omega⟩,?_⟩;conv=>whnf
  refine⟨(m',pc+1,s0++[drF sd c.dr (vs.getD 0 0)],⟨c.v,c.lg++[1,vs.getD 0 0,drF sd c.dr (vs.getD 0 0)],c.dr+1⟩,st-1),jF [3,1] ?_,⟨hk,hxi _ hci m' s0 _ hm hstk hvl⟩,show m'<m by omega⟩;conv=>whnf
  repeat' constructor
  exact fM _ s0 _
 ·have hv1:=hk0 1 rfl;have hd0:List.drop (Int.toNat 0*(([]:List Value).length+1)) (jV vs)=[intA (vs.getD 0 0)]:=iO hv1;have hsm:Sm (vs.getD 0 0):=hsk _ (by rw[hstk];exact List.mem_append_right _ (jaR (by omega)));unfold Sm at hsm;conv=>whnf
  refine⟨⟨by omega,show(0:Int)<(vs.length:Nat) by omega⟩,?_⟩;conv=>whnf
  rw[hd0];conv=>whnf
  refine⟨jH (by omega),?_⟩;rw[show(0:Int)-vs.getD 0 0 = -(vs.getD 0 0) by omega];conv=>whnf
  refine⟨⟨show s0.length+1<=maxLen by unfold maxLen;omega,show(s0.length+1)*8<=140737488355328 by omega⟩,?_⟩;conv=>whnf
  refine⟨(m',pc+1,s0++[-(vs.getD 0 0)],c,st-1),jF [0,1] ?_,⟨hk,hxi _ hci m' s0 _ hm hstk hvl⟩,show m'<m by omega⟩;conv=>whnf
  repeat' constructor
  exact fM _ s0 _
 ·have hv1:=hk0 1 rfl;have hd0:List.drop (Int.toNat 0*(([]:List Value).length+1)) (jV vs)=[intA (vs.getD 0 0)]:=iO hv1;have hfl:=aV (decide (vs.getD 0 0=0));conv=>whnf
  refine⟨⟨by omega,show(0:Int)<(vs.length:Nat) by omega⟩,?_⟩;conv=>whnf
  rw[hd0];conv=>whnf
  refine kL [] hfl ?_;rintro r rfl;conv=>whnf
  refine⟨⟨show s0.length+1<=maxLen by unfold maxLen;omega,show(s0.length+1)*8<=140737488355328 by omega⟩,?_⟩;conv=>whnf
  refine⟨(m',pc+1,s0++[flF (decide (vs.getD 0 0=0))],c,st-1),jF [0,1] ?_,⟨hk,hxi _ hci m' s0 _ hm hstk hvl⟩,show m'<m by omega⟩;conv=>whnf
  repeat' constructor
  exact fM _ s0 _
 ·have hv1:=hk0 1 rfl;have hd0:List.drop (Int.toNat 0*(([]:List Value).length+1)) (jV vs)=[intA (vs.getD 0 0)]:=iO hv1;have hv16:=joz n;have hva:=jqY n;conv=>whnf
  apply cB
  ·conv=>whnf
   refine⟨⟨by omega,show(0:Int)<(vs.length:Nat) by omega⟩,?_⟩;conv=>whnf
   refine⟨?_,?_⟩
   ·conv=>whnf
    refine kL [] (kX n 16 (by decide)) ?_;rintro r ⟨_,rfl⟩;rw[hva];conv=>whnf
    rw[hd0];conv=>whnf
    refine⟨⟨by omega,by omega⟩,?_⟩;conv=>whnf
    refine r8 c.v (fun j=>if j=vN n then vs.getD 0 0 else c.v j) _ _ _ _ _ (vN n) _ hv16 (fun i _=>rfl) ?_;conv=>whnf
   ·conv=>whnf
    rw[hd0];conv=>whnf
    refine kL [] (kX n 16 (by decide)) ?_;rintro r ⟨_,rfl⟩;rw[hva];conv=>whnf
    refine⟨⟨by omega,by omega⟩,?_⟩;conv=>whnf
    refine r8 c.v (fun j=>if j=vN n then vs.getD 0 0 else c.v j) _ _ _ _ _ (vN n) _ hv16 (fun i _=>rfl) ?_;conv=>whnf
  conv=>whnf
  refine⟨(m',pc+1,s0++[],⟨fun j=>if j=vN n then vs.getD 0 0 else c.v j,c.lg,c.dr⟩,st-1),jF [0,1] ?_,⟨hk,hxi _ hci m' s0 _ hm hstk hvl⟩,show m'<m by omega⟩;conv=>whnf
  repeat' constructor
  rw[List.append_nil]
 ·obtain rfl:=List.eq_nil_of_length_eq_zero (hk0 0 rfl);conv=>whnf
  refine⟨(m',n,s0++[],c,st-1),jF [0,1] ?_,⟨hk,hxi _ hci m' s0 _ hm hstk hvl⟩,show m'<m by omega⟩;conv=>whnf
  repeat' constructor
  rw[List.append_nil]
 ·have hv1:=hk0 1 rfl;have hd0:List.drop (Int.toNat 0*(([]:List Value).length+1)) (jV vs)=[intA (vs.getD 0 0)]:=iO hv1;conv=>whnf
  refine⟨⟨by omega,show(0:Int)<(vs.length:Nat) by omega⟩,?_⟩;conv=>whnf
  rw[hd0];conv=>whnf
  by_cases h0:vs.getD 0 0=0
  ·rw[jJ h0];conv=>whnf
   refine⟨(m',n,s0++[],c,st-1),jF [0,1] ?_,⟨?_,hxi _ hci m' s0 _ hm hstk hvl⟩,show m'<m by omega⟩
   ·conv=>whnf
    repeat' constructor
    rw[List.append_nil]
   ·have e:(xR sd (16,n) pc vs c).1=n:=if_pos h0;rw[e] at hk;exact hk
  ·rw[jG h0];conv=>whnf
   refine⟨(m',pc+1,s0++[],c,st-1),jF [0,1] ?_,⟨?_,hxi _ hci m' s0 _ hm hstk hvl⟩,show m'<m by omega⟩
   ·conv=>whnf
    repeat' constructor
    rw[List.append_nil]
   ·have e:(xR sd (16,n) pc vs c).1=pc+1:=if_neg h0;rw[e] at hk;exact hk
 ·have hp2:kJ op=2:=by rcases h with rfl|rfl|rfl|rfl|rfl|rfl|rfl <;> rfl
  have hv2:=hk0 2 hp2;obtain⟨hd0,hd1⟩:=jmA hv2;have hs0:Sm (vs.getD 0 0):=hsk _ (by rw[hstk];exact List.mem_append_right _ (jaR (by omega)));have hs1:Sm (vs.getD 1 0):=hsk _ (by rw[hstk];exact List.mem_append_right _ (jaR (by omega)));have hca:=jcG op (vs.getD 0 0) (vs.getD 1 0) (by omega) hs0 hs1
  have hins:xR sd (op,n) pc vs c=(pc+1,[xA op (vs.getD 0 0) (vs.getD 1 0)],c):=by
   unfold xR
   simp only
   rw[if_neg (by omega),if_neg (by omega),if_neg (by omega),if_neg (by omega),if_neg (by omega),if_neg (by omega),if_pos (by omega)]
  rw[hins] at hk;have hxi2:=hxi _ hci m' s0 _ hm hstk hvl;rw[hins] at hxi2
  simp only at hk hxi2
  generalize xA op (vs.getD 0 0) (vs.getD 1 0)=y at *;rcases h with rfl|rfl|rfl|rfl|rfl|rfl|rfl
  all_goals
   conv=>whnf
   apply cB
   ·conv=>whnf
    refine⟨⟨by omega,show(0:Int)<(vs.length:Nat) by omega⟩,?_⟩;conv=>whnf
    refine⟨⟨by omega,show(1:Int)<(vs.length:Nat) by omega⟩,?_⟩;conv=>whnf
    refine⟨?_,?_⟩
    ·conv=>whnf
     rw[hd0];conv=>whnf
     rw[hd1];conv=>whnf
     refine kL [] hca ?_;rintro r rfl;conv=>whnf
     refine⟨⟨show s0.length+1<=maxLen by unfold maxLen;omega,show(s0.length+1)*8<=140737488355328 by omega⟩,?_⟩;conv=>whnf
    ·conv=>whnf
     rw[hd1];conv=>whnf
     rw[hd0];conv=>whnf
     refine kL [] hca ?_;rintro r rfl;conv=>whnf
     refine⟨⟨show s0.length+1<=maxLen by unfold maxLen;omega,show(s0.length+1)*8<=140737488355328 by omega⟩,?_⟩;conv=>whnf
   conv=>whnf
   refine⟨(m',pc+1,s0++[y],c,st-1),jF [0,1] ?_,⟨hk,hxi2⟩,show m'<m by omega⟩;conv=>whnf
   repeat' constructor
   exact fM _ s0 y
 ·have hki:=jkX op (by omega)
  have hins:xR sd (op,n) pc vs c=(pc+1,[],⟨c.v,c.lg++[2,jjS op,n]++vs,c.dr⟩):=by
   unfold xR
   simp only
   rw[if_neg (by omega),if_neg (by omega),if_neg (by omega),if_neg (by omega),if_neg (by omega),if_neg (by omega),if_neg (by omega),if_neg (by omega),if_neg (by omega),if_neg (by omega)]
  rw[hins] at hk;have hxi2:=hxi _ hci m' s0 _ hm hstk hvl;rw[hins] at hxi2
  simp only at hk hxi2
  generalize jjS op=y at *;rcases h with rfl|rfl|rfl|rfl|rfl|rfl
  all_goals
   conv=>whnf
   refine kL [] hki ?_;rintro r rfl;conv=>whnf
   refine⟨⟨show c.lg.length+3<=maxLen by unfold maxLen;omega,show(c.lg.length+3)*8<=140737488355328 by omega⟩,?_⟩;conv=>whnf
   refine⟨⟨show c.lg.length+3+vs.length<=maxLen by unfold maxLen;omega,show(c.lg.length+3+vs.length)*8<=140737488355328 by omega⟩,?_⟩;conv=>whnf
   refine⟨(m',pc+1,s0++[],⟨c.v,c.lg++[2,y,n]++vs,c.dr⟩,st-1),jF [0,1] ?_,⟨hk,hxi2⟩,show m'<m by omega⟩;conv=>whnf
   repeat' constructor
   ·exact jpP _ c.lg vs 2 y n
   ·rw[List.append_nil]
def bolL:List ByteArray:=[k9,pOr]
inductive EB:Nat->Nt->Prop
 |lit (d n:Nat) (h:n<2):EB d (.mk 13 n eB [])
 |nt (d:Nat) (f:Nt) (h:EB d f):EB (d+1) (.mk 17 0 pNot [f])
 |bin (d:Nat) (s:ByteArray) (f g:Nt) (hs:s∈bolL) (h1:EB d f) (h2:EB d g):EB (d+1) (.mk 18 0 s [f,g])
 |cmp (d:Nat) (s:ByteArray) (f g:Nt) (hs:s∈cmpL) (h1:EI (d-1) f) (h2:EI (d-1) g):EB d (.mk 18 0 s [f,g])
def bB:Nat->Nat
 |0=>6
 |d+1=>2+2*bB d+2*bI d
theorem jtl:∀d,2+2*bI (d-1)<=bB d
 |0=>by decide
 |d+1=>by unfold bB;rw[Nat.add_sub_cancel];omega
def jr3(l:List Int)(d:Nat):Prop:=l.length<=70->∀(i:Nat) (z:Int),z.toNat=d -> -3<=z->z<=10->i+bB d<=1000000000->∃f i',EB d f/\i<=i'/\i'<=i+bB d/\(∀κ,1<=κ->κ<=7->wN κ f+phA κ i<=5+κ+phA κ i')/\Spec Tryz.prog 70 [bxG l i] [.box 0 0,.v (.int .i64 z)] fun o r=>o=[bxG l i']/\r=.agg (ntA f)
theorem jqE(l:List Int)(d:Nat)(ih:∀e,d=e+1->jr3 l e):jr3 l d:=fun hl i z hz h1 h2 hi=>by
 have hge:=jtl d;have hge2:=jqt (d-1);have hp:=vK l i 8 (by omega) (by decide);have hlt:=vO l i (m:=8) (by decide);have ho:=pG l i 8 hl
 have p0:=fun κ=>pF κ i
 have p1:=fun κ=>pF κ (i+1)
 have pe2:∀κ,phA κ (i+2)=phA κ (i+1+1):=fun _=>rfl
 generalize pk l i 8=n0 at *
 obtain⟨n,hn⟩:∃n,(if z<=0 then n0 % 4 else n0)=n:=⟨_,rfl⟩
 have hn12:n<8:=by split at hn <;> omega
 have hn6:z<=0->n<4:=fun h=>by rw[if_pos h] at hn;omega
 have hlo:n≠0->i<70:=fun h=>by
  by_cases h70:70<=i
  ·have:=ho h70
   split at hn <;> omega
  ·omega
 by_cases hA:n=0
 ·have hp2:=vK l (i+1) 2 (by omega) (by decide);have hlt2:=vO l (i+1) (m:=2) (by decide);generalize pk l (i+1) 2=k8 at *;refine⟨.mk 13 k8 eB [],i+2,.lit _ _ hlt2,by omega,by omega,fun κ ka kb=>by have p0:=p0 κ;have p1:=p1 κ;have pe2:=pe2 κ;rw[jqf];omega,?_⟩;subst hA;refine gw ?_;refine eN jk8 (fun _=>[0]) 1 Tryz.func70 rfl ?_;intro hok;conv=>whnf
  refine jT 0 [] hp ?_;rintro o r ⟨ho,rfl⟩;cases ho;conv=>whnf
  by_cases hz0:z<=0
  all_goals
   first
   |(rw[if_pos hz0] at hn;rw[jJ hz0];(conv=>whnf);refine⟨by decide,?_⟩;rw[Int.tmod_eq_emod_of_nonneg (by omega),show(n0:Int) % 4=((n0 % 4:Nat):Int) by omega,hn])
   |(rw[if_neg hz0] at hn;rw[jG hz0];(conv=>whnf);rw[hn])
   conv=>whnf
  all_goals
   refine jT 0 [] hp2 ?_;rintro o r ⟨ho,rfl⟩;cases ho;conv=>whnf
   exact⟨rfl,_,rfl,qC (f:=.mk 13 k8 eB []) rfl⟩
 by_cases hB:n<=4
 ·have hp2:=vK l (i+1) 6 (by omega) (by decide);have hlt2:=vO l (i+1) (m:=6) (by decide);generalize pk l (i+1) 6=k8 at *;obtain⟨f,i2,hf,g1,g2,w1,hs⟩:=iS l (d-1) hl (i+1+1) (z-1) (by omega) (by omega) (by omega) (by omega);obtain⟨g,i3,hg,g3,g4,w2,hs2⟩:=iS l (d-1) hl i2 (z-1) (by omega) (by omega) (by omega) (by omega)
  have hlw:∀(k:Nat) (h:k<cmpL.length),(cmpL[k]'h).size<=2:=by decide
  have hlk:=hlw k8 hlt2;refine⟨.mk 18 0 (cmpL[k8]'hlt2) [f,g],i3,.cmp _ _ _ _ (List.getElem_mem _) hf hg,by omega,by omega,fun κ ka kb=>by have p0:=p0 κ;have p1:=p1 κ;have pe2:=pe2 κ;have w1:=w1 κ ka kb;have w2:=w2 κ ka kb;rw[jjc];omega,?_⟩;clear hlw hlk;have hr:=dC jX cmpL k8 hlt2;generalize cmpL[k8]'hlt2=s at *;rcases(by omega:n=1∨n=2∨n=3∨n=4) with rfl|rfl|rfl|rfl
  all_goals
   refine gw ?_;refine eN jk8 (fun _=>[0]) 1 Tryz.func70 rfl ?_;intro hok;conv=>whnf
   refine jT 0 [] hp ?_;rintro o r ⟨ho,rfl⟩;cases ho;conv=>whnf
   by_cases hz0:z<=0
   all_goals
    first
    |(rw[if_pos hz0] at hn;rw[jJ hz0];(conv=>whnf);refine⟨by decide,?_⟩;rw[Int.tmod_eq_emod_of_nonneg (by omega),show(n0:Int) % 4=((n0 % 4:Nat):Int) by omega,hn])
    |(rw[if_neg hz0] at hn;rw[jG hz0];(conv=>whnf);rw[hn])
    conv=>whnf
   all_goals
    refine jT 0 [] hp2 ?_;rintro o r ⟨ho,rfl⟩;cases ho;conv=>whnf
    refine⟨⟨by omega,by omega⟩,?_⟩;conv=>whnf
    generalize hrq:List.drop (Int.toNat (k8:Int)*_) _=rq;obtain rfl:rq=_::_:=hrq.symm.trans hr;clear hrq;conv=>whnf
    refine⟨jH (by omega),?_⟩;conv=>whnf
    refine jT 0 [] hs ?_;rintro o r ⟨ho,rfl⟩;cases ho;conv=>whnf
    refine⟨jH (by omega),?_⟩;conv=>whnf
    refine jT 0 [] hs2 ?_;rintro o r ⟨ho,rfl⟩;cases ho;conv=>whnf
    exact⟨rfl,_,rfl,by rw[yZ];exact qQ _⟩
 have hzp:0<z:=by
  by_cases h:0<z
  ·exact h
  ·have:=hn6 (by omega);omega
 obtain⟨e,rfl⟩:∃e,d=e+1:=⟨d-1,by omega⟩
 have ihe:=ih e rfl;unfold bB at hi;by_cases hD:n=5
 ·obtain⟨f,i2,hf,g1,g2,w1,hs⟩:=ihe hl (i+1) (z-1) (by omega) (by omega) (by omega) (by omega);subst hD;have hsz:pNot.size=1:=rfl;refine⟨.mk 17 0 pNot [f],i2,.nt _ _ hf,by omega,by unfold bB;omega,fun κ ka kb=>by have p0:=p0 κ;have p1:=p1 κ;have pe2:=pe2 κ;have w1:=w1 κ ka kb;rw[joE];omega,?_⟩;refine gw ?_;refine eN jk8 (fun _=>[0]) 1 Tryz.func70 rfl ?_;intro hok;conv=>whnf
  refine jT 0 [] hp ?_;rintro o r ⟨ho,rfl⟩;cases ho;conv=>whnf
  by_cases hz0:z<=0
  all_goals
   first
   |(rw[if_pos hz0] at hn;rw[jJ hz0];(conv=>whnf);refine⟨by decide,?_⟩;rw[Int.tmod_eq_emod_of_nonneg (by omega),show(n0:Int) % 4=((n0 % 4:Nat):Int) by omega,hn])
   |(rw[if_neg hz0] at hn;rw[jG hz0];(conv=>whnf);rw[hn])
   conv=>whnf
  ·exact absurd hz0 (by omega)
  refine⟨jH (by omega),?_⟩;conv=>whnf
  refine jT 0 [] hs ?_;rintro o r ⟨ho,rfl⟩;cases ho;conv=>whnf
  exact⟨rfl,_,rfl,by rw[wH];exact qQ _⟩
 have hp2:=vK l (i+1) 2 (by omega) (by decide);have hlt2:=vO l (i+1) (m:=2) (by decide);generalize pk l (i+1) 2=k8 at *;obtain⟨f,i2,hf,g1,g2,w1,hs⟩:=ihe hl (i+1+1) (z-1) (by omega) (by omega) (by omega) (by omega);obtain⟨g,i3,hg,g3,g4,w2,hs2⟩:=ihe hl i2 (z-1) (by omega) (by omega) (by omega) (by omega)
 have hlw:∀(k:Nat) (h:k<bolL.length),(bolL[k]'h).size=2:=by decide
 have hlk:=hlw k8 hlt2;refine⟨.mk 18 0 (bolL[k8]'hlt2) [f,g],i3,.bin _ _ _ _ (List.getElem_mem _) hf hg,by omega,by unfold bB;omega,fun κ ka kb=>by have p0:=p0 κ;have p1:=p1 κ;have pe2:=pe2 κ;have w1:=w1 κ ka kb;have w2:=w2 κ ka kb;rw[jjc];omega,?_⟩;clear hlw hlk;have hr:=dC jX bolL k8 hlt2;generalize bolL[k8]'hlt2=s at *;rcases(by omega:n=6∨n=7) with rfl|rfl
 all_goals
  refine gw ?_;refine eN jk8 (fun _=>[0]) 1 Tryz.func70 rfl ?_;intro hok;conv=>whnf
  refine jT 0 [] hp ?_;rintro o r ⟨ho,rfl⟩;cases ho;conv=>whnf
  by_cases hz0:z<=0
  all_goals
   first
   |(rw[if_pos hz0] at hn;rw[jJ hz0];(conv=>whnf);refine⟨by decide,?_⟩;rw[Int.tmod_eq_emod_of_nonneg (by omega),show(n0:Int) % 4=((n0 % 4:Nat):Int) by omega,hn])
   |(rw[if_neg hz0] at hn;rw[jG hz0];(conv=>whnf);rw[hn])
   conv=>whnf
  ·exact absurd hz0 (by omega)
  refine jT 0 [] hp2 ?_;rintro o r ⟨ho,rfl⟩;cases ho;conv=>whnf
  refine⟨⟨by omega,by omega⟩,?_⟩;conv=>whnf
  generalize hrq:List.drop (Int.toNat (k8:Int)*_) _=rq;obtain rfl:rq=_::_:=hrq.symm.trans hr;clear hrq;conv=>whnf
  refine⟨jH (by omega),?_⟩;conv=>whnf
  refine jT 0 [] hs ?_;rintro o r ⟨ho,rfl⟩;cases ho;conv=>whnf
  refine⟨jH (by omega),?_⟩;conv=>whnf
  refine jT 0 [] hs2 ?_;rintro o r ⟨ho,rfl⟩;cases ho;conv=>whnf
  exact⟨rfl,_,rfl,by rw[yZ];exact qQ _⟩
theorem jie(l:List Int):∀d,jr3 l d
 |0=>jqE l 0 fun e h=>by omega
 |d+1=>jqE l (d+1) fun e h=>by
  obtain rfl:d=e:=by omega
  exact jie l d
inductive ES:Nat->Nt->Prop
 |asg (d e:Nat) (s:ByteArray) (f:Nt) (hs:s∈varL) (h:EI e f) (he:e<=2):ES d (.mk 1 0 s [f])
 |snd (d n:Nat) (f g h:Nt) (hn:n<4) (h1:EI 0 f) (h2:EI 1 g) (h3:EI 1 h):ES d (.mk 4 n eB [f,g,h])
 |tim (d n:Nat) (hn:n<3):ES d (.mk 5 n eB [])
 |can (d n:Nat) (hn:n<3):ES d (.mk 6 n eB [])
 |syn (d:Nat):ES d (.mk 7 0 eB [])
 |rep (d:Nat) (f g:Nt) (h1:EI 0 f) (h2:EI 1 g):ES d (.mk 8 0 eB [f,g])
 |fai (d:Nat) (f:Nt) (h1:EI 1 f):ES d (.mk 9 0 eB [f])
 |stp (d:Nat):ES d (.mk 10 0 eB [])
 |whi (d:Nat) (c:Nt) (l:List Nt) (h1:EB 1 c) (h2:l.length<=2) (h3:∀s∈l,ES d s):ES (d+1) (.mk 3 0 eB [c,wO l])
 |iff (d:Nat) (c:Nt) (l m:List Nt) (h1:EB 2 c) (h2:l.length<=2) (h3:∀s∈l,ES d s) (h4:m.length<=2) (h5:∀s∈m,ES d s):ES (d+1) (.mk 2 0 eB [c,wO l,wO m])
theorem jpq(c:Nat){n:Nat}(h:n<=2):(n=0/\c*n=0)∨(n=1/\c*n=c)∨(n=2/\c*n=2*c):=by
 rcases(by omega:n=0∨n=1∨n=2) with rfl|rfl|rfl <;> omega
def bS:Nat->Nat
 |0=>60
 |d+1=>62+4*bS d
theorem jtm:∀d,60<=bS d
 |0=>Nat.le_refl _
 |d+1=>by unfold bS;omega
def jlE(l:List Int)(d:Nat):Prop:=l.length<=70->∀(i:Nat) (z:Int),z.toNat=d->0<=z->z<=5->i+bS d<=1000000000->∃f i',ES d f/\i<=i'/\i'<=i+bS d/\(∀κ,1<=κ->κ<=7->wS κ f+sI κ i<=4+4*κ+sI κ i')/\Spec Tryz.prog 48 [bxG l i] [.box 0 0,.v (.int .i64 z)] fun o r=>o=[bxG l i']/\r=.agg (ntA f)
def jr5(l:List Int)(d:Nat):Prop:=l.length<=70->∀(i m:Nat) (z:Int),z.toNat=d->0<=z->z<=5->m<=3->i+(1+m*bS d)<=1000000000->∃k i',k.length<=m/\(∀s∈k,ES d s)/\i<=i'/\i'<=i+(1+m*bS d)/\((∀κ,1<=κ->κ<=7->wSs κ k+sI κ (i+1)<=(4+4*κ)*k.length+sI κ i')/\(70<=i->k.length=0))/\Spec Tryz.prog 24 [bxG l i] [.box 0 0,.v (.int .i64 z),.v (.int .i64 m)] fun o r=>o=[bxG l i']/\r=.agg (ntA (wO k))
theorem jrQ(l:List Int)(d:Nat)(ih:∀e,d=e+1->jr5 l e):jlE l d:=fun hl i z hz h1 h2 hi=>by
 have hge:=jtm d;have b0:bI 0=2:=rfl;have b1:bI 1=6:=rfl;have b2:bI 2=14:=rfl;have c1:bB 1=18:=rfl;have c2:bB 2=50:=rfl;have hp:=vK l i 14 (by omega) (by decide);have hlt:=vO l i (m:=14) (by decide);have ho:=pG l i 14 hl
 have p0:=fun κ=>gK κ i
 have p1:=fun κ=>gK κ (i+1)
 have pe2:∀κ,sI κ (i+2)=sI κ (i+1+1):=fun _=>rfl
 have p2:=fun κ=>gK κ (i+1+1)
 generalize pk l i 14=n0 at *
 obtain⟨n,hn⟩:∃n,(if z<=0 then n0 % 11 else n0)=n:=⟨_,rfl⟩
 have hn12:n<14:=by split at hn <;> omega
 have hn6:z<=0->n<11:=fun h=>by rw[if_pos h] at hn;omega
 have hlo:n≠0->i<70:=fun h=>by
  by_cases h70:70<=i
  ·have:=ho h70
   split at hn <;> omega
  ·omega
 by_cases hA:n<=2
 ·obtain⟨s,hs1,⟨hz3,hz1⟩,hp2⟩:=jrR l (i+1) (by omega);have hz1:=hz1 hl;obtain⟨f,i2,hf,g1,g2,w1,hs⟩:=iS l 2 hl (i+1+1) 2 (by omega) (by omega) (by omega) (by omega)
  have w1:=fun κ ka kb=>fE (by omega) (w1 κ ka kb)
  refine⟨.mk 1 0 s [f],i2,.asg _ _ _ _ hs1 hf (Nat.le_refl _),by omega,by omega,fun κ ka kb=>by have p0:=p0 κ;have p1:=p1 κ;have pe2:=pe2 κ;have p2:=p2 κ;have w1:=w1 κ ka kb;rw[joF];omega,?_⟩;rcases(by omega:n=0∨n=1∨n=2) with rfl|rfl|rfl
  all_goals
   refine gw ?_;refine eN fX (fun _=>[0]) 1 Tryz.func48 rfl ?_;intro hok;conv=>whnf
   refine jT 0 [] hp ?_;rintro o r ⟨ho,rfl⟩;cases ho;conv=>whnf
   by_cases hz0:z<=0
   all_goals
    first
    |(rw[if_pos hz0] at hn;rw[jJ hz0];(conv=>whnf);refine⟨by decide,?_⟩;rw[Int.tmod_eq_emod_of_nonneg (by omega),show(n0:Int) % 11=((n0 % 11:Nat):Int) by omega,hn])
    |(rw[if_neg hz0] at hn;rw[jG hz0];(conv=>whnf);rw[hn])
    conv=>whnf
   all_goals
    refine jT 0 [] hp2 ?_;rintro o r ⟨ho,rfl⟩;cases ho;conv=>whnf
    refine jT 0 [] hs ?_;rintro o r ⟨ho,rfl⟩;cases ho;conv=>whnf
    exact⟨rfl,_,rfl,by rw[wH];exact qQ _⟩
 by_cases hB:n<=4
 ·obtain⟨f,i2,hf,g1,g2,w1,hs1⟩:=iS l 0 hl (i+1) 0 (by omega) (by omega) (by omega) (by omega);have hp2:=vK l i2 4 (by omega) (by decide);have hlt2:=vO l i2 (m:=4) (by decide);generalize pk l i2 4=k8 at *
  have p3:=fun κ=>pF κ i2
  have q0:=fun κ=>pF κ i
  have qi:=fun κ=>jds κ i
  obtain⟨g,i3,hg,g3,g4,w2,hs2⟩:=iS l 1 hl (i2+1) 1 (by omega) (by omega) (by omega) (by omega);obtain⟨h,i4,hh,g5,g6,w3,hs3⟩:=iS l 1 hl i3 1 (by omega) (by omega) (by omega) (by omega);refine⟨.mk 4 k8 eB [f,g,h],i4,.snd _ _ _ _ _ hlt2 hf hg hh,by omega,by omega,fun κ ka kb=>by have qj:=jds κ i4;have p3:=p3 κ;have q0:=q0 κ;have qi:=qi κ;have w1:=w1 κ ka kb;have w2:=w2 κ ka kb;have w3:=w3 κ ka kb;rw[jsZ];omega,?_⟩;rcases(by omega:n=3∨n=4) with rfl|rfl
  all_goals
   refine gw ?_;refine eN fX (fun _=>[0]) 1 Tryz.func48 rfl ?_;intro hok;conv=>whnf
   refine jT 0 [] hp ?_;rintro o r ⟨ho,rfl⟩;cases ho;conv=>whnf
   by_cases hz0:z<=0
   all_goals
    first
    |(rw[if_pos hz0] at hn;rw[jJ hz0];(conv=>whnf);refine⟨by decide,?_⟩;rw[Int.tmod_eq_emod_of_nonneg (by omega),show(n0:Int) % 11=((n0 % 11:Nat):Int) by omega,hn])
    |(rw[if_neg hz0] at hn;rw[jG hz0];(conv=>whnf);rw[hn])
    conv=>whnf
   all_goals
    refine jT 0 [] hs1 ?_;rintro o r ⟨ho,rfl⟩;cases ho;conv=>whnf
    refine jT 0 [] hp2 ?_;rintro o r ⟨ho,rfl⟩;cases ho;conv=>whnf
    refine jT 0 [] hs2 ?_;rintro o r ⟨ho,rfl⟩;cases ho;conv=>whnf
    refine jT 0 [] hs3 ?_;rintro o r ⟨ho,rfl⟩;cases ho;conv=>whnf
    exact⟨rfl,_,rfl,by rw[yY];exact qQ _⟩
 by_cases hC:n<=6
 ·have hp2:=vK l (i+1) 3 (by omega) (by decide);have hlt2:=vO l (i+1) (m:=3) (by decide);generalize pk l (i+1) 3=k8 at *;rcases(by omega:n=5∨n=6) with rfl|rfl
  ·refine⟨.mk 5 k8 eB [],i+2,.tim _ _ hlt2,by omega,by omega,fun κ ka kb=>by have p0:=p0 κ;have p1:=p1 κ;have pe2:=pe2 κ;have p2:=p2 κ;rw[jt2];omega,?_⟩;refine gw ?_;refine eN fX (fun _=>[0]) 1 Tryz.func48 rfl ?_;intro hok;conv=>whnf
   refine jT 0 [] hp ?_;rintro o r ⟨ho,rfl⟩;cases ho;conv=>whnf
   by_cases hz0:z<=0
   all_goals
    first
    |(rw[if_pos hz0] at hn;rw[jJ hz0];(conv=>whnf);refine⟨by decide,?_⟩;rw[Int.tmod_eq_emod_of_nonneg (by omega),show(n0:Int) % 11=((n0 % 11:Nat):Int) by omega,hn])
    |(rw[if_neg hz0] at hn;rw[jG hz0];(conv=>whnf);rw[hn])
    conv=>whnf
   all_goals
    refine jT 0 [] hp2 ?_;rintro o r ⟨ho,rfl⟩;cases ho;conv=>whnf
    exact⟨rfl,_,rfl,qC (f:=.mk 5 k8 eB []) rfl⟩
  ·refine⟨.mk 6 k8 eB [],i+2,.can _ _ hlt2,by omega,by omega,fun κ ka kb=>by have p0:=p0 κ;have p1:=p1 κ;have pe2:=pe2 κ;have p2:=p2 κ;rw[jsV];omega,?_⟩;refine gw ?_;refine eN fX (fun _=>[0]) 1 Tryz.func48 rfl ?_;intro hok;conv=>whnf
   refine jT 0 [] hp ?_;rintro o r ⟨ho,rfl⟩;cases ho;conv=>whnf
   by_cases hz0:z<=0
   all_goals
    first
    |(rw[if_pos hz0] at hn;rw[jJ hz0];(conv=>whnf);refine⟨by decide,?_⟩;rw[Int.tmod_eq_emod_of_nonneg (by omega),show(n0:Int) % 11=((n0 % 11:Nat):Int) by omega,hn])
    |(rw[if_neg hz0] at hn;rw[jG hz0];(conv=>whnf);rw[hn])
    conv=>whnf
   all_goals
    refine jT 0 [] hp2 ?_;rintro o r ⟨ho,rfl⟩;cases ho;conv=>whnf
    exact⟨rfl,_,rfl,qC (f:=.mk 6 k8 eB []) rfl⟩
 by_cases hD:n=7
 ·subst hD;refine⟨.mk 7 0 eB [],i+1,.syn _,by omega,by omega,fun κ ka kb=>by have p0:=p0 κ;have p1:=p1 κ;have pe2:=pe2 κ;have p2:=p2 κ;rw[jt1];omega,?_⟩;refine gw ?_;refine eN fX (fun _=>[0]) 1 Tryz.func48 rfl ?_;intro hok;conv=>whnf
  refine jT 0 [] hp ?_;rintro o r ⟨ho,rfl⟩;cases ho;conv=>whnf
  by_cases hz0:z<=0
  all_goals
   first
   |(rw[if_pos hz0] at hn;rw[jJ hz0];(conv=>whnf);refine⟨by decide,?_⟩;rw[Int.tmod_eq_emod_of_nonneg (by omega),show(n0:Int) % 11=((n0 % 11:Nat):Int) by omega,hn])
   |(rw[if_neg hz0] at hn;rw[jG hz0];(conv=>whnf);rw[hn])
   conv=>whnf
  all_goals
   exact⟨rfl,_,rfl,qC (f:=.mk 7 0 eB []) rfl⟩
 by_cases hE:n=8
 ·subst hE;obtain⟨f,i2,hf,g1,g2,w1,hs1⟩:=iS l 0 hl (i+1) 0 (by omega) (by omega) (by omega) (by omega)
  have w1:=fun κ ka kb=>fE (by omega) (w1 κ ka kb)
  obtain⟨g,i3,hg,g3,g4,w2,hs2⟩:=iS l 1 hl i2 1 (by omega) (by omega) (by omega) (by omega)
  have w2:=fun κ ka kb=>fE (by omega) (w2 κ ka kb)
  refine⟨.mk 8 0 eB [f,g],i3,.rep _ _ _ hf hg,by omega,by omega,fun κ ka kb=>by have p0:=p0 κ;have p1:=p1 κ;have pe2:=pe2 κ;have p2:=p2 κ;have w1:=w1 κ ka kb;have w2:=w2 κ ka kb;rw[jsY];omega,?_⟩;refine gw ?_;refine eN fX (fun _=>[0]) 1 Tryz.func48 rfl ?_;intro hok;conv=>whnf
  refine jT 0 [] hp ?_;rintro o r ⟨ho,rfl⟩;cases ho;conv=>whnf
  by_cases hz0:z<=0
  all_goals
   first
   |(rw[if_pos hz0] at hn;rw[jJ hz0];(conv=>whnf);refine⟨by decide,?_⟩;rw[Int.tmod_eq_emod_of_nonneg (by omega),show(n0:Int) % 11=((n0 % 11:Nat):Int) by omega,hn])
   |(rw[if_neg hz0] at hn;rw[jG hz0];(conv=>whnf);rw[hn])
   conv=>whnf
  all_goals
   refine jT 0 [] hs1 ?_;rintro o r ⟨ho,rfl⟩;cases ho;conv=>whnf
   refine jT 0 [] hs2 ?_;rintro o r ⟨ho,rfl⟩;cases ho;conv=>whnf
   exact⟨rfl,_,rfl,by rw[yZ];exact qQ _⟩
 by_cases hF:n=9
 ·subst hF;obtain⟨f,i2,hf,g1,g2,w1,hs1⟩:=iS l 1 hl (i+1) 1 (by omega) (by omega) (by omega) (by omega)
  have w1:=fun κ ka kb=>fE (by omega) (w1 κ ka kb)
  refine⟨.mk 9 0 eB [f],i2,.fai _ _ hf,by omega,by omega,fun κ ka kb=>by have p0:=p0 κ;have p1:=p1 κ;have pe2:=pe2 κ;have p2:=p2 κ;have w1:=w1 κ ka kb;rw[jsW];omega,?_⟩;refine gw ?_;refine eN fX (fun _=>[0]) 1 Tryz.func48 rfl ?_;intro hok;conv=>whnf
  refine jT 0 [] hp ?_;rintro o r ⟨ho,rfl⟩;cases ho;conv=>whnf
  by_cases hz0:z<=0
  all_goals
   first
   |(rw[if_pos hz0] at hn;rw[jJ hz0];(conv=>whnf);refine⟨by decide,?_⟩;rw[Int.tmod_eq_emod_of_nonneg (by omega),show(n0:Int) % 11=((n0 % 11:Nat):Int) by omega,hn])
   |(rw[if_neg hz0] at hn;rw[jG hz0];(conv=>whnf);rw[hn])
   conv=>whnf
  all_goals
   refine jT 0 [] hs1 ?_;rintro o r ⟨ho,rfl⟩;cases ho;conv=>whnf
   exact⟨rfl,_,rfl,by rw[wH];exact qQ _⟩
 by_cases hG:n=10
 ·subst hG;have hp2:=vK l (i+1) 3 (by omega) (by decide);have hlt2:=vO l (i+1) (m:=3) (by decide);generalize pk l (i+1) 3=k8 at *;by_cases hk:0<k8
  ·obtain⟨s,hs1,⟨hz3,_⟩,hp3⟩:=jrR l (i+1+1) (by omega);obtain⟨f,i2,hf,g1,g2,w1,hs⟩:=iS l 1 hl (i+1+1+1) 1 (by omega) (by omega) (by omega) (by omega)
   have w1:=fun κ ka kb=>fE (by omega) (w1 κ ka kb)
   refine⟨.mk 1 0 s [f],i2,.asg _ _ _ _ hs1 hf (by decide),by omega,by omega,fun κ ka kb=>by have p0:=p0 κ;have p1:=p1 κ;have pe2:=pe2 κ;have p2:=p2 κ;have w1:=w1 κ ka kb;rw[joF];omega,?_⟩;refine gw ?_;refine eN fX (fun _=>[0]) 1 Tryz.func48 rfl ?_;intro hok;conv=>whnf
   refine jT 0 [] hp ?_;rintro o r ⟨ho,rfl⟩;cases ho;conv=>whnf
   by_cases hz0:z<=0
   all_goals
    first
    |(rw[if_pos hz0] at hn;rw[jJ hz0];(conv=>whnf);refine⟨by decide,?_⟩;rw[Int.tmod_eq_emod_of_nonneg (by omega),show(n0:Int) % 11=((n0 % 11:Nat):Int) by omega,hn])
    |(rw[if_neg hz0] at hn;rw[jG hz0];(conv=>whnf);rw[hn])
    conv=>whnf
   all_goals
    refine jT 0 [] hp2 ?_;rintro o r ⟨ho,rfl⟩;cases ho;conv=>whnf
    rw[jJ (show 0<(k8:Int) by omega)];conv=>whnf
    refine jT 0 [] hp3 ?_;rintro o r ⟨ho,rfl⟩;cases ho;conv=>whnf
    refine jT 0 [] hs ?_;rintro o r ⟨ho,rfl⟩;cases ho;conv=>whnf
    exact⟨rfl,_,rfl,by rw[wH];exact qQ _⟩
  ·refine⟨.mk 10 0 eB [],i+2,.stp _,by omega,by omega,fun κ ka kb=>by have p0:=p0 κ;have p1:=p1 κ;have pe2:=pe2 κ;have p2:=p2 κ;rw[jt0];omega,?_⟩;refine gw ?_;refine eN fX (fun _=>[0]) 1 Tryz.func48 rfl ?_;intro hok;conv=>whnf
   refine jT 0 [] hp ?_;rintro o r ⟨ho,rfl⟩;cases ho;conv=>whnf
   by_cases hz0:z<=0
   all_goals
    first
    |(rw[if_pos hz0] at hn;rw[jJ hz0];(conv=>whnf);refine⟨by decide,?_⟩;rw[Int.tmod_eq_emod_of_nonneg (by omega),show(n0:Int) % 11=((n0 % 11:Nat):Int) by omega,hn])
    |(rw[if_neg hz0] at hn;rw[jG hz0];(conv=>whnf);rw[hn])
    conv=>whnf
   all_goals
    refine jT 0 [] hp2 ?_;rintro o r ⟨ho,rfl⟩;cases ho;conv=>whnf
    rw[jG (show ¬0<(k8:Int) by omega)];conv=>whnf
    exact⟨rfl,_,rfl,qC (f:=.mk 10 0 eB []) rfl⟩
 have hzp:0<z:=by
  by_cases h:0<z
  ·exact h
  ·have:=hn6 (by omega);omega
 obtain⟨e,rfl⟩:∃e,d=e+1:=⟨d-1,by omega⟩
 have ihe:=ih e rfl;unfold bS at hi;by_cases hH:n=11
 ·subst hH;obtain⟨f,i2,hf,g1,g2,w1,hs1⟩:=jie l 1 hl (i+1) 1 (by omega) (by omega) (by omega) (by omega)
  have w1:=fun κ ka kb=>fE (by omega) (w1 κ ka kb)
  have p3:=fun κ=>gK κ i2
  obtain⟨k,i3,q1,q2,g3,g4,⟨w2,w3⟩,hs2⟩:=ihe hl i2 2 (z-1) (by omega) (by omega) (by omega) (by omega) (by omega);refine⟨.mk 3 0 eB [f,wO k],i3,.whi _ _ _ hf q1 q2,by omega,by unfold bS;omega,fun κ ka kb=>by have p0:=p0 κ;have p1:=p1 κ;have pe2:=pe2 κ;have p2:=p2 κ;have w1:=w1 κ ka kb;have w2:=w2 κ ka kb;have p3:=p3 κ;have hm2:=jpq (4+4*κ) q1;rw[jt3,jfk];omega,?_⟩;refine gw ?_;refine eN fX (fun _=>[0]) 1 Tryz.func48 rfl ?_;intro hok;conv=>whnf
  refine jT 0 [] hp ?_;rintro o r ⟨ho,rfl⟩;cases ho;conv=>whnf
  by_cases hz0:z<=0
  all_goals
   first
   |(rw[if_pos hz0] at hn;rw[jJ hz0];(conv=>whnf);refine⟨by decide,?_⟩;rw[Int.tmod_eq_emod_of_nonneg (by omega),show(n0:Int) % 11=((n0 % 11:Nat):Int) by omega,hn])
   |(rw[if_neg hz0] at hn;rw[jG hz0];(conv=>whnf);rw[hn])
   conv=>whnf
  ·exact absurd hz0 (by omega)
  refine jT 0 [] hs1 ?_;rintro o r ⟨ho,rfl⟩;cases ho;conv=>whnf
  refine⟨jH (by omega),?_⟩;conv=>whnf
  refine jT 0 [] hs2 ?_;rintro o r ⟨ho,rfl⟩;cases ho;conv=>whnf
  exact⟨rfl,_,rfl,by rw[yZ];exact qQ _⟩
 obtain⟨f,i2,hf,g1,g2,w1,hs1⟩:=jie l 2 hl (i+1) 2 (by omega) (by omega) (by omega) (by omega)
 have w1:=fun κ ka kb=>fE (by omega) (w1 κ ka kb)
 have p3:=fun κ=>gK κ i2
 obtain⟨k,i3,q1,q2,g3,g4,⟨w2,w3⟩,hs2⟩:=ihe hl i2 2 (z-1) (by omega) (by omega) (by omega) (by omega) (by omega);have hp2:=vK l i3 2 (by omega) (by decide);have hlt2:=vO l i3 (m:=2) (by decide);generalize pk l i3 2=k8 at *;by_cases hk:k8=1
 ·have p4:=fun κ=>gK κ i3
  have p5:=fun κ=>gK κ (i3+1)
  obtain⟨m,i4,q3,q4,g5,g6,⟨w4,w5⟩,hs3⟩:=ihe hl (i3+1) 2 (z-1) (by omega) (by omega) (by omega) (by omega) (by omega);refine⟨.mk 2 0 eB [f,wO k,wO m],i4,.iff _ _ _ _ hf q1 q2 q3 q4,by omega,by unfold bS;omega,fun κ ka kb=>by have p0:=p0 κ;have p1:=p1 κ;have pe2:=pe2 κ;have p2:=p2 κ;have p3:=p3 κ;have p4:=p4 κ;have p5:=p5 κ;have w1:=w1 κ ka kb;have w2:=w2 κ ka kb;have w4:=w4 κ ka kb;have hif:=joG κ f k m;have hm2:=jpq (4+4*κ) q1;have hm3:=jpq (4+4*κ) q3;omega,?_⟩;rcases(by omega:n=12∨n=13) with rfl|rfl
  all_goals
   refine gw ?_;refine eN fX (fun _=>[0]) 1 Tryz.func48 rfl ?_;intro hok;conv=>whnf
   refine jT 0 [] hp ?_;rintro o r ⟨ho,rfl⟩;cases ho;conv=>whnf
   by_cases hz0:z<=0
   all_goals
    first
    |(rw[if_pos hz0] at hn;rw[jJ hz0];(conv=>whnf);refine⟨by decide,?_⟩;rw[Int.tmod_eq_emod_of_nonneg (by omega),show(n0:Int) % 11=((n0 % 11:Nat):Int) by omega,hn])
    |(rw[if_neg hz0] at hn;rw[jG hz0];(conv=>whnf);rw[hn])
    conv=>whnf
   ·exact absurd hz0 (by omega)
   refine jT 0 [] hs1 ?_;rintro o r ⟨ho,rfl⟩;cases ho;conv=>whnf
   refine⟨jH (by omega),?_⟩;conv=>whnf
   refine jT 0 [] hs2 ?_;rintro o r ⟨ho,rfl⟩;cases ho;conv=>whnf
   refine jT 0 [] hp2 ?_;rintro o r ⟨ho,rfl⟩;cases ho;conv=>whnf
   rw[jJ (show(k8:Int)=1 by omega)];conv=>whnf
   refine⟨jH (by omega),?_⟩;conv=>whnf
   refine jT 0 [] hs3 ?_;rintro o r ⟨ho,rfl⟩;cases ho;conv=>whnf
   exact⟨rfl,_,rfl,by rw[yY];exact qQ _⟩
 ·have p4:=fun κ=>gK κ i3
  refine⟨.mk 2 0 eB [f,wO k,wO []],i3+1,.iff _ _ _ _ hf q1 q2 (by decide) (by simp),by omega,by unfold bS;omega,fun κ ka kb=>by have p0:=p0 κ;have p1:=p1 κ;have pe2:=pe2 κ;have p2:=p2 κ;have p3:=p3 κ;have p4:=p4 κ;have w1:=w1 κ ka kb;have w2:=w2 κ ka kb;have hif:=(joG κ f k []).2 rfl;have hm2:=jpq (4+4*κ) q1;omega,?_⟩;rcases(by omega:n=12∨n=13) with rfl|rfl
  all_goals
   refine gw ?_;refine eN fX (fun _=>[0]) 1 Tryz.func48 rfl ?_;intro hok;conv=>whnf
   refine jT 0 [] hp ?_;rintro o r ⟨ho,rfl⟩;cases ho;conv=>whnf
   by_cases hz0:z<=0
   all_goals
    first
    |(rw[if_pos hz0] at hn;rw[jJ hz0];(conv=>whnf);refine⟨by decide,?_⟩;rw[Int.tmod_eq_emod_of_nonneg (by omega),show(n0:Int) % 11=((n0 % 11:Nat):Int) by omega,hn])
    |(rw[if_neg hz0] at hn;rw[jG hz0];(conv=>whnf);rw[hn])
    conv=>whnf
   ·exact absurd hz0 (by omega)
   refine jT 0 [] hs1 ?_;rintro o r ⟨ho,rfl⟩;cases ho;conv=>whnf
   refine⟨jH (by omega),?_⟩;conv=>whnf
   refine jT 0 [] hs2 ?_;rintro o r ⟨ho,rfl⟩;cases ho;conv=>whnf
   refine jT 0 [] hp2 ?_;rintro o r ⟨ho,rfl⟩;cases ho;conv=>whnf
   rw[jG (show ¬(k8:Int)=1 by omega)];conv=>whnf
   exact⟨rfl,_,rfl,by rw[yY];exact joM f (wO k)⟩
inductive Chn(l:List Int)(z:Int):Nat->List Nt->Nat->Prop
 |nil (i:Nat):Chn l z i [] i
 |cons (i i1 i2:Nat) (f:Nt) (ss:List Nt) (h:Spec Tryz.prog 48 [bxG l i] [.box 0 0,.v (.int .i64 z)] fun o r=>o=[bxG l i1]/\r=.agg (ntA f)) (k:Chn l z i1 ss i2):Chn l z i (f::ss) i2
theorem jmc{l:List Int}{d:Nat}(hS:jlE l d)(hl:l.length<=70){z:Int}(hz:z.toNat=d)(h1:0<=z)(h2:z<=5):∀(k i:Nat),i+k*bS d<=1000000000->∃ss i',ss.length=k/\(∀s∈ss,ES d s)/\i<=i'/\i'<=i+k*bS d/\(∀κ,1<=κ->κ<=7->wSs κ ss+sI κ i<=(4+4*κ)*k+sI κ i')/\Chn l z i ss i'
 |0,i,_=>⟨[],i,rfl,by simp,Nat.le_refl _,by omega,fun κ ka kb=>by show 0+sI κ i<=_;omega,.nil i⟩
 |k+1,i,hb=>by
  rw[Nat.succ_mul] at hb;obtain⟨f,i1,hf,g1,g2,w1,hs⟩:=hS hl i z hz h1 h2 (by omega);obtain⟨ss,i2,e1,e2,g3,g4,w2,hc⟩:=jmc hS hl hz h1 h2 k i1 (by omega);refine⟨f::ss,i2,by rw[List.length_cons,e1],fun s hs=>?_,by omega,by rw[Nat.succ_mul];omega,fun κ ka kb=>by have w1:=w1 κ ka kb;have w2:=w2 κ ka kb;rw[wSs,Nat.mul_succ];omega,.cons _ _ _ _ _ hs hc⟩;rcases List.mem_cons.1 hs with rfl|hs
  ·exact hf
  ·exact e2 s hs
theorem jtw(l:List Int)(d:Nat)(hS:jlE l d):jr5 l d:=fun hl i m z hz h1 h2 hm hi=>by
 have hp:=vK l i (m+1) (by omega) (by omega);have hlt:=vO l i (m:=m+1) (by omega);have ho:=pG l i (m+1) hl;generalize pk l i (m+1)=k at *;have hkm:k*bS d<=m*bS d:=Nat.mul_le_mul_right _ (by omega);obtain⟨ss,i2,e1,e2,g3,g4,w2,hc⟩:=jmc hS hl hz h1 h2 k (i+1) (by omega);refine⟨ss,i2,by omega,e2,by omega,by omega,⟨fun κ ka kb=>by rw[e1];exact w2 κ ka kb,by omega⟩,?_⟩;refine eN ju0 (fun _=>[0]) 1 Tryz.func24 rfl ?_;intro hok;conv=>whnf
 refine⟨jH (by omega),?_⟩;conv=>whnf
 refine jT 0 [] hp ?_;rintro o r ⟨ho,rfl⟩;cases ho;conv=>whnf
 refine qU 45 4 [] [(2,3)] ?_;conv=>whnf
 refine⟨trivial,?_⟩;conv=>whnf
 refine jC [0,1,6,7] ?_;conv=>whnf
 refine jI (fun x:List Nt×List Nt×Nat=>[(8,.v (.int .i64 x.2.1.length))]) (fun x=>[bxG l x.2.2,jc7,[intA 11,intA 0,jX ⟨#[]⟩,.own 0]]) (fun x=>[.live 45 4 x.1.length (qW x.1)]) (fun x=>x.1++x.2.1=ss/\Chn l z x.2.2 x.2.1 i2) (fun x=>x.2.1.length) ([],ss,i+1) ?_ ⟨rfl,hc⟩ ?_
 ·rw[<- e1];repeat' constructor
  show Row.live _ _ _ _=Row.live _ 4 0 (qW []);rw[kY]
 rintro⟨acc,rem,j⟩ ⟨hacc,hch⟩
 simp only at hacc hch
 conv=>whnf
 cases hch with
 |nil =>
  rw[List.append_nil] at hacc;conv=>whnf
  rw[<- hacc];exact⟨rfl,rfl⟩
 |cons _ i1 _ f rem hs hch =>
  have hln:acc.length+(rem.length+1)=ss.length:=by rw[<- hacc,List.length_append,List.length_cons]
  rw[show((f::rem).length:Int)=(rem.length:Int)+1 by simp];rw[jJ (show 0<(rem.length:Int)+1 by omega)];conv=>whnf
  refine jT 0 [] hs ?_;rintro o r ⟨ho,rfl⟩;cases ho;conv=>whnf
  refine⟨⟨by simp only;unfold maxLen;omega,by simp only;omega⟩,?_⟩;conv=>whnf
  refine⟨jH (by omega),?_⟩;rw[show(rem.length:Int)+1-1=rem.length by omega];conv=>whnf
  refine⟨(acc++[f],rem,i1),jF [0] ?_,⟨by simp only;rw[List.append_assoc];exact hacc,hch⟩,by simp only[List.length_cons];omega⟩;conv=>whnf
  simp only[List.length_append,List.length_cons,List.length_nil];rw[mG];repeat' constructor
theorem jui(l:List Int)(most:Nat)(hm:most<=1000):Spec Tryz.prog 22 [] [.sl 1 l.length (jV l),.v (.int .i64 most)] fun _ r=>r=.sl 1 (l.take most).length (jV (l.take most)):=by
 refine eN jR qB 0 Tryz.func22 rfl ?_;intro hok
 have e1:(min (l.length:Int) (most:Int)).toNat-Int.toNat 0=(l.take most).length:=by rw[List.length_take];omega
 have e2:List.take ((l.take most).length*1) (List.drop (Int.toNat 0*1) (jV l))=jV (l.take most):=by
  rw[Nat.mul_one,List.length_take];simp only[jV,Int.toNat_zero,Nat.zero_mul,List.drop_zero];rw[<- List.map_take]
  congr 1
  rcases Nat.le_total most l.length with h|h
  ·rw[Nat.min_eq_left h]
  ·rw[Nat.min_eq_right h,List.take_of_length_le h,List.take_of_length_le (Nat.le_refl _)]
 have e3:(l.take most).length<=most:=by rw[List.length_take];omega
 conv=>whnf
 (refine iA ?_;try with_reducible exact trivial)
 rw[e1,e2];generalize l.take most=L at *;refine⟨⟨by unfold maxLen;omega,by omega⟩,?_⟩;conv=>whnf
 rfl
theorem jtv(l:List Int):∀d,jlE l d/\jr5 l d
 |0=>⟨jrQ l 0 fun e h=>by omega,jtw l 0 (jrQ l 0 fun e h=>by omega)⟩
 |d+1=>by
  have h1:jlE l (d+1):=jrQ l (d+1) fun e h=>by
   obtain rfl:d=e:=by omega
   exact(jtv l d).2
  exact⟨h1,jtw l (d+1) h1⟩
def hnG(l:List Int)(j i:Nat):Int:=match j with
 |0=>0
 |1=>1
 |2=>2+pk l (i+1) 8
 |_=>10+pk l (i+1+1) 30
inductive PCh(l:List Int):Nat->Nat->List (Int×Nt)->Prop
 |nil (i:Nat):PCh l 4 i []
 |skip (j i:Nat) (hs:List (Int×Nt)) (hj:j<4) (hi:i<=900000000) (hp:pk l i 5=0) (k:PCh l (j+1) (i+1) hs):PCh l j i hs
 |take (j i i2:Nat) (b:Nt) (hs:List (Int×Nt)) (hj:j<4) (hi:i<=900000000) (hp:0<pk l i 5) (h:Spec Tryz.prog 24 [bxG l (i+1+1+1)] [.box 0 0,.v (.int .i64 2),.v (.int .i64 3)] fun o r=>o=[bxG l i2]/\r=.agg (ntA b)) (k:PCh l (j+1) i2 hs):PCh l j i ((hnG l j i,b)::hs)
def EK(b:Nt):Prop:=∃k,b=wO k/\k.length<=3/\∀s∈k,ES 2 s
def loG:Nat->Int
 |0=>0
 |1=>1
 |2=>2
 |3=>10
 |_=>40
def EHs(j:Nat)(hs:List (Int×Nt)):Prop:=(∀h∈hs,loG j<=h.1/\h.1<40/\EK h.2)/\hs.Pairwise (fun a b=>a.1<b.1)/\hs.length+j<=4
theorem juM(c:Nat){n:Nat}(h:n<=3):(n=0/\c*n=0)∨(n≠0/\c*n<=3*c):=by
 rcases(by omega:n=0∨n=1∨n=2∨n=3) with rfl|rfl|rfl|rfl <;> omega
theorem jiF(l:List Int)(hl:l.length<=70):∀(k j i:Nat),j+k=4->i+k*5000<=800000000->∃hs,EHs j hs/\(∀κ,1<=κ->κ<=7->wHs κ hs+sI κ i<=(4*κ+12)*70+6*κ+18)/\PCh l j i hs
 |0,j,i,hj,hb=>by
  obtain rfl:j=4:=by omega
  exact⟨[],⟨by simp,.nil,by decide⟩,fun κ ka kb=>by have:=(jeV κ i).1;show 0+sI κ i<=_;omega,.nil i⟩
 |k+1,j,i,hj,hb=>by
  rw[Nat.succ_mul] at hb
  have hjs:j=0∨j=1∨j=2∨j=3:=by omega
  have hlo:loG j<=loG (j+1):=by rcases hjs with rfl|rfl|rfl|rfl <;> decide
  by_cases hp:pk l i 5=0
  ·obtain⟨hs,⟨e1,e2,e3⟩,w1,hc⟩:=jiF l hl k (j+1) (i+1) (by omega) (by omega);exact⟨hs,⟨fun h hh=>⟨by have:=(e1 h hh).1;omega,(e1 h hh).2⟩,e2,by omega⟩,fun κ ka kb=>by have:=(gK κ i).1;have w1:=w1 κ ka kb;omega,.skip _ _ _ (by omega) (by omega) hp hc⟩
  ·have hS:bS 2=1270:=rfl;have ho:=pG l i 5 hl;obtain⟨b,i2,q1,q2,g1,g2,⟨w2,w3⟩,hs⟩:=(jtv l 2).2 hl (i+1+1+1) 3 2 rfl (by decide) (by decide) (by decide) (by omega);obtain⟨hs2,⟨e1,e2,e3⟩,w1,hc⟩:=jiF l hl k (j+1) i2 (by omega) (by omega)
   have hn:loG j<=hnG l j i/\hnG l j i<loG (j+1):=by
    have p8:=vO l (i+1) (m:=8) (by decide);have p30:=vO l (i+1+1) (m:=30) (by decide)
    rcases hjs with rfl|rfl|rfl|rfl <;> simp only[loG,hnG] <;> omega
   have hl4:loG (j+1)<=40:=by rcases hjs with rfl|rfl|rfl|rfl <;> decide
   refine⟨_,⟨fun h hh=>?_,List.pairwise_cons.2 ⟨fun b hb=>?_,e2⟩,by rw[List.length_cons];omega⟩,fun κ ka kb=>by have p0:=gK κ i;have p1:=gK κ (i+1);have p2:=gK κ (i+1+1);have p3:=gK κ (i+1+1+1);have p4:=jeV κ i;have p5:=jeV κ (i+1+1+1+1);have w1:=w1 κ ka kb;have w2:=w2 κ ka kb;have hm:=juM (4+4*κ) q1;rw[wHs,jfk];omega,.take j i i2 (wO b) hs2 (by omega) (by omega) (by omega) hs hc⟩
   ·rcases List.mem_cons.1 hh with rfl|hh
    ·exact⟨hn.1,by simp only;omega,b,rfl,q1,q2⟩
    ·exact⟨by have:=(e1 h hh).1;omega,(e1 h hh).2⟩
   ·have:=(e1 b hb).1
    simp only;omega
def duL:List ByteArray:=[⟨#[100]⟩,⟨#[100,100,49]⟩]
def voL:List ByteArray:=[⟨#[118]⟩,⟨#[119,50]⟩]
def GU(u:Ut):Prop:=u.du=duL/\u.vo=voL/\EHs 0 u.on
def GW(u:Ut):Prop:=GU u/\∀κ,1<=κ->κ<=7->wHs κ u.on<=(4*κ+12)*70+6*κ+18
theorem jrP(l:List Int):∃u,GW u/\Spec Tryz.prog 6 [] [.sl 1 l.length (jV l)] fun _ r=>r=.agg (iE u):=by
 have hin:=jui l 70 (by decide);obtain⟨hs,hE,hW,hc⟩:=jiF (l.take 70) (by rw[List.length_take];omega) 4 0 0 rfl (by decide);refine⟨⟨duL,voL,hs⟩,⟨⟨rfl,rfl,hE⟩,fun κ ka kb=>by have:=hW κ ka kb;show wHs κ hs<=_;omega⟩,?_⟩;clear hW;have hlen:=hE.2.2;generalize l.take 70=L at *;refine eN juS (fun _=>[1]) 0 Tryz.func6 rfl ?_;intro hok;conv=>whnf
 refine kL [] hin ?_;rintro r rfl;conv=>whnf
 refine qU 47 5 [] [(2,2)] ?_;conv=>whnf
 refine⟨trivial,?_⟩;conv=>whnf
 refine jC [2,3,4] ?_;conv=>whnf
 refine jI (fun x:Nat×Nat×List (Int×Nt)×List (Int×Nt)=>[(5,.v (.int .i64 x.1))]) (fun x=>[cK,bxG L x.2.1,[.own 0,.own 1,.own 2]]) (fun x=>[.live 9 1 2 (gB duL),.live 9 1 2 (gB voL),.live 47 5 x.2.2.1.length (kH x.2.2.1)]) (fun x=>x.2.2.1++x.2.2.2=hs/\PCh L x.1 x.2.1 x.2.2.2) (fun x=>4-x.1) (0,0,[],hs) ?_ ⟨rfl,hc⟩ ?_
 ·repeat' constructor
  show Row.live _ _ _ _=Row.live _ 5 0 (kH []);rw[nI]
 rintro⟨j,i,acc,rem⟩ ⟨hacc,hch⟩
 simp only at hacc hch
 have hal:acc.length<=4:=by
  have:=congrArg List.length hacc;rw[List.length_append] at this;omega
 clear hin hc;conv=>whnf
 cases hch with
 |nil =>
  conv=>whnf
  rw[List.append_nil] at hacc;rw[<- hacc];rfl
 |skip _ _ _ hj hi hp hch =>
  have hpk:=vK L i 5 (by omega) (by decide);rw[hp] at hpk;rw[jJ (show(j:Int)<4 by omega)];conv=>whnf
  refine jT 1 [] hpk ?_;rintro o r ⟨ho,rfl⟩;cases ho;conv=>whnf
  refine⟨jH (by omega),?_⟩;conv=>whnf
  refine⟨(j+1,i+1,acc,rem),jF [0,1,2] ?_,⟨hacc,hch⟩,by simp only;omega⟩;conv=>whnf
  repeat' constructor
 |take _ _ i2 b rem hj hi hp hs hch =>
  have hpk:=vK L i 5 (by omega) (by decide);have hp8:=vK L (i+1) 8 (by omega) (by decide);have hp30:=vK L (i+1+1) 30 (by omega) (by decide);have l8:=vO L (i+1) (m:=8) (by decide);have l30:=vO L (i+1+1) (m:=30) (by decide)
  obtain⟨nn,hnn⟩:∃nn,hnG L j i=nn:=⟨_,rfl⟩
  rw[hnn] at hacc;unfold hnG at hnn;generalize pk L i 5=k5 at *;generalize pk L (i+1) 8=k8 at *;generalize pk L (i+1+1) 30=k30 at *;rw[jJ (show(j:Int)<4 by omega)];conv=>whnf
  refine jT 1 [] hpk ?_;rintro o r ⟨ho,rfl⟩;cases ho;conv=>whnf
  rw[jJ (show 0<(k5:Int) by omega)];conv=>whnf
  refine jT 1 [] hp8 ?_;rintro o r ⟨ho,rfl⟩;cases ho;conv=>whnf
  refine⟨jH (by omega),?_⟩;conv=>whnf
  refine jT 1 [] hp30 ?_;rintro o r ⟨ho,rfl⟩;cases ho;conv=>whnf
  refine⟨jH (by omega),?_⟩;conv=>whnf
  refine⟨⟨by omega,by omega⟩,?_⟩;rcases(by omega:j=0∨j=1∨j=2∨j=3) with rfl|rfl|rfl|rfl
  all_goals
   simp only at hnn
   conv=>whnf
   refine jT 1 [] hs ?_;rintro o r ⟨ho,rfl⟩;cases ho;conv=>whnf
   refine⟨⟨by simp only;unfold maxLen;omega,by simp only;omega⟩,?_⟩;conv=>whnf
   refine⟨jH (by simp only;omega),?_⟩;conv=>whnf
   subst hnn;refine⟨(_,i2,acc++[(_,b)],rem),jF [0,1,2] ?_,⟨by simp only;rw[List.append_assoc];exact hacc,hch⟩,by simp only;omega⟩;conv=>whnf
   repeat' constructor
   rw[List.length_append,dG];rfl
theorem jjZ{l:List ByteArray}{s:ByteArray}(h:s∈l):(l.any fun x=>decide (s=x))=true:=List.any_eq_true.2 ⟨s,h,jJ rfl⟩
theorem jiB{s:ByteArray}(h:s∈opL∨s∈bolL∨s∈cmpL):(opAll.any fun x=>decide (s=x))=true:=by
 apply jjZ;unfold opAll;rcases h with h|h|h
 ·unfold opL at h;simp only[List.mem_cons,List.not_mem_nil,or_false] at h ⊢
  rcases h with h|h|h|h <;> simp[h]
 ·unfold bolL at h;simp only[List.mem_cons,List.not_mem_nil,or_false] at h ⊢
  rcases h with h|h <;> simp[h]
 ·unfold cmpL at h;simp only[List.mem_cons,List.not_mem_nil,or_false] at h ⊢
  rcases h with h|h|h|h|h|h <;> simp[h]
theorem sz1(k n:Int)(s:ByteArray)(f:Nt):j6 (.mk k n s [f])=3+j6 f:=rfl
theorem sz2(k n:Int)(s:ByteArray)(f g:Nt):j6 (.mk k n s [f,g])=3+(j6 f+j6 g):=rfl
theorem sz3(k n:Int)(s:ByteArray)(f g h:Nt):j6 (.mk k n s [f,g,h])=3+(j6 f+(j6 g+j6 h)):=rfl
theorem sz0(k n:Int)(s:ByteArray):j6 (.mk k n s [])=3:=rfl
theorem jgL(d:Nat):2 ^ (d+1)=2*2 ^ d:=by rw[Nat.pow_succ,Nat.mul_comm]
theorem sF{d:Nat}{f:Nt}(h:EI d f):Wc true f/\j6 f+3<=12*2 ^ d:=by
 have hp:=fun d:Nat=>Nat.one_le_two_pow (n:=d)
 induction h with
 |lit d n h=>exact⟨⟨wx0 rfl,rfl⟩,by rw[sz0];have:=hp d;omega⟩
 |var d s h=>exact⟨⟨wx0 rfl,rfl⟩,by rw[sz0];have:=hp d;omega⟩
 |nam d s h =>
  refine⟨⟨wx0 ?_,rfl⟩,by rw[sz0];have:=hp d;omega⟩;show(decide (0=0)&&_)=true;rw[jjZ h];rfl
 |drw d f h ih=>exact⟨⟨wx1 rfl (by decide) ih.1,rfl⟩,by rw[sz1,jgL];have:=hp d;omega⟩
 |neg d f h ih=>exact⟨⟨wx1 (jlU (.inl rfl)) (by decide) ih.1,rfl⟩,by rw[sz1,jgL];have:=hp d;omega⟩
 |bin d s f g hs h1 h2 i1 i2=>exact⟨⟨wx2 (jal (jiB (.inl hs))) (by decide) i1.1 i2.1,rfl⟩,by rw[sz2,jgL];have:=hp d;omega⟩
theorem jr0{d:Nat}{f:Nt}(h:EB d f):Wc true f/\j6 f+3<=24*2 ^ d:=by
 have hp:=fun d:Nat=>Nat.one_le_two_pow (n:=d)
 induction h with
 |lit d n h=>exact⟨⟨wx0 rfl,rfl⟩,by rw[sz0];have:=hp d;omega⟩
 |nt d f h ih=>exact⟨⟨wx1 (jlU (.inr rfl)) (by decide) ih.1,rfl⟩,by rw[sz1,jgL];have:=hp d;omega⟩
 |bin d s f g hs h1 h2 i1 i2=>exact⟨⟨wx2 (jal (jiB (.inr (.inl hs)))) (by decide) i1.1 i2.1,rfl⟩,by rw[sz2,jgL];have:=hp d;omega⟩
 |cmp d s f g hs h1 h2 =>
  obtain⟨w1,s1⟩:=sF h1;obtain⟨w2,s2⟩:=sF h2;have hle:2 ^ (d-1)<=2 ^ d:=Nat.pow_le_pow_right (by decide) (by omega);exact⟨⟨wx2 (jal (jiB (.inr (.inr hs)))) (by decide) w1 w2,rfl⟩,by rw[sz2];omega⟩
theorem jkt(B:Nat):∀l:List Nt,(∀f∈l,j6 f<=B)->qF l<=l.length*B
 |[],_=>Nat.zero_le _
 |f::l,h=>by
  have h1:=h f List.mem_cons_self
  have h2:=jkt B l fun g hg=>h g (List.mem_cons_of_mem _ hg)
  show j6 f+qF l<=(l.length+1)*B;rw[Nat.succ_mul];omega
def sB:Nat->Nat
 |0=>54
 |d+1=>102+4*sB d
theorem uJ:∀d,54<=sB d
 |0=>Nat.le_refl _
 |d+1=>by unfold sB;omega
theorem jfm{l:List Nt}{m B:Nat}(hm:l.length<=m)(h3:m<=3000)(h:∀s∈l,Wc false s/\j6 s<=B):Wc false (wO l)/\j6 (wO l)<=3+m*B:=by
 refine⟨wbk (by omega) fun f hf=>(h f hf).1,?_⟩
 ·have h1:=jkt B l fun f hf=>(h f hf).2
  have h2:l.length*B<=m*B:=Nat.mul_le_mul_right _ hm;show 3+qF l<=_;omega
theorem juq{d:Nat}{f:Nt}(h:ES d f):Wc false f/\j6 f<=sB d:=by
 induction h with
 |asg d e s f hs h he =>
  obtain⟨w,z⟩:=sF h;have hle:2 ^ e<=2 ^ 2:=Nat.pow_le_pow_right (by decide) he;have:=uJ d;exact⟨⟨wx1 rfl (by decide) w,rfl⟩,by rw[sz1];omega⟩
 |snd d n f g h hn h1 h2 h3 =>
  obtain⟨w1,z1⟩:=sF h1;obtain⟨w2,z2⟩:=sF h2;obtain⟨w3,z3⟩:=sF h3;have:=uJ d;exact⟨⟨wx3 rfl (by decide) w1 w2 w3,rfl⟩,by rw[sz3];omega⟩
 |tim d n hn=>exact⟨⟨wx0 rfl,rfl⟩,by rw[sz0];have:=uJ d;omega⟩
 |can d n hn=>exact⟨⟨wx0 rfl,rfl⟩,by rw[sz0];have:=uJ d;omega⟩
 |syn d=>exact⟨⟨wx0 rfl,rfl⟩,by rw[sz0];have:=uJ d;omega⟩
 |rep d f g h1 h2 =>
  obtain⟨w1,z1⟩:=sF h1;obtain⟨w2,z2⟩:=sF h2;have:=uJ d;exact⟨⟨wx2 rfl (by decide) w1 w2,rfl⟩,by rw[sz2];omega⟩
 |fai d f h1 =>
  obtain⟨w1,z1⟩:=sF h1;have:=uJ d;exact⟨⟨wx1 rfl (by decide) w1,rfl⟩,by rw[sz1];omega⟩
 |stp d=>exact⟨⟨wx0 rfl,rfl⟩,by rw[sz0];have:=uJ d;omega⟩
 |whi d c l h1 h2 h3 ih =>
  obtain⟨w1,z1⟩:=jr0 h1;obtain⟨w2,z2⟩:=jfm h2 (by decide) ih;have e:sB (d+1)=102+4*sB d:=rfl;exact⟨wi2 w1 w2,by rw[sz2,e];omega⟩
 |iff d c l m h1 h2 h3 h4 h5 ih1 ih2 =>
  obtain⟨w1,z1⟩:=jr0 h1;obtain⟨w2,z2⟩:=jfm h2 (by decide) ih1;obtain⟨w3,z3⟩:=jfm h4 (by decide) ih2;have e:sB (d+1)=102+4*sB d:=rfl;exact⟨wi3 w1 w2 w3,by rw[sz3,e];omega⟩
theorem joi(B:Nat):∀l:List (Int×Nt),(∀h∈l,j6 h.2<=B)->sJ l<=l.length*(B+1)
 |[],_=>Nat.zero_le _
 |x::l,h=>by
  have h1:=h x List.mem_cons_self
  have h2:=joi B l fun g hg=>h g (List.mem_cons_of_mem _ hg)
  show j6 x.2+1+sJ l<=(l.length+1)*(B+1);rw[Nat.succ_mul];omega
theorem jty{u:Ut}(h:GU u):eD u/\sJ u.on<=900000/\∀x∈u.on,j6 x.2<=5000:=by
 obtain⟨h1,h2,h3,h4,h5⟩:=h
 have hb:∀x∈u.on,Wc false x.2/\j6 x.2<=5000:=fun x hx=>by
  obtain⟨_,_,k,hk,hl,hs⟩:=h3 x hx;rw[hk]
  have:=jfm (B:=sB 2) hl (by decide) fun s hs'=>juq (hs s hs')
  exact⟨this.1,by have:=this.2;have e:sB 2=1374:=rfl;omega⟩
 refine⟨⟨by rw[h1,h2];decide,fun x hx=>⟨(h3 x hx).1,(h3 x hx).2.1,(hb x hx).1.1⟩,fun x hx=>(hb x hx).1.2,h4.imp fun h=>by omega,by omega⟩,?_,fun x hx=>(hb x hx).2⟩
 have:=joi 5000 u.on fun x hx=>(hb x hx).2
 have h6:u.on.length*(5000+1)<=4*(5000+1):=Nat.mul_le_mul_right _ (by omega);omega
section
end
theorem jfd:Spec Tryz.prog 21 [] [] fun _ r=>∃l:List ByteArray,l.length=12/\(∀s∈l,s.size<=1000)/\r=.sl 1 12 (gB l):=by
 refine eN jR qB 0 Tryz.func21 rfl ?_;intro _;conv=>whnf
 refine⟨[_,_,_,_,_,_,_,_,_,_,_,_],rfl,?_,rfl⟩;intro s hs;simp only[List.mem_cons,List.not_mem_nil,or_false] at hs;rcases hs with h|h|h|h|h|h|h|h|h|h|h|h
 all_goals(rw[h];decide)
theorem jhb(n:Int):Spec Tryz.prog 5 [] [intA n] fun _ r=>∃s:ByteArray,s.size<=1000/\r=jX s:=by
 have hso:=jfd;have har:=kX n 12 (by decide);refine eN jR qB 0 Tryz.func5 rfl ?_;intro _;conv=>whnf
 refine kL [] hso ?_;rintro r ⟨l,hl,hs,rfl⟩;conv=>whnf
 refine kL [] har ?_;rintro r ⟨hi,rfl⟩;have hr:=b9 (m:=12) hi (by decide);clear hi har;generalize qV n 12=j at *
 have hj:j.toNat<l.length:=by omega
 have hrow:=r7 l j.toNat hj;conv=>whnf
 refine⟨hr,?_⟩;conv=>whnf
 (generalize hrq:jD _ _ (gB l)=rq;obtain rfl:rq=[jX l[j.toNat]]:=hrq.symm.trans (hrow);clear hrq;conv=>whnf)
 exact⟨_,hs _ (List.getElem_mem hj),rfl⟩
theorem jqk:Wk (.agg cK) (.agg (iE ⟨[],[],[]⟩)):=by
 unfold cK iE;rw[nI];exact .agg (.cons (.nil 1) (.cons (.nil 1) (.cons (.nil 5) .nil)))
theorem jt4:eD ⟨[],[],[]⟩:=⟨by decide,by simp,by simp,.nil,by decide⟩
theorem jgt:∀{l:List Nt},(∀f∈l,kS f)->dK l
 |[],_=>by unfold dK;trivial
 |f::l,h=>by
  unfold dK;exact⟨h f List.mem_cons_self,jgt fun g hg=>h g (List.mem_cons_of_mem _ hg)⟩
theorem j5{k n:Int}{s:ByteArray}{kids:List Nt}(h:∀f∈kids,kS f)(h1:k=12∨k=13->Sm n:=by intro h;exact absurd h (by decide))(h2:k=7∨k=8∨k=9->n=0:=by intro h;first|rfl|exact absurd h (by decide)):kS (.mk k n s kids):=by
 unfold kS;exact⟨h1,jgt h,h2⟩
theorem fB{p:Nt->Prop}:∀f∈([]:List Nt),p f:=fun _ h=>by cases h
theorem jeI{p:Nt->Prop}{a:Nt}(ha:p a):∀f∈[a],p f:=fun f h=>by rw[List.mem_singleton.1 h];exact ha
theorem jeJ{p:Nt->Prop}{a b:Nt}(ha:p a)(hb:p b):∀f∈[a,b],p f:=fun f h=>by
 simp only[List.mem_cons,List.not_mem_nil,or_false] at h
 rcases h with rfl|rfl <;> assumption
theorem jnd{p:Nt->Prop}{a b c:Nt}(ha:p a)(hb:p b)(hc:p c):∀f∈[a,b,c],p f:=fun f h=>by
 simp only[List.mem_cons,List.not_mem_nil,or_false] at h
 rcases h with rfl|rfl|rfl <;> assumption
theorem fA{d:Nat}{f:Nt}(h:EI d f):kS f:=by
 induction h with
 |lit d n h =>
  refine j5 fB fun _=>?_
  unfold litL at h;simp only[List.mem_cons,List.not_mem_nil,or_false] at h;unfold Sm;omega
 |var d s h=>exact j5 fB
 |nam d s h=>exact j5 fB
 |drw d f h ih=>exact j5 (jeI ih)
 |neg d f h ih=>exact j5 (jeI ih)
 |bin d s f g hs h1 h2 i1 i2=>exact j5 (jeJ i1 i2)
theorem jn9{d:Nat}{f:Nt}(h:EB d f):kS f:=by
 induction h with
 |lit d n h=>exact j5 fB fun _=>by unfold Sm;omega
 |nt d f h ih=>exact j5 (jeI ih)
 |bin d s f g hs h1 h2 i1 i2=>exact j5 (jeJ i1 i2)
 |cmp d s f g hs h1 h2=>exact j5 (jeJ (fA h1) (fA h2))
theorem mF{l:List Nt}(h:∀s∈l,kS s):kS (wO l):=j5 h
theorem js9{d:Nat}{f:Nt}(h:ES d f):kS f:=by
 induction h with
 |asg d e s f hs h he=>exact j5 (jeI (fA h))
 |snd d n f g h hn h1 h2 h3=>exact j5 (jnd (fA h1) (fA h2) (fA h3))
 |tim d n hn=>exact j5 fB
 |can d n hn=>exact j5 fB
 |syn d=>exact j5 fB
 |rep d f g h1 h2=>exact j5 (jeJ (fA h1) (fA h2))
 |fai d f h1=>exact j5 (jeI (fA h1))
 |stp d=>exact j5 fB
 |whi d c l h1 h2 h3 ih=>exact j5 (jeJ (jn9 h1) (mF ih))
 |iff d c l m h1 h2 h3 h4 h5 ih1 ih2=>exact j5 (jnd (jn9 h1) (mF ih1) (mF ih2))
def jhH(u:Ut):Prop:=∀x∈u.on,kS x.2
theorem jsa{u:Ut}(h:GU u):jhH u:=fun x hx=>by
 obtain⟨h1,h2,h3,h4,h5⟩:=h;obtain⟨_,_,k,hk,hl,hs⟩:=h3 x hx;rw[hk]
 exact mF fun s hs'=>js9 (hs s hs')
def TkL(ts:List Tk):Prop:=∀t∈ts,0<=t.n/\t.n<=2147483647
theorem TkL.tail{ts:List Tk}(h:TkL ts):TkL ts.tail:=fun t ht=>h t (List.mem_of_mem_tail ht)
theorem TkL.hd{ts:List Tk}(h:TkL ts):0<=(Vm.hd ts).n/\(Vm.hd ts).n<=2147483647:=by
 cases ts with
 |nil=>exact⟨Int.le_refl 0,by decide⟩
 |cons t ts=>exact h t List.mem_cons_self
def LP(op:List Tk->Pn):Prop:=∀ts f r,TkL ts->op ts=.ok f r->kS f/\TkL r
theorem LP.syn:LP synE:=fun ts f r _ h=>by cases h
theorem LP.bad(x:List Tk->Int)(y:Int):LP (fun ts=>.bad (x ts) y):=fun ts f r _ h=>by cases h
theorem LP.okT{f:Nt}(hf:kS f):LP (fun r=>.ok f r):=fun ts g r hz h=>by cases h;exact⟨hf,hz⟩
theorem LP.andThen{op:List Tk->Pn}{k:Nt->List Tk->Pn}(h1:LP op)(h2:∀f,kS f->LP (k f)):LP (fun ts=>(op ts).andThen k):=fun ts f r hz h=>by
 cases ho:op ts with
 |bad x y=>simp only[ho] at h;cases h
 |ok g u =>
  simp only[ho] at h;obtain⟨a1,a2⟩:=h1 ts g u hz ho;exact h2 g a1 u f r a2 h
theorem LP.tail{op:List Tk->Pn}(h:LP op):LP (fun ts=>op ts.tail):=fun ts f r hz ho=>h _ f r hz.tail ho
theorem LP.ite(c:List Tk->Prop)[DecidablePred c]{op1 op2:List Tk->Pn}(h1:LP op1)(h2:LP op2):LP (fun ts=>if c ts then op1 ts else op2 ts):=fun ts f r hz h=>by
 dsimp only at h
 split at h
 ·exact h1 ts f r hz h
 ·exact h2 ts f r hz h
theorem LP.xpt(s:ByteArray){k:List Tk->Pn}(h:LP k):LP (fun ts=>Vm.xpt s ts k):=LP.ite (fun ts=>q8 s ts=true) h.tail LP.syn
theorem LP.num(limit:Int){k:Int->List Tk->Pn}(h:∀n,LP (k n)):LP (fun ts=>nX limit ts k):=fun ts f r hz ho=>by
 unfold nX at ho
 dsimp only at ho
 split at ho
 ·cases ho
 ·split at ho
  ·cases ho
  ·exact(h _).tail ts f r hz ho
theorem LP.tok{op:Tk->List Tk->Pn}(h:∀t:Tk,0<=t.n/\t.n<=2147483647->LP (op t)):LP (fun ts=>op (Vm.hd ts) ts):=fun ts f r hz ho=>h _ hz.hd ts f r hz ho
structure LPa(p:Pa):Prop where
 no:LP p.no
 un:LP p.un
 ex:LP p.ex
 bl:LP p.bl
def jhG(low:Option Pa):Prop:=∀p,low=some p->LPa p
theorem LP.nest{low:Option Pa}(hl:jhG low):LP (cD low):=by
 cases low with
 |none=>exact LP.ite (fun ts=>q8 pLp ts=true) (LP.bad _ _) LP.syn
 |some p=>exact LP.ite (fun ts=>q8 pLp ts=true) (((hl p rfl).ex.andThen fun n hn=>LP.xpt pRp (LP.okT hn)).tail) LP.syn
theorem LP.prim{low:Option Pa}(hl:jhG low):LP (dS low) :=
 LP.ite (fun ts=>q8 pLp ts=true) (LP.nest hl) <|
  LP.ite (fun ts=>q8 uO ts=true) (((LP.nest hl).andThen fun n hn=>LP.okT (j5 (jeI hn))).tail) <|
  LP.ite (fun ts=>(hd ts).kind=2) (LP.tok (op:=fun t ts=>.ok (.mk 12 t.n eB []) ts.tail) fun t ht=>(LP.okT (j5 fB fun _=>by unfold Sm;omega)).tail) <|
  LP.ite (fun ts=>q8 uP ts=true) (LP.okT (j5 fB fun _=>by unfold Sm;omega)).tail <|
  LP.ite (fun ts=>q8 lT ts=true) (LP.okT (j5 fB fun _=>by unfold Sm;omega)).tail <|
  LP.ite (fun ts=>wQ ts=true) (LP.tok (op:=fun t ts=>.ok (.mk 14 0 t.text []) ts.tail) fun t ht=>(LP.okT (j5 fB)).tail) <|
  LP.ite (fun ts=>jgk ts=true) (LP.tok (op:=fun t ts=>.ok (.mk 15 0 t.text []) ts.tail) fun t ht=>(LP.okT (j5 fB)).tail) LP.syn
theorem LP.pre(s:ByteArray){op:Option (List Tk->Pn)}(h:∀f,op=some f->LP f){op2:List Tk->Pn}(h2:LP op2):LP (fun ts=>if q8 s ts=true then tE s op ts else op2 ts):=by
 cases op with
 |none=>exact LP.ite (fun ts=>q8 s ts=true) (LP.bad _ _) h2
 |some f=>exact LP.ite (fun ts=>q8 s ts=true) (((h f rfl).andThen fun n hn=>LP.okT (j5 (jeI hn))).tail) h2
theorem LP.una{low:Option Pa}(hl:jhG low):LP (aA low) :=
 LP.pre pMinus (op:=low.map fun p:Pa=>p.un) (fun f hf=>by
  cases low with
  |none=>cases hf
  |some p=>cases hf;exact(hl p rfl).un) (LP.prim hl)
theorem LP.chn{op:List Tk->Pn}{signs:List ByteArray}(h:LP op):LP (wF op signs):=by
 have go:∀(n:Nat) (l:Nt),kS l->LP (wZ op signs n l):=fun n=>by
  induction n with
  |zero=>intro l hl;exact LP.okT hl
  |succ n ih =>
   intro l hl ts f r hz ho;rw[wZ] at ho;by_cases ha:bU signs ts=true
   ·rw[if_pos ha] at ho;exact(h.andThen (k:=fun f r=>wZ op signs n (.mk 18 0 (hd ts).text [l,f]) r) fun g hg=>ih _ (j5 (jeJ hl hg))).tail ts f r hz ho
   ·rw[if_neg ha] at ho;exact LP.okT hl ts f r hz ho
 exact h.andThen (k:=fun f r=>wZ op signs r.length f r) fun f hf ts g r hz ho=>go _ f hf ts g r hz ho
theorem LP.sum{low:Option Pa}(hl:jhG low):LP (jbP low):=LP.chn (LP.chn (LP.una hl))
theorem LP.nt{low:Option Pa}(hl:jhG low):LP (uR low) :=
 LP.pre pNot (op:=low.map fun p:Pa=>p.no) (fun f hf=>by
  cases low with
  |none=>cases hf
  |some p=>cases hf;exact(hl p rfl).no)<|(LP.sum hl).andThen fun l hw=>fun r f r' hz ho=>by
   by_cases ha:bU cmpL r=true
   ·rw[if_pos ha] at ho;exact((LP.sum hl).andThen (k:=fun m r'=>.ok (.mk 18 0 (hd r).text [l,m]) r') fun g hg=>LP.okT (j5 (jeJ hw hg))).tail r f r' hz ho
   ·rw[if_neg ha] at ho;exact LP.okT hw r f r' hz ho
theorem LP.exp{low:Option Pa}(hl:jhG low):LP (jfT low):=LP.chn (LP.chn (LP.nt hl))
theorem LP.stm{ex bl:List Tk->Pn}(hx:LP ex)(hb:LP bl):LP (stG ex bl):=by
 have semi:∀(f:Nt),kS f->LP (fun r=>Vm.xpt jO r fun r=>.ok f r):=fun f hf=>LP.xpt jO (LP.okT hf)
 exact LP.ite (fun ts=>wQ ts=true) (LP.tok (op:=fun t ts=>Vm.xpt pEq ts.tail fun r=>(ex r).andThen fun e r=>Vm.xpt jO r fun r=>.ok (.mk 1 0 t.text [e]) r) fun t _=>(LP.xpt pEq (hx.andThen fun e he=>semi _ (j5 (jeI he)))).tail) <|
  LP.ite (fun ts=>(hd ts).kind≠1) LP.syn <|
  LP.ite (fun ts=>(hd ts).text=wIf) ((hx.andThen fun c hc=>hb.andThen fun b hb2=>LP.ite (fun r=>q8 f9 r=true) ((hb.andThen fun o ho=>LP.okT (j5 (jnd hc hb2 ho))).tail) (LP.okT (j5 (jnd hc hb2 (mF fB))))).tail) <|
  LP.ite (fun ts=>(hd ts).text=wWhile) ((hx.andThen fun c hc=>hb.andThen fun b hb2=>LP.okT (j5 (jeJ hc hb2))).tail) <|
  LP.ite (fun ts=>(hd ts).text=gC) ((hx.andThen fun t ht=>LP.xpt jZ (LP.num 30 fun n=>LP.xpt jZ (hx.andThen fun a ha=>LP.xpt jZ (hx.andThen fun b hb2=>semi _ (j5 (jnd ht ha hb2)))))).tail) <|
  LP.ite (fun ts=>(hd ts).text=wTimer) ((LP.num 8 fun n=>semi _ (j5 fB)).tail) <|
  LP.ite (fun ts=>(hd ts).text=kN) ((LP.num 8 fun n=>semi _ (j5 fB)).tail) <|
  LP.ite (fun ts=>(hd ts).text=wSync) ((semi _ (j5 fB)).tail) <|
  LP.ite (fun ts=>(hd ts).text=yJ) ((hx.andThen fun a ha=>LP.xpt jZ (hx.andThen fun b hb2=>semi _ (j5 (jeJ ha hb2)))).tail) <|
  LP.ite (fun ts=>(hd ts).text=wFail) ((hx.andThen fun a ha=>semi _ (j5 (jeI ha))).tail) <|
  LP.ite (fun ts=>(hd ts).text=wStop) ((semi _ (j5 fB)).tail) LP.syn
theorem LP.blk{st:List Tk->Pn}(h:LP st):LP (bkF st):=by
 have go:∀(n:Nat) (acc:List Nt),(∀f∈acc,kS f)->LP (cY st n acc):=fun n=>by
  induction n with
  |zero=>intro acc ha ts f r _ ho;cases ho
  |succ n ih =>
   intro acc ha ts f r hz2 ho;rw[cY] at ho;by_cases hp:q8 pRb ts=true
   ·rw[if_pos hp] at ho;cases ho;exact⟨mF ha,hz2.tail⟩
   ·rw[if_neg hp] at ho
    exact h.andThen (k:=fun s r=>cY st n (acc++[s]) r) (fun s hs=>ih (acc++[s]) (fun f hf=>by
     rcases List.mem_append.1 hf with hf|hf
     ·exact ha f hf
     ·rw[List.mem_singleton.1 hf];exact hs)) ts f r hz2 ho
 exact LP.xpt pLb (k:=fun r=>cY st r.length [] r) fun ts f r hz ho=>go ts.length [] fB ts f r hz ho
theorem LP.bkN:LP bkN:=LP.ite (fun ts=>q8 pLb ts=true) (LP.bad _ _) LP.syn
theorem LPa.pa{low:Option Pa}(hl:jhG low):LPa (paG low) where
 no:=LP.nt hl
 un:=LP.una hl
 ex:=LP.exp hl
 bl:=LP.blk (LP.stm (LP.exp hl) (by
  cases low with
  |none=>exact LP.bkN
  |some p=>exact(hl p rfl).bl))
theorem lpa:∀n,LPa (pa n)
 |0=>LPa.pa fun p h=>by cases h
 |n+1=>LPa.pa fun p h=>by cases h;exact lpa n
theorem jmO(du vo:List ByteArray):∀(n:Nat) (hs:List (Int×Nt)) (ts:List Tk) (u:Ut),TkL ts->(∀x∈hs,kS x.2)->o5 du vo n hs ts=.ok u->jhH u
 |0,hs,ts,u,_,_,h=>by cases h
 |n+1,hs,ts,u,hz,hw,h=>by
  have num:∀(limit off:Int) (q:List Tk) (k:Int) (r:List Tk),TkL q->iB limit off q=.ok k r->TkL r:=fun limit off q k r hq h=>by
   unfold iB at h;split at h
   ·cases h
   ·split at h
    ·cases h
    ·cases h;exact hq.tail
  rw[o5] at h;split at h
  ·cases h
   exact fun x hx=>hw x ((gW hs).mem_iff.1 hx)
  ·split at h
   ·cases h
   ·cases hh:sH ts.tail with
    |bad x y=>rw[hh] at h;cases h
    |ok k r =>
     rw[hh] at h
     have hr:TkL r:=by
      unfold sH at hh;split at hh
      ·cases hh;exact hz.tail.tail
      ·split at hh
       ·cases hh;exact hz.tail.tail
       ·split at hh
        ·exact num _ _ _ _ _ hz.tail.tail hh
        ·split at hh
         ·exact num _ _ _ _ _ hz.tail.tail hh
         ·cases hh
     dsimp only at h
     split at h
     ·cases h
     ·cases hbl:(pa 19).bl r with
      |bad x y=>rw[hbl] at h;cases h
      |ok b r2 =>
       rw[hbl] at h;obtain⟨wb,hr2⟩:=(lpa 19).bl r b r2 hr hbl;refine jmO du vo n (hs++[(k,b)]) r2 u hr2 (fun x hx=>?_) h;rcases List.mem_append.1 hx with hx|hx
       ·exact hw x hx
       ·rw[List.mem_singleton.1 hx];exact wb
theorem ji2:∀(n:Nat) (names out:List ByteArray) (ts:List Tk) (names' out':List ByteArray) (r:List Tk),TkL ts->gG n names out ts=.ok names' out' r->TkL r
 |0,names,out,ts,names',out',r,_,h=>by cases h
 |n+1,names,out,ts,names',out',r,hl,h=>by
  rw[gG] at h;split at h
  ·cases h
  ·split at h
   ·cases h
   ·split at h
    ·cases h
    ·split at h
     ·exact ji2 n _ _ _ _ _ _ hl.tail.tail h
     ·split at h
      ·cases h;exact hl.tail.tail.tail
      ·cases h
theorem ji1:∀(n:Nat) (names du vo:List ByteArray) (ts:List Tk) (u:Ut),TkL ts->sP n names du vo ts=.ok u->jhH u
 |0,names,du,vo,ts,u,_,h=>by cases h
 |n+1,names,du,vo,ts,u,hz,h=>by
  rw[sP] at h;split at h
  ·cases hd:gG ts.length names [] ts with
   |bad x y=>rw[hd] at h;cases h
   |ok names' out r =>
    rw[hd] at h;exact ji1 n names' (du++out) vo r u (ji2 _ _ _ _ _ _ _ hz hd) h
  ·split at h
   ·cases hd:gG ts.length names [] ts with
    |bad x y=>rw[hd] at h;cases h
    |ok names' out r =>
     rw[hd] at h;exact ji1 n names' du (vo++out) r u (ji2 _ _ _ _ _ _ _ hz hd) h
   ·exact jmO du vo _ [] ts u hz (fun x hx=>by cases hx) h
theorem joy{s:ByteArray}{u:Ut}(h:eA s=.ok u):jhH u:=by
 unfold eA at h;split at h
 ·cases h
 ·rename_i hsz
  cases he:(qM s).err with
  |some p=>rw[he] at h;cases h
  |none =>
   rw[he] at h;have hok:=jke s (by omega);refine ji1 _ [] [] [] (iD s) u (fun t ht=>?_) h;rcases hok t ht with h3|h3
   ·exact⟨h3.2.2.2.1,h3.2.2.2.2⟩
   ·rw[h3.2.2.2];decide
theorem jiS(s:ByteArray)(hs:s.size<=1000000000):Spec Tryz.prog 4 [] [jX s] fun _ r=>∃(u:Ut) (x e:Int),(eD u/\jhH u)/\sJ u.on<=40000/\r=.tup [.agg (iE u),intA x,intA e]:=by
 refine(jiT s hs).weaken fun o r hr=>?_
 subst hr
 cases hp:eA s with
 |ok u =>
  obtain⟨hu,hz⟩:=jkx hp;exact⟨o,_,⟨u,0,0,⟨hu,joy hp⟩,hz,rfl⟩,WkB.refl o,.refl _⟩
 |bad x e=>exact⟨o,_,⟨_,x,e,⟨jt4,fun x hx=>by cases hx⟩,Nat.zero_le _,rfl⟩,WkB.refl o,.tup (.cons jqk (WkL.refl _))⟩
def GCd(g:Int->List Ic):Prop:=∀at':Int,∀i∈g at',sK i
theorem GCd.no:GCd noI:=fun _ i hi=>by cases hi
theorem nE{a b:Int}(h1:a≠1)(h4:a≠4):sK (a,b):=⟨fun h=>absurd h h1,fun h=>absurd h h4⟩
theorem jen{b:Int}(h:Sm b):sK (1,b):=⟨fun _=>h,fun h=>absurd h (by decide:¬(1:Int)=4)⟩
theorem GCd.one{i:Ic}(h:sK i):GCd fun _=>[i]:=fun _ j hj=>by rw[List.mem_singleton.1 hj];exact h
theorem GCd.seq:∀{l:List (Int->List Ic)},(∀g∈l,GCd g)->GCd (zW l)
 |[],_,_,i,hi=>by cases hi
 |g::r,h,at',i,hi=>by
  unfold zW at hi;rcases List.mem_append.1 hi with hi|hi
  ·exact h g List.mem_cons_self at' i hi
  ·exact GCd.seq (fun x hx=>h x (List.mem_cons_of_mem _ hx)) _ i hi
theorem GCd.br{c y n:Int->List Ic}(hc:GCd c)(hy:GCd y)(hn:GCd n):GCd (pW c y n):=fun at' i hi=>by
 unfold pW at hi;simp only[List.mem_append,List.mem_cons] at hi;rcases hi with hi|rfl|hi|rfl|hi
 ·exact hc at' i hi
 ·exact nE (by decide) (by decide)
 ·exact hy _ i hi
 ·exact nE (by decide) (by decide)
 ·exact hn _ i hi
theorem GCd.get{l:List (Int->List Ic)}(h:∀g∈l,GCd g)(k:Nat):GCd (l.getD k noI):=by
 rw[List.getD_eq_getElem?_getD]
 cases hk:l[k]? with
 |none=>exact GCd.no
 |some g=>exact h g (List.mem_of_getElem? hk)
theorem jsi(s:ByteArray):∀i∈opC s,sK i:=by
 unfold opC
 repeat' split
 all_goals(intro i hi;simp only[List.mem_cons,List.not_mem_nil,or_false] at hi)
 all_goals first
  |(rcases hi with rfl|rfl <;> exact nE (by decide) (by decide))
  |(subst hi;exact nE (by decide) (by decide))
theorem GCd.body(ix:ByteArray->Int){k n:Int}(s:ByteArray){l:List (Int->List Ic)}(hn:k=12∨k=13->Sm n)(h:∀g∈l,GCd g):GCd (xF ix k n s l):=fun at' i hi=>by
 have g0:=GCd.get h 0;have g1:=GCd.get h 1;have g2:=GCd.get h 2;have sq:=GCd.seq h
 have one:∀{a b:Int},a≠1->a≠4->i∈[((a,b):Ic)]->sK i:=fun h1 h2 hi=>by rw[List.mem_singleton.1 hi];exact nE h1 h2
 unfold xF at hi;by_cases c1:k=12∨k=13
 ·rw[if_pos c1] at hi;rw[List.mem_singleton.1 hi];exact jen (hn c1)
 rw[if_neg c1] at hi;by_cases c2:k=14
 ·rw[if_pos c2] at hi;exact one (by decide) (by decide) hi
 rw[if_neg c2] at hi;by_cases c3:k=15
 ·rw[if_pos c3] at hi;rw[List.mem_singleton.1 hi];have hb:=lD builtL s;have hb9:builtL.length=9:=rfl;rw[jm2] at hb;exact⟨fun h=>absurd h (by simp),fun _=>by simp only;omega⟩
 rw[if_neg c3] at hi;by_cases c4:k=2
 ·rw[if_pos c4] at hi;exact GCd.br g0 g1 g2 at' i hi
 rw[if_neg c4] at hi;by_cases c5:k=5
 ·rw[if_pos c5] at hi;exact one (by decide) (by decide) hi
 rw[if_neg c5] at hi;by_cases c6:k=6
 ·rw[if_pos c6] at hi;exact one (by decide) (by decide) hi
 rw[if_neg c6] at hi;by_cases c7:k=7
 ·rw[if_pos c7] at hi;exact one (by decide) (by decide) hi
 rw[if_neg c7] at hi;by_cases c8:k=10
 ·rw[if_pos c8] at hi;exact one (by decide) (by decide) hi
 rw[if_neg c8] at hi;by_cases c9:k=3
 ·rw[if_pos c9] at hi;simp only[List.mem_append,List.mem_cons,List.not_mem_nil,or_false] at hi;rcases hi with hi|rfl|hi|rfl
  ·exact g0 at' i hi
  ·exact nE (by decide) (by decide)
  ·exact g1 _ i hi
  ·exact nE (by decide) (by decide)
 rw[if_neg c9] at hi;by_cases ca:k=18/\s=k9
 ·rw[if_pos ca] at hi;exact GCd.br g0 g1 (GCd.one (jen (by unfold Sm;omega))) at' i hi
 rw[if_neg ca] at hi;by_cases cb:k=18/\s=pOr
 ·rw[if_pos cb] at hi;exact GCd.br g0 (GCd.one (jen (by unfold Sm;omega))) g1 at' i hi
 rw[if_neg cb] at hi;rcases List.mem_append.1 hi with hi|hi
 ·exact sq at' i hi
 split at hi
 ·exact jsi s i hi
 repeat' split at hi
 all_goals first
  |exact one (by decide) (by decide) hi
  |cases hi
theorem jfM(ix:ByteArray->Int):∀f:Nt,kS f->GCd (jB ix f)
 |.mk k n s kids,hl=>by
  have hl1:k=12∨k=13->Sm n:=by unfold kS at hl;exact hl.1
  have hl2:dK kids:=by unfold kS at hl;exact hl.2.1
  have h:∀f∈kids,GCd (jB ix f):=fun f hf=>jfM ix f (jY hl2 hf)
  rw[show jB ix (.mk k n s kids)=xF ix k n s (qH ix kids) by funext at';rw[jB]]
  refine GCd.body ix s hl1 fun g hg=>?_
  rw[yQ] at hg;obtain⟨f,hf,rfl⟩:=List.mem_map.1 hg;exact h f hf
theorem jmP(ix:ByteArray->Int):∀(l:List (Int×Nt)) (c:List Ic) (e:Nat->Int),(∀x∈l,kS x.2)->(∀i∈c,sK i)->∀i∈(t6 ix l c e).1,sK i
 |[],c,e,_,hc=>hc
 |(h,b)::r,c,e,hl,hc=>by
  unfold t6
  refine jmP ix r _ _ (fun x hx=>hl x (List.mem_cons_of_mem _ hx)) fun i hi=>?_
  rcases List.mem_append.1 hi with hi|hi
  ·rcases List.mem_append.1 hi with hi|hi
   ·exact hc i hi
   ·exact jfM ix b (hl _ List.mem_cons_self) _ i hi
  ·rw[List.mem_singleton.1 hi];exact nE (by decide) (by decide)
theorem jrC{u:Ut}(h:jhH u):∀i∈(aJ u).1,sK i:=jmP (jS u) u.on [] noE h (fun i hi=>by cases hi)
end Go.Proofs.YtdnnmiemgmgffaaGreatDoor.Vm
namespace Go.Proofs.YtdnnmiemgmgffaaGreatDoor.Vm
open Go.RowKit
section
section
variable{w0:W0}{C0:Rd}{β0:List Nat}{bx bx':List (List A)}{rw:List Row}{w:World}{E:Env}
theorem Hp.nilB(h:Hp w0 C0 β0 bx rw w E)(e k:Nat)(hb:jhI rw.length bx bx'):Hp w0 C0 β0 bx' (rw++[.live e k 0 []]) w ⟨E.C,E.β,E.ρ++[.slice none 0 0]⟩/\E.le ⟨E.C,E.β,E.ρ++[.slice none 0 0]⟩:=by
 obtain⟨h1,le⟩:=h.nilRow e k
 have hg:(E.ρ++[Value.slice none 0 0])[rw.length]?=some (.slice none 0 0):=by rw[h.rl];simp
 refine⟨?_,le⟩
 exact⟨h1.sub,h1.base,h1.fresh,h1.bp,h1.bnd,h1.bC,by rw[jab hb];exact h1.bl,fun i b cs h2 h3=>by
  obtain⟨c0,h4,h5⟩:=jaa hb h3;obtain⟨T',arr,h6,h7⟩:=h1.bxs i b c0 h2 h4
  exact⟨T',arr,h6,h7.rel (oN rw.length) h5 (fun l m us e k=>pY hg e k) (fun l m e=>jfq e) fun l t r e=>jct e⟩,h1.rl,h1.rws,h1.rC,h1.rd,h1.rs,h1.keep,h1.gk⟩
end
theorem jdj(g:Nat):∀l:List A,oN g l l
 |[]=>trivial
 |a::l=>⟨.inl rfl,jdj g l⟩
theorem jdi{g:Nat}{c c':List A}(h:oN g c c'):∀l:List (List A),jhI g (l++[c]) (l++[c'])
 |[]=>⟨h,trivial⟩
 |a::l=>⟨jdj g a,jdi h l⟩
theorem jm7{P:Program}{pan:List PanicEntry->S->Prop}{Xr:Nat->Bool}{f:Nat}{args args':List A}{s:S}{K:A->S->Prop}{post:List A->Prop}(n m e k:Nat)(hn:s.bx.length=n)(hm:s.rw.length=m)(h2:zC [] s.rw args=some args')(hs:jlK P f args' post)
  (hk:∀cs,post cs->∃cs',oN m cs cs'/\K (.box n 0) ⟨s.t,s.bx++[cs'],s.rw++[.live e k 0 []]⟩):kB P pan Xr f args s K:=by
 unfold kB;refine .inr (.inr (.inr (.inr (.inr ⟨hs.1,fun w0 C0 β0 E w vs hp hv=>?_⟩))));refine(hs.2 w E.C vs hp.gok hp.sub ?_).mono ?_
 ·exact wM (X:=[]) (Y:=[]) hp (fun j i h=>by simp at h) args h2 hv
 rintro e1 w' ⟨cs,b,rfl,h1,h3,h4,h5,h6⟩;obtain⟨q1,le⟩:=hp.boxN h4 h5 (jdv h6 h3);obtain⟨cs',h7,h8⟩:=hk cs h1;subst hm;obtain⟨q2,le2⟩:=q1.nilB e k (jdi h7 s.bx);refine .inl ⟨_,rfl,⟨_,_,_,h8,rfl,le.trans le2,q2,?_,fun _ b hb _=>h4.block b hb (by simp),h4.size⟩⟩;subst hn;unfold A.rep;exact⟨b,by rw[hp.bl,List.getElem?_append_right (by omega)];simp,rfl⟩
end
end Go.Proofs.YtdnnmiemgmgffaaGreatDoor.Vm
namespace Go.Proofs.YtdnnmiemgmgffaaGreatDoor.Vm
open Go.RowKit Go.Shelf
theorem jmz(c0:A)(e:Nat->Int)(du vo:Int)(j:Nat)(hj:j<40):(c0::pgE e du vo).drop (1+j*1)=intA (e j)::(c0::pgE e du vo).drop (j+2):=by
 have hlen:(enL e).length=40:=by unfold enL;rw[List.length_map,List.length_range]
 have hl:j<(enL e).length:=by rw[hlen];exact hj
 rw[show 1+j*1=j+1 by omega,List.drop_succ_cons,show j+2=(j+1)+1 by omega,List.drop_succ_cons,pE];rw[List.drop_eq_getElem_cons (by rw[List.length_append];omega),List.getElem_append_left hl];have h0:=jey e j hj;rw[Int.toNat_natCast,Nat.mul_one,List.getElem?_eq_getElem hl] at h0;rw[Option.some.inj h0]
theorem jln(l:List Int)(hl:l.length<=1000000000):Spec Tryz.prog 12 [] [.sl 1 l.length (jV l),.sl 1 l.length (jV l)] fun _ r=>r=zK true:=by
 refine eN jtW qB 0 Tryz.func12 rfl ?_;intro hok;conv=>whnf
 rw[jJ (rfl:(l.length:Int)=l.length)];conv=>whnf
 refine jC [0,1] ?_;conv=>whnf
 refine jI (fun k:Nat=>[(5,.v (.int .i64 k))]) (fun _=>[]) (fun _=>[]) (fun k=>k<=l.length) (fun k=>l.length-k) 0 ?_ (Nat.zero_le _) ?_
 ·repeat' constructor
 intro k hk;conv=>whnf
 rcases Nat.lt_or_ge k l.length with hlt|hge
 ·have hr1:=pL l k hlt;generalize l[k]=x at *;rw[jJ (show(k:Int)<(l.length:Int) by omega)];conv=>whnf
  refine⟨show(0:Int)<=(k:Int)/\(k:Int)<(l.length:Nat) from ⟨by omega,by omega⟩,?_⟩;conv=>whnf
  (generalize hrq:jD _ _ (jV l)=rq;obtain rfl:rq=[intA x]:=hrq.symm.trans (hr1);clear hrq;conv=>whnf)
  refine⟨show(0:Int)<=(k:Int)/\(k:Int)<(l.length:Nat) from ⟨by omega,by omega⟩,?_⟩;conv=>whnf
  (generalize hrq:jD _ _ (jV l)=rq;obtain rfl:rq=[intA x]:=hrq.symm.trans (hr1);clear hrq;conv=>whnf)
  rw[jJ (rfl:x=x)];conv=>whnf
  refine jN k (by omega) ?_;conv=>whnf
  refine⟨k+1,jF [] ?_,hlt,show l.length-(k+1)<l.length-k by omega⟩;conv=>whnf
  repeat' constructor
 ·rw[jG (show ¬(k:Int)<(l.length:Int) by omega)];conv=>whnf
  rfl
theorem jnh(m:Nat)(v:Nat->Int)(st dr:Int)(sp:Bool)(sd:Int):oN m (stE v (.v (.slice none 0 0)) st dr sp sd) (stE v (.own m) st dr sp sd):=by
 unfold stE;exact⟨.inl rfl,.inl rfl,.inl rfl,.inl rfl,.inl rfl,.inl rfl,.inl rfl,.inl rfl,.inl rfl,.inl rfl,.inl rfl,.inl rfl,.inl rfl,.inl rfl,.inl rfl,.inl rfl,.inr ⟨rfl,rfl⟩,.inl rfl,.inl rfl,.inl rfl,.inl rfl,trivial⟩
structure UOk(u:Ut):Prop where
 wf:eD u
 lit:jhH u
 sz:∀x∈u.on,j6 x.2<=50000
 hz:sJ u.on<=900000
theorem jks:∀{l:List (Int×Nt)} {x:Int×Nt},x∈l->j6 x.2<=sJ l
 |y::l,x,h=>by
  show j6 x.2<=j6 y.2+1+sJ l;rcases List.mem_cons.1 h with rfl|h
  ·omega
  ·have:=jks h;omega
theorem jsQ{u:Ut}(h:GU u):UOk u:=by
 obtain⟨h1,h2,h3⟩:=jty h;exact⟨h1,jsa h,fun x hx=>by have:=h3 x hx;omega,h2⟩
theorem jcB(x:Int){n:Int}(hn:1<=n):0<=qV x n/\qV x n<n:=by
 have h:0<=iI x:=by unfold iI;split <;> omega
 unfold qV;rw[Int.tmod_eq_emod_of_nonneg h];exact⟨Int.emod_nonneg _ (by omega),Int.emod_lt_of_pos _ (by omega)⟩
theorem jqu(l:List Int)(i:Nat):Sm (bgF l i):=by
 have:=jcB (l.getD i 0) (n:=21) (by decide);unfold bgF Sm
 split <;> omega
theorem jrT{u:Ut}(hu:UOk u){k:Nat}(hk:k<u.on.length)(vars:List Int){sd:Int}(hs:0<=sd/\sd<=1000):∃q:Ms,zY 10 (bgF vars) [] 300 0 false sd [.box 0 0,.agg (iE u),.agg (ntA (u.on[k]).2)] (fun v' lg' st' dr' sp' r=>v'=q.v/\lg'=q.lg/\st'=q.st/\dr'=q.dr/\sp'=q.sp/\r=.tup [])/\q.lg.length<=1000000 ∧
  (0<q.st->jep u=0->∀(du vo:Int),zY 11 (bgF vars) [] 20000 0 false sd [.box 0 0,pgA (aJ u).1 (aJ u).2 du vo,intA ((aJ u).2 (u.on[k]).1.toNat)] fun v' lg' st' dr' sp' r=>v'=q.v/\lg'=q.lg/\0<st'/\dr'=q.dr/\sp'=false/\r=zK true):=by
 have hmem:=List.getElem_mem hk;have hw:=(hu.wf.on _ hmem).2.2;have hx:=hu.wf.st _ hmem;have hl:=hu.lit _ hmem;have hz:=hu.sz _ hmem
 have hrun:=fun t h1 h2=>jsE (sd:=sd) hu.wf hk hl t h1 h2
 generalize hbd:(u.on[k]).2=b at *
 have ok:OkJ ⟨bgF vars,[],300,0,false⟩ (j6 b):=⟨fun i _=>jqu vars i,by simp,by simp only;omega,Int.le_refl _,by simp⟩
 have hd:=jmr hu.wf hs b hw hx hl ⟨bgF vars,[],300,0,false⟩ ok;have hr:=jp5 hs hu.wf b hw hx hl ⟨bgF vars,[],300,0,false⟩ _ (Int.le_refl _) ok;refine⟨j7 u sd b ⟨bgF vars,[],300,0,false⟩,hd,?_,fun h0 hc du vo=>?_⟩
 ·have h1:=hr.1.lg;have h2:=hr.1.st;omega
 obtain⟨m,hm,hh⟩:=hrun ⟨bgF vars,[],300,0,false⟩ rfl h0
 simp only at hm
 have hlen:(aJ u).1.length<=1000000:=by
  unfold jep at hc;split at hc
  ·cases hc
  ·omega
 exact jkQ (aJ u).1 (aJ u).2 du vo hlen (jrC hu.lit) sd hs _ m _ _ hh 20000 ⟨⟨by omega,Int.le_refl _⟩,fun i _=>jqu vars i,by simp,by simp only[Ms.cs,List.length_nil];omega,by simp only[Ms.cs];omega,by simp only[List.length_nil];omega⟩
def jug(id:Nat):Tr:=match Nat.beq id 15 with
 |true=>.q 0 3 (.q 1 0 (.q 2 3 (.q 3 3 (.q 4 3 (.q 5 3 (.q 7 3 (.q 12 3 (.alt 6 1 (.q 8 3 (.q 9 3 (.alt 10 1 (.alt 11 1 (.q 13 3 (.q 14 0 (.alt 15 2 (.q 16 3 (.q 17 3 (.q 18 3 (.q 19 3 (.q 20 3 (.alt 21 2 (.q 22 3 (.q 23 3 .nil)) .nil)))))) .nil))) .nil) .nil))) .nil))))))))
 |false=>juQ id
theorem runs_spec(l vars:List Int)(seed n:Int):Spec Tryz.prog 3 [] [.sl 1 l.length (jV l),.sl 1 vars.length (jV vars),intA seed,intA n] fun _ r=>r=zK true:=by
 obtain⟨u1,⟨hgu,-⟩,hprog⟩:=jrP l;have ok1:=jsQ hgu;have hsr:=jhb n;have hlv:=jip
 have hcs:=fun(u:Ut) (h:UOk u)=>rF u h.wf h.hz
 have hsd:=jcB seed (n:=1000) (by decide);have har:=kX seed 1000 (by decide)
 have hbg:=fun sd st=>jhT vars sd st
 refine eN jug qB 0 Tryz.func3 rfl ?_;intro hok;conv=>whnf
 refine kL [] hsr ?_;rintro r ⟨s,hs,rfl⟩;have hps:=jiS s (by omega);conv=>whnf
 refine kL [] hps ?_;rintro r ⟨u2,x,e,⟨hv,hlt2⟩,hzv,rfl⟩
 have ok2:UOk u2:=⟨hv,hlt2,fun x hx=>by have:=jks hx;omega,by omega⟩
 clear hps hv hlt2 hzv hsr hs hgu;conv=>whnf
 refine kL [] hprog ?_;rintro r rfl;conv=>whnf
 have hus:∀i:Nat,i<2->∃u:Ut,UOk u/\jD 3 i (iE u1++iE u2)=iE u:=fun i hi=>by
  rcases(show i=0∨i=1 by omega) with rfl|rfl
  ·exact⟨u1,ok1,by unfold jD;rfl⟩
  ·exact⟨u2,ok2,by unfold jD;rfl⟩
 refine nL [0] ?_;conv=>whnf
 refine jC [1,2,12] ?_;conv=>whnf
 refine jI (fun i:Nat=>[(13,.v (.int .i64 i))]) (fun _=>[]) (fun _=>[]) (fun i=>i<=2) (fun i=>2-i) 0 ?_ (Nat.zero_le _) ?_
 ·repeat' constructor
 intro i hi2;conv=>whnf
 rcases Nat.lt_or_ge i 2 with hlt|hge
 rotate_left
 ·rw[jG (show ¬(i:Int)<2 by omega)];conv=>whnf
  (refine kL [] hlv ?_;rintro r rfl;conv=>whnf)
  rfl
 obtain⟨u,hu,hrow⟩:=hus i hlt;have hcu:=hcs u hu
 have hnd:=fun(k:Nat) (hk:k<u.on.length)=>jrT hu hk vars (sd:=qV seed 1000) (by omega)
 have hnr:=fun h hh=>hu.wf.on h hh
 have hol:=hu.wf.ol;clear hus hcs ok1 ok2;rw[jJ (show(i:Int)<2 by omega)];conv=>whnf
 refine⟨show(0:Int)<=(i:Int)/\(i:Int)<((2:Nat):Int) from ⟨by omega,by omega⟩,?_⟩;conv=>whnf
 generalize hrq:jD _ _ _=rq;obtain rfl:rq=iE u:=hrq.symm.trans hrow;clear hrq;conv=>whnf
 refine kL [] hcu ?_;rintro r rfl;unfold jkN;by_cases hE:jep u=0
 rotate_left
 ·rw[if_neg hE];generalize jep u=E at *;conv=>whnf
  rw[jG hE];conv=>whnf
  refine jN i (by omega) ?_;conv=>whnf
  refine⟨i+1,jF [] ?_,show i+1<=2 by omega,show 2-(i+1)<2-i by omega⟩;conv=>whnf
  repeat' constructor
 rw[if_pos hE];generalize (aJ u).1=code at *;generalize (aJ u).2=e at *;conv=>whnf
 refine jC [1,2,12,13,14] ?_;conv=>whnf
 refine jI (fun k:Nat=>[(16,.v (.int .i64 k))]) (fun _=>[pgL code e u.du.length u.vo.length]) (fun _=>[]) (fun k=>k<=u.on.length) (fun k=>u.on.length-k) 0 ?_ (Nat.zero_le _) ?_
 ·repeat' constructor
 intro k hkn;conv=>whnf
 refine⟨show(0:Int)<=(i:Int)/\(i:Int)<((2:Nat):Int) from ⟨by omega,by omega⟩,?_⟩;conv=>whnf
 generalize hrq:jD _ _ _=rq;obtain rfl:rq=iE u:=hrq.symm.trans hrow;clear hrq;conv=>whnf
 rcases Nat.lt_or_ge k u.on.length with hkl|hkg
 rotate_left
 ·rw[jG (show ¬(k:Int)<(u.on.length:Int) by omega)];conv=>whnf
  refine jN i (by omega) ?_;conv=>whnf
  refine⟨i+1,jF [] ?_,show i+1<=2 by omega,show 2-(i+1)<2-i by omega⟩;conv=>whnf
  repeat' constructor
 obtain⟨q,hdo,hlq,hex⟩:=hnd k hkl;have hhr:=gQ u.on k hkl;have hh40:=hnr _ (List.getElem_mem hkl);generalize u.on[k]=hb at *;obtain⟨h,b⟩:=hb
 simp only at hdo hex hh40
 unfold zY at hdo;rw[jJ (show(k:Int)<(u.on.length:Int) by omega)];conv=>whnf
 refine kL [] har ?_;rintro r ⟨_,rfl⟩;conv=>whnf
 refine jm7 1 0 3 1 rfl rfl rfl (hbg (qV seed 1000) 300) ?_;rintro cs rfl;refine⟨_,jnh 0 _ _ _ _ _,?_⟩;conv=>whnf
 refine⟨show(0:Int)<=(i:Int)/\(i:Int)<((2:Nat):Int) from ⟨by omega,by omega⟩,?_⟩;conv=>whnf
 generalize hrq:jD _ _ _=rq;obtain rfl:rq=iE u:=hrq.symm.trans hrow;clear hrq;conv=>whnf
 refine⟨show(0:Int)<=(i:Int)/\(i:Int)<((2:Nat):Int) from ⟨by omega,by omega⟩,?_⟩;conv=>whnf
 generalize hrq:jD _ _ _=rq;obtain rfl:rq=iE u:=hrq.symm.trans hrow;clear hrq;conv=>whnf
 refine⟨show(0:Int)<=(k:Int)/\(k:Int)<(u.on.length:Nat) from ⟨by omega,by omega⟩,?_⟩;conv=>whnf
 generalize hrq:jD _ _ (kH u.on)=rq;obtain rfl:rq=intA h::ntA b:=hrq.symm.trans hhr;clear hrq;conv=>whnf
 refine wE 1 0 1 [] hdo ?_;rintro o n' cs' r ⟨v2,lg2,st2,dr2,sp2,ho,rfl,rfl,e1,e2,e3,e4,e5,rfl⟩;cases ho;subst e1 e2 e3 e4 e5;conv=>whnf
 by_cases h0:q.st<=0
 ·rw[jJ h0];conv=>whnf
  refine jN k (by omega) ?_;conv=>whnf
  refine⟨k+1,jF [] ?_,show k+1<=u.on.length by omega,show u.on.length-(k+1)<u.on.length-k by omega⟩;conv=>whnf
  repeat' constructor
 rw[jG h0];have hexe:=hex (by omega) hE u.du.length u.vo.length;unfold zY at hexe
 have hah:qV h 40=h:=by
  unfold qV iI;rw[if_neg (by omega),Int.tmod_eq_emod_of_nonneg hh40.1];omega
 conv=>whnf
 refine kL [] har ?_;rintro r ⟨_,rfl⟩;conv=>whnf
 refine jm7 2 2 3 1 rfl rfl rfl (hbg (qV seed 1000) 20000) ?_;rintro cs rfl;refine⟨_,jnh 2 _ _ _ _ _,?_⟩;conv=>whnf
 refine⟨show(0:Int)<=(i:Int)/\(i:Int)<((2:Nat):Int) from ⟨by omega,by omega⟩,?_⟩;conv=>whnf
 generalize hrq:jD _ _ _=rq;obtain rfl:rq=iE u:=hrq.symm.trans hrow;clear hrq;conv=>whnf
 refine⟨show(0:Int)<=(k:Int)/\(k:Int)<(u.on.length:Nat) from ⟨by omega,by omega⟩,?_⟩;conv=>whnf
 generalize hrq:jD _ _ (kH u.on)=rq;obtain rfl:rq=intA h::ntA b:=hrq.symm.trans hhr;clear hrq;conv=>whnf
 refine kL [] (kX h 40 (by decide)) ?_;rintro r ⟨_,rfl⟩;rw[hah];conv=>whnf
 refine⟨⟨hh40.1,hh40.2.1⟩,?_⟩;conv=>whnf
 generalize hrq:List.drop _ _=rq;obtain rfl:rq=intA (e h.toNat)::(A.sl 2 code.length (wA code)::pgE e u.du.length u.vo.length).drop (h.toNat+2):=hrq.symm.trans (jmz _ e _ _ h.toNat (by omega));clear hrq;conv=>whnf
 refine wE 2 2 3 [] hexe ?_;rintro o n' cs' r ⟨v3,lg3,st3,dr3,sp3,ho,rfl,rfl,e1,e2,e3,e4,e5,rfl⟩;cases ho;subst e1 e2 e4 e5;conv=>whnf
 rw[jG (show ¬st3<=0 by omega)];conv=>whnf
 refine⟨rfl,?_⟩;conv=>whnf
 rw[jJ (rfl:q.v 0=q.v 0),jJ (rfl:q.v 1=q.v 1),jJ (rfl:q.v 2=q.v 2),jJ (rfl:q.v 3=q.v 3),jJ (rfl:q.v 4=q.v 4),jJ (rfl:q.v 5=q.v 5),jJ (rfl:q.v 6=q.v 6),jJ (rfl:q.v 7=q.v 7),jJ (rfl:q.v 8=q.v 8),jJ (rfl:q.v 9=q.v 9),jJ (rfl:q.v 10=q.v 10),jJ (rfl:q.v 11=q.v 11),jJ (rfl:q.v 12=q.v 12),jJ (rfl:q.v 13=q.v 13),jJ (rfl:q.v 14=q.v 14),jJ (rfl:q.v 15=q.v 15)];conv=>whnf
 rw[jJ (rfl:q.dr=q.dr)];conv=>whnf
 refine kL [1,3] (jln q.lg (by omega)) ?_;rintro r rfl;conv=>whnf
 refine jN k (by omega) ?_;conv=>whnf
 refine⟨k+1,jF [] ?_,show k+1<=u.on.length by omega,show u.on.length-(k+1)<u.on.length-k by omega⟩;conv=>whnf
 repeat' constructor
end Go.Proofs.YtdnnmiemgmgffaaGreatDoor.Vm
