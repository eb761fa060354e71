/- Part 2 of the proof. -/
import Derived.Test.YtfbifdccmabdbaaGreatDoorW1
import Derived.Lib.FrozenHead2
import Derived.Lib.UnsafeStr
import Derived.Laws.IdiomRangeMap
import Derived.Scope
set_option linter.unusedSimpArgs false
set_option linter.unusedVariables false
namespace Go.Proofs.YtfbifdccmabdbaaGreatDoor
open Go.RowKit
section
inductive Tr where
 |nil
 |q (k m:Nat) (r:Tr)
 |alt (k m:Nat) (r o:Tr)
def Tr.isAlt:Tr->Bool
 |.alt _ _ _ _=>true
 |_=>false
def Tr.keys:Tr->List Nat
 |.alt k _ _ o=>k::o.keys
 |_=>[]
def Tr.all2:Tr->(Nat->Bool)->Bool
 |.nil,_=>true
 |.q _ _ r,p=>r.all2 p
 |.alt k m r o,p=>(m==1||p k)&&r.all2 p&&o.all2 p
def Tr.del(j:Nat):Tr->Tr
 |.nil=>.nil
 |.q k m r=>if k=j then r else .q k m (r.del j)
 |.alt k _ r o=>if k=j then r else o.del j
def Tr.loud2(j:Nat):Tr->Bool
 |.nil=>false
 |.q k _ r=>if k=j then false else r.loud2 j
 |.alt k m _ o=>if k=j then m != 1 else o.loud2 j
def Tr.depth:Tr->Nat
 |.nil=>0
 |.q _ _ r=>r.depth+1
 |.alt _ _ r o=>max (r.depth+1) o.depth
def Tr.many:Tr->Bool
 |.nil=>false
 |.q _ _ r=>r.many
 |.alt _ _ r o=>match o.isAlt with
  |true=>true
  |false=>r.many
section
variable{P:Program}{ops:Array Oper}{Q:Exit->Act->World->Prop}{md:Region.Mode}{S:World->Prop}
def pU(P:Program)(ops:Array Oper)(Q:Exit->Act->World->Prop)(S:World->Prop):Tr->Act->World->Prop
 |.nil,a,w=>Q .normal a w
 |.q k 0 r,a,w=>∃o v,ops[k]?=some o/\S w/\YieldsIf P ops S o v a/\pU P ops Q S r (a.put o.dst v) w
 |.q k (_+1) r,a,w=>∃o v,ops[k]?=some o/\YieldsIf P ops (fun _=>True) o v a/\pU P ops Q S r (a.put o.dst v) w
 |.alt k m r o,a,w=>(if m=1 then wpOp P ops Q k (fun a' w'=>S w'/\pU P ops Q S r a' w') a w else wpOp P ops Q k (pU P ops Q S r) a w)/\(o.isAlt=true->pU P ops Q S o a w)
def cL(md:Region.Mode)(ops:Array Oper):Bool->Tr->Array Bool->Bool
 |_,.nil,listed=>(Region.ready md ops listed).isEmpty
 |_,.q k m r,listed=>(Region.ready md ops listed).contains k&&Region.free md ops listed k&&(m != 0||r.all2 (fun j=>far md ops listed 3 j k))&&cL md ops true r (listed.setIfInBounds k true)
 |top,.alt k _ r o,listed=>(!top||(Region.ready md ops listed).all (fun j=>(k::o.keys).contains j))&&(Region.ready md ops listed).contains k&&cL md ops true r (listed.setIfInBounds k true)&&(!o.isAlt||cL md ops false o listed)
theorem jgo{t:Tr}{j:Nat}(h:j∈t.keys):t.isAlt=true:=by cases t <;> simp[Tr.keys,Tr.isAlt] at h ⊢
theorem lU{p p':Nat->Bool}(h:∀j,p j=true->p' j=true):∀{t:Tr},t.all2 p=true->t.all2 p'=true
 |.nil,_=>rfl
 |.q _ _ r,ht=>lU h (t:=r) ht
 |.alt k m r o,ht=>by
  unfold Tr.all2 at ht ⊢;simp only[xtw14,xtw72] at ht ⊢;exact⟨⟨ht.1.1.imp id (h k),lU h ht.1.2⟩,lU h ht.2⟩
theorem jat{p:Nat->Bool}{j:Nat}:∀{t:Tr},t.all2 p=true->(t.del j).all2 p=true
 |.nil,_=>rfl
 |.q k m r,ht=>by
  unfold Tr.del;split
  ·exact ht
  ·unfold Tr.all2;exact jat (t:=r) ht
 |.alt k m r o,ht=>by
  unfold Tr.all2 at ht;simp only[xtw14] at ht;unfold Tr.del;split
  ·exact ht.1.2
  ·exact jat ht.2
theorem tK{p:Nat->Bool}{j:Nat}:∀{t:Tr},t.all2 p=true->t.loud2 j=true->p j=true
 |.nil,_,h=>by cases h
 |.q k m r,ht,h=>by
  unfold Tr.loud2 at h;split at h
  ·cases h
  ·exact tK (t:=r) ht h
 |.alt k m r o,ht,h=>by
  unfold Tr.all2 at ht;simp only[xtw14,xtw72] at ht;unfold Tr.loud2 at h;split at h
  ·rename_i e;subst e;rcases ht.1.1 with h1|h1
   ·simp only[beq_iff_eq] at h1;subst h1;cases h
   ·exact h1
  ·exact tK ht.2 h
theorem jqs{a:Act}{w:World}{j:Nat}:∀{t:Tr},pU P ops Q S t a w->j∈t.keys->wpOp P ops Q j (fun a' w'=>pU P ops Q S (t.del j) a' w'/\(t.loud2 j=false->S w->S w')) a w
 |.nil,_,h=>by cases h
 |.q _ _ _,_,h=>by cases h
 |.alt k m r o,hw,h=>by
  unfold pU at hw;unfold Tr.del Tr.loud2;by_cases hk:k=j
  ·subst hk;simp only[xtw3];by_cases hm:m=1
   ·subst hm;rw[xtw3 rfl] at hw;exact wpOp_mono (fun a' w' h=>⟨h.2,fun _ _=>h.1⟩) hw.1
   ·rw[xtw2 hm] at hw;exact wpOp_mono (fun a' w' h=>⟨h,fun h2=>absurd h2 (by simp[hm])⟩) hw.1
  ·simp only[xtw2 hk]
   have h':j∈o.keys:=by
    unfold Tr.keys at h;exact(xtw13.1 h).resolve_left (fun e=>hk e.symm)
   exact jqs (hw.2 (jgo h')) h'
theorem jiY{b:Bool}{k m:Nat}{r:Tr}{listed:Array Bool}(h:cL md ops b (.q k m r) listed=true):k∈Region.ready md ops listed/\Region.free md ops listed k=true/\(m=0->r.all2 (fun j=>far md ops listed 3 j k)=true)/\cL md ops true r (listed.setIfInBounds k true)=true:=by
 unfold cL at h;simp only[xtw14,xtw72] at h;exact⟨by simpa using h.1.1.1,h.1.1.2,fun e=>h.1.2.resolve_left (by simp[e]),h.2⟩
theorem jdW{k m:Nat}{r o:Tr}{listed:Array Bool}(h:cL md ops true (.alt k m r o) listed=true):∀j∈Region.ready md ops listed,j∈(Tr.alt k m r o).keys:=by
 unfold cL at h;simp only[xtw14,xtw72] at h;have h1:=h.1.1.1.resolve_left (by simp);intro j hj;have:=xtw65.1 h1 j hj;unfold Tr.keys;simpa using this
theorem jns(hsel:Region.noSelect ops=true)(hQ:∀c a d v w,Q (.panic c) (Act.put a d v) w->Q (.panic c) a w):∀(t:Tr) (listed:Array Bool) (a:Act) (w:World),cL md ops true t listed=true->pU P ops Q S t a w →
  ∀j∈Region.ready md ops listed,wpOp P ops Q j (fun a' w'=>pU P ops Q S (t.del j) a' w'/\(t.loud2 j=false->S w->S w')) a w
 |.nil,listed,a,w,h,_,j,hj=>by
  unfold cL at h;rw[xtw110] at h;rw[h] at hj;cases hj
 |.alt k m r o,listed,a,w,h,hw,j,hj=>jqs hw (jdW h j hj)
 |.q k m r,listed,a,w,h,hw,j,hj=>by
  obtain⟨h1,h2,h3,h4⟩:=jiY h;have hun:=(mem_ready.1 h1).1;unfold Tr.del Tr.loud2;by_cases hjk:k=j
  ·subst hjk;simp only[xtw3]
   match m,hw with
   |0,hw =>
    obtain⟨o,v,ho,hS,hy,hr⟩:=hw;exact hy.wpOp ho hS ⟨hr,fun _ hS=>hS⟩
   |n+1,hw =>
    obtain⟨o,v,ho,hy,hr⟩:=hw;exact hy.wpOp ho trivial ⟨hr,fun _ hS=>hS⟩
  ·simp only[xtw2 hjk]
   have hjk':j≠k:=fun e=>hjk e.symm
   obtain⟨_,oj,hoj,_⟩:=mem_ready.1 hj;have hj':=ready_mono (i:=k) hj hjk'
   match m,h,h3,hw with
   |0,h,h3,hw =>
    obtain⟨o,v,ho,hS,hy,hr⟩:=hw;have hap:=Region.free_spec ho h2 j oj hoj hjk' (mem_ready.1 hj).1 (dP hj hun oj hoj);have ih:=jns hsel hQ r _ _ w h4 hr j hj'
    have hmode:r.loud2 j=false:=by
     cases hl:r.loud2 j with
     |false=>rfl
     |true =>
      have:=tK (h3 rfl) hl;rw[ji7 hun hj] at this;cases this
    refine wpOp_mono (fun a' w' h3=>?_) (wpOp_putIf hoj hap (fun cs b=>Region.noSelect_spec hsel _ _ cs b ho) (fun cs b=>Region.noSelect_spec hsel _ _ cs b hoj) (fun c a w=>hQ c a _ _ w) hy ih);exact⟨⟨o,v,ho,h3.2.2 hmode hS,h3.1,h3.2.1⟩,fun _ hS=>h3.2.2 hmode hS⟩
   |n+1,h,h3,hw =>
    obtain⟨o,v,ho,hy,hr⟩:=hw;have hap:=Region.free_spec ho h2 j oj hoj hjk' (mem_ready.1 hj).1 (dP hj hun oj hoj);have ih:=jns hsel hQ r _ _ w h4 hr j hj';refine wpOp_mono (fun a' w' h3=>?_) (wpOp_putIf hoj hap (fun cs b=>Region.noSelect_spec hsel _ _ cs b ho) (fun cs b=>Region.noSelect_spec hsel _ _ cs b hoj) (fun c a w=>hQ c a _ _ w) hy ih);exact⟨⟨o,v,ho,h3.1,h3.2.1⟩,fun hm hS=>h3.2.2 hm hS⟩
theorem jbW{j:Nat}{listed:Array Bool}:∀{b:Bool} {t:Tr},cL md ops b t listed=true->j∈t.keys->cL md ops true (t.del j) (listed.setIfInBounds j true)=true/\(t.del j).depth<t.depth
 |_,.nil,_,h=>by cases h
 |_,.q _ _ _,_,h=>by cases h
 |b,.alt k m r o,hw,h=>by
  unfold cL at hw;simp only[xtw14,xtw72] at hw;unfold Tr.del;by_cases hk:k=j
  ·subst hk;rw[xtw3 rfl];refine⟨hw.1.2,?_⟩;have:(Tr.alt k m r o).depth=max (r.depth+1) o.depth:=rfl;omega
  ·rw[xtw2 hk]
   have h':j∈o.keys:=by
    unfold Tr.keys at h;exact(xtw13.1 h).resolve_left (fun e=>hk e.symm)
   have:=jbW (hw.2.resolve_left (by rw[jgo h'];simp)) h';refine⟨this.1,?_⟩;have h2:(Tr.alt k m r o).depth=max (r.depth+1) o.depth:=rfl;omega
theorem jdX:∀(t:Tr) (listed:Array Bool),cL md ops true t listed=true->∀j∈Region.ready md ops listed,cL md ops true (t.del j) (listed.setIfInBounds j true)=true/\(t.del j).depth<t.depth
 |.nil,listed,h,j,hj=>by
  unfold cL at h;rw[xtw110] at h;rw[h] at hj;cases hj
 |.alt k m r o,listed,h,j,hj=>jbW h (jdW h j hj)
 |.q k m r,listed,h,j,hj=>by
  obtain⟨h1,h2,h3,h4⟩:=jiY h;unfold Tr.del;by_cases hjk:k=j
  ·subst hjk;rw[xtw3 rfl];exact⟨h4,Nat.lt_succ_self _⟩
  ·rw[xtw2 hjk]
   have hjk':j≠k:=fun e=>hjk e.symm
   have ih:=jdX r _ h4 j (ready_mono hj hjk');rw[Array.setIfInBounds_comm _ _ hjk] at ih;have hr:=ready_mono (i:=j) h1 (fun e=>hjk e);refine⟨?_,Nat.succ_lt_succ ih.2⟩;unfold cL;simp only[xtw14,xtw72];refine⟨⟨⟨by simpa using hr,sZ h2⟩,?_⟩,ih.1⟩;by_cases hm:m=0
   ·exact .inr (jat (lU (fun x hx=>jeF (mem_ready.1 h1).1 hj hx) (h3 hm)))
   ·exact .inl (by simpa using hm)
theorem jfn(hsel:Region.noSelect ops=true)(hQ:∀c a d v w,Q (.panic c) (Act.put a d v) w->Q (.panic c) a w):∀(f:Nat) (t:Tr) (listed:Array Bool) (a:Act) (w:World),t.depth<=f->cL md ops true t listed=true->pU P ops Q S t a w →
  wpAny P md ops Q f listed a w
 |0,.nil,listed,a,w,hl,h,hw=>by
  unfold cL at h;rw[xtw110] at h;exact⟨h,hw⟩
 |0,.q k m r,listed,a,w,hl,h,hw=>by have:(Tr.q k m r).depth=r.depth+1:=rfl;omega
 |0,.alt k m r o,listed,a,w,hl,h,hw=>by have:(Tr.alt k m r o).depth=max (r.depth+1) o.depth:=rfl;omega
 |f+1,t,listed,a,w,hl,h,hw=>by
  refine⟨fun h0=>?_,fun j hj=>?_⟩
  ·cases t with
   |nil=>exact hw
   |q k m r=>have:=(jiY h).1;rw[h0] at this;cases this
   |alt k m r o =>
    unfold cL at h;simp only[xtw14] at h;have:=h.1.1.2;rw[h0] at this;cases this
  ·have hp:=jdX t listed h j hj;exact wpOp_mono (fun a' w' h3=>jfn hsel hQ f _ _ a' w' (by omega) hp.1 h3.1) (jns hsel hQ t listed a w h hw j hj)
def pN(ops:Array Oper)(t:Tr):Bool:=Region.noSelect ops&&decide (t.depth<=ops.size)&&cL .any ops true t (Array.replicate ops.size false)
theorem jfo{id:Nat}{a:Act}{w:World}(S:World->Prop)(t:Tr)(hm:P.follows .mixedOrders=true)(hB:pN ops t=true)(hQ:∀c a d v w,Q (.panic c) (Act.put a d v) w->Q (.panic c) a w)
  (hS:S w.drew) (h:S w.drew->pU P ops Q S t a w.drew):(Code.region id ops true).wp P Q a w:=by
 simp only[pN,xtw14,xtw17] at hB;exact wp_region_any hm (jfn hB.1.1 hQ _ t _ a _ hB.1.2 hB.2 (h hS))
variable{k m:Nat}{r o':Tr}{a:Act}{w:World}{o:Oper}
theorem jq3(ho:ops[k]?=some o)(hw:Region.wanted o (yielded ops a.tmps)=true)(h:∃v,(∀w,(execOp a.eval o).run P w=.ok (.value v) w)/\pU P ops Q S r (a.put o.dst v) w):pU P ops Q S (.q k (m+1) r) a w :=
 let ⟨v,hr,h⟩:=h
 ⟨o,v,ho,.inl ⟨hw,fun w _=>hr w⟩,h⟩
theorem jq4(ho:ops[k]?=some o)(hw:Region.wanted o (yielded ops a.tmps)=false)(h:pU P ops Q S r (a.put o.dst undef) w):pU P ops Q S (.q k (m+1) r) a w :=
 ⟨o,undef,ho,.inr ⟨hw,rfl⟩,h⟩
theorem jot(ho:ops[k]?=some o)(hS:S w)(hw:Region.wanted o (yielded ops a.tmps)=false)(h:pU P ops Q S r (a.put o.dst undef) w):pU P ops Q S (.q k 0 r) a w :=
 ⟨o,undef,ho,hS,.inr ⟨hw,rfl⟩,h⟩
theorem jq2(ho:ops[k]?=some o)(hS:S w)(hw:Region.wanted o (yielded ops a.tmps)=true)(h:∃v,(∀w,S w->(execOp a.eval o).run P w=.ok (.value v) w)/\pU P ops Q S r (a.put o.dst v) w):pU P ops Q S (.q k 0 r) a w :=
 let ⟨v,hr,h⟩:=h
 ⟨o,v,ho,hS,.inl ⟨hw,hr⟩,h⟩
theorem jor(ho:ops[k]?=some o)(h:∀K:Act->World->Prop,(∀a' w',(S w'/\pU P ops Q S r a' w')->K a' w')->if Region.wanted o (yielded ops a.tmps)=true then o.wp P a w K Q else K (a.put o.dst undef) w)(h2:o'.isAlt=true->pU P ops Q S o' a w):pU P ops Q S (.alt k 1 r o') a w:=by
 unfold pU;rw[xtw3 rfl];exact⟨wpOp_step ho h,h2⟩
theorem jos(hm:m≠1)(ho:ops[k]?=some o)(h:∀K:Act->World->Prop,(∀a' w',pU P ops Q S r a' w'->K a' w')->if Region.wanted o (yielded ops a.tmps)=true then o.wp P a w K Q else K (a.put o.dst undef) w)(h2:o'.isAlt=true->pU P ops Q S o' a w):pU P ops Q S (.alt k m r o') a w:=by
 unfold pU;rw[xtw2 hm];exact⟨wpOp_step ho h,h2⟩
end
end
end Go.Proofs.YtfbifdccmabdbaaGreatDoor
namespace Go.Proofs.YtfbifdccmabdbaaGreatDoor.Vm
open Go.RowKit
section
def jdl(st:Bool):Value->Value->Option Bool
 |.string x,.string y=>match st with
  |true=>some (decide (x=y))
  |false=>none
 |.int k x,.int k' y=>match st with
  |true=>none
  |false=>match Nat.beq (ikN k) (ikN k') with
   |true=>some (decide (x=y))
   |false=>none
 |_,_=>none
def gU(st:Bool):List Value->List A->Value->(A->Prop)->Prop->Prop
 |[],_,_,_,n=>n
 |k::ks,v::vs,x,K,n=>match jdl st x k with
  |some b=>ifK b (zT v K) (gU st ks vs x K n)
  |none=>False
 |_::_,[],_,_,_=>False
def jk8(ok:Bool)(b:Bool)(a:A):A:=match ok with
 |true=>.tup [a,.v (.bool b)]
 |false=>a
def ja8(T:List (Nat×Te))(t:Nat):Option Bool:=match Tab.get T t with
 |some ⟨.str,_,_⟩=>some true
 |some ⟨.int _,_,_⟩=>some false
 |_=>none
def jel(T:List (Nat×Te))(t:Nat)(ks:List Value)(vs:List A)(k:A)(ok:Bool)(K:A->Prop):Prop :=
 match k with
  |.v key=>match Tab.get T t with
   |some ⟨.map kt et,_,_⟩=>match ja8 T kt with
    |some st=>match Tab.get T et with
     |some e=>gU st ks vs key (fun a=>K (jk8 ok true a)) (match e.d.agg with
      |true=>match e.z with
       |[_]=>False
       |z=>n8 yS z fun cs=>K (jk8 ok false (.agg cs))
      |false=>match e.z with
       |[z]=>K (jk8 ok false (yS z))
       |_=>False)
     |none=>False
    |none=>False
   |_=>False
  |_=>False
def oC:List A->(List Value->Prop)->Prop
 |[],K=>K []
 |a::l,K=>match a with
  |.v x=>oC l fun r=>K (x::r)
  |_=>False
theorem jdm{E:Env}:∀{l:List A} {us:List Value} {K:List Value->Prop},oC l K->A.repL l E us->K us
 |[],us,K,h,hr=>by unfold A.repL at hr;subst hr;exact h
 |a::l,us,K,h,hr=>by
  unfold A.repL at hr;obtain⟨u,us',rfl,h1,h2⟩:=hr;unfold oC at h;split at h
  ·have:=jdm h h2;rw[(A.rep_v_iff.1 h1).1];exact this
  ·exact h.elim
def jjq(T:List (Nat×Te))(s:S)(t:Nat)(x k:A)(ok:Bool)(K:A->Prop):Prop :=
 match x with
 |.mp ks vs=>jel T t ks vs k ok K
 |.own g=>match s.rw[g]? with
  |some (.live _ z _ cs)=>match z with
   |0=>match cs with
    |[.clo _ kA,.clo _ vs]=>oC kA fun ks=>jel T t ks vs k ok K
    |_=>False
   |_+1=>False
  |_=>False
 |_=>False
section
variable{P:Program}{T:List (Nat×Te)}{w0:W0}{w:World}{C0:Rd}{β0:List Nat}{s:S}{a:Act}{E:Env}{o:Oper}{K:A->Prop}
theorem Tab.ok.map(hT:Tab.ok P T){t:Nat}{z:List Value}{b:Nat}{k e:TypeId}(h:Tab.get T t=some ⟨.map k e,z,b⟩):P.underlying t=some (.map k e):=by
 obtain⟨i,z,d,h1,h2,h3,_⟩:=hT.info h
 cases d <;> simp[pQ] at h3
 rw[h2,h3.1,h3.2]
theorem jai{r:Nat}{ks us:List Value}(h:kR w ⟨r,0,some 0⟩=some (.tuple #[.tuple ks.toArray,.tuple us.toArray])):∃es c,w.heap[r]?=some (.map es c)/\es.toList.map (·.key)=ks/\es.toList.map (·.val)=us/\fQ es c:=by
 unfold kR cK at h
 simp only at h
 split at h
 ·rename_i es c hh;split at h
  case isFalse=>cases h
  rename_i hst;simp only[xtw76,Value.tuple.injEq,Array.mk.injEq,xtw74,and_true] at h;refine⟨es,c,hh,?_,?_,hst⟩
  ·have:=congrArg Array.toList h.1;simpa using this
  ·have:=congrArg Array.toList h.2;simpa using this
 ·cases h
theorem jcW(x y:ByteArray):(x==y)=decide (x=y):=by
 cases x with
 |mk x=>cases y with
  |mk y =>
   rw[Bool.eq_iff_iff];show(x==y)=true↔_;simp
def jbf(kind:TypeDesc)(st:Bool):Prop:=(kind=.string/\st=true)∨((∃k,kind=.int k)/\st=false)
theorem jki{kind:TypeDesc}{st:Bool}(hk:jbf kind st){x y:Value}{b:Bool}(h:jdl st x y=some b):Instr.sameNow kind x y=some b:=by
 unfold jdl at h;split at h
 ·rcases hk with ⟨rfl,rfl⟩|⟨⟨k,rfl⟩,rfl⟩
  ·simp only[xtw76] at h;rw[<- h];simp only[Instr.sameNow];rename_i x y
   congr 1
   exact jcW x y
  ·cases h
 ·rcases hk with ⟨rfl,rfl⟩|⟨⟨k,rfl⟩,rfl⟩
  ·cases h
  ·simp only at h
   split at h
   ·rename_i hb;obtain rfl:=nY hb;simp only[xtw76] at h;rw[<- h];simp[Instr.sameNow];rfl
   ·cases h
 ·cases h
theorem jjK{kind:TypeDesc}{st:Bool}(hkind:jbf kind st){key:Value}{n:Prop}:∀{es:List MapEntry} {ks:List Value} {vs:List A} {us:List Value} {K:A->Prop} (i:Nat),es.map (·.key)=ks->es.map (·.val)=us->A.repL vs E us->gU st ks vs key K n →
  ∃r,Instr.findNow kind key es i=some r/\((r=none/\n)∨∃j y v,r=some (j,y)/\K v/\v.rep E y)
 |[],ks,vs,us,K,i,h1,h2,h3,h=>by
  simp only[xtw104] at h1;subst h1;exact⟨none,by simp[Instr.findNow],.inl ⟨rfl,h⟩⟩
 |e::es,ks,vs,us,K,i,h1,h2,h3,h=>by
  simp only[xtw22] at h1 h2;subst h1;subst h2
  cases vs with
  |nil=>exact h.elim
  |cons v vs =>
   unfold A.repL at h3;obtain⟨u,us',h4,h5,h6⟩:=h3;simp only[xtw74] at h4;obtain⟨rfl,rfl⟩:=h4;unfold gU at h;split at h
   ·rename_i b hb;rw[ifK_iff] at h;have hs:=jki hkind hb
    cases b with
    |true=>exact⟨some (i,e.val),by simp[Instr.findNow,hs],.inr ⟨i,e.val,v,rfl,force_iff.1 (h.1 rfl),h5⟩⟩
    |false =>
     obtain⟨r,k1,k2⟩:=jjK hkind (i+1) rfl rfl h6 (h.2 rfl);exact⟨r,by simp[Instr.findNow,hs,k1],k2⟩
   ·exact h.elim
theorem jbd(hT:Tab.ok P T){t:Nat}{st:Bool}(h:ja8 T t=some st):∃d,P.underlying t=some d/\jbf d st:=by
 unfold ja8 at h;split at h
 ·rename_i z b htab;cases h;exact⟨_,hT.strs htab,.inl ⟨rfl,rfl⟩⟩
 ·rename_i k z b htab;cases h;exact⟨_,hT.int htab,.inr ⟨⟨_,rfl⟩,rfl⟩⟩
 ·cases h
theorem jfJ{kt:TypeId}{d:TypeDesc}{st:Bool}{key:Value}(hkd:jbf d st)(hd:P.underlying kt=some d)(b:Bool)(n:Nat):(Instr.checkKey b (n+1) kt key).run P w=.ok () w:=by
 rcases hkd with ⟨rfl,-⟩|⟨⟨k',rfl⟩,-⟩
 ·cases key <;> simp[Instr.checkKey,run_underlying hd]
 ·cases key <;> simp[Instr.checkKey,run_underlying hd]
theorem tM{ok b:Bool}{r:A}{y:Value}(h:r.rep E y):(jk8 ok b r).rep E (if ok then .tuple #[y,.bool b] else y):=by
 cases ok with
 |false=>exact h
 |true =>
  show(A.tup [r,.v (.bool b)]).rep E (.tuple #[y,.bool b]);unfold A.rep;refine⟨_,rfl,?_⟩;unfold A.repL;refine⟨_,_,rfl,h,?_⟩;unfold A.repL;exact⟨_,_,rfl,A.rep_v trivial,by simp[A.repL]⟩
theorem jac{e n f f':Nat}{ks vs:List A}{y:Value}{g:Nat}(hp:Hp w0 C0 β0 s.bx s.rw w E)(hg:s.rw[g]?=some (.live e 0 n [.clo f ks,.clo f' vs]))(hy:E.ρ[g]?=some y) :
  ∃r es c us,y=.map (some r)/\w.heap[r]?=some (.map es c)/\n=es.size/\fQ es c/\es.toList.map (·.val)=us/\A.repL ks E.per (es.toList.map (·.key))/\A.repL vs E.per us:=by
 obtain⟨xs,⟨ho,_⟩,hr⟩:=hp.rws g _ y hg hy;unfold A.repC at hr;obtain⟨u1,us1,rfl,-,r1,hr⟩:=hr;unfold A.repC at hr;obtain⟨u2,us2,rfl,-,r2,hr⟩:=hr;unfold A.repC at hr;subst hr;unfold A.rep at r1 r2;obtain⟨k1,rfl,q1⟩:=r1;obtain⟨k2,rfl,q2⟩:=r2;rcases ho with ⟨h,_⟩|⟨_,⟨r,es,c,h1,h2,h3,h4,h5⟩|⟨_,_,h⟩|⟨r,m,seen,since,_,_,_,h⟩|⟨b,_,h,_⟩⟩
 ·exact absurd rfl h
 ·simp only[fnV,xtw74,Value.func.injEq,and_true] at h5;refine⟨r,es,c,_,h1,h2,h3,h4,rfl,?_,?_⟩
  ·have:=h5.1.2.2;rw[this] at q1;simpa using q1
  ·have:=h5.2.2.2;rw[this] at q2;simpa using q2
 ·cases h
 ·cases h
 ·cases h
theorem jr2{x:Value}{z:List Value}(h:x.cells.toList=z)(hn:∀u,z=[u]->False):∃us:Array Value,x=.agg us:=by
 cases x with
 |agg us=>exact⟨us,rfl⟩
 |_=>exact(hn _ (by rw[<- h];rfl)).elim
theorem jds{t:TypeId}{x k:Operand}{ok:Bool}{ks us:List Value}{vs:List A}{r c:Nat}{es:Array MapEntry}(hT:Tab.ok P T)(hz:pX T)(ht:A.repL s.t E a.tmps.toList)(ho:o.op=.lookup t x k ok)(hx:a.eval x=.map (some r))(hr:w.heap[r]?=some (.map es c))(h1:es.toList.map (·.key)=ks)(h2:es.toList.map (·.val)=us)(hvs:A.repL vs E.per us)(h:jel T t ks vs (ev s k) ok K) :
  ∃r y,K r/\r.rep E y/\(execOp a.eval o).run P w=.ok (.value y) w:=by
 unfold jel at h;split at h
 ·rename_i key hek;split at h
  ·rename_i kt et z b htab;split at h
   ·rename_i st hst;split at h
    ·rename_i e he;have hk:=(kW ht hek).1;have hu:=hT.map htab;obtain⟨d,hd,hkd⟩:=jbd hT hst;obtain⟨zv,hz1,hz2⟩:=hT.zero he;obtain⟨res,hf,hres⟩:=jjK hkd 0 h1 h2 hvs h
     have hck:∀b,(Instr.checkKey b 10000 kt key).run P w=.ok () w:=fun b=>jfJ hkd hd b 9999
     have hg:(getObj r).run P w=.ok (.map es c) w:=by simp[getObj,Sem.run,hr]
     have hfk:(Instr.findKey kt key es.toList).run P w=.ok res w:=by simp[Instr.findKey,run_underlying hd,hf]
     have hrun:∀v b,(match res with|some (_,v)=>(v,true)|none=>(zv,false))=(v,b)->(execOp a.eval o).run P w=.ok (.value (if ok then .tuple #[v,.bool b] else v)) w:=fun v b hvb=>by
      cases res with
      |none =>
       simp only[Prod.mk.injEq] at hvb;obtain⟨rfl,rfl⟩:=hvb;simp[execOp,ho,Instr.lookup,hx,hk,run_underlying hu,hg,hck,hfk,hz2,Result.andThen]
      |some q =>
       obtain⟨j,q⟩:=q;simp only[Prod.mk.injEq] at hvb;obtain⟨rfl,rfl⟩:=hvb;simp[execOp,ho,Instr.lookup,hx,hk,run_underlying hu,hg,hck,hfk,Result.andThen]
     rcases hres with ⟨rfl,hn⟩|⟨j,y,v,rfl,hv,hrep⟩
     ·split at hn
      ·split at hn
       ·exact hn.elim
       ·rename_i hne;rw[qN] at hn;obtain⟨us,rfl⟩:=jr2 hz1 hne;exact⟨_,_,hn,tM (by unfold A.rep;exact⟨us,rfl,fT hz1 (hz _ _ he) E⟩),hrun _ _ rfl⟩
      ·split at hn
       ·rename_i hag _ z1 hez;obtain⟨z2,g1,g2⟩:=hT.one he hag
        have hzc:z2=z1:=by rw[hez] at g1;simpa using g1.symm
        have hzv:zv=z2:=by
         have e1:=hz2 w;rw[g2 w] at e1;cases e1;rfl
        subst hzc;subst hzv;exact⟨_,_,hn,tM (eU _ E),hrun _ _ rfl⟩
       ·exact hn.elim
     ·exact⟨_,_,hv,tM (A.rep.mono _ E.per_le hrep),hrun _ _ rfl⟩
    ·exact h.elim
   ·exact h.elim
  ·exact h.elim
 ·exact h.elim
theorem jk1{t:TypeId}{x k:Operand}{ok:Bool}(hT:Tab.ok P T)(hz:pX T)(hp:Hp w0 C0 β0 s.bx s.rw w E)(ht:A.repL s.t E a.tmps.toList)(ho:o.op=.lookup t x k ok)(h:jjq T s t (ev s x) (ev s k) ok K) :
  ∃r y,K r/\r.rep E y/\(execOp a.eval o).run P w=.ok (.value y) w:=by
 have hx:=jS ht x;unfold jjq at h;split at h
 ·rename_i ks vs hev;rw[hev] at hx;unfold A.rep at hx;obtain⟨r,us,hx,hC,hlen,hvs,-⟩:=hx;obtain⟨es,c,hr,h1,h2,-⟩:=jai (hp.sub _ _ hC);exact jds hT hz ht ho hx hr h1 h2 hvs h
 ·rename_i g hev;rw[hev] at hx;unfold A.rep at hx;split at h
  ·rename_i e z n cs hg;split at h
   ·split at h
    ·rename_i f kA f' vs;obtain⟨r,es,c,us,e1,hr,-,-,h2,hks,hvs⟩:=jac hp hg hx;exact jds hT hz ht ho e1 hr rfl h2 hvs (jdm h hks)
    ·exact h.elim
   ·exact h.elim
  ·exact h.elim
 ·exact h.elim
end
end
section
def jau(s:S)(t:Nat)(r:Option Operand)(K:A->S->Prop):Prop:=match r with
 |none=>cD s.rw (.live t 0 0 [.clo 0 [],.clo 0 []]) 0 fun g rw=>cG s rw (K (.own g))
 |some _=>False
def jig(st:Bool)(key:Value)(x:A):List A->List A->Nat->(List A->List A->Nat->Prop)->Prop
 |[],[],n,K=>K [.v key] [x] (n+1)
 |k::ks,v::vs,n,K=>match k with
  |.v kv=>match jdl st key kv with
   |some b=>ifK b (K (.v kv::ks) (x::vs) n) (jig st key x ks vs n fun ks' vs' n'=>K (.v kv::ks') (v::vs') n')
   |none=>False
  |_=>False
 |_,_,_,_=>False
def ja2(T:List (Nat×Te))(s:S)(t:Nat)(m k x:A)(K:A->S->Prop):Prop :=
 match m with
 |.own g=>match s.rw[g]? with
  |some (.live e z n cs)=>match z with
   |0=>match cs with
    |[.clo _ ks,.clo _ vs]=>match k with
     |.v key=>match Tab.get T t with
      |some ⟨.map kt _,_,_⟩=>match ja8 T kt with
       |some st=>match y8 0 0 x with
        |true=>zT x fun x=>jig st key x ks vs n fun ks' vs' n'=>cM s.rw g (.live e 0 n' [.clo 0 ks',.clo 0 vs']) fun rw=>cG s rw (K .dead)
        |false=>False
       |none=>False
      |_=>False
     |_=>False
    |_=>False
   |_+1=>False
  |_=>False
 |_=>False
section
variable{P:Program}{T:List (Nat×Te)}{w0:W0}{w:World}{C0:Rd}{β0:List Nat}{s:S}{a:Act}{E:Env}{o:Oper}
theorem lW{l:List A}{us:List Value}(h:A.repL l E us):(A.clo 0 l).rep E (fnV us):=by
 unfold A.rep fnV;exact⟨us.toArray,rfl,by simpa using h⟩
theorem yF{x:A}{y:Value}{l:List A}{us:List Value}(h:x.rep E y)(h1:y.oneCell'=true)(k:A.repC l E us):A.repC (x::l) E (y::us):=by
 unfold A.repC;exact⟨y,us,rfl,h1,h,k⟩
theorem sI:A.repC [] E []:=by unfold A.repC;rfl
theorem jir{t:Nat}{r:Option Operand}{Xr:Nat->Bool}{K:A->S->Prop}(hp:Hp w0 C0 β0 s.bx s.rw w E)(ho:o.op=.makeMap t r)(h:jau s t r K) :
  ∃y w',(execOp a.eval o).run P w=.ok (.value y) w'/\Left w0 C0 β0 Xr s E w K y w':=by
 unfold jau at h
 cases r with
 |some r=>exact h.elim
 |none =>
  simp only at h
  rw[kU,wQ] at h;have hE:Ext w (w.alloc (.map #[] 0)):=(Ext.refl w).alloc _;have hp1:=hp.ext hE;have hadd:=hp1.addRow (e:=t) (k:=0) (n:=0) (y:=.map (some w.heap.size)) (xs:=[fnV [],fnV []]) (cs:=[.clo 0 [],.clo 0 []]) (.inr ⟨rfl,.inl ⟨w.heap.size,#[],0,rfl,heap_alloc_new w _,rfl,⟨rfl,fun i e he=>by simp at he⟩,rfl⟩⟩)
   (yF (lW (by simp[A.repL])) rfl (yF (lW (by simp[A.repL])) rfl sI)) (fun b hb=>by cases hb;exact .inl hp.keep.size) (fun b hb=>by
    cases hb;refine⟨hp.bnew,hp.cnone,fun g e' k' n' cs' z h1 h2 h3=>?_⟩
    have:=(hp.rlt h1 h2 h3).2;omega)
  refine⟨.map (some w.heap.size),w.alloc (.map #[] 0),by simp[execOp,ho,Instr.makeMap,newObj,Sem.run,Result.andThen],⟨_,_,_,h,rfl,hadd.2,hadd.1,?_,fun _ b hb _=>(Keeps.of_ext hE).block b hb (by simp),(Keeps.of_ext hE).size⟩⟩;unfold A.rep;rw[xtw41,hp.rl];simp
theorem jgh{kind:TypeDesc}{st:Bool}(hkind:jbf kind st){key:Value}{x:A}{xv:Value}{F:Env}(hx:x.rep F xv)(hkey:fX key):∀{es:List MapEntry} {ks vs:List A} {n:Nat} {K:List A->List A->Nat->Prop} (i:Nat),A.repL ks F (es.map (·.key))->A.repL vs F (es.map (·.val))->jig st key x ks vs n K →
  ∃r ks' vs' n',K ks' vs' n'/\Instr.findNow kind key es i=some r/\((r=none/\n'=n+1/\A.repL ks' F (es.map (·.key)++[key])/\A.repL vs' F (es.map (·.val)++[xv])) ∨
   ∃j e,r=some (i+j,e.val)/\es[j]?=some e/\e.key=key/\((∃b,key=.string b)∨∃k n,key=.int k n)/\n'=n/\A.repL ks' F (es.map (·.key))/\A.repL vs' F ((es.map (·.val)).set j xv))
 |[],[],[],n,K,i,h1,h2,h=>⟨none,_,_,_,h,by simp[Instr.findNow],.inl ⟨rfl,rfl,by simp[A.repL,A.rep,hkey],by simp[A.repL,hx]⟩⟩
 |[],[],v::vs,n,K,i,h1,h2,h=>h.elim
 |[],k::ks,[],n,K,i,h1,h2,h=>h.elim
 |[],k::ks,v::vs,n,K,i,h1,h2,h=>by unfold A.repL at h1;obtain⟨u,us',h1,_⟩:=h1;simp at h1
 |e::es,[],vs,n,K,i,h1,h2,h=>by simp[A.repL] at h1
 |e::es,k::ks,[],n,K,i,h1,h2,h=>by simp[A.repL] at h2
 |e::es,k::ks,v::vs,n,K,i,h1,h2,h=>by
  simp only[xtw22] at h1 h2;unfold A.repL at h1 h2;obtain⟨u,us,e1,r1,r2⟩:=h1;obtain⟨u2,us2,e2,q1,q2⟩:=h2;simp only[xtw74] at e1 e2;obtain⟨rfl,rfl⟩:=e1;obtain⟨rfl,rfl⟩:=e2;unfold jig at h;split at h
  ·rename_i kv;have hkv:=(A.rep_v_iff.1 r1).1;split at h
   ·rename_i b hb;rw[ifK_iff] at h;have hs:=jki hkind (by rw[hkv];exact hb:jdl st key e.key=some b)
    cases b with
    |true =>
     have hkk:e.key=key/\((∃b,key=.string b)∨∃k n,key=.int k n):=by
      rw[hkv];unfold jdl at hb;split at hb
      ·split at hb
       ·simp only[xtw76,xtw17] at hb;exact⟨by rw[hb],.inl ⟨_,rfl⟩⟩
       ·cases hb
      ·split at hb
       ·cases hb
       ·split at hb
        ·rename_i hik;obtain rfl:=nY hik;simp only[xtw76,xtw17] at hb;exact⟨by rw[hb],.inr ⟨_,_,rfl⟩⟩
        ·cases hb
      ·cases hb
     refine⟨some (i,e.val),_,_,_,h.1 rfl,by simp[Instr.findNow,hs],.inr ⟨0,e,by simp,rfl,hkk.1,hkk.2,rfl,?_,?_⟩⟩
     ·unfold A.repL;exact⟨_,_,rfl,r1,r2⟩
     ·simp only[xtw22,xtw45];unfold A.repL;exact⟨_,_,rfl,hx,q2⟩
    |false =>
     obtain⟨r,ks',vs',n',k1,k2,k3⟩:=jgh hkind hx hkey (i+1) r2 q2 (h.2 rfl);refine⟨r,_,_,_,k1,by simp[Instr.findNow,hs,k2],?_⟩;rcases k3 with ⟨rfl,g1,g2,g3⟩|⟨j,e',rfl,g1,g2,gk,g3,g4,g5⟩
     ·refine .inl ⟨rfl,g1,?_,?_⟩
      ·simp only[xtw22,xtw61];unfold A.repL;exact⟨_,_,rfl,r1,g2⟩
      ·simp only[xtw22,xtw61];unfold A.repL;exact⟨_,_,rfl,q1,g3⟩
     ·refine .inr ⟨j+1,e',by simp[Nat.add_assoc,Nat.add_comm 1],by simpa using g1,g2,gk,g3,?_,?_⟩
      ·simp only[xtw22];unfold A.repL;exact⟨_,_,rfl,r1,g4⟩
      ·simp only[xtw22,xtw46];unfold A.repL;exact⟨_,_,rfl,q1,g5⟩
   ·exact h.elim
  ·exact h.elim
theorem Hp.turnRow{bx:List (List A)}{rw:List Row}{w':World}(h:Hp w0 C0 β0 bx rw w E){g e n n':Nat}{cs cs':List A}{y:Value}{xs':List Value}{b:Nat}(hg:rw[g]?=some (.live e 0 n cs))(hy:E.ρ[g]?=some y)(hb:blk y=some b)(kp:Keeps [b] w w')(hown:owR w' e 0 y n' xs')(hr:A.repC cs' E.per xs') :
  Hp w0 C0 β0 bx (rw.set g (.live e 0 n' cs')) w' E:=by
 have hgl:=(xtw5.1 hg).1;obtain⟨hbn,hbC⟩:=h.rC g e 0 n cs y b hg hy hb
 have part:∀(j e1 k1 n1:Nat) (cs1:List A),(rw.set g (.live e 0 n' cs'))[j]?=some (.live e1 k1 n1 cs1)->∃n2 cs2,rw[j]?=some (.live e1 k1 n2 cs2):=fun j e1 k1 n1 cs1 h2=>by
  by_cases hj:g=j
  ·subst hj;rw[xtw35 hgl] at h2;cases h2;exact⟨n,cs,hg⟩
  ·rw[xtw39 hj] at h2;exact⟨n1,cs1,h2⟩
 refine⟨fun ad v hc=>kp.cell (h.sub ad v hc) (fun hm=>?_),h.base,h.fresh,h.bp,h.bnd,h.bC,h.bl,fun i b' cs2 h2 h3=>?_,by simpa using h.rl,fun j r z h2 h3=>?_,fun j e1 k1 n1 cs1 z b' h2 h3 h4=>?_,fun j e1 k1 n1 cs1 z j' e2 k2 n2 cs2 z' b' hne h2 h3 h4 h5 h6=>?_,h.rs,?_,h.gk⟩
 ·simp at hm;have hn:=hbC ad.off ad.spot;rw[<- hm] at hn;have:E.C ad=none:=hn;rw[this] at hc;cases hc
 ·refine(h.bxs i b' cs2 h2 h3).same (kp.block b' (h.blt (xtw20.2 ⟨i,h2⟩)) (fun hm=>?_));simp at hm;subst hm;exact hbn (xtw20.2 ⟨i,h2⟩)
 ·by_cases hj:g=j
  ·subst hj;rw[xtw35 hgl] at h2;cases h2;obtain rfl:=xtw43 (h3.symm.trans hy);obtain⟨xs,k1,k2⟩:=h.rws g _ _ hg hy;exact⟨xs',⟨hown,k1.2⟩,hr⟩
  ·rw[xtw39 hj] at h2;refine(h.rws j r z h2 h3).mono (Env.le.refl E) (fun e1 k1 n1 cs1 hr b' hb'=>?_);subst hr;refine kp.block b' (h.rlt h2 h3 hb').2 (fun hm=>?_);simp at hm;subst hm;exact h.rd g e 0 n cs y j e1 k1 n1 cs1 z b' hj hg hy h2 h3 hb hb'
 ·obtain⟨n2,cs2,h7⟩:=part j e1 k1 n1 cs1 h2;exact h.rC j e1 k1 n2 cs2 z b' h7 h3 h4
 ·obtain⟨n3,cs3,h7⟩:=part j e1 k1 n1 cs1 h2;obtain⟨n4,cs4,h8⟩:=part j' e2 k2 n2 cs2 h4;exact h.rd j e1 k1 n3 cs3 z j' e2 k2 n4 cs4 z' b' hne h7 h3 h8 h5 h6
 ·refine h.keep.step kp (fun b' hb'=>?_);simp at hb';subst hb'
  exact(h.rlt hg hy hb).1.elim .inr fun hx=>.inl (xtw64 _ hx)
theorem jdk(w:World)(b:Nat)(ob:Obj):Keeps [b] w { w with heap:=w.heap.setIfInBounds b ob }:=⟨rfl,rfl,rfl,by simp,fun k hk hn=>by
 have:b≠k:=fun e=>hn (by simp[e])
 simp[xtw87 this]⟩
theorem jlr{v:Value}(h:(∃b,v=.string b)∨∃k n,v=.int k n)(m:Nat):Instr.sameBits m v v=true:=by
 rcases h with ⟨b,rfl⟩|⟨k,n,rfl⟩
 ·have e:(b==b)=true:=by rw[jcW];simp
  cases m <;> simp[Instr.sameBits,e]
 ·have e:(k==k)=true:=by cases k <;> rfl
  cases m <;> simp[Instr.sameBits,e]
theorem jdh{t:TypeId}{m k x:Operand}{K:A->S->Prop}(hT:Tab.ok P T)(hp:Hp w0 C0 β0 s.bx s.rw w E)(ht:A.repL s.t E a.tmps.toList)(ho:o.op=.insert t m k x∨o.op=.mapUpdate t m k x)(h:ja2 T s t (ev s m) (ev s k) (ev s x) K) :
  ∃w' rw',(execOp a.eval o).run P w=.ok .skip w'/\K .dead ⟨s.t,s.bx,rw'⟩/\Hp w0 C0 β0 s.bx rw' w' E:=by
 unfold ja2 at h;split at h
 ·rename_i g hev;have hm:=jS ht m;rw[hev] at hm;unfold A.rep at hm;split at h
  ·rename_i e z n cs hg;split at h
   ·split at h
    ·rename_i f ks f' vs;split at h
     ·rename_i key hek;split at h
      ·rename_i kt et zz bb htab;split at h
       ·rename_i st hst;split at h
        ·rename_i hrf;rw[force_iff] at h;obtain⟨r,es,c,us,e1,hr,hn,hst2,h2,hks,hvs⟩:=jac hp hg hm;obtain⟨hk,okk⟩:=kW ht hek;have hu:=hT.map htab;obtain⟨d,hd,hkd⟩:=jbd hT hst;have hxr:=jS ht x
         have hxp:(ev s x).rep E.per (a.eval x):=by
          have:=lF (nb:=0) (nr:=0) _ hrf hxr;simpa [Env.per] using this
         subst h2;obtain⟨res,ks',vs',n',hK,hf,hres⟩:=jgh hkd hxp okk 0 hks hvs h;obtain⟨-,hK⟩:=kD hK;rw[wQ] at hK
         have hck:∀b,(Instr.checkKey b 10000 kt key).run P w=.ok () w:=fun b=>jfJ hkd hd b 9999
         have hgo:(getObj r).run P w=.ok (.map es c) w:=by simp[getObj,Sem.run,hr]
         have hfk:(Instr.findKey kt key es.toList).run P w=.ok res w:=by simp[Instr.findKey,run_underlying hd,hf]
         have hrl:r<w.heap.size:=(xtw27.1 hr).1
         have fin:∀es' c',(Instr.mapUpdate t (.map (some r)) key (a.eval x)).run P w=.ok () { w with heap:=w.heap.setIfInBounds r (.map es' c') }->n'=es'.size->fQ es' c'->A.repL ks' E.per (es'.toList.map (·.key))->A.repL vs' E.per (es'.toList.map (·.val))->∃w' rw',(execOp a.eval o).run P w=.ok .skip w'/\K .dead ⟨s.t,s.bx,rw'⟩/\Hp w0 C0 β0 s.bx rw' w' E:=fun es' c' q1 q2 q3 q4 q5=>by
          refine⟨_,_,?_,hK,hp.turnRow hg hm (b:=r) (by rw[e1];rfl) (jdk w r (.map es' c')) (.inr ⟨rfl,.inl ⟨r,es',c',e1,by simp[hrl],q2,q3,rfl⟩⟩) (yF (lW q4) rfl (yF (lW q5) rfl sI))⟩;rcases ho with ho|ho
          ·simp[execOp,ho,e1,hk,q1,Result.andThen]
          ·simp[execOp,ho,e1,hk,q1,Result.andThen]
         rcases hres with ⟨rfl,rfl,g1,g2⟩|⟨j,en,rfl,g1,g2,hkk,rfl,g3,g4⟩
         ·refine fin (es.push { key:=key,val:=a.eval x,born:=c }) (c+1) ?_ (by rw[hn];simp) ⟨by rw[hst2.1];simp,fun i e2 he=>?_⟩ (by simpa using g1) (by simpa using g2)
          ·simp[Instr.mapUpdate,run_underlying hu,hgo,hck,hfk,Result.andThen,setObj,Sem.run,hr]
          ·by_cases hi:i<es.size
           ·rw[Array.getElem?_push_lt hi] at he;exact hst2.2 i e2 (by rw[xtw62 hi];exact he)
           ·have hil:=(xtw27.1 he).1
            have:i=es.size:=by simp at hil;omega
            subst this;simp at he;rw[<- he];exact hst2.1
         ·have hjs:es[j]?=some en:=by simpa using g1
          have hjl:=(xtw27.1 hjs).1;refine fin (es.modify j fun e=>{ e with key:=key,val:=a.eval x }) c ?_ (by rw[hn];simp) ⟨by rw[hst2.1];simp,fun i e2 he=>?_⟩ ?_ ?_
          ·have hb:=jlr hkk 10000;simp[Instr.mapUpdate,run_underlying hu,hgo,hck,hfk,Result.andThen,setObj,Sem.run,hr,hjs,Instr.keyThatStays,g2,hb]
          ·rw[xtw94] at he;split at he
           ·rename_i hij;subst hij;rw[hjs] at he;simp at he;rw[<- he];exact hst2.2 j en hjs
           ·exact hst2.2 i e2 he
          ·have:(es.modify j fun e=>{ e with key:=key,val:=a.eval x }).toList.map (·.key)=es.toList.map (·.key):=by
            apply xtw75;intro i;simp only[xtw48,xtw103,xtw94];split
            ·rename_i hij;subst hij;simp[hjs,g2]
            ·rfl
           rw[this];exact g3
          ·have:(es.modify j fun e=>{ e with key:=key,val:=a.eval x }).toList.map (·.val)=(es.toList.map (·.val)).set j (a.eval x):=by
            apply xtw75;intro i;simp only[xtw48,xtw103,xtw94,xtw86];split
            ·rename_i hij;subst hij;simp[hjs,hjl]
            ·rfl
           rw[this];exact g4
        ·exact h.elim
       ·exact h.elim
      ·exact h.elim
     ·exact h.elim
    ·exact h.elim
   ·exact h.elim
  ·exact h.elim
 ·exact h.elim
end
def jhS(T:List (Nat×Te))(s:S)(t:Nat)(x:A)(K:A->S->Prop):Prop :=
 match x with
 |.mp ks vs=>match Tab.get T t with
  |some ⟨.map _ _,_,_⟩=>match Nat.ble ks.length 1000000 with
   |true=>cD s.rw (.live 0 0 0 [.mp ks vs,.clo 0 [],.v (.int .i64 (ks.length:Int))]) 0 fun g rw=>cG s rw (K (.own g))
   |false=>False
  |_=>False
 |_=>False
def jlU(s:S)(x:A)(K:A->S->Prop):Prop :=
 match x with
 |.own g=>match s.rw[g]? with
  |some (.live e z n cs)=>match z with
   |0=>match cs with
    |[.mp ks vs,.clo _ sn,.v (.int _ m)]=>m=(ks.length:Int)/\(∀x∈sn,∃u,x=A.v u)/\((∀j:Nat,j<ks.length->A.v (.int .i64 (j:Int))∈sn)->K (.tup [.v (.bool false)]) s) ∧
     ∀j:Nat,j<ks.length->A.v (.int .i64 (j:Int))∉sn->cM s.rw g (.live e 0 (n+1) [.mp ks vs,.clo 0 (.v (.int .i64 (j:Int))::sn),.v (.int .i64 m)]) fun rw=>cG s rw (K (.tup [.v (.bool true),.v (ks.getD j undef),vs.getD j .dead]))
    |_=>False
   |_+1=>False
  |_=>False
 |_=>False
def jhQ(s:S)(x:A)(K:A->Prop):Prop :=
 match x with
 |.own g=>match s.rw[g]? with
  |some (.live e z n cs)=>match z with
   |0=>match cs with
    |[.mp ks vs,.clo _ (.v (.int _ j)::_),.v (.int _ m)]=>(m=(ks.length:Int)/\0<=j/\j<(ks.length:Int))/\K (.tup [.v (ks.getD j.toNat undef),vs.getD j.toNat .dead])
    |_=>False
   |_+1=>False
  |_=>False
 |_=>False
section
variable{P:Program}{T:List (Nat×Te)}{w0:W0}{w:World}{C0:Rd}{β0:List Nat}{s:S}{a:Act}{E:Env}{o:Oper}
theorem jiU(w:World)(ty:TypeId)(r bm since c:Nat)(seen:Array Nat)(es:Array MapEntry)(hr:w.heap[r]?=some (.mapIter (some bm) since seen since))(hb:w.heap[bm]?=some (.map es c))(hst:fQ es c)(hs:since=es.size) :
  ((∀j,j<es.size->seen.contains j=true)/\(Instr.next (.pointer (some ⟨r,0,none⟩)) false ty).run P w=.ok (.tuple #[.bool false]) w) ∨
  ∃(j:Nat) (e:MapEntry) (w1:World),es[j]?=some e/\seen.contains j=false/\(w1=w∨w1=w.drew)/\(Instr.next (.pointer (some ⟨r,0,none⟩)) false ty).run P w=.ok (.tuple #[.bool true,e.key,e.val]) { w1 with heap:=w1.heap.setIfInBounds r (.mapIter (some bm) since (seen.push j) since) }:=by
 have hc:c=since:=by rw[hs];exact hst.1
 have hold:∀x∈es.toList,x.born<since:=fun x hx=>by
  obtain⟨i,hi,rfl⟩:=xtw67.1 hx;have:=hst.2 i _ (by rw[xtw62 (by simpa using hi)]);simp at this hi ⊢;omega
 simp only[Instr.next,getObj,Sem.run_bind,Sem.run,hr,hb,Result.andThen,next_test_false seen es since since hold (xtw11 _),Bool.false_eq_true,if_false]
 have hL:∀x,x∈(Array.filter (fun e => !seen.contains e.born) es).toList↔x∈es.toList/\seen.contains x.born=false:=fun x=>by simp
 have hmem:∀x∈(Array.filter (fun e => !seen.contains e.born) es).toList,x.born<since:=fun x hx=>hold x ((hL x).1 hx).1
 generalize Array.filter (fun e => !seen.contains e.born) es=L at hmem hL ⊢;have e1:L.filter (fun x=>decide (x.born<since))=L:=Array.filter_eq_self.2 (fun x hx=>by simpa using hmem x (by simpa using hx))
 have e2:L.filter (fun x=>decide (x.born≥since)) = #[]:=by
  rw[Array.filter_eq_empty_iff];intro x hx;have:=hmem x (by simpa using hx);simp;omega
 simp only[e1,e2,Array.append_empty];by_cases h0:L.size=0
 ·left;have:L = #[]:=Array.eq_empty_of_size_eq_zero h0;subst this;refine⟨fun j hj=>?_,by simp[choose,Sem.run,Question.forced]⟩
  cases hcn:seen.contains j with
  |true=>rfl
  |false =>
   have hb:=hst.2 j es[j] (xtw62 hj);have:=(hL es[j]).2 ⟨by simp,by rw[hb];exact hcn⟩;simp at this
 ·right
  have hne:L.isEmpty=false:=by simp[Array.isEmpty,h0]
  simp only[hne,Bool.false_eq_true,if_false,Array.empty_append,Array.size_map]
  have hch:∃(j:Nat) (w1:World),j<L.size/\(w1=w∨w1=w.drew)/\(choose (Question.mapNext L.size)).run P w=.ok j w1:=by
   by_cases hf:L.size<=1
   ·exact⟨0,w,by omega,.inl rfl,by simp[choose,Sem.run,Question.forced,hf]⟩
   ·exact⟨_,w.drew,Nat.mod_lt _ (by omega),.inr rfl,by
     simp only[choose,Sem.run,Question.forced,xtw17,hf,if_false,Question.cut]
     rfl⟩
  obtain⟨j,w1,hj,hal,hrun⟩:=hch;have hLj:=(hL L[j]).1 (by simp);obtain⟨i,hi,hie⟩:=xtw67.1 hLj.1
  have hei:es[i]?=some L[j]:=by rw[xtw62 (by simpa using hi)];simpa using hie
  have hbi:=hst.2 i _ hei;refine⟨i,L[j],w1,hei,by rw[<- hbi];exact hLj.2,hal,?_⟩
  have hw1:w1.heap=w.heap:=by rcases hal with rfl|rfl <;> rfl
  have hset:∀o',(setObj r o').run P w1=.ok () { w1 with heap:=w1.heap.setIfInBounds r o' }:=fun o'=>by
   simp only[setObj,Sem.run,hw1,hr]
  simp only[hrun,Array.getElem?_map,xtw62 hj,xtw85,Sem.run_bind,hset,Result.andThen,hbi,hc];rfl
theorem jgK{e n f:Nat}{ks:List Value}{vs sn:List A}{k:IntKind}{m:Int}{y:Value}{g:Nat}(hp:Hp w0 C0 β0 s.bx s.rw w E)(hg:s.rw[g]?=some (.live e 0 n [.mp ks vs,.clo f sn,.v (.int k m)]))(hy:E.ρ[g]?=some y) :
  ∃(r bm since c:Nat) (seen:Array Nat) (es:Array MapEntry) (us:List Value),y=.pointer (some ⟨r,0,none⟩)/\w.heap[r]?=some (.mapIter (some bm) since seen since)/\n=seen.size/\A.repL sn E.per (seen.toList.reverse.map fun i:Nat=>Value.int .i64 (i:Int))/\(Value.int k m=.int .i64 (since:Int)/\fX (.int k m)) ∧
   w.heap[bm]?=some (.map es c)/\es.toList.map (·.key)=ks/\es.toList.map (·.val)=us/\fQ es c/\vs.length=ks.length/\A.repL vs E.per us/\(∀k∈ks,fX k)/\(A.mp ks vs).rep E.per (.map (some bm)):=by
 obtain⟨xs,⟨ho,_⟩,hr⟩:=hp.rws g _ y hg hy;unfold A.repC at hr;obtain⟨u1,us1,rfl,-,r1,hr⟩:=hr;unfold A.repC at hr;obtain⟨u2,us2,rfl,-,r2,hr⟩:=hr;unfold A.repC at hr;obtain⟨u3,us3,rfl,-,r3,hr⟩:=hr;unfold A.repC at hr;subst hr;have r1':=r1;unfold A.rep at r1 r2;obtain⟨rr,us,rfl,hC,hlen,hvs,hok⟩:=r1;obtain⟨k2,rfl,q2⟩:=r2;obtain⟨rfl,ok3⟩:=A.rep_v_iff.1 r3;rcases ho with ⟨h,_⟩|⟨_,⟨r,es,c,h1,h2,h3,h4,h5⟩|⟨_,_,h⟩|⟨r,m',seen,since,h1,h2,h3,h4⟩|⟨b,_,h,_⟩⟩
 ·exact absurd rfl h
 ·cases h5
 ·cases h
 ·simp only[xtw74,Value.map.injEq,xtw76,and_true,fnV,Value.func.injEq] at h4;obtain⟨e1,e2,e3⟩:=h4;subst e1;obtain⟨es,c,hr,g1,g2,g3⟩:=jai (hp.sub _ _ hC);refine⟨r,rr,since,c,seen,es,us,h1,h2,h3,?_,⟨e3,ok3⟩,hr,g1,g2,g3,hlen,hvs,hok,r1'⟩;have:=e2.2.2;rw[this] at q2;simpa using q2
 ·cases h
theorem jnT{sn:List A}{F:Env}{seen:List Nat}(h:A.repL sn F (seen.map fun i:Nat=>Value.int .i64 (i:Int)))(hv:True)(j:Nat)(hj:A.v (.int .i64 (j:Int))∈sn):j∈seen:=by
 induction sn generalizing seen with
 |nil=>cases hj
 |cons x sn ih =>
  unfold A.repL at h;obtain⟨u,us',e,h1,h2⟩:=h
  cases seen with
  |nil=>simp at e
  |cons i seen =>
   simp only[xtw22,xtw74] at e;obtain⟨rfl,rfl⟩:=e;rcases xtw13.1 hj with rfl|hj
   ·have:=(A.rep_v_iff.1 h1).1;simp at this;rw[xtw13];exact .inl (by omega)
   ·exact xtw25 _ (ih h2 hj)
theorem jlt{sn:List A}{F:Env}{seen:List Nat}(h:A.repL sn F (seen.map fun i:Nat=>Value.int .i64 (i:Int)))(hs:∀x∈sn,∃v,x=A.v v)(j:Nat)(hj:j∈seen):A.v (.int .i64 (j:Int))∈sn:=by
 induction sn generalizing seen with
 |nil =>
  unfold A.repL at h
  cases seen with
  |nil=>cases hj
  |cons i seen=>simp at h
 |cons x sn ih =>
  unfold A.repL at h;obtain⟨u,us',e,h1,h2⟩:=h
  cases seen with
  |nil=>cases hj
  |cons i seen =>
   simp only[xtw22,xtw74] at e;obtain⟨rfl,rfl⟩:=e;rcases xtw13.1 hj with rfl|hj
   ·obtain⟨v,rfl⟩:=hs x (by simp);have:=(A.rep_v_iff.1 h1).1;rw[<- this];simp
   ·exact xtw25 _ (ih h2 (fun y hy=>hs y (xtw25 _ hy)) hj)
theorem jov{F:Env}{x1 x2:A}{y1 y2:Value}(h1:x1.rep F y1)(h2:x2.rep F y2):(A.tup [x1,x2]).rep F (.tuple #[y1,y2]):=by
 unfold A.rep;refine⟨_,rfl,?_⟩;simp only[A.repL];exact⟨_,_,rfl,h1,_,_,rfl,h2,rfl⟩
theorem jgn{ks:List Value}{es:Array MapEntry}{en:MapEntry}{j:Nat}(h:es.toList.map (·.key)=ks)(hj:es[j]?=some en):ks.getD j undef=en.key:=by
 subst h;simp[xtw9,hj]
theorem jpo{x:Operand}{K:A->S->Prop}(hp:Hp w0 C0 β0 s.bx s.rw w E)(ht:A.repL s.t E a.tmps.toList)(ho:o.op=.next x false)(h:jlU s (ev s x) K) :
  ∃y w' r s',(execOp a.eval o).run P w=.ok (.value y) w'/\K r s'/\s'.t=s.t/\Hp w0 C0 β0 s'.bx s'.rw w' E/\r.rep E y:=by
 unfold jlU at h;split at h
 ·rename_i g hev;have hx:=jS ht x;rw[hev] at hx;unfold A.rep at hx;split at h
  ·rename_i e z n cs hg;split at h
   ·split at h
    ·rename_i ks vs f sn k m;obtain⟨hm,hsn,h1,h2⟩:=h;obtain⟨r,bm,since,c,seen,es,us,e1,hr,hn,hseen,⟨e3,ok3⟩,hb,g1,g2,hst,hlen,hvs,hok,hmp⟩:=jgK hp hg hx
     have hes:es.size=ks.length:=by rw[<- g1];simp
     obtain⟨rfl,hms⟩:k=.i64/\m=(since:Int):=by
      simp only[Value.int.injEq] at e3;exact⟨e3.1,e3.2⟩
     have hs:since=es.size:=by omega
     rcases jiU (P:=P) w o.type r bm since c seen es hr hb hst hs with ⟨q1,q2⟩|⟨j,en,w1,q1,q2,q3,q4⟩
     ·refine⟨.tuple #[.bool false],w,_,s,by simp[execOp,ho,e1,q2,Result.andThen],h1 fun j hj=>?_,rfl,hp,?_⟩
      ·refine jlt hseen hsn j ?_;have:=q1 j (by omega);simpa using this
      ·unfold A.rep;refine⟨_,rfl,?_⟩;simp only[A.repL];exact⟨_,_,rfl,A.rep_v trivial,rfl⟩
     ·have hjl:=(xtw27.1 q1).1
      have hj:j<ks.length:=by omega
      have hns:A.v (.int .i64 (j:Int))∉sn:=fun hm2=>by
       have:=jnT hseen trivial j hm2
       have hc2:seen.contains j=true:=by simpa using this
       rw[q2] at hc2;cases hc2
      have hK:=h2 j hj hns;obtain⟨-,hK⟩:=kD hK;rw[wQ] at hK
      have hw1:Hp w0 C0 β0 s.bx s.rw w1 E/\w1.heap=w.heap:=by
       rcases q3 with rfl|rfl
       ·exact⟨hp,rfl⟩
       ·exact⟨hp.ext (Ext.refl w).drew,rfl⟩
      have hokj:fX (.int .i64 (j:Int)):=by
       have h64:lo .i64 = -9223372036854775808/\hi .i64=9223372036854775807:=⟨rfl,rfl⟩
       rw[okV_int] at ok3 ⊢;omega
      have hrl:r<w1.heap.size:=by rw[hw1.2];exact(xtw27.1 hr).1
      have hu:us[j]?=some en.val:=by rw[<- g2];simp[q1]
      refine⟨.tuple #[.bool true,en.key,en.val],{ w1 with heap:=w1.heap.setIfInBounds r (.mapIter (some bm) since (seen.push j) since) },_,_,by simp[execOp,ho,e1,q4,Result.andThen],hK,rfl,?_,?_⟩
      ·refine hw1.1.turnRow hg hx (b:=r) (by rw[e1];rfl) (jdk w1 r _) (.inr ⟨rfl,.inr (.inr (.inl ⟨r,bm,seen.push j,since,e1,by simp[hrl],by rw[hn];simp,rfl⟩))⟩) ?_;refine yF hmp rfl (yF ?_ rfl (yF (by rw[<- e3];exact A.rep_v ok3) rfl sI))
       have e9:(seen.push j).toList.reverse.map (fun i:Nat=>Value.int .i64 (i:Int))=.int .i64 (j:Int)::seen.toList.reverse.map (fun i:Nat=>Value.int .i64 (i:Int)):=by simp
       rw[e9];refine lW ?_;unfold A.repL;exact⟨_,_,rfl,A.rep_v hokj,hseen⟩
      ·rw[jgn g1 q1];unfold A.rep;refine⟨_,rfl,?_⟩;simp only[A.repL];refine⟨_,_,rfl,A.rep_v trivial,_,_,rfl,A.rep_v (hok _ ?_),_,_,rfl,?_,rfl⟩
       ·rw[<- g1];exact xtw60.2 ⟨en,by rw[Array.mem_toList_iff];exact Array.mem_of_getElem? q1,rfl⟩
       ·have:=A.repL_getD hvs j undef
        have e9:us.getD j undef=en.val:=by simp[xtw9,hu]
        rw[e9] at this;exact A.rep.mono _ E.per_le this
    ·exact h.elim
   ·exact h.elim
  ·exact h.elim
 ·exact h.elim
theorem ji9{es:Array MapEntry}{c j:Nat}{en:MapEntry}(hst:fQ es c)(hj:es[j]?=some en):es.find? (fun e=>e.born==j)=some en:=by
 obtain⟨hjl,hje⟩:=xtw27.1 hj;have hbj:en.born=j:=hst.2 j en hj;rw[<- Array.find?_toList,List.find?_eq_some_iff_getElem];refine⟨by simp[hbj],j,by simpa using hjl,by simpa using hje,fun i hi=>?_⟩;have:=hst.2 i es[i] (xtw62 (by omega));simp[this];omega
theorem jmw{x:Operand}{K:A->Prop}(hp:Hp w0 C0 β0 s.bx s.rw w E)(ht:A.repL s.t E a.tmps.toList)(ho:o.op=.entry x)(h:jhQ s (ev s x) K) :
  ∃r y,K r/\r.rep E y/\(execOp a.eval o).run P w=.ok (.value y) w:=by
 unfold jhQ at h;split at h
 ·rename_i g hev;have hx:=jS ht x;rw[hev] at hx;unfold A.rep at hx;split at h
  ·rename_i e z n cs hg;split at h
   ·split at h
    ·rename_i ks vs f kj j sn k m;obtain⟨⟨hm,hj0,hjm⟩,h⟩:=h;obtain⟨r,bm,since,c,seen,es,us,e1,hr,hn,hseen,⟨e3,ok3⟩,hb,g1,g2,hst,hlen,hvs,hok,hmp⟩:=jgK hp hg hx
     have hes:es.size=ks.length:=by rw[<- g1];simp
     have hms:m=(since:Int):=by
      simp only[Value.int.injEq] at e3;exact e3.2
     have hs:since=es.size:=by omega
     have hc:c=since:=by rw[hs];exact hst.1
     unfold A.repL at hseen;obtain⟨u,us',hsl,hj,-⟩:=hseen;have hjv:=(A.rep_v_iff.1 hj).1
     obtain⟨i,hi⟩:∃i,seen.back?=some i/\u=.int .i64 (i:Int):=by
      cases hrev:seen.toList.reverse with
      |nil=>rw[hrev] at hsl;simp at hsl
      |cons i l =>
       rw[hrev] at hsl;simp only[xtw22,xtw74] at hsl;refine⟨i,?_,hsl.1.symm⟩
       have e9:seen.toList=l.reverse++[i]:=by rw[<- List.reverse_reverse seen.toList,hrev];simp
       rw[<- Array.getLast?_toList,e9];simp
     obtain⟨hi,rfl⟩:=hi
     have hij:kj=.i64/\j=(i:Int):=by
      simp only[Value.int.injEq] at hjv;exact⟨hjv.1.symm,hjv.2.symm⟩
     obtain⟨rfl,rfl⟩:=hij
     have hil:i<es.size:=by omega
     ·have hei:es[i]?=some es[i]:=xtw62 hil;refine⟨_,.tuple #[es[i].key,es[i].val],h,?_,?_⟩
      ·rw[show((i:Int)).toNat=i from by simp,jgn g1 hei]
       have hu:us[i]?=some es[i].val:=by rw[<- g2];simp[hil]
       refine jov (A.rep_v (hok _ ?_)) ?_
       ·rw[<- g1];exact xtw60.2 ⟨es[i],by simp,rfl⟩
       ·have:=A.repL_getD hvs i undef
        have e9:us.getD i undef=es[i].val:=by simp[xtw9,hu]
        rw[e9] at this;exact A.rep.mono _ E.per_le this
      ·have hf:=ji9 hst hei;simp only[execOp,ho,e1,Instr.entry,getObj,Sem.run_bind,Sem.run,hr,hb,Result.andThen,hi,hc,bne_self_eq_false,Bool.false_eq_true,if_false,hf];rfl
    ·exact h.elim
   ·exact h.elim
  ·exact h.elim
 ·exact h.elim
theorem jnv{t:TypeId}{x:Operand}{Xr:Nat->Bool}{K:A->S->Prop}(hT:Tab.ok P T)(hp:Hp w0 C0 β0 s.bx s.rw w E)(ht:A.repL s.t E a.tmps.toList)(ho:o.op=.range t x)(h:jhS T s t (ev s x) K) :
  ∃y w',(execOp a.eval o).run P w=.ok (.value y) w'/\Left w0 C0 β0 Xr s E w K y w':=by
 unfold jhS at h;split at h
 ·rename_i ks vs hev;have hx:=jS ht x;rw[hev] at hx;split at h
  ·rename_i kt et z b htab;split at h
   ·rename_i hle;rw[kU,wQ] at h;have hx':=hx;unfold A.rep at hx;obtain⟨r,us,hx,hC,hlen,hvs,hok⟩:=hx;obtain⟨es,c,hr,g1,g2,hst⟩:=jai (hp.sub _ _ hC)
    have hes:es.size=ks.length:=by rw[<- g1];simp
    have hE:Ext w (w.alloc (.mapIter (some r) c #[] c)):=(Ext.refl w).alloc _;have hp1:=hp.ext hE
    have hc:c=ks.length:=by rw[<- hes];exact hst.1
    have hmp:(A.mp ks vs).rep E.per (.map (some r)):=by
     rw[hx] at hx';unfold A.rep at hx' ⊢;exact hx'
    have hle':ks.length<=1000000:=xtw95 hle
    have hki:fX (.int .i64 (ks.length:Int)):=by
     have h64:lo .i64 = -9223372036854775808/\hi .i64=9223372036854775807:=⟨rfl,rfl⟩
     rw[okV_int];omega
    have hadd:=hp1.addRow (e:=0) (k:=0) (n:=0) (y:=.pointer (some ⟨w.heap.size,0,none⟩)) (xs:=[.map (some r),fnV [],.int .i64 (ks.length:Int)]) (cs:=[.mp ks vs,.clo 0 [],.v (.int .i64 (ks.length:Int))])
     (.inr ⟨rfl,.inr (.inr (.inl ⟨w.heap.size,r,#[],c,rfl,heap_alloc_new w _,rfl,by rw[hc];rfl⟩))⟩)
     (yF hmp rfl (yF (lW (by simp[A.repL])) rfl (yF (A.rep_v hki) rfl sI))) (fun b hb=>by cases hb;exact .inl hp.keep.size) (fun b hb=>by
      cases hb;refine⟨hp.bnew,hp.cnone,fun g e' k' n' cs' z h1 h2 h3=>?_⟩
      exact absurd (hp.rlt h1 h2 h3).2 (Nat.lt_irrefl _))
    have hu:=hT.map htab;refine⟨.pointer (some ⟨w.heap.size,0,none⟩),w.alloc (.mapIter (some r) c #[] c),?_,⟨_,_,_,h,rfl,hadd.2,hadd.1,?_,fun _ b hb _=>(Keeps.of_ext hE).block b hb (by simp),(Keeps.of_ext hE).size⟩⟩
    ·have:=run_range_map (P:=P) w t kt et r es c hu hr;simp[execOp,ho,hx,this,Result.andThen]
    ·unfold A.rep;rw[xtw41,hp.rl];simp
   ·exact h.elim
  ·exact h.elim
 ·exact h.elim
end
def jqn(T:List (Nat×Te))(s:S)(t t':Nat)(g:Nat)(y:A)(K:A->S->Prop):Prop:=False
def jlX(s:S)(x:A)(K:A->Prop):Prop:=False
def jqq(T:List (Nat×Te))(s:S)(ts:List Nat)(x l:A)(K:A->Prop):Prop:=False
section
variable{P:Program}{T:List (Nat×Te)}{w0:W0}{w:World}{C0:Rd}{β0:List Nat}{s:S}{a:Act}{E:Env}{o:Oper}
theorem joN{args:Array Operand}{ts:Array TypeId}{x y:Operand}{t t':TypeId}{g:Nat}{K:A->S->Prop}(hT:Tab.ok P T)(hp:Hp w0 C0 β0 s.bx s.rw w E)(ht:A.repL s.t E a.tmps.toList)
  (ha:args.toList=[x,y]) (hts:ts.toList=[t,t']) (ho:o.op=.call ⟨.builtin .append,args,ts⟩) (hev:ev s x=.own g) (h:jqn T s t t' g (ev s y) K) :
  ∃v w' r s' E',(execOp a.eval o).run P w=.ok (.value v) w'/\K r s'/\s'.t=s.t/\E.le E'/\Hp w0 C0 β0 s'.bx s'.rw w' E'/\r.rep E' v:=False.elim h
theorem jnS{args:Array Operand}{ts:Array TypeId}{x:Operand}{K:A->Prop}(hp:Hp w0 C0 β0 s.bx s.rw w E)(ht:A.repL s.t E a.tmps.toList)(ha:args.toList=[x])(ho:o.op=.call ⟨.builtin .unsafeSliceData,args,ts⟩)(h:jlX s (ev s x) K):xG P a o E K:=False.elim h
theorem jqa{args:Array Operand}{ts:Array TypeId}{x l:Operand}{K:A->Prop}(hT:Tab.ok P T)(hp:Hp w0 C0 β0 s.bx s.rw w E)(ht:A.repL s.t E a.tmps.toList)(ha:args.toList=[x,l])(ho:o.op=.call ⟨.builtin .unsafeString,args,ts⟩)(h:jqq T s ts.toList (ev s x) (ev s l) K) :
  ∃r y w',(execOp a.eval o).run P w=.ok (.value y) w'/\K r/\r.rep E y/\Hp w0 C0 β0 s.bx s.rw w' E:=False.elim h
end
end
section
structure Cx where
 P:Program
 T:List (Nat×Te)
 ord:Nat->Tr
 xs:Nat->List Nat
 np:Nat
 pan:List PanicEntry->S->Prop
structure Cx.ok(c:Cx):Prop where
 T:Tab.ok c.P c.T
 z:pX c.T
 m:c.P.follows .mixedOrders=true
def kZ(s:S)(dst:Option Nat)(r:A)(K:S->Prop):Prop :=
 match dst with
 |none=>K s
 |some d=>zT r fun r=>cM s.t d r fun t=>jhI s t K
def bP(ops:List Oper)(o:Oper)(s:S)(Ky Kn:Prop):Prop :=
 match o.guard with
 |none=>Ky
 |some (j,b)=>match ops[j]? with
  |some oj=>match oj.dst with
   |some d=>match s.t.getD d .dead with
    |.v (.bool c)=>match b with
     |true=>ifK c Ky Kn
     |false=>ifK c Kn Ky
    |.tup []=>Kn
    |_=>False
   |none=>False
  |none=>False
def jod(rw:List Row):A->A
 |.own g=>match rw[g]? with
  |some (.pub k n cs)=>.sl k n cs
  |_=>.own g
 |a=>a
def jes(c:Cx)(s:S)(t:Nat)(x:Operand)(l h m:Option Operand)(K:A->S->Prop):Prop :=
 match ev s x with
 |.own g=>j9 (jB s.rw [g]) fun rw'=>n8 (jod rw') s.t fun t'=>oR c.P c.T ⟨t',s.bx,rw'⟩ (.slice t x l h m) fun r=>K r ⟨s.t,s.bx,rw'⟩
 |_=>oR c.P c.T s (.slice t x l h m) fun r=>K r s
def jmQ(c:Cx)(s:S)(x:Operand)(l h m:Option Operand):Option (Nat×Operand) :=
 match c.xs 1000003 with
 |[k]=>match Nat.beq k 1000003 with
  |true=>match l,h,m with
   |none,some i,none=>match ev s x with
    |.own g=>some (g,i)
    |_=>none
   |_,_,_=>none
  |false=>none
 |_=>none
theorem jmR{c:Cx}{s:S}{x i:Operand}{l h m:Option Operand}{g:Nat}(e:jmQ c s x l h m=some (g,i)):ev s x=.own g/\l=none/\h=some i/\m=none:=by
 unfold jmQ at e;split at e
 ·split at e
  ·split at e
   ·split at e
    ·cases e;exact⟨by assumption,rfl,rfl,rfl⟩
    ·cases e
   ·cases e
  ·cases e
 ·cases e
def jmL(s:S)(x:A):Option Nat:=match x with
 |.own g=>match s.rw[g]? with
  |some (.live _ k _ _)=>match k with
   |0=>some g
   |_+1=>none
  |_=>none
 |_=>none
theorem jmM{s:S}{x:A}{g:Nat}(h:jmL s x=some g):x=.own g:=by
 unfold jmL at h;split at h
 ·split at h
  ·split at h
   ·cases h;rfl
   ·cases h
  ·cases h
 ·cases h
def ado(c:Cx)(Xr:Nat->Bool)(s:S)(o:Oper)(K:S->Prop):Prop :=
 match o.op with
 |.load t x=>m7 c.T (fun _=>false) s t x fun r=>kZ s o.dst r K
 |.store t x y=>jjv c.T s t x y fun r s'=>kZ s' o.dst r K
 |.alloc t=>nT c.P c.T c.pan Xr s (.alloc t) fun r s'=>kZ s' o.dst r K
 |.box t x=>nT c.P c.T c.pan Xr s (.box t x) fun r s'=>kZ s' o.dst r K
 |.buildSlice t n ps=>nT c.P c.T c.pan Xr s (.buildSlice t n ps) fun r s'=>kZ s' o.dst r K
 |.makeSlice t l k=>nT c.P c.T c.pan Xr s (.makeSlice t l k) fun r s'=>kZ s' o.dst r K
 |.build t ps=>jaq c.T s t ps.toList fun r=>kZ s o.dst r K
 |.call ⟨.value f,args,ts⟩=>nT c.P c.T c.pan Xr s (.call ⟨.value f,args,ts⟩) fun r s'=>kZ s' o.dst r K
 |.call ⟨.builtin .append,args,ts⟩=>match args.toList with
  |[x,y]=>match ts.toList with
   |[t,t']=>match jmL s (ev s x) with
    |some g=>jqn c.T s t t' g (ev s y) fun r s'=>kZ s' o.dst r K
    |none=>ja1 c.T s t t' (ev s x) (ev s y) fun r s'=>kZ s' o.dst r K
   |_=>False
  |_=>False
 |.call ⟨.builtin .unsafeString,args,ts⟩=>match args.toList with
  |[x,y]=>jqq c.T s ts.toList (ev s x) (ev s y) fun r=>kZ s o.dst r K
  |_=>False
 |.makeMap t r=>jau s t r fun r s'=>kZ s' o.dst r K
 |.insert t m k x=>ja2 c.T s t (ev s m) (ev s k) (ev s x) fun r s'=>kZ s' o.dst r K
 |.mapUpdate t m k x=>ja2 c.T s t (ev s m) (ev s k) (ev s x) fun r s'=>kZ s' o.dst r K
 |.range t x=>jhS c.T s t (ev s x) fun r s'=>kZ s' o.dst r K
 |.next x st=>match st with
  |false=>jlU s (ev s x) fun r s'=>kZ s' o.dst r K
  |true=>False
 |.entry x=>jhQ s (ev s x) fun r=>kZ s o.dst r K
 |.convert src dst x=>match jrW c.T src dst with
  |true=>jlS c.T s src dst x fun r s'=>kZ s' o.dst r K
  |false=>jjo c.T s src dst x fun r s'=>kZ s' o.dst r K
 |.panic x=>match ev s x with
  |.v (.iface t y)=>c.pan [⟨.iface t y,false,false⟩] s
  |_=>False
 |.lookup t x k ok=>jjq c.T s t (ev s x) (ev s k) ok fun r=>kZ s o.dst r K
 |.slice t x l h m=>match jmQ c s x l h m with
  |some (g,i)=>jer c.T s t g (ev s i) fun r s'=>kZ s' o.dst r K
  |none=>jes c s t x l h m fun r s'=>kZ s' o.dst r K
 |op=>oR c.P c.T s op fun r=>kZ s o.dst r K
def jeo(c:Cx)(s:S)(o:Oper)(K:A->Prop):Prop :=
 match o.op with
 |.build t ps=>jaq c.T s t ps.toList K
 |.call ⟨.builtin .unsafeSliceData,args,ts⟩=>match args.toList with
  |[x]=>jlX s (ev s x) K
  |_=>False
 |op=>oR c.P c.T s op K
def vK(c:Cx)(Xr:Nat->Bool)(s:S)(o:Oper)(K:A->S->Prop):Prop :=
 match o.op with
 |.load t x=>m7 c.T (fun _=>false) s t x fun r=>K r s
 |.alloc t=>nT c.P c.T c.pan Xr s (.alloc t) K
 |.box t x=>nT c.P c.T c.pan Xr s (.box t x) K
 |.buildSlice t n ps=>nT c.P c.T c.pan Xr s (.buildSlice t n ps) K
 |.makeSlice t l k=>nT c.P c.T c.pan Xr s (.makeSlice t l k) K
 |.call ⟨.value f,args,ts⟩=>nT c.P c.T c.pan Xr s (.call ⟨.value f,args,ts⟩) K
 |.build t ps=>jaq c.T s t ps.toList fun r=>K r s
 |.convert src dst x=>jjo c.T s src dst x K
 |.lookup t x k ok=>jjq c.T s t (ev s x) (ev s k) ok fun r=>K r s
 |.slice t x l h m=>jes c s t x l h m K
 |op=>oR c.P c.T s op fun r=>K r s
section
variable{c:Cx}{dr:List (Nat×List A)}{w0:W0}{C0:Rd}{β0:List Nat}{s:S}{a:Act}{w:World}{E:Env}{o:Oper}
theorem wM(E:Env):(A.tup []).rep E undef:=by
 unfold A.rep;exact⟨#[],rfl,by simp[A.repL]⟩
theorem qZ{dst:Option Nat}{r:A}{y:Value}{K:S->Prop}(hp:Hp w0 C0 β0 s.bx s.rw w E)(ht:A.repL s.t E a.tmps.toList)(hd:repD dr E a.defers)(hr:r.rep E y)(h:kZ s dst r K) :
  ∃s',K s'/\s'.bx=s.bx/\s'.rw=s.rw/\A.repL s'.t E (a.put dst y).tmps.toList/\repD dr E (a.put dst y).defers:=by
 cases dst with
 |none=>exact⟨s,h,rfl,rfl,ht,hd⟩
 |some d =>
  unfold kZ at h
  simp only at h
  rw[force_iff] at h;obtain⟨_,h⟩:=kD h;rw[t8] at h;refine⟨_,h,rfl,rfl,?_,hd⟩;show A.repL (s.t.set d r) E (a.tmps.setIfInBounds d y).toList;rw[xtw91];exact A.repL_set ht d hr
theorem v7{ops:List Oper}{Ky Kn:Prop}(ht:A.repL s.t E a.tmps.toList)(h:bP ops o s Ky Kn) :
  (Region.wanted o (yielded ops.toArray a.tmps)=true/\Ky)∨(Region.wanted o (yielded ops.toArray a.tmps)=false/\Kn):=by
 unfold bP at h;split at h
 ·rename_i hg;exact .inl ⟨by simp[Region.wanted,hg],h⟩
 ·rename_i j b hg;split at h
  ·rename_i oj hoj;split at h
   ·rename_i d hdst;split at h
    ·rename_i c' hc;have hr:=A.repL_getD ht d undef;rw[hc] at hr;have hv:=(A.rep_v_iff.1 hr).1
     have hdl:a.tmps[d]?=some (.bool c'):=by
      cases ha:a.tmps[d]? with
      |none =>
       have:a.tmps.toList.getD d undef=undef:=by simp[xtw9,ha]
       rw[this] at hv;simp[undef] at hv
      |some v =>
       have:a.tmps.toList.getD d undef=v:=by simp[xtw9,ha]
       rw[this] at hv;rw[hv]
     have hw:Region.wanted o (yielded ops.toArray a.tmps)=(some c'==some b):=by
      simp[Region.wanted,hg,yielded,hoj,hdst,hdl]
     rw[hw]
     cases c' <;> cases b <;> first
      |exact .inl ⟨rfl,h⟩
      |exact .inr ⟨rfl,h⟩
    ·rename_i hc;have hr:=A.repL_getD ht d undef;rw[hc] at hr;unfold A.rep A.repL at hr;obtain⟨us,hv,hus⟩:=hr
     have hw:Region.wanted o (yielded ops.toArray a.tmps)=(none==some b):=by
      cases ha:a.tmps[d]? with
      |none=>simp[Region.wanted,hg,yielded,hoj,hdst,ha]
      |some v =>
       have e:a.tmps.toList.getD d undef=v:=by simp[xtw9,ha]
       rw[e] at hv;simp[Region.wanted,hg,yielded,hoj,hdst,ha,hv]
     rw[hw];exact .inr ⟨by cases b <;> rfl,h⟩
    ·exact h.elim
   ·exact h.elim
  ·exact h.elim
theorem jgR{K:A->Prop}(hc:c.ok)(hp:Hp w0 C0 β0 s.bx s.rw w E)(ht:A.repL s.t E a.tmps.toList)(h:jeo c s o K):xG c.P a o E K:=by
 unfold jeo at h;split at h
 ·rename_i t ps ho;exact jaB hc.T hc.z hp ht ho h
 ·rename_i args ts ho;split at h
  ·rename_i x hx;exact jnS hp ht hx ho h
  ·exact h.elim
 ·exact cY hc.T hp ht h
theorem joe{bx:List (List A)}{rw:List Row}(hp:Hp w0 C0 β0 bx rw w E){x:A}{y:Value}(h:x.rep E y):(jod rw x).rep E y:=by
 cases x with
 |own g =>
  unfold jod
  simp only
  split
  ·rename_i k n cs hg;unfold A.rep at h;exact hp.rws g _ y hg h
  ·exact h
 |_=>exact h
theorem je7{bx:List (List A)}{rw:List Row}(hp:Hp w0 C0 β0 bx rw w E):∀{l:List A} {us:List Value},A.repL l E us->A.repL (l.map (jod rw)) E us
 |[],us,h=>h
 |a::l,us,h=>by
  unfold A.repL at h;obtain⟨u,us',rfl,h1,h2⟩:=h;rw[xtw22];unfold A.repL;exact⟨u,us',rfl,joe hp h1,je7 hp h2⟩
theorem jlx{Xr:Nat->Bool}{K:A->S->Prop}{t:Nat}{x:Operand}{l h m:Option Operand}(hc:c.ok)(hp:Hp w0 C0 β0 s.bx s.rw w E)(ht:A.repL s.t E a.tmps.toList)(ho:o.op=.slice t x l h m)(hh:jes c s t x l h m K) :
  ∃y,(execOp a.eval o).run c.P w=.ok (.value y) w/\Left w0 C0 β0 Xr s E w K y w:=by
 unfold jes at hh;split at hh
 ·rename_i g hg;rw[qP,qN] at hh;obtain⟨C1,hp1,le1⟩:=hp.pubs [g];have ht1:=je7 (E:=⟨C1,E.β,E.ρ⟩) hp1 (A.repL.mono _ le1 ht);obtain⟨r,y,h1,h2,h3⟩:=cY (s:=⟨s.t.map (jod (jB s.rw [g])),s.bx,jB s.rw [g]⟩) hc.T hp1 ht1 (by rw[ho];exact hh);exact⟨y,h3 w,⟨r,_,_,h1,rfl,le1,hp1,h2,fun _=>Same.refl _ _ _,xtw11 _⟩⟩
 ·obtain⟨r,y,h1,h2,h3⟩:=cY hc.T hp ht (by rw[ho];exact hh);exact⟨y,h3 w,⟨r,s,E,h1,rfl,Env.le.refl E,hp,h2,fun _=>Same.refl _ _ _,xtw11 _⟩⟩
theorem rH{Xr:Nat->Bool}{K:A->S->Prop}{Kc:Act->World->Prop}{Q:Exit->Act->World->Prop}(hc:c.ok)(hp:Hp w0 C0 β0 s.bx s.rw w E)(ht:A.repL s.t E a.tmps.toList)(h:vK c Xr s o K)
  (hx:∀ch s' E' w',c.pan ch s'->s'.t=s.t->E.le E'->Hp w0 C0 β0 s'.bx s'.rw w' E'->Q (.panic ch) a w')
  (hk:∀y w',Left w0 C0 β0 Xr s E w K y w'->Kc (a.put o.dst y) w'):o.wp c.P a w Kc Q:=by
 have pure':xG c.P a o E (fun r=>K r s)->o.wp c.P a w Kc Q:=fun ⟨r,y,h1,h2,h3⟩=>by
  unfold Oper.wp;rw[h3];exact hk y w ⟨r,s,E,h1,rfl,Env.le.refl E,hp,h2,fun _=>Same.refl _ _ _,xtw11 _⟩
 unfold vK at h;split at h
 ·rename_i t x ho;obtain⟨r,y,h1,h2,h3⟩:=jk0 hc.T hp ht ho h;unfold Oper.wp;rw[h3 w (Same.refl _ _ _)];exact hk y w ⟨r,s,E,h1,rfl,Env.le.refl E,hp,h2,fun _=>Same.refl _ _ _,xtw11 _⟩
 ·rename_i t ho;exact rI hc.T hc.z hp ht (by rw[ho];exact h) hx hk
 ·rename_i t x ho;exact rI hc.T hc.z hp ht (by rw[ho];exact h) hx hk
 ·rename_i t n ps ho;exact rI hc.T hc.z hp ht (by rw[ho];exact h) hx hk
 ·rename_i t n ps ho;exact rI hc.T hc.z hp ht (by rw[ho];exact h) hx hk
 ·rename_i f args ts ho;exact rI hc.T hc.z hp ht (by rw[ho];exact h) hx hk
 ·rename_i t ps ho;exact pure' (jaB hc.T hc.z hp ht ho h)
 ·rename_i src dst x ho;exact joV hc.T hp ht ho h hk
 ·rename_i t x k ok ho;obtain⟨r,y,h1,h2,h3⟩:=jk1 hc.T hc.z hp ht ho h;unfold Oper.wp;rw[h3];exact hk y w ⟨r,s,E,h1,rfl,Env.le.refl E,hp,h2,fun _=>Same.refl _ _ _,xtw11 _⟩
 ·rename_i t x l hh m ho;obtain⟨y,h1,h2⟩:=jlx (Xr:=Xr) hc hp ht ho h;unfold Oper.wp;rw[h1];exact hk y w h2
 ·exact pure' (cY hc.T hp ht h)
theorem jfW{Xr:Nat->Bool}{K:S->Prop}{Kc:Act->World->Prop}{Q:Exit->Act->World->Prop}(hc:c.ok)(hdr:∃n,yP n dr=true)(hi:Inv dr w0 C0 β0 s a w)(h:ado c Xr s o K)(hx:∀ch s' a' w',c.pan ch s'->Inv dr w0 C0 β0 s' a' w'->Q (.panic ch) a' w')(hk:∀s' a' w',K s'->Inv dr w0 C0 β0 s' a' w'->Kc a' w'):o.wp c.P a w Kc Q:=by
 obtain⟨E,hp,ht,hd⟩:=hi;obtain⟨nd,hdr⟩:=hdr
 have hx':∀ch s' E' w',c.pan ch s'->s'.t=s.t->E.le E'->Hp w0 C0 β0 s'.bx s'.rw w' E'->Q (.panic ch) a w':=fun ch s' E' w' h1 h2 h3 h4=>hx ch s' a w' h1 ⟨E',h4,by rw[h2];exact A.repL.mono _ h3 ht,hd.mono h3⟩
 have calm:vK c Xr s o (fun r s'=>kZ s' o.dst r K)->o.wp c.P a w Kc Q:=fun h=>rH hc hp ht h hx' fun y w' ⟨⟨r,s',E',h1,h2,h3,h4,h5,_⟩⟩=>by
  obtain⟨s2,k1,k2,k3,k4,k5⟩:=qZ (a:=a) h4 (by rw[h2];exact A.repL.mono _ h3 ht) (hd.mono h3) h5 h1;exact hk s2 _ _ k1 ⟨E',by rw[k2,k3];exact h4,k4,k5⟩
 have pure':xG c.P a o E (fun r=>kZ s o.dst r K)->o.wp c.P a w Kc Q:=fun ⟨r,y,h1,h2,h3⟩=>by
  unfold Oper.wp;rw[h3];obtain⟨s2,k1,k2,k3,k4,k5⟩:=qZ (a:=a) hp ht hd h2 h1;exact hk s2 _ _ k1 ⟨E,by rw[k2,k3];exact hp,k4,k5⟩
 unfold ado at h;split at h
 ·rename_i t x ho;exact calm (by unfold vK;rw[ho];exact h)
 ·rename_i t x y ho;unfold jjv at h;split at h
  ·rename_i g off hx;obtain⟨w',rw',h1,h2,h3⟩:=jlq hc.T hp ht ho hx h;unfold Oper.wp;rw[h1];obtain⟨s2,k1,k2,k3,k4,k5⟩:=qZ (a:=a) (s:=⟨s.t,s.bx,rw'⟩) h3 ht hd (A.rep_dead _ undef) h2;exact hk s2 _ _ k1 ⟨E,by rw[k2,k3];exact h3,k4,k5⟩
  ·obtain⟨w',bx',h1,h2,h3,-⟩:=jhq hc.T hp ht ho h;unfold Oper.wp;rw[h1];obtain⟨s2,k1,k2,k3,k4,k5⟩:=qZ (a:=a) (s:=⟨s.t,bx',s.rw⟩) h3 ht hd (A.rep_dead _ undef) h2;exact hk s2 _ _ k1 ⟨E,by rw[k2,k3];exact h3,k4,k5⟩
 ·rename_i t ho;exact calm (by unfold vK;rw[ho];exact h)
 ·rename_i t x ho;exact calm (by unfold vK;rw[ho];exact h)
 ·rename_i t n ps ho;exact calm (by unfold vK;rw[ho];exact h)
 ·rename_i t n ps ho;exact calm (by unfold vK;rw[ho];exact h)
 ·rename_i t ps ho;exact pure' (jaB hc.T hc.z hp ht ho h)
 ·rename_i f args ts ho;exact calm (by unfold vK;rw[ho];exact h)
 ·rename_i args ts ho;split at h
  ·rename_i x y hx;split at h
   ·rename_i t t' hts;split at h
    ·rename_i g hg;obtain⟨v,w',r,s',E',h1,h2,h3,h4,h5,h6⟩:=joN hc.T hp ht hx hts ho (jmM hg) h;unfold Oper.wp;rw[h1];obtain⟨s2,k1,k2,k3,k4,k5⟩:=qZ (a:=a) h5 (by rw[h3];exact A.repL.mono _ h4 ht) (hd.mono h4) h6 h2;exact hk s2 _ _ k1 ⟨E',by rw[k2,k3];exact h5,k4,k5⟩
    refine jcT hc.T hp ht hx hts ho h fun y w' r s' E' h1 h2 h3 h4 h5 h6 _ _=>?_
    obtain⟨s2,k1,k2,k3,k4,k5⟩:=qZ (a:=a) h3 h2 (hd.keep h5 h6 hdr) h4 h1;exact hk s2 _ _ k1 ⟨E',by rw[k2,k3];exact h3,k4,k5⟩
   ·exact h.elim
  ·exact h.elim
 ·rename_i args ts ho;split at h
  ·rename_i x y hx;obtain⟨r,v,w',h1,h2,h3,h4⟩:=jqa hc.T hp ht hx ho h;unfold Oper.wp;rw[h1];obtain⟨s2,k1,k2,k3,k4,k5⟩:=qZ (a:=a) h4 ht hd h3 h2;exact hk s2 _ _ k1 ⟨E,by rw[k2,k3];exact h4,k4,k5⟩
  ·exact h.elim
 ·rename_i t r ho;obtain⟨y,w',h1,⟨⟨r,s',E',g1,g2,g3,g4,g5,_⟩⟩⟩:=jir (Xr:=Xr) hp ho h;unfold Oper.wp;rw[h1];obtain⟨s2,k1,k2,k3,k4,k5⟩:=qZ (a:=a) g4 (by rw[g2];exact A.repL.mono _ g3 ht) (hd.mono g3) g5 g1;exact hk s2 _ _ k1 ⟨E',by rw[k2,k3];exact g4,k4,k5⟩
 ·rename_i t m k x ho;obtain⟨w',rw',h1,h2,h3⟩:=jdh hc.T hp ht (.inl ho) h;unfold Oper.wp;rw[h1];obtain⟨s2,k1,k2,k3,k4,k5⟩:=qZ (a:=a) (s:=⟨s.t,s.bx,rw'⟩) h3 ht hd (A.rep_dead _ undef) h2;exact hk s2 _ _ k1 ⟨E,by rw[k2,k3];exact h3,k4,k5⟩
 ·rename_i t m k x ho;obtain⟨w',rw',h1,h2,h3⟩:=jdh hc.T hp ht (.inr ho) h;unfold Oper.wp;rw[h1];obtain⟨s2,k1,k2,k3,k4,k5⟩:=qZ (a:=a) (s:=⟨s.t,s.bx,rw'⟩) h3 ht hd (A.rep_dead _ undef) h2;exact hk s2 _ _ k1 ⟨E,by rw[k2,k3];exact h3,k4,k5⟩
 ·rename_i t x ho;obtain⟨y,w',h1,⟨⟨r,s',E',g1,g2,g3,g4,g5,_⟩⟩⟩:=jnv (Xr:=Xr) hc.T hp ht ho h;unfold Oper.wp;rw[h1];obtain⟨s2,k1,k2,k3,k4,k5⟩:=qZ (a:=a) g4 (by rw[g2];exact A.repL.mono _ g3 ht) (hd.mono g3) g5 g1;exact hk s2 _ _ k1 ⟨E',by rw[k2,k3];exact g4,k4,k5⟩
 ·rename_i x st ho;split at h
  ·obtain⟨y,w',r,s',h1,h2,h3,h4,h5⟩:=jpo hp ht ho h;unfold Oper.wp;rw[h1];obtain⟨s2,k1,k2,k3,k4,k5⟩:=qZ (a:=a) h4 (by rw[h3];exact ht) hd h5 h2;exact hk s2 _ _ k1 ⟨E,by rw[k2,k3];exact h4,k4,k5⟩
  ·exact h.elim
 ·rename_i x ho;obtain⟨r,y,h1,h2,h3⟩:=jmw hp ht ho h;unfold Oper.wp;rw[h3];obtain⟨s2,k1,k2,k3,k4,k5⟩:=qZ (a:=a) hp ht hd h2 h1;exact hk s2 _ _ k1 ⟨E,by rw[k2,k3];exact hp,k4,k5⟩
 ·rename_i src dst x ho;split at h
  ·obtain⟨y,w',r,s',E',h1,h2,h3,h4,h5,h6⟩:=jpk hc.T hp ht ho h;unfold Oper.wp;rw[h1];obtain⟨s2,k1,k2,k3,k4,k5⟩:=qZ (a:=a) h5 (by rw[h3];exact A.repL.mono _ h4 ht) (hd.mono h4) h6 h2;exact hk s2 _ _ k1 ⟨E',by rw[k2,k3];exact h5,k4,k5⟩
  ·exact calm (by unfold vK;rw[ho];exact h)
 ·rename_i x ho;split at h
  ·rename_i t y hev;have hv:=(kW ht hev).1;unfold Oper.wp
   have hrun:(execOp a.eval o).run c.P w=.halt (.panic (.iface t y)) w:=by simp[execOp,ho,hv,Instr.panic,goPanic,Sem.run,Result.andThen]
   rw[hrun,Oper.upon_panic];exact hx _ s a w h ⟨E,hp,ht,hd⟩
  ·exact h.elim
 ·rename_i t x k ok ho;obtain⟨r,y,h1,h2,h3⟩:=jk1 hc.T hc.z hp ht ho h;unfold Oper.wp;rw[h3];obtain⟨s2,k1,k2,k3,k4,k5⟩:=qZ (a:=a) hp ht hd h2 h1;exact hk s2 _ _ k1 ⟨E,by rw[k2,k3];exact hp,k4,k5⟩
 ·rename_i t x l hh m ho;split at h
  ·rename_i g i hsh;obtain⟨hx,rfl,rfl,rfl⟩:=jmR hsh;obtain⟨y,r,s',E',h1,h2,h3,h4,h5,h6,h7⟩:=jlv hc.T hp ht ho hx h;unfold Oper.wp;rw[h7];obtain⟨s2,k1,k2,k3,k4,k5⟩:=qZ (a:=a) h3 h2 (hd.keep (by rw[h5];exact Sub.refl _) (by rw[h6];exact fun _ _ h=>h) hdr) h4 h1;exact hk s2 _ _ k1 ⟨E',by rw[k2,k3];exact h3,k4,k5⟩
  ·exact calm (by unfold vK;rw[ho];exact h)
 ·exact pure' (cY hc.T hp ht h)
def jt3(s:S)(K:S->Prop):Prop:=K s
def jt4(c:Cx)(ops:List Oper)(o:Oper)(ih:S->(S->Prop)->Prop)(s:S)(K:S->Prop):Prop :=
 bP ops o s (ado c (fun _=>true) s o fun s'=>ih s' K) (kZ s o.dst (.tup []) fun s'=>ih s' K)
noncomputable def oT(c:Cx)(ops:List Oper)(l:List Oper):S->(S->Prop)->Prop :=
 List.rec jt3 (fun o _ ih=>jt4 c ops o ih) l
theorem jiX{ops:List Oper}{Q:Exit->Act->World->Prop}(hc:c.ok)(hdr:∃n,yP n dr=true)(hx:∀ch s' a' w',c.pan ch s'->Inv dr w0 C0 β0 s' a' w'->Q (.panic ch) a' w'):∀{l:List Oper} {s:S} {a:Act} {w:World} {K:S->Prop},Inv dr w0 C0 β0 s a w->oT c ops l s K->(∀s' a' w',K s'->Inv dr w0 C0 β0 s' a' w'->Q .normal a' w')->wpList c.P ops.toArray Q l a w
 |[],s,a,w,K,hi,h,hk=>hk s a w h hi
 |o::r,s,a,w,K,hi,h,hk=>by
  obtain⟨E,hp,ht,hd⟩:=hi
  change bP ops o s (ado c (fun _=>true) s o fun s'=>oT c ops r s' K) (kZ s o.dst (.tup []) fun s'=>oT c ops r s' K) at h
  refine wpList_step fun Kc hKc=>?_
  rcases v7 ht h with ⟨h1,h2⟩|⟨h1,h2⟩
  ·rw[xtw3 h1]
   exact jfW hc hdr ⟨E,hp,ht,hd⟩ h2 hx fun s' a' w' h3 h4=>hKc _ _ (jiX hc hdr hx h4 h3 hk)
  ·rw[xtw2 (by rw[h1];simp)];obtain⟨s2,k1,k2,k3,k4,k5⟩:=qZ (a:=a) hp ht hd (wM _) h2;exact hKc _ _ (jiX hc hdr hx ⟨E,by rw[k2,k3];exact hp,k4,k5⟩ k1 hk)
def jt5(_:Nat)(s:S)(K:S->Prop):Prop:=K s
def jnd(q n0:Nat)(x:A)(p:Prop):Prop:=match x with
 |.box i _=>match Nat.blt i n0 with
  |true=>p
  |false=>False
 |.pp _=>match q with
  |0=>p
  |_+1=>False
 |_=>False
def jlZ(c:Cx)(Xr:Nat->Bool)(n0:Nat)(ops:List Oper)(k m:Nat)(ih:Nat->S->(S->Prop)->Prop)(q:Nat)(s:S)(K:S->Prop):Prop :=
 match ops[k]? with
  |some o=>match m with
   |0=>match o.op with
    |.load t x=>match Nat.ble q 1 with
     |true=>bP ops o s (jnd q n0 (ev s x) (m7 c.T Xr s t x fun r=>kZ s o.dst r fun s'=>ih q s' K)) (kZ s o.dst (.tup []) fun s'=>ih q s' K)
     |false=>False
    |_=>False
   |_+1=>bP ops o s (jeo c s o fun r=>kZ s o.dst r fun s'=>ih q s' K) (kZ s o.dst (.tup []) fun s'=>ih q s' K)
  |none=>False
def jhP(c:Cx)(Xr:Nat->Bool)(s:S)(o:Oper)(K:A->S->Prop):Prop :=
 match o.op with
 |.call ⟨.builtin .append,args,ts⟩=>match args.toList with
  |[x,y]=>match ts.toList with
   |[t,t']=>ja1 c.T s t t' (ev s x) (ev s y) K
   |_=>False
  |_=>False
 |.store t x y=>match ev s x with
  |.box i _=>match Xr i with
   |true=>jet c.T s t x y K
   |false=>False
  |_=>False
 |_=>vK c Xr s o K
def jju(c:Cx)(Xr:Nat->Bool)(ops:List Oper)(k m:Nat)(ih:Nat->S->(S->Prop)->Prop)(q:Nat)(s:S)(K:S->Prop):Prop :=
 match ops[k]? with
  |some o=>match Nat.beq m 1 with
   |true=>match Nat.ble q 1 with
    |true=>bP ops o s (jhP c Xr s o fun r s'=>kZ s' o.dst r fun s'=>ih 1 s' K) (kZ s o.dst (.tup []) fun s'=>ih 1 s' K)
    |false=>False
   |false=>bP ops o s (ado c (fun _=>true) s o fun s'=>ih 2 s' K) (kZ s o.dst (.tup []) fun s'=>ih 2 s' K)
  |none=>False
def jlY(c:Cx)(Xr:Nat->Bool)(ops:List Oper)(k m:Nat)(alt:Bool)(ih iho:Nat->S->(S->Prop)->Prop)(q:Nat)(s:S)(K:S->Prop):Prop :=
 match alt with
 |true=>jju c Xr ops k m ih q s K/\iho q s K
 |false=>jju c Xr ops k m ih q s K
noncomputable def jct(c:Cx)(Xr:Nat->Bool)(n0:Nat)(ops:List Oper)(t:Tr):Nat->S->(S->Prop)->Prop :=
 Tr.rec jt5 (fun k m _ ih=>jlZ c Xr n0 ops k m ih) (fun k m _ o ih iho=>jlY c Xr ops k m o.isAlt ih iho) t
def jeg(Xr:Nat->Bool)(E0:Env)(ws w:World):Prop:=(∀(i b:Nat),E0.β[i]?=some b->Xr i=false->w.heap[b]?=ws.heap[b]?)/\Sub E0.C (kR w)
structure jlN(Xr:Nat->Bool)(E0:Env)(ws:World)(E:Env)(w:World):Prop where
 C:Sub E0.C E.C
 β:∀(i b:Nat),E0.β[i]?=some b->E.β[i]?=some b
 kept:jeg Xr E0 ws w
theorem jgu{Xr:Nat->Bool}{E0:Env}{ws:World}{q t:Nat}{x:Operand}{K:A->Prop}(hT:Tab.ok c.P c.T)(hp:Hp w0 C0 β0 s.bx s.rw w E)(ht:A.repL s.t E a.tmps.toList)(hs:jlN Xr E0 ws E w)(hq:q=0->E=E0)(ho:o.op=.load t x)(h:jnd q E0.β.length (ev s x) (m7 c.T Xr s t x K)) :
  ∃r y,K r/\r.rep E y/\∀w',jeg Xr E0 ws w'->(execOp a.eval o).run c.P w'=.ok (.value y) w':=by
 unfold jnd at h;split at h
 ·rename_i i off0 hev;split at h
  ·rename_i hlt
   have hi:i<E0.β.length:=by simpa using hlt
   have hxi:Xr i=false:=by
    unfold m7 at h;split at h
    ·split at h
     ·rename_i hb;rw[hev] at hb;simpa [jgG] using hb
     ·exact h.elim
    ·exact h.elim
   obtain⟨r,y,k1,k2,k3⟩:=jgt hT hp ht ho h hev;refine⟨r,y,k1,k2,fun w' hw=>k3 w' fun b hb=>?_⟩;have e0:E0.β[i]?=some E0.β[i]:=xtw21 hi;have e1:=hs.β i _ e0;rw[e1] at hb;cases hb;exact(hw.1 i _ e0 hxi).trans (hs.kept.1 i _ e0 hxi).symm
  ·exact h.elim
 ·rename_i cs hev;split at h
  ·obtain rfl:=hq rfl
   refine jbp (jeg Xr E ws) hT (jS ht x) ho h fun cs' hX hcs=>?_
   have hx:=jS ht x;rw[hev] at hx hcs;unfold A.rep at hx;obtain⟨b,off,hy,hr⟩:=hx;simp only[gS] at hcs;cases hcs;obtain⟨us,h1,h2⟩:=A.repAt_vals hr;exact⟨b,off,us,hy,by rw[yY (jbt h1)];exact A.repC.mono _ E.per_le h1,fun w' hw j u hu=>hw.2 _ _ (h2 j u hu)⟩
  ·exact h.elim
 ·exact h.elim
theorem jdx{l:List Nat}(h:l.Nodup){i j b:Nat}(hi:l[i]?=some b)(hj:l[j]?=some b):i=j:=by
 obtain⟨h1,h2⟩:=xtw5.1 hi;obtain⟨h3,h4⟩:=xtw5.1 hj;exact vB h (h2.trans h4.symm)
theorem jm7{Xr:Nat->Bool}(hf:Xr 1000000007=false){K:A->S->Prop}{Kc:Act->World->Prop}{Q:Exit->Act->World->Prop}(hc:c.ok)(hp:Hp w0 C0 β0 s.bx s.rw w E)(ht:A.repL s.t E a.tmps.toList)(h:jhP c Xr s o K)
  (hx:∀ch s' E' w',c.pan ch s'->s'.t=s.t->E.le E'->Hp w0 C0 β0 s'.bx s'.rw w' E'->Q (.panic ch) a w')
  (hk:∀y w' r s' E',K r s'->A.repL s'.t E' a.tmps.toList->Hp w0 C0 β0 s'.bx s'.rw w' E'->r.rep E' y->Sub E.C E'.C->(∀(i b:Nat),E.β[i]?=some b->E'.β[i]?=some b)->(∀(i b:Nat),E.β[i]?=some b->Xr i=false->w'.heap[b]?=w.heap[b]?)->Kc (a.put o.dst y) w'):o.wp c.P a w Kc Q:=by
 unfold jhP at h;split at h
 ·rename_i args ts ho;split at h
  ·rename_i x y hx;split at h
   ·rename_i t t' hts
    exact jcT hc.T hp ht hx hts ho h fun y w' r s' E' h1 h2 h3 h4 h5 h6 h7 _=>hk y w' r s' E' h1 h2 h3 h4 h5 h6 fun i b hb _=>h7 b (xtw20.2 ⟨i,hb⟩)
   ·exact h.elim
  ·exact h.elim
 ·rename_i t x y ho;split at h
  ·rename_i i0 off0 hev0;split at h
   ·rename_i hX;obtain⟨w',bx',h1,h2,h3,i,off,b,hev,hb,hoth⟩:=jhq hc.T hp ht ho h;rw[hev0] at hev;cases hev;unfold Oper.wp;rw[h1]
    refine hk undef w' .dead ⟨s.t,bx',s.rw⟩ E h2 ht h3 (A.rep_dead _ _) (Sub.refl _) (fun _ _ h=>h) fun j b' hj hxj=>hoth b' ?_
    rintro rfl;have e:=jdx hp.bnd hj hb;subst e;rw[hX] at hxj;cases hxj
   ·exact h.elim
  ·exact h.elim
 ·exact rH hc hp ht h hx fun y w' ⟨⟨r,s',E',g1,g2,g3,g4,g5,g6,g7⟩⟩=>hk y w' r s' E' g1 (by rw[g2];exact A.repL.mono _ g3 ht) g4 g5 g3.C g3.β fun i b hb hx=>Same.box hp (g6 hf) hb hx
def jd2(s:S):S:=⟨s.t.map fun _=>.dead,s.bx,s.rw⟩
def jcp(c:Cx)(dr:List (Nat×List A))(w0:W0)(C0:Rd)(β0:List Nat)(Q:Exit->Act->World->Prop):Exit->Act->World->Prop
 |.panic ch,a,w=>∃s',c.pan ch s'/\Inv dr w0 C0 β0 (jd2 s') a w
 |e,a,w=>Q e a w
theorem iK{E:Env}:∀{l:List A} {us:List Value},us.length=l.length->A.repL (l.map fun _=>A.dead) E us
 |[],us,h=>by obtain rfl:=xtw15 h;simp[A.repL]
 |a::r,[],h=>by simp at h
 |a::r,u::us,h=>by
  simp only[xtw22];unfold A.repL;exact⟨u,us,rfl,A.rep_dead _ _,iK (by simpa using h)⟩
theorem jgj{E:Env}{s':S}{us:List Value}(hp:Hp w0 C0 β0 s'.bx s'.rw w E)(ht:A.repL s'.t E us)(hl:us.length=a.tmps.size)(hd:repD dr E a.defers):Inv dr w0 C0 β0 (jd2 s') a w :=
 ⟨E,hp,iK (by have:=A.repL_len ht;simp;omega),hd⟩
theorem jgL{Q:Exit->Act->World->Prop}:∀c' a d v w,jcp c dr w0 C0 β0 Q (.panic c') (Act.put a d v) w->jcp c dr w0 C0 β0 Q (.panic c') a w:=by
 rintro ch a d v w ⟨s',h1,E,h2,h3,h4⟩;refine⟨s',h1,E,h2,?_,?_⟩
 ·have hl:=A.repL_len h3;refine iK ?_
  cases d with
  |none=>simpa [jd2,Act.put] using hl
  |some d=>simpa [jd2,Act.put] using hl
 ·cases d <;> exact h4
theorem vV{ops:List Oper}{Q:Exit->Act->World->Prop}{Xr:Nat->Bool}(hf:Xr 1000000007=false){E0:Env}{ws:World}(hc:c.ok)(hdr:∃n,yP n dr=true) :
  ∀{l:Tr} {q:Nat} {s:S} {a:Act} {w:World} {E:Env} {K:S->Prop},Hp w0 C0 β0 s.bx s.rw w E->A.repL s.t E a.tmps.toList->repD dr E a.defers->(q<=1->jlN Xr E0 ws E w)->(q=0->E=E0) →
   jct c Xr E0.β.length ops l q s K->(∀s' a' w',K s'->Inv dr w0 C0 β0 s' a' w'->Q .normal a' w')->pU c.P ops.toArray (jcp c dr w0 C0 β0 Q) (jeg Xr E0 ws) l a w
 |.nil,q,s,a,w,E,K,hp,ht,hd,hs,hq,h,hk=>hk s a w h ⟨E,hp,ht,hd⟩
 |.q k m rest,q,s,a,w,E,K,hp,ht,hd,hs,hq,h,hk=>by
  change jlZ c Xr E0.β.length ops k m (jct c Xr E0.β.length ops rest) q s K at h
  unfold jlZ at h;split at h
  ·rename_i o hok
   have hok':ops.toArray[k]?=some o:=by simpa using hok
   match m,h with
   |0,h =>
    simp only at h
    split at h
    ·rename_i t x ho;split at h
     ·rename_i hq1;have hs1:=hs (xtw95 hq1);rcases v7 ht h with ⟨h1,h2⟩|⟨h1,h2⟩
      ·obtain⟨r,y,k1,k2,k3⟩:=jgu hc.T hp ht hs1 hq ho h2;obtain⟨s2,p1,p2,p3,p4,p5⟩:=qZ (a:=a) hp ht hd k2 k1;exact jq2 hok' hs1.kept h1 ⟨y,k3,vV hf hc hdr (by rw[p2,p3];exact hp) p4 p5 hs hq p1 hk⟩
      ·obtain⟨s2,p1,p2,p3,p4,p5⟩:=qZ (a:=a) hp ht hd (wM _) h2;exact jot hok' hs1.kept h1 (vV hf hc hdr (by rw[p2,p3];exact hp) p4 p5 hs hq p1 hk)
     ·exact h.elim
    ·exact h.elim
   |n+1,h =>
    simp only at h
    rcases v7 ht h with ⟨h1,h2⟩|⟨h1,h2⟩
    ·obtain⟨r,y,k1,k2,k3⟩:=jgR hc hp ht h2;obtain⟨s2,p1,p2,p3,p4,p5⟩:=qZ (a:=a) hp ht hd k2 k1;exact jq3 hok' h1 ⟨y,k3,vV hf hc hdr (by rw[p2,p3];exact hp) p4 p5 hs hq p1 hk⟩
    ·obtain⟨s2,p1,p2,p3,p4,p5⟩:=qZ (a:=a) hp ht hd (wM _) h2;exact jq4 hok' h1 (vV hf hc hdr (by rw[p2,p3];exact hp) p4 p5 hs hq p1 hk)
  ·exact h.elim
 |.alt k m rest other,q,s,a,w,E,K,hp,ht,hd,hs,hq,h,hk=>by
  change jlY c Xr ops k m other.isAlt (jct c Xr E0.β.length ops rest) (jct c Xr E0.β.length ops other) q s K at h
  have hL2:jju c Xr ops k m (jct c Xr E0.β.length ops rest) q s K/\(other.isAlt=true->jct c Xr E0.β.length ops other q s K):=by
   unfold jlY at h;split at h
   ·exact⟨h.1,fun _=>h.2⟩
   ·rename_i e;exact⟨h,fun e'=>by rw[e] at e';cases e'⟩
  have hO:other.isAlt=true->pU c.P ops.toArray (jcp c dr w0 C0 β0 Q) (jeg Xr E0 ws) other a w:=fun e=>vV hf hc hdr hp ht hd hs hq (hL2.2 e) hk
  have hL:=hL2.1;clear hL2 h;unfold jju at hL;split at hL
  ·rename_i o hok
   have hok':ops.toArray[k]?=some o:=by simpa using hok
   split at hL
   ·rename_i hm;obtain rfl:=xtw24 hm;split at hL
    ·rename_i hq1;have hs1:=hs (xtw95 hq1);refine jor hok' (fun Kc hKc=>?_) hO;rcases v7 ht hL with ⟨h1,h2⟩|⟨h1,h2⟩
     ·rw[xtw3 h1]
      refine jm7 hf hc hp ht h2 (fun ch s' E' w' q1 q2 q3 q4=>⟨s',q1,jgj q4 (by rw[q2];exact A.repL.mono _ q3 ht) (by simp) (hd.mono q3)⟩) fun y w' r s' E' g1 g2 g3 g4 g5 g6 g7=>?_
      obtain⟨nd,hdn⟩:=hdr;obtain⟨s2,p1,p2,p3,p4,p5⟩:=qZ (a:=a) g3 g2 (hd.keep g5 g6 hdn) g4 g1
      have hsin:jlN Xr E0 ws E' w':=⟨hs1.C.trans g5,fun i b hb=>g6 i b (hs1.β i b hb),fun i b hb hx=>(g7 i b (hs1.β i b hb) hx).trans (hs1.kept.1 i b hb hx),(hs1.C.trans g5).trans g3.sub⟩
      exact hKc _ _ ⟨hsin.kept,vV hf hc ⟨nd,hdn⟩ (by rw[p2,p3];exact g3) p4 p5 (fun _=>hsin) (fun e=>by cases e) p1 hk⟩
     ·rw[xtw2 (by rw[h1];simp)];obtain⟨s2,p1,p2,p3,p4,p5⟩:=qZ (a:=a) hp ht hd (wM _) h2;exact hKc _ _ ⟨hs1.kept,vV hf hc hdr (by rw[p2,p3];exact hp) p4 p5 (fun _=>hs1) (fun e=>by cases e) p1 hk⟩
    ·exact hL.elim
   ·rename_i hm;refine jos (fun e=>by rw[e] at hm;simp at hm) hok' (fun Kc hKc=>?_) hO;rcases v7 ht hL with ⟨h1,h2⟩|⟨h1,h2⟩
    ·rw[xtw3 h1]
     refine jfW hc hdr ⟨E,hp,ht,hd⟩ h2 (fun ch s' a' w' q1 ⟨E',q2,q3,q4⟩=>⟨s',q1,jgj q2 q3 (by simp) q4⟩) fun s' a' w' h3 ⟨E',g1,g2,g3⟩=>?_
     exact hKc _ _ (vV hf hc hdr g1 g2 g3 (fun e=>by omega) (fun e=>by cases e) h3 hk)
    ·rw[xtw2 (by rw[h1];simp)];obtain⟨s2,p1,p2,p3,p4,p5⟩:=qZ (a:=a) hp ht hd (wM _) h2;exact hKc _ _ (vV hf hc hdr (by rw[p2,p3];exact hp) p4 p5 (fun e=>by omega) (fun e=>by cases e) p1 hk)
  ·exact hL.elim
def uB:List Nat->Nat->Bool
 |[],_=>true
 |x::r,n=>match Nat.blt x n with
  |true=>uB r n
  |false=>false
theorem jcS{n:Nat}:∀{l:List Nat},uB l n=true->∀x∈l,x<n
 |[],_,x,hx=>by cases hx
 |y::r,h,x,hx=>by
  unfold uB at h;split at h
  ·rename_i hy;rcases xtw13.1 hx with rfl|hx
   ·simpa using hy
   ·exact jcS h x hx
  ·cases h
def xrB(X:List Nat)(i:Nat):Bool:=match Nat.beq i 1000000007 with
 |true=>false
 |false=>pA i X
theorem dE(h:Hp w0 C0 β0 s.bx s.rw w E):Hp w0 C0 β0 s.bx s.rw w.drew E:=h.ext (Ext.refl w).drew
theorem jnX{id:Nat}{ops:List Oper}{Q:Exit->Act->World->Prop}{X:List Nat}{l:Tr}{K:S->Prop}(hc:c.ok)(hdr:∃n,yP n dr=true)(hx:∀ch s' a' w',c.pan ch s'->Inv dr w0 C0 β0 (jd2 s') a' w'->Q (.panic ch) a' w')(hi:Inv dr w0 C0 β0 s a w)(hX:uB X s.bx.length=true)(hB:pN ops.toArray l=true)
  (h:jct c (xrB X) s.bx.length ops l 0 s K) (hk:∀s' a' w',K s'->Inv dr w0 C0 β0 s' a' w'->Q .normal a' w'):(Code.region id ops.toArray true).wp c.P Q a w:=by
 obtain⟨E,hp,ht,hd⟩:=hi;rw[hp.bl] at h
 have hk0:jeg (xrB X) E w.drew w.drew:=⟨fun _ _ _ _=>rfl,(dE hp).sub⟩
 refine wp_mono (Q:=jcp c dr w0 C0 β0 Q) (jfo (jeg (xrB X) E w.drew) l hc.m hB jgL hk0 fun _=>?_) (fun e a w h=>by
  cases e with
  |panic ch=>obtain⟨s',h1,h2⟩:=h;exact hx ch s' a w h1 h2
  |_=>exact h)
 exact vV rfl hc hdr (dE hp) ht hd (fun _=>⟨Sub.refl _,fun _ _ h=>h,hk0⟩) (fun _=>rfl) h hk
@[irreducible] def fU(f:(S->Prop)->Prop)(K:S->Prop):Prop:=∃φ:S->Prop,f φ/\∀x,φ x->K x
theorem mA{f:(S->Prop)->Prop}{K:S->Prop}(s':S)(h:f fun x=>x=s')(k:K s'):fU f K:=by
 unfold fU;exact⟨fun x=>x=s',h,fun x e=>e ▸ k⟩
theorem ji5{p:Nat->Prop}:∀n,p n->∃m,p m/\∀k,p k->m<=k:=fun n=>by
 induction n using Nat.strongRecOn with
 |_ n ih =>
  intro hn;by_cases h:∃k,k<n/\p k
  ·obtain⟨k,h1,h2⟩:=h;exact ih k h1 h2
  ·exact⟨n,hn,fun k hk=>Nat.le_of_not_lt fun h1=>h ⟨k,h1,hk⟩⟩
theorem jtC{α:Type}{p:α->Nat->Prop}:∃M:α->Nat,∀z,(∃n,p z n)->p z (M z)/\∀m,p z m->M z<=m:=by
 have h:∀z,∃m,(∃n,p z n)->p z m/\∀k,p z k->m<=k:=fun z=>by
  by_cases hz:∃n,p z n
  ·obtain⟨n,hn⟩:=hz;obtain⟨m,h1,h2⟩:=ji5 n hn;exact⟨m,fun _=>⟨h1,h2⟩⟩
  ·exact⟨0,fun h=>absurd h hz⟩
 exact⟨fun z=>Classical.choose (h z),fun z=>Classical.choose_spec (h z)⟩
end
end
section
theorem fE{α:Type}{l l':List α}{i:Nat}{x:α}(h:l[i]?=some x):(l++l')[i]?=some x:=by
 have hi:=(xtw5.1 h).1;rw[xtw18 hi];exact h
theorem Hp.drop{w0:W0}{w:World}{C0 C:Rd}{β0 β β':List Nat}{ρ ρ':List Value}{bx bx':List (List A)}{rw rw':List Row}(h:Hp w0 C0 β0 (bx++bx') (rw++rw') w ⟨C,β++β',ρ++ρ'⟩)(hb:bx.length=β.length)(hr:rw.length=ρ.length)(hβ:∃β1,β=β0++β1/\∀b∈β1,w0.w.heap.size<=b)
  (hbx:∀(i b:Nat) (cs:List A),β[i]?=some b->bx[i]?=some cs->boxAt w ⟨C,β,ρ⟩ b cs) (hrw:∀(g:Nat) (r:Row) (y:Value),rw[g]?=some r->ρ[g]?=some y->rowRep w w0 ⟨C,β,ρ⟩ r y):Hp w0 C0 β0 bx rw w ⟨C,β,ρ⟩ :=
 ⟨h.sub,h.base,h.fresh,hβ,(xtw115.1 h.bnd).1,fun b hb=>h.bC b (xtw55 _ hb),hb,hbx,hr,hrw,
  fun g e k n cs y b h1 h2 h3=>by
   have:=h.rC g e k n cs y b (fE h1) (fE h2) h3
   exact⟨fun hm=>this.1 (xtw55 _ hm),this.2⟩,
  fun g e k n cs y g' e' k' n' cs' z b hne h1 h2 h3 h4 h5=>h.rd g e k n cs y g' e' k' n' cs' z b hne (fE h1) (fE h2) (fE h3) (fE h4) h5,
  fun g y h1=>h.rs g y (fE h1),h.keep,h.gk⟩
def jc8{α:Type}:Nat->List α->List α
 |0,_=>[]
 |_+1,[]=>[]
 |n+1,a::r=>a::jc8 n r
theorem jhv{α:Type}:∀(n:Nat) (l:List α),jc8 n l=l.take n
 |0,_=>by simp[jc8]
 |_+1,[]=>by simp[jc8]
 |n+1,a::r=>by simp[jc8,jhv n r]
def jue(bx:List (List A))(rw:List Row)(s':S)(r R:A):Prop :=
 match r with
 |.own g=>match Nat.blt g rw.length with
  |true=>R=.own g
  |false=>match s'.rw[g]? with
   |some (.live _ k n cs)=>jix k (R=.sl k n cs)
   |some (.pub k n cs)=>R=.sl k n cs
   |_=>False
 |r=>match y8 bx.length rw.length r with
  |true=>R=r
  |false=>False
def jqY(bx:List (List A))(rw:List Row)(s':S)(r R:A):Prop:=jc8 bx.length s'.bx=bx/\jc8 rw.length s'.rw=rw/\jue bx rw s' r R
section
variable{c:Cx}{dr:List (Nat×List A)}{w0:W0}{C0:Rd}{β0:List Nat}{s:S}{a:Act}{w:World}{E:Env}{o:Oper}
theorem jiQ{base:Nat}{rw:List Row}{g e k n:Nat}{cs:List A}{bx:List (List A)}{y:Value}(hk:k≠0)(hp:Hp w0 C0 β0 bx rw w E)(hg:rw[g]?=some (.live e k n cs))(hy:E.ρ[g]?=some y) :
  ∃C',Sub E.C C'/\Hp w0 C0 β0 bx (rw.set g (.pub k n cs)) w ⟨C',E.β,E.ρ⟩/\(A.sl k n cs).rep ⟨C',E.β,E.ρ⟩ y:=by
 obtain⟨C',h1,h2⟩:=hp.pub hk hg;refine⟨C',h2.C,h1,?_⟩;have hgl:=(xtw5.1 hg).1;exact h1.rws g (.pub k n cs) y (by rw[xtw35 hgl]) hy
theorem jku{bx:List (List A)}{rw:List Row}{s':S}{r R:A}{E':Env}{w':World}{y:Value}(hp:Hp w0 C0 β0 bx rw w E)(h:jqY bx rw s' r R)(le:E.le E')(hp':Hp w0 C0 β0 s'.bx s'.rw w' E')(hr:r.rep E' y)
  (hsame:Same (fun _=>false) E w w') :
  ∃C',Sub E.C C'/\Hp w0 C0 β0 bx rw w' ⟨C',E.β,E.ρ⟩/\R.rep ⟨C',E.β,E.ρ⟩ y:=by
 obtain⟨h1,h2,h3⟩:=h;rw[jhv] at h1 h2
 obtain⟨β',hβ'⟩:∃β',E'.β=E.β++β':=by
  refine⟨E'.β.drop E.β.length,?_⟩
  have:E'.β.take E.β.length=E.β:=by
   apply xtw75;intro i;by_cases hi:i<E.β.length
   ·rw[xtw83,xtw3 hi,xtw21 hi];exact le.β i _ (xtw21 hi)
   ·rw[xtw83,xtw2 hi,xtw78 (by omega)]
  rw[<- this];simp[xtw69]
  have hl:E.β.length<=E'.β.length:=by
   have:=congrArg List.length this;simp at this;omega
  rw[xtw112 hl,xtw69]
 obtain⟨ρ',hρ'⟩:∃ρ',E'.ρ=E.ρ++ρ':=by
  refine⟨E'.ρ.drop E.ρ.length,?_⟩
  have:E'.ρ.take E.ρ.length=E.ρ:=by
   apply xtw75;intro i;by_cases hi:i<E.ρ.length
   ·rw[xtw83,xtw3 hi,xtw21 hi];exact le.ρ i _ (xtw21 hi)
   ·rw[xtw83,xtw2 hi,xtw78 (by omega)]
  rw[<- this];simp[xtw69]
  have hl:E.ρ.length<=E'.ρ.length:=by
   have:=congrArg List.length this;simp at this;omega
  rw[xtw112 hl,xtw69]
 have hbx':s'.bx=bx++s'.bx.drop bx.length:=by
  have:=(xtw69 bx.length s'.bx).symm;rwa [h1] at this
 have hrw':s'.rw=rw++s'.rw.drop rw.length:=by
  have:=(xtw69 rw.length s'.rw).symm;rwa [h2] at this
 -- the old state,in the new world,in any reading that is greater
 have back:∀(C':Rd) (rwx:List Row),Sub E.C C'->Hp w0 C0 β0 s'.bx rwx w' ⟨C',E'.β,E'.ρ⟩->rwx.take rw.length=rw->Hp w0 C0 β0 bx rw w' ⟨C',E.β,E.ρ⟩:=fun C' rwx hC hx hrx=>by
  have e:rwx=rw++rwx.drop rw.length:=by
   have:=(xtw69 rw.length rwx).symm;rwa [hrx] at this
  rw[hbx',e,hβ',hρ'] at hx
  have le2:E.le ⟨C',E.β,E.ρ⟩:=⟨hC,fun _ _ h=>h,fun _ _ h=>h⟩
  refine hx.drop hp.bl hp.rl hp.bp (fun i b cs g1 g2=>?_) (fun g r y g1 g2=>?_)
  ·exact((hp.bxs i b cs g1 g2).same (Same.box (s:=⟨[],bx,rw⟩) hp hsame g1 rfl)).mono le2
  ·exact(hp.rws g r y g1 g2).mono le2 fun e k n cs hr b hb=>Same.row (s:=⟨[],bx,rw⟩) hp hsame (by rw[<- hr];exact g1) g2 hb
 have plain:y8 bx.length rw.length r=true->∃C',Sub E.C C'/\Hp w0 C0 β0 bx rw w' ⟨C',E.β,E.ρ⟩/\r.rep ⟨C',E.β,E.ρ⟩ y:=fun hrf=>by
  refine⟨E'.C,le.C,back E'.C s'.rw le.C hp' h2,?_⟩;have:=lF (nb:=bx.length) (nr:=rw.length) r hrf hr;rw[hβ',hρ',hp.bl,hp.rl] at this;simpa using this
 unfold jue at h3;split at h3
 ·rename_i g;split at h3
  ·rename_i hlt;rw[h3];exact plain (by unfold y8;exact hlt)
  ·rename_i hlt;split at h3
   ·rename_i k n cs hg;obtain⟨hk0,h3⟩:=notZ_iff.1 h3;obtain⟨C',k1,k2,k3⟩:=jiQ (base:=0) hk0 hp' hg (by unfold A.rep at hr;exact hr)
    have hge:rw.length<=g:=by
     rcases xtw36 g rw.length with h4|h4
     ·have h5:Nat.blt g rw.length=true:=by simpa using h4
      rw[hlt] at h5;cases h5
     ·exact h4
    refine⟨C',le.C.trans k1,back C' _ (le.C.trans k1) k2 ?_,?_⟩
    ·rw[List.take_set_of_le hge];exact h2
    ·rw[h3];unfold A.rep at k3 ⊢;exact k3
   ·rename_i k n cs hg
    have hy:E'.ρ[g]?=some y:=by unfold A.rep at hr;exact hr
    have k3:(A.sl k n cs).rep E' y:=hp'.rws g _ y hg hy;refine⟨E'.C,le.C,back E'.C s'.rw le.C hp' h2,?_⟩;rw[h3];unfold A.rep at k3 ⊢;exact k3
   ·exact h3.elim
 ·split at h3
  ·rename_i hrf;rw[h3];exact plain hrf
  ·exact h3.elim
end
def jdF:List (Nat×A)->A->A
 |[],a=>a
 |(j,b)::r,a=>match j with
  |0=>b
  |_+1=>jdF r a
def dec{α:Type}:List (Nat×α)->List (Nat×α)
 |[]=>[]
 |(j,b)::r=>match j with
  |0=>dec r
  |n+1=>(n,b)::dec r
def jfU{α:Type}:List (Nat×α)->(List (Nat×α)->Prop)->Prop
 |[],K=>K []
 |(j,b)::r,K=>match j with
  |0=>jfU r K
  |n+1=>jfU r fun g=>K ((n,b)::g)
theorem rL{α:Type}:∀{g:List (Nat×α)} {K:List (Nat×α)->Prop},jfU g K↔K (dec g)
 |[],K=>by simp[jfU,dec]
 |(0,b)::r,K=>by simp[jfU,dec,rL (g:=r)]
 |(n+1,b)::r,K=>by simp[jfU,dec,rL (g:=r)]
def z7:List (Nat×A)->List A->List A
 |_,[]=>[]
 |g,a::l=>jdF g a::z7 (dec g) l
def vW:List (Nat×A)->List A->(List A->Prop)->Prop
 |_,[],K=>K []
 |g,a::l,K=>zT (jdF g a) fun a'=>jfU g fun g'=>vW g' l fun r=>K (a'::r)
theorem wS:∀{l:List A} {g:List (Nat×A)} {K:List A->Prop},vW g l K↔K (z7 g l)
 |[],g,K=>by simp[vW,z7]
 |a::l,g,K=>by simp[vW,z7,force_iff,rL,wS (l:=l)]
def fW:List (Nat×A)->Nat->A->A
 |[],_,a=>a
 |(j,b)::r,x,a=>if j=x then b else fW r x a
theorem jbB:∀(g:List (Nat×A)) (a:A),jdF g a=fW g 0 a
 |[],a=>rfl
 |(0,b)::r,a=>by simp[jdF,fW]
 |(n+1,b)::r,a=>by simp[jdF,fW,jbB r a]
theorem jaR:∀(g:List (Nat×A)) (x:Nat) (a:A),fW (dec g) x a=fW g (x+1) a
 |[],x,a=>rfl
 |(0,b)::r,x,a=>by simp[dec,fW,jaR r x a]
 |(n+1,b)::r,x,a=>by simp[dec,fW,jaR r x a]
theorem fN:∀(l:List A) (g:List (Nat×A)) (x:Nat),(z7 g l)[x]?=(l[x]?).map (fW g x)
 |[],g,x=>by simp[z7]
 |a::l,g,0=>by simp[z7,jbB]
 |a::l,g,x+1=>by
  simp only[z7,List.getElem?_cons_succ];rw[fN l (dec g) x]
  congr 1
  funext b;exact jaR g x b
theorem fO:∀(l:List A) (g:List (Nat×A)),(z7 g l).length=l.length
 |[],g=>by simp[z7]
 |a::l,g=>by simp[z7,fO l]
theorem jaf{E:Env}:∀{l:List A} {us:List Value},us.length=l.length->(∀(x:Nat) (a:A) (u:Value),l[x]?=some a->us[x]?=some u->a.rep E u)->A.repL l E us
 |[],us,hl,h=>by unfold A.repL;exact xtw15 (by simpa using hl)
 |a::l,[],hl,h=>by simp at hl
 |a::l,u::us,hl,h=>by
  unfold A.repL;exact⟨u,us,rfl,h 0 a u rfl rfl,jaf (by simpa using hl) fun x b v h1 h2=>h (x+1) b v (by simpa using h1) (by simpa using h2)⟩
def b9:List Edge->List Nat
 |[]=>[]
 |e::r=>match Region.binds .any e with
  |true=>e.on::b9 r
  |false=>b9 r
theorem onsOf_mem:∀{l:List Edge} {j:Nat},j∈b9 l↔∃e∈l,Region.binds .any e=true/\e.on=j
 |[],j=>by simp[b9]
 |e::r,j=>by
  unfold b9;split
  ·rename_i h;rw[xtw13,onsOf_mem (l:=r)];constructor
   ·rintro (rfl|⟨e',h1,h2⟩)
    ·exact⟨e,by simp,h,rfl⟩
    ·exact⟨e',by simp[h1],h2⟩
   ·rintro⟨e',h1,h2,h3⟩;rcases xtw13.1 h1 with rfl|h1
    ·exact .inl h3.symm
    ·exact .inr ⟨e',h1,h2,h3⟩
  ·rename_i h;rw[onsOf_mem (l:=r)];constructor
   ·rintro⟨e',h1,h2⟩;exact⟨e',by simp[h1],h2⟩
   ·rintro⟨e',h1,h2,h3⟩;rcases xtw13.1 h1 with rfl|h1
    ·rw[h] at h2;cases h2
    ·exact⟨e',h1,h2,h3⟩
def vN(i:Nat)(o:Oper)(rs:List A):List Oper->Nat->List (Nat×A)
 |[],_=>[]
 |oj::r,j=>match oj.dst with
  |none=>vN i o rs r (j+1)
  |some d=>match pA j (b9 o.after.toList) with
   |true=>(d,rs.getD j .dead)::vN i o rs r (j+1)
   |false=>match pA i (b9 oj.after.toList) with
    |true=>vN i o rs r (j+1)
    |false=>(d,.dead)::vN i o rs r (j+1)
def dH(rs:List A):List Oper->Nat->List (Nat×A)
 |[],_=>[]
 |oj::r,j=>match oj.dst with
  |none=>dH rs r (j+1)
  |some d=>(d,rs.getD j .dead)::dH rs r (j+1)
def iC(c:Cx)(ops:List Oper)(s:S)(rs:List A)(i:Nat)(o:Oper):Prop :=
 bP ops o ⟨z7 (vN i o rs ops 0) s.t,s.bx,s.rw⟩ (vK c (fun _=>false) ⟨z7 (vN i o rs ops 0) s.t,s.bx,s.rw⟩ o fun r s'=>jqY s.bx s.rw s' r (rs.getD i .dead)) (rs.getD i .dead=.tup [])
def jr1(_:Nat)(rs:List A)(K:List A->Prop):Prop:=K rs
def jar(c:Cx)(ops:List Oper)(s:S)(o:Oper)(ih:Nat->List A->(List A->Prop)->Prop)(i:Nat)(rs:List A)(K:List A->Prop):Prop :=
 ∃R:A,(vW (vN i o rs ops 0) s.t fun t=>bP ops o ⟨t,s.bx,s.rw⟩ (vK c (fun _=>false) ⟨t,s.bx,s.rw⟩ o fun r s'=>jqY s.bx s.rw s' r R) (R=.tup []))/\zT R fun R=>cD rs R 0 fun _ rs'=>ih (i+1) rs' K
noncomputable def jcO(c:Cx)(ops:List Oper)(s:S)(l:List Oper):Nat->List A->(List A->Prop)->Prop :=
 List.rec jr1 (fun o _ ih=>jar c ops s o ih) l
def jlO(c:Cx)(ops:List Oper)(s:S)(K:S->Prop):Prop:=jcO c ops s ops 0 [] fun rs=>vW (dH rs ops 0) s.t fun t=>jhI s t K
def jjH(ops:List Oper)(j:Nat):Option Nat:=(ops[j]?).bind (·.dst)
def sX(ops:Array Oper):Bool :=
 Region.noSelect ops&&ops.toList.zipIdx.all (fun x=>x.1.after.toList.all fun e => !Region.binds .any e||decide (e.on<x.2)) &&
 (List.range ops.size).all fun i=>(List.range ops.size).all fun j=>i==j||(jjH ops.toList i).isNone||jjH ops.toList i != jjH ops.toList j
structure iB(ops:List Oper):Prop where
 sel:Region.noSelect ops.toArray=true
 topo:∀(i:Nat) (o:Oper),ops[i]?=some o->∀e∈o.after,Region.binds .any e=true->e.on<i
 dist:∀(i j:Nat) (oi oj:Oper) (d:Nat),ops[i]?=some oi->ops[j]?=some oj->oi.dst=some d->oj.dst=some d->i=j
theorem jaW{ops:List Oper}(h:sX ops.toArray=true):iB ops:=by
 unfold sX at h;simp only[xtw14] at h;refine⟨h.1.1,fun i o ho e he hb=>?_,fun i j oi oj d hi hj di dj=>?_⟩
 ·have:=xtw65.1 h.1.2 (o,i) (by rw[List.mem_zipIdx_iff_getElem?];simpa using ho);have:=xtw65.1 this e (by simpa using he);simpa [hb] using this
 ·have hi':=(xtw5.1 hi).1;have hj':=(xtw5.1 hj).1;have h1:=xtw65.1 h.2 i (xtw98.2 (by simpa using hi'));have h2:=xtw65.1 h1 j (xtw98.2 (by simpa using hj'));simp[jjH,hi,hj,di,dj] at h2;exact h2
section
variable{c:Cx}{dr:List (Nat×List A)}{w0:W0}{C0:Rd}{β0:List Nat}{s:S}{a:Act}{w:World}{E:Env}{ops:List Oper}
theorem sW{i:Nat}{o:Oper}{rs ms:List A}(h:∀j∈b9 o.after.toList,j<rs.length):∀(l:List Oper) (j:Nat),vN i o (rs++ms) l j=vN i o rs l j
 |[],j=>rfl
 |oj::r,j=>by
  unfold vN;rw[sW h r (j+1)];split
  ·rfl
  ·split
   ·rename_i hm;rw[memB_iff] at hm;have:=h j hm;simp[xtw9,xtw18 this]
   ·rfl
theorem jcP(hf:iB ops):∀{l:List Oper} {i:Nat} {rs:List A} {K:List A->Prop},l=ops.drop i->rs.length=i->jcO c ops s l i rs K →
  ∃ms,K (rs++ms)/\∀(j:Nat) (o:Oper),i<=j->ops[j]?=some o->iC c ops s (rs++ms) j o
 |[],i,rs,K,hl,hr,h=>⟨[],by rw[xtw66];exact h,fun j o hj ho=>by
   have:=(xtw5.1 ho).1
   have h2:(ops.drop i).length=0:=by rw[<- hl];rfl
   simp at h2;omega⟩
 |o::l,i,rs,K,hl,hr,h=>by
  change jar c ops s o (jcO c ops s l) i rs K at h
  unfold jar at h;obtain⟨R,h1,h2⟩:=h;rw[wS] at h1;rw[force_iff,kU] at h2
  have hil:i<ops.length:=by
   have:(ops.drop i).length=l.length+1:=by rw[<- hl];rfl
   simp at this;omega
  have ho:ops[i]?=some o:=by
   have:=congrArg (·[0]?) hl;simp at this;exact this.symm
  have hl':l=ops.drop (i+1):=by
   have:=congrArg List.tail hl;simpa using this
  obtain⟨ms,k1,k2⟩:=jcP hf hl' (by simp[hr]) h2;refine⟨R::ms,by simpa using k1,fun j oj hj hoj=>?_⟩;by_cases hji:j=i
  ·subst hji;rw[ho] at hoj;cases hoj;unfold iC
   rw[sW (fun j' hj'=>by
    obtain⟨e,he,hb,rfl⟩:=onsOf_mem.1 hj';have:=hf.topo j o ho e (by simpa using he) hb
    rw[hr];exact this)]
   have e:(rs++R::ms).getD j .dead=R:=by
    rw[xtw9,xtw33 (by omega),hr];simp
   rw[e];exact h1
  ·have:=k2 j oj (by omega) hoj;simpa using this
structure jcK(dr:List (Nat×List A))(w0:W0)(C0:Rd)(β0:List Nat)(s:S)(E:Env)(ops:List Oper)(rs:List A)(D:Array Bool)(a:Act)(w:World):Prop where
 ex:∃C',Sub E.C C'/\Hp w0 C0 β0 s.bx s.rw w ⟨C',E.β,E.ρ⟩/\∀(x:Nat) (a':A) (v:Value),s.t[x]?=some a'->a.tmps.toList[x]?=some v →
  (∀(j:Nat) (oj:Oper),ops[j]?=some oj->oj.dst=some x->D.getD j false=true->(rs.getD j .dead).rep ⟨C',E.β,E.ρ⟩ v)/\((∀(j:Nat) (oj:Oper),ops[j]?=some oj->oj.dst=some x->D.getD j false=false)->a'.rep ⟨C',E.β,E.ρ⟩ v)
 size:a.tmps.size=s.t.length
 defers:repD dr E a.defers
 dsize:D.size=ops.length
 closed:∀(j:Nat) (o:Oper),ops[j]?=some o->D.getD j false=true->∀e∈o.after,Region.binds .any e=true->D.getD e.on false=true
theorem bZ:∀{g:List (Nat×A)} {x:Nat} {a:A},(∃b,(x,b)∈g/\fW g x a=b)∨((∀b,(x,b)∉g)/\fW g x a=a)
 |[],x,a=>.inr ⟨by simp,rfl⟩
 |(j,b)::r,x,a=>by
  unfold fW;by_cases hj:j=x
  ·subst hj;rw[xtw3 rfl];exact .inl ⟨b,by simp,rfl⟩
  ·rw[xtw2 hj];rcases bZ (g:=r) (x:=x) (a:=a) with ⟨b',h1,h2⟩|⟨h1,h2⟩
   ·exact .inl ⟨b',by simp[h1],h2⟩
   ·refine .inr ⟨fun b' hb=>?_,h2⟩;rcases xtw13.1 hb with h3|h3
    ·exact hj (Prod.mk.inj h3).1.symm
    ·exact h1 b' h3
theorem jd8{i:Nat}{o:Oper}{rs:List A}:∀{l:List Oper} {n:Nat},(∀x b,(x,b)∈vN i o rs l n->∃(j:Nat) (oj:Oper),l[j]?=some oj/\oj.dst=some x/\((n+j∈b9 o.after.toList/\b=rs.getD (n+j) .dead)∨b=.dead)) ∧
  (∀(j:Nat) (oj:Oper) (x:Nat),l[j]?=some oj->oj.dst=some x->(∀b,(x,b)∉vN i o rs l n)->i∈b9 oj.after.toList)
 |[],n=>⟨by simp[vN],by simp⟩
 |oj::r,n=>by
  obtain⟨ih1,ih2⟩:=jd8 (i:=i) (o:=o) (rs:=rs) (l:=r) (n:=n+1)
  have up:∀x b,(x,b)∈vN i o rs r (n+1)->∃(j:Nat) (oj':Oper),(oj::r)[j]?=some oj'/\oj'.dst=some x/\((n+j∈b9 o.after.toList/\b=rs.getD (n+j) .dead)∨b=.dead):=fun x b hx=>by
   obtain⟨j,oj',h1,h2,h3⟩:=ih1 x b hx;exact⟨j+1,oj',by simpa using h1,h2,by rw[show n+(j+1)=n+1+j by omega];exact h3⟩
  unfold vN
  cases hd:oj.dst with
  |none =>
   simp only
   refine⟨up,fun j oj' x h1 h2 h3=>?_⟩
   cases j with
   |zero=>simp at h1;subst h1;rw[hd] at h2;cases h2
   |succ j=>exact ih2 j oj' x (by simpa using h1) h2 h3
  |some d =>
   simp only
   cases hm:pA n (b9 o.after.toList) with
   |true =>
    simp only
    refine⟨fun x b hx=>?_,fun j oj' x h1 h2 h3=>?_⟩
    ·rcases xtw13.1 hx with h4|h4
     ·cases h4;exact⟨0,oj,rfl,hd,.inl ⟨by rw[memB_iff] at hm;simpa using hm,by simp⟩⟩
     ·exact up x b h4
    ·cases j with
     |zero=>simp at h1;subst h1;rw[hd] at h2;cases h2;exact absurd (xtw29 ..) (h3 _)
     |succ j=>exact ih2 j oj' x (by simpa using h1) h2 fun b hb=>h3 b (xtw25 _ hb)
   |false =>
    simp only
    cases hm2:pA i (b9 oj.after.toList) with
    |true =>
     simp only
     refine⟨up,fun j oj' x h1 h2 h3=>?_⟩
     cases j with
     |zero=>simp at h1;subst h1;exact memB_iff.1 hm2
     |succ j=>exact ih2 j oj' x (by simpa using h1) h2 h3
    |false =>
     simp only
     refine⟨fun x b hx=>?_,fun j oj' x h1 h2 h3=>?_⟩
     ·rcases xtw13.1 hx with h4|h4
      ·cases h4;exact⟨0,oj,rfl,hd,.inr rfl⟩
      ·exact up x b h4
     ·cases j with
      |zero=>simp at h1;subst h1;rw[hd] at h2;cases h2;exact absurd (xtw29 ..) (h3 _)
      |succ j=>exact ih2 j oj' x (by simpa using h1) h2 fun b hb=>h3 b (xtw25 _ hb)
theorem jaS{rs:List A}:∀{l:List Oper} {n:Nat},(∀x b,(x,b)∈dH rs l n->∃(j:Nat) (oj:Oper),l[j]?=some oj/\oj.dst=some x/\b=rs.getD (n+j) .dead) ∧
  (∀(j:Nat) (oj:Oper) (x:Nat),l[j]?=some oj->oj.dst=some x->∃b,(x,b)∈dH rs l n)
 |[],n=>⟨by simp[dH],by simp⟩
 |oj::r,n=>by
  obtain⟨ih1,ih2⟩:=jaS (rs:=rs) (l:=r) (n:=n+1)
  have up:∀x b,(x,b)∈dH rs r (n+1)->∃(j:Nat) (oj':Oper),(oj::r)[j]?=some oj'/\oj'.dst=some x/\b=rs.getD (n+j) .dead:=fun x b hx=>by
   obtain⟨j,oj',h1,h2,h3⟩:=ih1 x b hx;exact⟨j+1,oj',by simpa using h1,h2,by rw[show n+(j+1)=n+1+j by omega];exact h3⟩
  unfold dH
  cases hd:oj.dst with
  |none =>
   simp only
   refine⟨up,fun j oj' x h1 h2=>?_⟩
   cases j with
   |zero=>simp at h1;subst h1;rw[hd] at h2;cases h2
   |succ j=>exact ih2 j oj' x (by simpa using h1) h2
  |some d =>
   simp only
   refine⟨fun x b hx=>?_,fun j oj' x h1 h2=>?_⟩
   ·rcases xtw13.1 hx with h4|h4
    ·cases h4;exact⟨0,oj,rfl,hd,by simp⟩
    ·exact up x b h4
   ·cases j with
    |zero=>simp at h1;subst h1;rw[hd] at h2;cases h2;exact⟨_,xtw29 ..⟩
    |succ j =>
     obtain⟨b,hb⟩:=ih2 j oj' x (by simpa using h1) h2;exact⟨b,xtw25 _ hb⟩
theorem jaY(hf:iB ops){rs:List A}{D:Array Bool}(h:jcK dr w0 C0 β0 s E ops rs D a w){i:Nat}{o:Oper}(ho:ops[i]?=some o)(hu:D.getD i false=false)(hd:∀e∈o.after,Region.binds .any e=true->D.getD e.on false=true){C':Rd}
  (hx:∀(x:Nat) (a':A) (v:Value),s.t[x]?=some a'->a.tmps.toList[x]?=some v →
   (∀(j:Nat) (oj:Oper),ops[j]?=some oj->oj.dst=some x->D.getD j false=true->(rs.getD j .dead).rep ⟨C',E.β,E.ρ⟩ v)/\((∀(j:Nat) (oj:Oper),ops[j]?=some oj->oj.dst=some x->D.getD j false=false)->a'.rep ⟨C',E.β,E.ρ⟩ v)) :
  A.repL (z7 (vN i o rs ops 0) s.t) ⟨C',E.β,E.ρ⟩ a.tmps.toList:=by
 refine jaf (by rw[fO];simpa using h.size) fun x b u h1 h2=>?_
 rw[fN,xtw49] at h1;obtain⟨a',h1,rfl⟩:=h1;obtain⟨g1,g2⟩:=hx x a' u h1 h2;obtain⟨m1,m2⟩:=jd8 (i:=i) (o:=o) (rs:=rs) (l:=ops) (n:=0);rcases bZ (g:=vN i o rs ops 0) (x:=x) (a:=a') with ⟨b,k1,k2⟩|⟨k1,k2⟩
 ·rw[k2];obtain⟨j,oj,q1,q2,q3⟩:=m1 x b k1;rcases q3 with ⟨q3,rfl⟩|rfl
  ·rw[xtw41] at q3 ⊢;obtain⟨e,he,hb,rfl⟩:=onsOf_mem.1 q3;exact g1 e.on oj q1 q2 (hd e (by simpa using he) hb)
  ·exact A.rep_dead _ _
 ·rw[k2]
  refine g2 fun j oj q1 q2=>?_
  have:=m2 j oj x q1 q2 k1;obtain⟨e,he,hb,he2⟩:=onsOf_mem.1 this
  cases hD:D.getD j false with
  |false=>rfl
  |true =>
   have:=h.closed j oj q1 hD e (by simpa using he) hb;rw[he2,hu] at this;cases this
theorem rP(hf:iB ops){rs:List A}{D:Array Bool}(h:jcK dr w0 C0 β0 s E ops rs D a w){i:Nat}{o:Oper}(ho:ops[i]?=some o)(hu:D.getD i false=false)(hd:∀e∈o.after,Region.binds .any e=true->D.getD e.on false=true){C' C'':Rd}(hC:Sub E.C C'')(hCC:Sub C' C''){w':World}{y:Value}
  (hp:Hp w0 C0 β0 s.bx s.rw w' ⟨C'',E.β,E.ρ⟩) (hy:(rs.getD i .dead).rep ⟨C'',E.β,E.ρ⟩ y)
  (hx:∀(x:Nat) (a':A) (v:Value),s.t[x]?=some a'->a.tmps.toList[x]?=some v →
   (∀(j:Nat) (oj:Oper),ops[j]?=some oj->oj.dst=some x->D.getD j false=true->(rs.getD j .dead).rep ⟨C',E.β,E.ρ⟩ v)/\((∀(j:Nat) (oj:Oper),ops[j]?=some oj->oj.dst=some x->D.getD j false=false)->a'.rep ⟨C',E.β,E.ρ⟩ v)) :
  jcK dr w0 C0 β0 s E ops rs (D.setIfInBounds i true) (a.put o.dst y) w':=by
 have hil:=(xtw5.1 ho).1
 have hD:∀j,(D.setIfInBounds i true).getD j false=if j=i then true else D.getD j false:=fun j=>by
  by_cases hj:j=i
  ·subst hj;rw[xtw3 rfl];simp[xtw47,h.dsize,hil]
  ·rw[xtw2 hj];simp only[xtw47];rw[xtw87 (fun e=>hj e.symm)]
 have le:(⟨C',E.β,E.ρ⟩:Env).le ⟨C'',E.β,E.ρ⟩:=⟨hCC,fun _ _ h=>h,fun _ _ h=>h⟩
 refine⟨⟨C'',hC,hp,fun x a' v h1 h2=>?_⟩,?_,?_,by simp[h.dsize],fun j oj hj hDj e he hb=>?_⟩
 ·by_cases hdx:o.dst=some x
  ·refine⟨fun j oj q1 q2 q3=>?_,fun hn=>?_⟩
   ·obtain rfl:i=j:=hf.dist i j o oj x ho q1 hdx q2
    have hv:v=y:=by
     rw[hdx] at h2;have:(a.tmps.setIfInBounds x y).toList[x]?=some v:=h2;rw[xtw91] at this
     have hxl:x<a.tmps.toList.length:=by
      have:=(xtw5.1 h1).1;have:=h.size
      simp;omega
     rw[xtw35 hxl] at this;exact(xtw43 this).symm
    rw[hv];exact hy
   ·have:=hn i o ho hdx;rw[hD,xtw3 rfl] at this;cases this
  ·have h2':a.tmps.toList[x]?=some v:=by
    cases hod:o.dst with
    |none=>rw[hod] at h2;exact h2
    |some d =>
     rw[hod] at h2 hdx;have:(a.tmps.setIfInBounds d y).toList[x]?=some v:=h2;rw[xtw91] at this;rw[xtw39 (fun e=>hdx (by rw[e]))] at this;exact this
   obtain⟨g1,g2⟩:=hx x a' v h1 h2';refine⟨fun j oj q1 q2 q3=>?_,fun hn=>?_⟩
   ·have hji:j≠i:=fun e=>by
     subst e;rw[ho] at q1;cases q1;exact hdx q2
    rw[hD,xtw2 hji] at q3;exact(g1 j oj q1 q2 q3).mono _ le
   ·refine(g2 fun j oj q1 q2=>?_).mono _ le;have:=hn j oj q1 q2
    have hji:j≠i:=fun e=>by
     subst e;rw[ho] at q1;cases q1;exact hdx q2
    rwa [hD,xtw2 hji] at this
 ·cases hod:o.dst with
  |none=>exact h.size
  |some d =>
   show(a.tmps.setIfInBounds d y).size=_;simpa using h.size
 ·cases hod:o.dst <;> exact h.defers
 ·rw[hD];split
  ·rfl
  ·rw[hD] at hDj;split at hDj
   ·rename_i hji;subst hji;rw[ho] at hj;cases hj;exact hd e he hb
   ·exact h.closed j oj hj hDj e he hb
def kE(n:Nat)(D:Array Bool):List Nat:=(List.range n).filter fun i => !D.getD i false
theorem sM{n i:Nat}{D:Array Bool}(hi:i<n)(hs:D.size=n)(hu:D.getD i false=false):(kE n (D.setIfInBounds i true)).length<(kE n D).length:=by
 have:kE n (D.setIfInBounds i true)=(kE n D).filter fun j=>decide (j≠i):=by
  unfold kE;rw[List.filter_filter]
  refine List.filter_congr fun j _=>?_
  by_cases hj:j=i
  ·subst hj;simp[xtw47,hs,hi]
  ·simp only[xtw47];rw[xtw87 (fun e=>hj e.symm)];simp[hj]
 rw[this];refine List.length_filter_lt_length_iff_exists.2 ⟨i,?_,by simp⟩;unfold kE;rw[List.mem_filter];exact⟨xtw98.2 hi,by simp[hu]⟩
theorem jjO{D:Array Bool}{i:Nat}(h:i<D.size)(b b':Bool):D.getD i b=D.getD i b':=by simp[xtw47,h]
theorem fI{D:Array Bool}(hs:D.size=ops.length){i:Nat}(h:i∈Region.ready .any ops.toArray D):i<ops.length/\D.getD i false=false/\∃o,ops[i]?=some o/\∀e∈o.after,Region.binds .any e=true->D.getD e.on false=true:=by
 obtain⟨h1,o,h2,h3⟩:=mem_ready.1 h
 have h2':ops[i]?=some o:=by simpa using h2
 have hi:=(xtw5.1 h2').1;exact⟨hi,by rw[jjO (by omega) false true];exact h1,o,h2',h3⟩
theorem pB(hf:iB ops){D:Array Bool}(hs:D.size=ops.length)(h:Region.ready .any ops.toArray D=[]):∀i,i<ops.length->D.getD i false=true:=fun i=>by
 induction i using Nat.strongRecOn with
 |_ i ih =>
  intro hi
  cases hD:D.getD i false with
  |true=>rfl
  |false =>
   have:i∈Region.ready .any ops.toArray D:=mem_ready.2 ⟨by rw[jjO (by omega) true false];exact hD,ops[i],by simp[hi],fun e he hb=>by
    have:=hf.topo i ops[i] (xtw21 hi) e he hb
    exact ih e.on this (by omega)⟩
   rw[h] at this;cases this
theorem jg2{rs:List A}{D:Array Bool}(h:jcK dr w0 C0 β0 s E ops rs D a w)(hall:∀i,i<ops.length->D.getD i false=true):Inv dr w0 C0 β0 ⟨z7 (dH rs ops 0) s.t,s.bx,s.rw⟩ a w:=by
 obtain⟨C',h1,h2,h3⟩:=h.ex;refine⟨⟨C',E.β,E.ρ⟩,h2,?_,repD.mono (E:=E) (F:=⟨C',E.β,E.ρ⟩) ⟨h1,fun _ _ h=>h,fun _ _ h=>h⟩ h.defers⟩
 refine jaf (by rw[fO];simpa using h.size) fun x b u g1 g2=>?_
 rw[fN,xtw49] at g1;obtain⟨a',g1,rfl⟩:=g1;obtain⟨k1,k2⟩:=h3 x a' u g1 g2;obtain⟨m1,m2⟩:=jaS (rs:=rs) (l:=ops) (n:=0);rcases bZ (g:=dH rs ops 0) (x:=x) (a:=a') with ⟨b,q1,q2⟩|⟨q1,q2⟩
 ·rw[q2];obtain⟨j,oj,p1,p2,rfl⟩:=m1 x b q1;rw[xtw41];exact k1 j oj p1 p2 (hall j (xtw5.1 p1).1)
 ·rw[q2]
  refine k2 fun j oj p1 p2=>?_
  obtain⟨b,hb⟩:=m2 j oj x p1 p2;exact absurd hb (q1 b)
theorem jaX{Q:Exit->Act->World->Prop}(hc:c.ok)(hn:∀ch s,¬c.pan ch s)(hf:iB ops){rs:List A}(hg:∀(j:Nat) (o:Oper),ops[j]?=some o->iC c ops s rs j o)(hk:∀a' w',Inv dr w0 C0 β0 ⟨z7 (dH rs ops 0) s.t,s.bx,s.rw⟩ a' w'->Q .normal a' w') :
  ∀(f:Nat) (D:Array Bool) (a:Act) (w:World),(kE ops.length D).length<=f->jcK dr w0 C0 β0 s E ops rs D a w->wpAny c.P .any ops.toArray Q f D a w
 |0,D,a,w,hl,h=>by
  have hn:Region.ready .any ops.toArray D=[]:=by
   rw[List.eq_nil_iff_forall_not_mem];intro i hi;obtain⟨h1,h2,-⟩:=fI h.dsize hi
   have:i∈kE ops.length D:=by unfold kE;rw[List.mem_filter];exact⟨xtw98.2 h1,by simp[h2]⟩
   have h3:kE ops.length D=[]:=xtw15 (by omega);rw[h3] at this;cases this
  exact⟨hn,hk a w (jg2 h (pB hf h.dsize hn))⟩
 |f+1,D,a,w,hl,h=>by
  refine⟨fun hn=>hk a w (jg2 h (pB hf h.dsize hn)),fun i hi=>?_⟩;obtain⟨h1,h2,o,ho,hd⟩:=fI h.dsize hi;obtain⟨C',q1,q2,q3⟩:=h.ex;have hst:=jaY hf h ho h2 hd q3;have hG:=hg i o ho;unfold iC at hG;unfold wpOp
  have ho':ops.toArray[i]?=some o:=by simpa using ho
  rw[ho']
  simp only
  have hlt:=sM h1 h.dsize h2;rcases v7 hst hG with ⟨k1,k2⟩|⟨k1,k2⟩
  ·rw[xtw3 k1];left
   refine rH hc (s:=⟨z7 (vN i o rs ops 0) s.t,s.bx,s.rw⟩) q2 hst k2 (fun ch s' _ _ h1 _ _ _=>absurd h1 (hn ch s')) fun y w' ⟨⟨r,s',E',g1,g2,g3,g4,g5,g6,g7⟩⟩=>?_
   obtain⟨C'',p1,p2,p3⟩:=jku q2 g1 g3 g4 g5 (g6 rfl);exact jaX hc hn hf hg hk f _ _ _ (by omega) (rP hf h ho h2 hd (q1.trans p1) p1 p2 p3 q3)
  ·rw[xtw2 (by rw[k1];simp)];exact jaX hc hn hf hg hk f _ _ _ (by omega) (rP hf h ho h2 hd q1 (Sub.refl _) q2 (by rw[k2];exact wM _) q3)
theorem jp7{id:Nat}{Q:Exit->Act->World->Prop}{K:S->Prop}(hc:c.ok)(hn:∀ch s,¬c.pan ch s)(hi:Inv dr w0 C0 β0 s a w)(hB:sX ops.toArray=true)(h:jlO c ops s K)(hk:∀s' a' w',K s'->Inv dr w0 C0 β0 s' a' w'->Q .normal a' w'):(Code.region id ops.toArray true).wp c.P Q a w:=by
 obtain⟨E,hp,ht,hd⟩:=hi;have hf:=jaW hB;obtain⟨rs,k1,k2⟩:=jcP (c:=c) (s:=s) (ops:=ops) hf (l:=ops) (i:=0) (rs:=[]) (K:=fun rs=>vW (dH rs ops 0) s.t fun t=>jhI s t K) (by rw[xtw118]) rfl h;rw[xtw53,wS,t8] at k1;rw[xtw53] at k2;refine wp_region_noPanic (wp_region_any hc.m ?_);refine jaX (Q:=NoPanic Q) hc hn hf (fun j o ho=>k2 j o (xtw19 _) ho) (fun a' w' h'=>hk _ a' w' k1 h') _ (Array.replicate ops.toArray.size false) _ _ ?_ (E:=E) ⟨⟨E.C,Sub.refl _,dE hp,fun x a' v h1 h2=>⟨fun j oj _ _ hj=>?_,fun _=>?_⟩⟩,by have:=A.repL_len ht;simpa using this,hd,by simp,fun j oj _ hj=>?_⟩
 ·unfold kE;refine xtw58 (List.length_filter_le _ _) (by simp)
 ·exfalso
  simp only[xtw47,xtw105] at hj
  split at hj <;> simp at hj
 ·obtain⟨u,hu,hr⟩:=A.repL_get ht h1;rw[h2] at hu;cases hu;exact hr
 ·exfalso
  simp only[xtw47,xtw105] at hj
  split at hj <;> simp at hj
end
def Tr.isFlow:Tr->Bool
 |.q _ m _=>Nat.beq m 7
 |_=>false
end
section
def jbh(ops:List Oper):Bool:=(List.range (ops.length-1)).all fun j=>ops.zipIdx.any fun x=>decide (j<x.2)&&pA j (b9 x.1.after.toList)
def wZ:List Oper->List Oper
 |[]=>[]
 |o::r=>match r with
  |[]=>[]
  |_::_=>o::wZ r
def jbg:List Oper->Option Oper
 |[]=>none
 |o::r=>match r with
  |[]=>some o
  |_::_=>jbg r
theorem rT:∀{ops:List Oper} {o:Oper},jbg ops=some o->ops=wZ ops++[o]
 |[],o,h=>by simp[jbg] at h
 |a::r,o,h=>by
  cases r with
  |nil=>simp[jbg] at h;simp[wZ,h]
  |cons b r =>
   have:=rT (ops:=b::r) (o:=o) (by simpa [jbg] using h)
   have e:wZ (a::b::r)=a::wZ (b::r):=by simp[wZ]
   rw[e,xtw61,<- this]
def jek(c:Cx)(ops:List Oper)(s:S)(K:S->Prop):Prop:=match jbg ops with
 |some oL=>jcO c ops s (wZ ops) 0 [] fun rs=>vW (dH rs (wZ ops) 0) s.t fun t=>jhI s t fun s1=>bP ops oL s1 (ado c (fun _=>true) s1 oL K) (kZ s1 oL.dst (.tup []) K)
 |none=>False
section
variable{c:Cx}{dr:List (Nat×List A)}{w0:W0}{C0:Rd}{β0:List Nat}{s:S}{a:Act}{w:World}{E:Env}{ops:List Oper}
theorem jas(hf:iB ops):∀{l rest:List Oper} {i:Nat} {rs:List A} {K:List A->Prop},ops.drop i=l++rest->rs.length=i->jcO c ops s l i rs K →
  ∃ms,K (rs++ms)/\∀(j:Nat) (o:Oper),i<=j->j<i+l.length->ops[j]?=some o->iC c ops s (rs++ms) j o
 |[],rest,i,rs,K,hl,hr,h=>⟨[],by rw[xtw66];exact h,fun j o hj hj2 ho=>by simp at hj2;omega⟩
 |o::l,rest,i,rs,K,hl,hr,h=>by
  change jar c ops s o (jcO c ops s l) i rs K at h
  unfold jar at h;obtain⟨R,h1,h2⟩:=h;rw[wS] at h1;rw[force_iff,kU] at h2
  have ho:ops[i]?=some o:=by
   have:=congrArg (·[0]?) hl;simp at this;exact this
  have hl':ops.drop (i+1)=l++rest:=by
   have:=congrArg List.tail hl;simpa using this
  obtain⟨ms,k1,k2⟩:=jas hf hl' (by simp[hr]) h2;refine⟨R::ms,by simpa using k1,fun j oj hj hj2 hoj=>?_⟩;by_cases hji:j=i
  ·subst hji;rw[ho] at hoj;cases hoj;unfold iC
   rw[sW (fun j' hj'=>by
    obtain⟨e,he,hb,rfl⟩:=onsOf_mem.1 hj';have:=hf.topo j o ho e (by simpa using he) hb
    rw[hr];exact this)]
   have e:(rs++R::ms).getD j .dead=R:=by
    rw[xtw9,xtw33 (by omega),hr];simp
   rw[e];exact h1
  ·have:=k2 j oj (by omega) (by simp at hj2;omega) hoj;simpa using this
theorem jlR{D:Array Bool}(hL:jbh ops=true)(hcl:∀(j:Nat) (o:Oper),ops[j]?=some o->D.getD j false=true->∀e∈o.after,Region.binds .any e=true->D.getD e.on false=true)
  {oL:Oper} (ho:ops[ops.length-1]?=some oL) (hd:∀e∈oL.after,Region.binds .any e=true->D.getD e.on false=true):∀(n j:Nat),ops.length-1-j=n->j<ops.length-1->D.getD j false=true:=fun n=>by
 induction n using Nat.strongRecOn with
 |_ n ih =>
  intro j hn hj;unfold jbh at hL;have h1:=xtw65.1 hL j (xtw98.2 hj);obtain⟨⟨o,k⟩,h2,h3⟩:=xtw34.1 h1;simp only[xtw14,xtw17] at h3
  have hk:ops[k]?=some o:=by
   rw[List.mem_zipIdx_iff_getElem?] at h2;simpa using h2
  obtain⟨e,he,hb,he2⟩:=onsOf_mem.1 (memB_iff.1 h3.2);have hkl:=(xtw5.1 hk).1;by_cases hkL:k=ops.length-1
  ·subst hkL;rw[ho] at hk;cases hk;rw[<- he2];exact hd e (by simpa using he) hb
  ·have:=ih (ops.length-1-k) (by omega) k rfl (by omega);rw[<- he2];exact hcl k o hk this e (by simpa using he) hb
theorem jdJ{D:Array Bool}(hs:D.size=ops.length)(h:∀i,i<ops.length->D.getD i false=true):Region.ready .any ops.toArray D=[]:=by
 rw[List.eq_nil_iff_forall_not_mem];intro i hi;obtain⟨h1,h2,-⟩:=fI hs hi;rw[h i h1] at h2;cases h2
theorem jcm{Q:Exit->Act->World->Prop}{D:Array Bool}(hs:D.size=ops.length)(h:∀i,i<ops.length->D.getD i false=true)(hQ:Q .normal a w):∀f,wpAny c.P .any ops.toArray Q f D a w
 |0=>⟨jdJ hs h,hQ⟩
 |f+1=>⟨fun _=>hQ,fun i hi=>by rw[jdJ hs h] at hi;cases hi⟩
theorem sY{Q:Exit->Act->World->Prop}{K:S->Prop}(hc:c.ok)(hn:∀ch s,¬c.pan ch s)(hdr:∃n,yP n dr=true)(hf:iB ops)(hL:jbh ops=true){oL:Oper}(hoL:jbg ops=some oL){rs:List A}(hg:∀(j:Nat) (o:Oper),j<ops.length-1->ops[j]?=some o->iC c ops s rs j o)
  (hlast:bP ops oL ⟨z7 (dH rs (wZ ops) 0) s.t,s.bx,s.rw⟩ (ado c (fun _=>true) ⟨z7 (dH rs (wZ ops) 0) s.t,s.bx,s.rw⟩ oL K) (kZ ⟨z7 (dH rs (wZ ops) 0) s.t,s.bx,s.rw⟩ oL.dst (.tup []) K))
  (hk:∀s' a' w',K s'->Inv dr w0 C0 β0 s' a' w'->Q .normal a' w') :
  ∀(f:Nat) (D:Array Bool) (a:Act) (w:World),D.getD (ops.length-1) false=false->(kE ops.length D).length<=f->jcK dr w0 C0 β0 s E ops rs D a w->wpAny c.P .any ops.toArray Q f D a w
 |0,D,a,w,hu,hl,h=>by
  exfalso
  have hops:=rT hoL
  have h0:0<ops.length:=by rw[hops];simp
  have:ops.length-1∈kE ops.length D:=by unfold kE;rw[List.mem_filter];exact⟨xtw98.2 (by omega),by simp[hu]⟩
  have h3:kE ops.length D=[]:=xtw15 (by omega);rw[h3] at this;cases this
 |f+1,D,a,w,hu,hl,h=>by
  have hops:=rT hoL
  have hlen:ops.length=(wZ ops).length+1:=by have:=congrArg List.length hops;simpa using this
  have hoL2:ops[ops.length-1]?=some oL:=by
   have e:ops.length-1=(wZ ops).length:=by omega
   have h3:(wZ ops++[oL])[(wZ ops).length]?=some oL:=by simp
   rw[<- hops] at h3;rw[e];exact h3
  refine⟨fun hn'=>?_,fun i hi=>?_⟩
  ·have:=pB hf h.dsize hn' (ops.length-1) (by omega);rw[hu] at this;cases this
  obtain⟨h1,h2,o,ho,hd⟩:=fI h.dsize hi;obtain⟨C',q1,q2,q3⟩:=h.ex;unfold wpOp
  have ho':ops.toArray[i]?=some o:=by simpa using ho
  rw[ho']
  simp only
  have hlt:=sM h1 h.dsize h2
  have hDi:∀j,(D.setIfInBounds i true).getD j false=if j=i then true else D.getD j false:=fun j=>by
   by_cases hj:j=i
   ·subst hj;rw[xtw3 rfl];simp[xtw47,h.dsize,h1]
   ·rw[xtw2 hj];simp only[xtw47];rw[xtw87 (fun e=>hj e.symm)]
  by_cases hiL:i=ops.length-1
  ·subst hiL;rw[hoL2] at ho;cases ho;have hall:=jlR hL h.closed hoL2 hd
   have hdone:∀j,j<ops.length->(D.setIfInBounds (ops.length-1) true).getD j false=true:=fun j hj=>by
    rw[hDi];split
    ·rfl
    ·exact hall _ j rfl (by omega)
   -- the state when all others have come up
   have hst:A.repL (z7 (dH rs (wZ ops) 0) s.t) ⟨C',E.β,E.ρ⟩ a.tmps.toList:=by
    refine jaf (by rw[fO];simpa using h.size) fun x b u g1 g2=>?_
    rw[fN,xtw49] at g1;obtain⟨a',g1,rfl⟩:=g1;obtain⟨k1,k2⟩:=q3 x a' u g1 g2;obtain⟨m1,m2⟩:=jaS (rs:=rs) (l:=wZ ops) (n:=0)
    have up:∀(j:Nat) (oj:Oper),(wZ ops)[j]?=some oj->ops[j]?=some oj:=fun j oj hj=>by
     rw[hops];rw[xtw18 (xtw5.1 hj).1];exact hj
    rcases bZ (g:=dH rs (wZ ops) 0) (x:=x) (a:=a') with ⟨b,p1,p2⟩|⟨p1,p2⟩
    ·rw[p2];obtain⟨j,oj,r1,r2,rfl⟩:=m1 x b p1;rw[xtw41];have hjl:=(xtw5.1 r1).1;exact k1 j oj (up j oj r1) r2 (hall _ j rfl (by omega))
    ·rw[p2]
     refine k2 fun j oj r1 r2=>?_
     by_cases hjl:j<(wZ ops).length
     ·have r3:(wZ ops)[j]?=some oj:=by
       rw[hops,xtw18 hjl] at r1;exact r1
      obtain⟨b,hb⟩:=m2 j oj x r3 r2;exact absurd hb (p1 b)
     ·have:=(xtw5.1 r1).1
      have e:j=ops.length-1:=by omega
      rw[e];exact hu
   have hinv:Inv dr w0 C0 β0 ⟨z7 (dH rs (wZ ops) 0) s.t,s.bx,s.rw⟩ a w:=⟨⟨C',E.β,E.ρ⟩,q2,hst,repD.mono (E:=E) (F:=⟨C',E.β,E.ρ⟩) ⟨q1,fun _ _ h=>h,fun _ _ h=>h⟩ h.defers⟩
   rcases v7 hst hlast with ⟨k1,k2⟩|⟨k1,k2⟩
   ·rw[xtw3 k1];left
    exact jfW hc hdr hinv k2 (fun ch s' _ _ h1 _=>absurd h1 (hn ch s')) fun s' a' w' g1 g2=>jcm (by simp[h.dsize]) hdone (hk s' a' w' g1 g2) f
   ·rw[xtw2 (by rw[k1];simp)];obtain⟨s2,p1,p2,p3,p4,p5⟩:=qZ (s:=⟨z7 (dH rs (wZ ops) 0) s.t,s.bx,s.rw⟩) (a:=a) q2 hst (repD.mono (E:=E) (F:=⟨C',E.β,E.ρ⟩) ⟨q1,fun _ _ h=>h,fun _ _ h=>h⟩ h.defers) (wM _) k2;exact jcm (by simp[h.dsize]) hdone (hk s2 _ _ p1 ⟨_,by rw[p2,p3];exact q2,p4,p5⟩) f
  ·have hst:=jaY hf h ho h2 hd q3;have hG:=hg i o (by omega) ho;unfold iC at hG
   have hu2:(D.setIfInBounds i true).getD (ops.length-1) false=false:=by
    rw[hDi,xtw2 (fun e=>hiL e.symm)];exact hu
   rcases v7 hst hG with ⟨k1,k2⟩|⟨k1,k2⟩
   ·rw[xtw3 k1];left
    refine rH hc (s:=⟨z7 (vN i o rs ops 0) s.t,s.bx,s.rw⟩) q2 hst k2 (fun ch s' _ _ h1 _ _ _=>absurd h1 (hn ch s')) fun y w' ⟨⟨r,s',E',g1,g2,g3,g4,g5,g6,g7⟩⟩=>?_
    obtain⟨C'',p1,p2,p3⟩:=jku q2 g1 g3 g4 g5 (g6 rfl);exact sY hc hn hdr hf hL hoL hg hlast hk f _ _ _ hu2 (by omega) (rP hf h ho h2 hd (q1.trans p1) p1 p2 p3 q3)
   ·rw[xtw2 (by rw[k1];simp)];exact sY hc hn hdr hf hL hoL hg hlast hk f _ _ _ hu2 (by omega) (rP hf h ho h2 hd q1 (Sub.refl _) q2 (by rw[k2];exact wM _) q3)
theorem jmE{id:Nat}{Q:Exit->Act->World->Prop}{K:S->Prop}(hc:c.ok)(hn:∀ch s,¬c.pan ch s)(hdr:∃n,yP n dr=true)(hi:Inv dr w0 C0 β0 s a w)(hB:sX ops.toArray=true)(hL:jbh ops=true)(h:jek c ops s K)(hk:∀s' a' w',K s'->Inv dr w0 C0 β0 s' a' w'->Q .normal a' w'):(Code.region id ops.toArray true).wp c.P Q a w:=by
 obtain⟨E,hp,ht,hd⟩:=hi;have hf:=jaW hB;unfold jek at h;split at h
 rotate_left
 ·exact h.elim
 rename_i oL hoL;have hops:=rT hoL
 have hlen:ops.length=(wZ ops).length+1:=by have:=congrArg List.length hops;simpa using this
 obtain⟨rs,k1,k2⟩:=jas (c:=c) (s:=s) (ops:=ops) hf (l:=wZ ops) (rest:=[oL]) (i:=0) (rs:=[]) (by rw[xtw118];exact hops) rfl h;rw[xtw53,wS,t8] at k1;rw[xtw53] at k2;refine wp_region_noPanic (wp_region_any hc.m ?_);refine sY (Q:=NoPanic Q) hc hn hdr hf hL hoL (fun j o hj ho=>k2 j o (xtw19 _) (by omega) ho) k1 (fun s' a' w' g h'=>hk s' a' w' g h') _ (Array.replicate ops.toArray.size false) _ _ ?_ ?_ (E:=E) ⟨⟨E.C,Sub.refl _,dE hp,fun x a' v h1 h2=>⟨fun j oj _ _ hj=>?_,fun _=>?_⟩⟩,by have:=A.repL_len ht;simpa using this,hd,by simp,fun j oj _ hj=>?_⟩
 ·simp only[xtw47,xtw105]
  split <;> rfl
 ·unfold kE;refine xtw58 (List.length_filter_le _ _) (by simp)
 ·exfalso
  simp only[xtw47,xtw105] at hj
  split at hj <;> simp at hj
 ·obtain⟨u,hu,hr⟩:=A.repL_get ht h1;rw[h2] at hu;cases hu;exact hr
 ·exfalso
  simp only[xtw47,xtw105] at hj
  split at hj <;> simp at hj
end
def Tr.isFlowL:Tr->Bool
 |.q _ m _=>Nat.beq m 8
 |_=>false
end
section
section
variable{c:Cx}{dr:List (Nat×List A)}{w0:W0}{C0:Rd}{β0:List Nat}{s:S}{a:Act}{w:World}{E:Env}{o:Oper}
@[irreducible] def xY(np:Nat)(f:S->(Exit->S->Prop)->Prop)(s:S)(Q:Exit->S->Prop):Prop :=
 ∃(X:Type) (F:X->S) (φ:X->Prop) (μ:X->Nat),(∃x,Le np s (F x)/\φ x)/\∀x,φ x->f (F x) fun e s'=>match e with
  |.normal=>∃x',Le np s' (F x')/\φ x'/\μ x'<μ x
  |e=>Q e s'
def Cx.mute(c:Cx):Cx:=⟨c.P,c.T,c.ord,c.xs,c.np,fun _ _=>False⟩
def Cx.kill(c:Cx):Cx:=⟨c.P,c.T,c.ord,c.xs,c.np,fun ch s=>c.pan ch (jd2 s)⟩
theorem Cx.ok.mute(h:c.ok):c.mute.ok:=⟨h.T,h.z,h.m⟩
theorem Cx.ok.kill(h:c.ok):c.kill.ok:=⟨h.T,h.z,h.m⟩
structure Cx.okN(c:Cx):Prop where
 ok:c.ok
 no:∀ch s,¬c.pan ch s
def xE:Code->Bool
 |.seq x y=>xE x&&xE y
 |.cond _ x y=>xE x&&xE y
 |.block _ x=>xE x
 |.loop _=>false
 |.scope x=>xE x
 |_=>true
abbrev AW:=S->(Exit->S->Prop)->Prop
def jev(e:Exit)(s:S)(Q:Exit->S->Prop):Prop:=Q e s
def jm2(_:S)(_:Exit->S->Prop):Prop:=False
def cZ(c:Cx)(id:Nat)(ops:Array Oper)(dr:Bool)(s:S)(Q:Exit->S->Prop):Prop :=
 match dr with
  |false=>oT c ops.toList ops.toList s fun s'=>Q .normal s'
  |true=>match uB (c.xs id) s.bx.length with
   |true=>match Tr.isFlow (c.ord id) with
    |true=>jlO c.mute ops.toList s fun s'=>Q .normal s'
    |false=>match Tr.isFlowL (c.ord id) with
    |true=>jek c.mute ops.toList s fun s'=>Q .normal s'
    |false=>match (c.ord id).many with
    |false=>jct c.kill (xrB (c.xs id)) s.bx.length ops.toList (c.ord id) 0 s fun s'=>Q .normal s'
    |true=>fU (fun K=>jct c.kill (xrB (c.xs id)) s.bx.length ops.toList (c.ord id) 0 s K) fun s'=>Q .normal s'
   |false=>False
def jua(y:AW)(Q:Exit->S->Prop)(e:Exit)(s':S):Prop:=match e with
 |.normal=>y s' Q
 |e=>Q e s'
def jr8(x y:AW)(s:S)(Q:Exit->S->Prop):Prop:=x s (jua y Q)
def jeu(b:Operand)(x y:AW)(s:S)(Q:Exit->S->Prop):Prop:=match ev s b with
 |.v (.bool b)=>ifK b (x s Q) (y s Q)
 |_=>False
def jhU(id:Nat)(Q:Exit->S->Prop)(e:Exit)(s':S):Prop:=match e with
 |.exit i=>match Nat.beq i id with
  |true=>Q .normal s'
  |false=>Q (.exit i) s'
 |e=>Q e s'
def jm1(id:Nat)(x:AW)(s:S)(Q:Exit->S->Prop):Prop:=x s (jhU id Q)
def jnR(Q:Exit->S->Prop)(e:Exit)(s':S):Prop:=match e with
 |.goto _=>False
 |e=>Q e s'
def jm3(x:AW)(s:S)(Q:Exit->S->Prop):Prop:=x s (jnR Q)
noncomputable def sQ(c:Cx)(x:Code):AW :=
 Code.rec (motive:=fun _=>AW) (jev .normal) (fun id ops dr=>cZ c id ops dr) (fun _ _ x y=>jr8 x y) (fun b _ _ x y=>jeu b x y) (fun id _ x=>jm1 id x) (fun _ x=>xY c.np x)
  (fun _ _ _ _ _ _=>jm2) (fun id=>jev (.exit id)) (fun _ x=>jm3 x) (fun _=>jev .normal) (fun _=>jm2) (jev .ret) (fun _=>jm2) x
def kI(ord:Nat->Tr):Code->Bool
 |.region id ops true=>match Tr.isFlow (ord id) with
  |true=>sX ops
  |false=>match Tr.isFlowL (ord id) with
   |true=>sX ops&&jbh ops.toList
   |false=>pN ops (ord id)
 |.seq x y=>kI ord x&&kI ord y
 |.cond _ x y=>kI ord x&&kI ord y
 |.block _ x=>kI ord x
 |.loop x=>kI ord x
 |.scope x=>kI ord x
 |_=>true
theorem jk5{p:Prop}{x y:Code}(h:p∨(xE x&&xE y)=true):p∨xE x=true:=h.imp id fun h=>by simp only[xtw14] at h;exact h.1
theorem jgB{p:Prop}{x y:Code}(h:p∨(xE x&&xE y)=true):p∨xE y=true:=h.imp id fun h=>by simp only[xtw14] at h;exact h.2
theorem nL(hc:c.ok)(hn:β0.length=c.np)(hdr:∃n,yP n dr=true):∀(x:Code) {s:S} {a:Act} {w:World} {q:Exit->S->Prop} {Q:Exit->Act->World->Prop},(yP c.np dr=true∨xE x=true)->(∀ch s' a' w',c.pan ch s'->Inv dr w0 C0 β0 s' a' w'->Q (.panic ch) a' w')->kI c.ord x=true->Inv dr w0 C0 β0 s a w->sQ c x s q->(∀e s' a' w',q e s'->Inv dr w0 C0 β0 s' a' w'->Q e a' w')->x.wp c.P Q a w
 |.skip,s,a,w,q,Q,hl,hx,_,hi,h,hk=>wp_skip (hk _ _ _ _ h hi)
 |.region id ops drw,s,a,w,q,Q,hl,hx,ho,hi,h,hk=>by
  obtain⟨l⟩:=ops
  change cZ c id l.toArray drw s q at h
  unfold cZ at h
  cases drw with
  |false=>exact wp_region_lit (jiX hc hdr hx hi h fun s' a' w' h1 h2=>hk _ _ _ _ h1 h2)
  |true =>
   simp only at h
   split at h
   ·rename_i hxs;unfold kI at ho;split at h
    ·rename_i hfl;rw[hfl] at ho
     exact jp7 (c:=c.mute) hc.mute (fun _ _ h=>h) hi ho h fun s' a' w' h1 h2=>hk _ _ _ _ h1 h2
    ·rename_i hfl;rw[hfl] at ho;split at h
     ·rename_i hfl2;rw[hfl2] at ho;simp only[xtw14] at ho
      exact jmE (c:=c.mute) hc.mute (fun _ _ h=>h) hdr hi ho.1 ho.2 h fun s' a' w' h1 h2=>hk _ _ _ _ h1 h2
     rename_i hfl2;rw[hfl2] at ho;split at h
     ·exact jnX (c:=c.kill) hc.kill hdr (fun ch s' a' w' h1 h2=>hx _ _ _ _ h1 h2) hi hxs ho h fun s' a' w' h1 h2=>hk _ _ _ _ h1 h2
     ·unfold fU at h;obtain⟨φ,h,h'⟩:=h
      exact jnX (c:=c.kill) hc.kill hdr (fun ch s' a' w' h1 h2=>hx _ _ _ _ h1 h2) hi hxs ho h fun s' a' w' h1 h2=>hk _ _ _ _ (h' _ h1) h2
   ·exact h.elim
 |.seq x y,s,a,w,q,Q,hl,hx,ho,hi,h,hk=>by
  unfold kI at ho;simp only[xtw14] at ho
  change sQ c x s (jua (sQ c y) q) at h
  refine wp_seq (nL hc hn hdr x (jk5 hl) (fun ch s' a' w' h1 h2=>hx ch s' a' w' h1 h2) ho.1 hi h fun e s' a' w' h1 h2=>?_)
  cases e with
  |normal=>exact nL hc hn hdr y (jgB hl) hx ho.2 h2 h1 hk
  |_=>exact hk _ _ _ _ h1 h2
 |.cond b x y,s,a,w,q,Q,hl,hx,ho,hi,h,hk=>by
  unfold kI at ho;simp only[xtw14] at ho
  change jeu b (sQ c x) (sQ c y) s q at h
  unfold jeu at h;split at h
  ·rename_i t hb;obtain⟨E,hp,ht,hd⟩:=hi;obtain⟨hv,-⟩:=kW ht hb;rw[ifK_iff] at h;exact wp_cond_split hv (fun e=>nL hc hn hdr x (jk5 hl) hx ho.1 ⟨E,hp,ht,hd⟩ (h.1 e) hk) (fun e=>nL hc hn hdr y (jgB hl) hx ho.2 ⟨E,hp,ht,hd⟩ (h.2 e) hk)
  ·exact h.elim
 |.block id x,s,a,w,q,Q,hl,hx,ho,hi,h,hk=>by
  unfold kI at ho
  change sQ c x s (jhU id q) at h
  refine wp_block (nL hc hn hdr x hl (fun ch s' a' w' h1 h2=>hx ch s' a' w' h1 h2) ho hi h fun e s' a' w' h1 h2=>?_)
  cases e with
  |exit i =>
   unfold jhU at h1
   simp only at h1
   split at h1
   ·rename_i hb;have:=xtw24 hb;show(if i=id then _ else _);rw[xtw3 this];exact hk _ _ _ _ h1 h2
   ·rename_i hb;show(if i=id then _ else _);rw[xtw2 (fun e=>by rw[e] at hb;simp at hb)];exact hk _ _ _ _ h1 h2
  |_=>exact hk _ _ _ _ h1 h2
 |.loop x,s,a,w,q,Q,hl,hx,ho,hi,h,hk=>by
  unfold kI at ho
  change xY c.np (sQ c x) s q at h
  unfold xY at h;obtain⟨X,F,φ,μ,⟨x0,h1,h2⟩,hround⟩:=h;have hr:yP c.np dr=true:=hl.elim id (fun e=>by cases e);obtain⟨M,hM⟩:=jtC (p:=fun(z:Act×World) n=>∃x,φ x/\Inv dr w0 C0 β0 (F x) z.1 z.2/\μ x=n)
  refine wp_loop (fun a' w'=>∃x,φ x/\Inv dr w0 C0 β0 (F x) a' w') (fun a' w'=>M (a',w')) ⟨x0,h2,h1 dr w0 C0 β0 a w hr hn hi⟩ fun a' w' ⟨x1,h3,h4⟩=>?_
  obtain⟨⟨x2,h5,h6,h7⟩,-⟩:=hM (a',w') ⟨_,x1,h3,h4,rfl⟩
  refine nL hc hn hdr x (.inl hr) (fun ch s' a' w' h1 h2=>hx ch s' a' w' h1 h2) ho h6 (hround x2 h5) fun e s' a2 w2 h8 h9=>?_
  cases e with
  |normal =>
   obtain⟨x3,g1,g2,g3⟩:=h8;have g4:=g1 dr w0 C0 β0 a2 w2 hr hn h9;refine⟨⟨x3,g2,g4⟩,?_⟩;have:=(hM (a2,w2) ⟨_,x3,g2,g4,rfl⟩).2 (μ x3) ⟨x3,g2,g4,rfl⟩;show M (a2,w2)<M (a',w');omega
  |_=>exact hk _ _ _ _ h8 h9
 |.exit id,s,a,w,q,Q,hl,hx,_,hi,h,hk=>wp_exit (hk _ _ _ _ h hi)
 |.ret,s,a,w,q,Q,hl,hx,_,hi,h,hk=>wp_ret (hk _ _ _ _ h hi)
 |.label _,s,a,w,q,Q,hl,hx,_,hi,h,hk=>wp_label (hk _ _ _ _ h hi)
 |.rangeFunc ..,_,_,_,_,_,_,_,_,_,h,_=>h.elim
 |.scope x,s,a,w,q,Q,hl,hx,ho,hi,h,hk=>by
  unfold kI at ho
  change sQ c x s (jnR q) at h
  refine wp_scope_straight (nL hc hn hdr x hl (fun ch s' a' w' h1 h2=>hx ch s' a' w' h1 h2) ho hi h fun e s' a' w' h1 h2=>?_)
  cases e with
  |goto l=>exact h1.elim
  |_=>exact hk _ _ _ _ h1 h2
 |.goto _,_,_,_,_,_,_,_,_,_,h,_=>h.elim
 |.refuse _,_,_,_,_,_,_,_,_,_,h,_=>h.elim
end
end
section
def jfS:Nat->(List A->Prop)->Prop
 |0,K=>K []
 |n+1,K=>jfS n fun r=>K (.dead::r)
theorem jd1:∀{n:Nat} {K:List A->Prop},jfS n K↔K (List.replicate n .dead)
 |0,K=>by simp[jfS]
 |n+1,K=>by simp[jfS,jd1 (n:=n),xtw73]
def yT:List A->Nat->(List A->Prop)->Prop
 |[],n,K=>jfS n K
 |a::as,n,K=>yT as n fun r=>K (a::r)
theorem initK_iff:∀{as:List A} {n:Nat} {K:List A->Prop},yT as n K↔K (as++List.replicate n .dead)
 |[],n,K=>by simp[yT,jd1]
 |a::as,n,K=>by simp[yT,initK_iff (as:=as)]
theorem gN{E:Env}:∀(n:Nat) (v:Value),A.repL (List.replicate n .dead) E (List.replicate n v)
 |0,v=>by simp[A.repL]
 |n+1,v=>by
  rw[xtw73,xtw73];unfold A.repL;exact⟨_,_,rfl,A.rep_dead _ _,gN n v⟩
def upto:Nat->List Nat
 |0=>[]
 |n+1=>upto n++[n]
theorem sN:∀n,(upto n).length=n
 |0=>rfl
 |n+1=>by simp[upto,sN n]
theorem jci:∀{n j i:Nat},(upto n)[j]?=some i->i=j/\j<n
 |0,j,i,h=>by simp[upto] at h
 |n+1,j,i,h=>by
  unfold upto at h;by_cases hj:j<n
  ·rw[xtw18 (by rw[sN];exact hj)] at h;have:=jci h;omega
  ·rw[xtw33 (by rw[sN];omega),sN] at h;have h1:=(xtw5.1 h).1
   have e:j-n=0:=by simp at h1;omega
   rw[e] at h;simp at h;omega
def jiO(T:List (Nat×Te))(s:S)(r:ResultVar)(K:A->Prop):Prop :=
 match r with
 |.tmp t=>K (s.t.getD t .dead)
 |.cell t ty=>m7 T (fun _=>false) s ty (.tmp t) K
def jlp(T:List (Nat×Te))(s:S)(rv:List ResultVar)(K:A->Prop):Prop :=
 match rv with
 |[]=>K (.tup [])
 |[r]=>jiO T s r K
 |[r1,r2]=>jiO T s r1 fun x=>jiO T s r2 fun y=>K (.tup [x,y])
 |[r1,r2,r3]=>jiO T s r1 fun x=>jiO T s r2 fun y=>jiO T s r3 fun z=>K (.tup [x,y,z])
 |_=>False
def uL:List (List A)->List Nat
 |[]=>[]
 |a::r=>o7 a++uL r
def cE{α:Type}:Nat->List α->List α
 |0,_=>[]
 |_+1,[]=>[]
 |n+1,a::r=>a::cE n r
theorem lQ{α:Type}:∀(n:Nat) (l:List α),cE n l=l.take n
 |0,_=>by simp[cE]
 |_+1,[]=>by simp[cE]
 |n+1,a::r=>by simp[cE,lQ n r]
def jiP(c:Cx)(rv:List ResultVar)(post:List (List A)->A->Prop)(s:S):Prop :=
 jlp c.T s rv fun r=>match nF (upto c.np) (jB s.rw (aX r++uL (cE c.np s.bx))) (cE c.np s.bx) with
  |some outs=>match ren (upto c.np) (jB s.rw (aX r++uL (cE c.np s.bx))) r with
   |some r'=>post outs r'
   |none=>False
  |none=>False
def ji3(c:Cx)(rv:List ResultVar)(post:List (List A)->A->Prop)(e:Exit)(s:S):Prop :=
 match e with
 |.ret=>jiP c rv post s
 |.normal=>jiP c rv post s
 |_=>False
section
variable{c:Cx}{w0:W0}{C0:Rd}{β0:List Nat}{s:S}{a:Act}{w:World}{E:Env}
def jiS(tmps:Array Value)(r:ResultVar):Sem Value:=match r with
 |.tmp t=>pure (tmps.getD t undef)
 |.cell a t=>do loadVar t (<- asAddr (tmps.getD a undef))
theorem repL_cons{x:A}{y:Value}{l:List A}{us:List Value}(h:x.rep E y)(k:A.repL l E us):A.repL (x::l) E (y::us):=by
 unfold A.repL;exact⟨y,us,rfl,h,k⟩
theorem mL{r:ResultVar}{K:A->Prop}(hc:c.ok)(hp:Hp w0 C0 β0 s.bx s.rw w E)(ht:A.repL s.t E a.tmps.toList)(h:jiO c.T s r K):∃x y,K x/\x.rep E y/\(jiS a.tmps r).run c.P w=.ok y w:=by
 cases r with
 |tmp t =>
  refine⟨_,a.tmps.getD t undef,h,?_,by simp[jiS]⟩;have:=A.repL_getD ht t undef;simpa using this
 |cell t ty =>
  obtain⟨x,y,h1,h2,h3⟩:=jk0 (o:=⟨none,.load ty (.tmp t),ty, "",#[],none⟩) hc.T hp ht rfl h;refine⟨x,y,h1,h2,?_⟩;have e:=h3 w (Same.refl _ _ _);have hx:=jS ht (.tmp t);simp only[execOp,Act.eval,Instr.loadAt] at e
  cases hv:a.tmps.getD t undef with
  |pointer p =>
   rw[hv] at e
   cases p with
   |none=>simp[Instr.sureAddr,stuck,Sem.run,Result.andThen] at e
   |some ad =>
    simp only[jiS,hv,asAddr];simp[Instr.sureAddr,Result.andThen] at e ⊢;split at e
    ·rename_i v w' hrun;cases e;exact hrun
    ·cases e
  |_=>rw[hv] at e;simp[Instr.sureAddr,stuck,Sem.run,Result.andThen] at e
theorem jag{fn:Func}{K:A->Prop}(hc:c.ok)(hp:Hp w0 C0 β0 s.bx s.rw w E)(ht:A.repL s.t E a.tmps.toList)(h:jlp c.T s fn.results.toList K):∃x y,K x/\x.rep E y/\(results fn a.tmps).run c.P w=.ok y w:=by
 have he:results fn a.tmps=(do let vs <- fn.results.mapM (jiS a.tmps);pure (if h:vs.size=1 then vs[0] else .tuple vs)):=by
  unfold results
  congr 1
 unfold jlp at h;split at h
 ·rename_i hr;have hr':fn.results = #[]:=Array.toList_eq_nil_iff.1 hr;exact⟨_,.tuple #[],h,by unfold A.rep;exact⟨#[],rfl,by simp[A.repL]⟩,by rw[he,hr'];simp⟩
 ·rename_i r hr
  have hr':fn.results = #[r]:=by rw[<- hr]
  obtain⟨x,y,h1,h2,h3⟩:=mL hc hp ht h;exact⟨x,y,h1,h2,by rw[he,hr'];simp[h3,Result.andThen]⟩
 ·rename_i r1 r2 hr
  have hr':fn.results = #[r1,r2]:=by rw[<- hr]
  obtain⟨x,y,h1,h2,h3⟩:=mL hc hp ht h;obtain⟨x2,y2,k1,k2,k3⟩:=mL hc hp ht h1;refine⟨_,.tuple #[y,y2],k1,?_,by rw[he,hr'];simp[h3,k3,Result.andThen]⟩;unfold A.rep;exact⟨_,rfl,repL_cons h2 (repL_cons k2 (by simp[A.repL]))⟩
 ·rename_i r1 r2 r3 hr
  have hr':fn.results = #[r1,r2,r3]:=by rw[<- hr]
  obtain⟨x,y,h1,h2,h3⟩:=mL hc hp ht h;obtain⟨x2,y2,k1,k2,k3⟩:=mL hc hp ht h1;obtain⟨x3,y3,g1,g2,g3⟩:=mL hc hp ht k1;refine⟨_,.tuple #[y,y2,y3],g1,?_,by rw[he,hr'];simp[h3,k3,g3,Result.andThen]⟩;unfold A.rep;exact⟨_,rfl,repL_cons h2 (repL_cons k2 (repL_cons g2 (by simp[A.repL])))⟩
 ·exact h.elim
theorem aS{P:Program}{f:Nat}{fn:Func}{x:Code}(hf:P.funcs[f]?=some fn)(hb:fn.body=some x)(hname:(fn.name == "runtime.NumGoroutine")=false) (vs:Array Value) (w:World):(callFunc f vs).run P w=.ok (.enter f vs) w:=by
 have h3:¬fn.name = "runtime.NumGoroutine" := by simpa using hname
 simp[callFunc,program,Sem.run,hf,h3,hb,Result.andThen]
mutual
def yK(g:Nat)(rw:List Row):A->Option A
 |.dead=>some .dead
 |.v x=>some (.v x)
 |.sl k n cs=>some (.sl k n cs)
 |.pp cs=>some (.pp cs)
 |.gp g o=>some (.gp g o)
 |.adr T=>some (.adr T)
 |.err=>some .err
 |.num=>some .num
 |.own h=>match Nat.beq g h with
  |true=>some (.own 0)
  |false=>match rw[h]? with
   |some (.pub k n cs)=>some (.sl k n cs)
   |_=>none
 |.orow _ _=>none
 |.box _ _=>none
 |.clo f caps=>match cB g rw caps with
  |some l=>some (.clo f l)
  |none=>none
 |.bm f caps=>match cB g rw caps with
  |some l=>some (.bm f l)
  |none=>none
 |.mp ks vs=>some (.mp ks vs)
 |.agg l=>match cB g rw l with
  |some l=>some (.agg l)
  |none=>none
 |.tup l=>match cB g rw l with
  |some l=>some (.tup l)
  |none=>none
def cB(g:Nat)(rw:List Row):List A->Option (List A)
 |[]=>some []
 |a::r=>match yK g rw a with
  |some a=>match cB g rw r with
   |some r=>some (a::r)
   |none=>none
  |none=>none
end
mutual
theorem jbN{bx:List (List A)}{rw:List Row}{g:Nat}{z:Value}(hp:Hp w0 C0 β0 bx rw w E)(hg:E.ρ[g]?=some z):∀(a:A) {a':A} {y:Value},yK g rw a=some a'->a.rep E y->a'.rep ⟨E.C,[],[z]⟩ y
 |.dead,a',y,h,_=>by simp[yK] at h;subst h;exact A.rep_dead _ _
 |.v x,a',y,h,hr=>by simp[yK] at h;subst h;unfold A.rep at hr ⊢;exact hr
 |.sl k n cs,a',y,h,hr=>by simp[yK] at h;subst h;unfold A.rep at hr ⊢;exact hr
 |.pp cs,a',y,h,hr=>by simp[yK] at h;subst h;unfold A.rep at hr ⊢;exact hr
 |.own j,a',y,h,hr=>by
  unfold yK at h;split at h
  ·rename_i hb;cases h;have:=xtw24 hb;subst this;unfold A.rep at hr ⊢;rw[hg] at hr;simpa using hr
  ·split at h
   ·rename_i k n cs hj;cases h;unfold A.rep at hr;have:=hp.rws j _ y hj hr;have h2:(A.sl k n cs).rep E y:=this;unfold A.rep at h2 ⊢;exact h2
   ·cases h
 |.orow _ _,a',y,h,_=>by simp[yK] at h
 |.box _ _,a',y,h,_=>by simp[yK] at h
 |.gp _ _,a',y,h,hr=>by unfold yK at h;cases h;unfold A.rep at hr ⊢;exact hr
 |.adr _,a',y,h,hr=>by unfold A.rep at hr;exact hr.elim
 |.err,a',y,h,hr=>by unfold yK at h;cases h;unfold A.rep at hr ⊢;exact hr
 |.num,a',y,h,hr=>by unfold yK at h;cases h;unfold A.rep at hr ⊢;exact hr
 |.clo f caps,a',y,h,hr=>by
  unfold yK at h;split at h
  ·rename_i l hl;cases h;unfold A.rep at hr ⊢;obtain⟨us,h1,h2⟩:=hr;exact⟨us,h1,nG hp hg caps hl h2⟩
  ·cases h
 |.bm f caps,a',y,h,hr=>by
  unfold yK at h;split at h
  ·rename_i l hl;cases h;unfold A.rep at hr ⊢;obtain⟨us,h1,h2⟩:=hr;exact⟨us,h1,nG hp hg caps hl h2⟩
  ·cases h
 |.mp _ _,a',y,h,hr=>by unfold yK at h;cases h;unfold A.rep at hr ⊢;exact hr
 |.agg l,a',y,h,hr=>by
  unfold yK at h;split at h
  ·rename_i l' hl;cases h;unfold A.rep at hr ⊢;obtain⟨us,h1,h2⟩:=hr;exact⟨us,h1,A.repC_mk (nG hp hg l hl (A.repC_L h2)) (A.repC_one h2)⟩
  ·cases h
 |.tup l,a',y,h,hr=>by
  unfold yK at h;split at h
  ·rename_i l' hl;cases h;unfold A.rep at hr ⊢;obtain⟨us,h1,h2⟩:=hr;exact⟨us,h1,nG hp hg l hl h2⟩
  ·cases h
theorem nG{bx:List (List A)}{rw:List Row}{g:Nat}{z:Value}(hp:Hp w0 C0 β0 bx rw w E)(hg:E.ρ[g]?=some z):∀(l:List A) {l':List A} {us:List Value},cB g rw l=some l'->A.repL l E us->A.repL l' ⟨E.C,[],[z]⟩ us
 |[],l',us,h,hr=>by simp[cB] at h;subst h;unfold A.repL at hr ⊢;exact hr
 |a::r,l',us,h,hr=>by
  unfold cB at h;split at h
  ·rename_i a1 ha;split at h
   ·rename_i r1 hr1;cases h;unfold A.repL at hr ⊢;obtain⟨u,us',rfl,h1,h2⟩:=hr;exact⟨u,us',rfl,jbN hp hg a ha h1,nG hp hg r hr1 h2⟩
   ·cases h
  ·cases h
end
def jcA(g:Nat):List Nat->List Nat
 |[]=>[]
 |i::r=>match Nat.beq g i with|true=>jcA g r|false=>i::jcA g r
def jpI(c:Cx)(g:Nat)(rv:List ResultVar)(post:Nat->Nat->Nat->List A->A->Prop)(s:S):Prop :=
 jlp c.T s rv fun r=>match (jB s.rw (jcA g (aX r)))[g]? with
  |some (.live e k n cs)=>match yK g (jB s.rw (jcA g (aX r))) r with
   |some r'=>post e k n cs r'
   |none=>False
  |_=>False
def jrE(c:Cx)(rv:List ResultVar)(post:Nat->Nat->Nat->List A->A->Prop)(e:Exit)(s:S):Prop :=
 match e with
 |.ret=>∃g,jpI c g rv post s
 |.normal=>∃g,jpI c g rv post s
 |_=>False
@[irreducible] def OkD(dr:List (Nat×List A))(c:Cx)(x:Code)(s:S)(q:Exit->S->Prop):Prop:=∀(w0:W0) (C0:Rd) (β0:List Nat) (a:Act) (w:World) (Q:Exit->Act->World->Prop),β0.length=c.np->Inv dr w0 C0 β0 s a w →
 (∀ch s' a' w',c.pan ch s'->Inv dr w0 C0 β0 s' a' w'->Q (.panic ch) a' w')->(∀e s' a' w',q e s'->Inv dr w0 C0 β0 s' a' w'->Q e a' w')->x.wp c.P Q a w
abbrev Ok:=OkD []
theorem jiB{dr:List (Nat×List A)}{x:Code}{q:Exit->S->Prop}(hc:c.ok)(hdr:∃n,yP n dr=true)(hl:yP c.np dr=true∨xE x=true)(ho:kI c.ord x=true)(h:sQ c x s q):OkD dr c x s q:=by
 unfold OkD
 exact fun w0 C0 β0 a w Q hn hi hx hk=>nL hc hn hdr x hl hx ho hi h hk
theorem kK{x:Code}{q:Exit->S->Prop}(hc:c.ok)(ho:kI c.ord x=true)(h:sQ c x s q):Ok c x s q:=jiB hc ⟨0,rfl⟩ (.inl rfl) ho h
theorem jqH{x:Code}{s':S}{q:Exit->S->Prop}(h:Le c.np s s')(k:Ok c x s' q):Ok c x s q:=by
 unfold Ok OkD at k ⊢
 exact fun w0 C0 β0 a w Q hn hi hx hk=>k w0 C0 β0 a w Q hn (h _ w0 C0 β0 a w rfl hn hi) hx hk
def okQ(c:Cx)(y:Code)(q:Exit->S->Prop)(e:Exit)(s':S):Prop:=match e with
 |.normal=>Ok c y s' q
 |e=>q e s'
def jtI(dr:List (Nat×List A))(c:Cx)(y:Code)(q:Exit->S->Prop)(e:Exit)(s':S):Prop:=match e with
 |.normal=>OkD dr c y s' q
 |e=>q e s'
theorem jpt{dr:List (Nat×List A)}{x y:Code}{q:Exit->S->Prop}(h:OkD dr c x s (jtI dr c y q)):OkD dr c (.seq x y) s q:=by
 unfold OkD at h ⊢;intro w0 C0 β0 a w Q hn hi hx hk;refine wp_seq (h w0 C0 β0 a w _ hn hi (fun ch s' a' w' h1 h2=>hx ch s' a' w' h1 h2) fun e s' a' w' h1 h2=>?_)
 cases e with
 |normal =>
  have h1:OkD dr c y s' q:=h1;unfold OkD at h1;exact h1 w0 C0 β0 a' w' Q hn h2 hx hk
 |_=>exact hk _ _ _ _ h1 h2
theorem js9{x y:Code}{q:Exit->S->Prop}(h:Ok c x s (okQ c y q)):Ok c (.seq x y) s q:=jpt (by
 have e:okQ c y q=jtI [] c y q:=by
  funext e s'
  cases e <;> rfl
 rw[<- e];exact h)
theorem yO{x y:Code}{q:Exit->S->Prop}(hc:c.ok)(ho:kI c.ord x=true)(h:sQ c x s (okQ c y q)):Ok c (.seq x y) s q:=js9 (kK hc ho h)
theorem ji8{fn:Func}{post:List (List A)->A->Prop}{w w':World}{C:Rd}{β:List Nat}{s':S}{a':Act}(hc:c.ok)(h1:Sub C (kR w))(hnp:β.length=c.np)(hr:jiP c fn.results.toList post s')(hi:Inv [] (.of w) C β s' a' w') :
  a'.defers=[]/\∃v,(results fn a'.tmps).run c.P w'=.ok v w'/\∃outs r v',Ending.returned v=.returned v'/\post outs r/\Keeps β w w'/\outs.length=β.length ∧
   (∀(i b:Nat) (cs:List A),β[i]?=some b->outs[i]?=some cs->boxAt w' ⟨qY C w w',β,[]⟩ b cs)/\r.rep ⟨qY C w w',β,[]⟩ v':=by
 obtain⟨E,hp,ht,hd⟩:=hi;obtain⟨r,v,g1,g2,g3⟩:=jag (fn:=fn) hc hp ht hr;refine⟨hd,v,g3,?_⟩;split at g1
 ·rename_i outs houts;split at g1
  ·rename_i r' hr';obtain⟨C1,hp1,le1⟩:=hp.pubs (aX r++uL (cE c.np s'.bx));obtain⟨β',hβ,hβ'⟩:=hp.bp
   have hβl:β.length<=E.β.length:=by rw[hβ];simp
   have hget:∀i:Nat,i<β.length->E.β[i]?=β[i]?:=fun i hi=>by rw[hβ,xtw18 hi]
   have hY:yR ⟨C1,E.β,E.ρ⟩ (upto c.np) β:=fun j i hj=>by
    obtain⟨rfl,hi⟩:=jci hj
    have:i<β.length:=by rw[hnp];exact hi
    exact⟨β[i],by simp[this],by rw[hget i this];simp[this]⟩
   have lep:(⟨C1,β,[]⟩:Env).le ⟨qY C w w',β,[]⟩:=⟨fun ad u hc=>by
    show qY C w w' ad=some u;unfold qY;rcases hp1.fresh0 ad u hc with h7|h7
    ·rw[xtw3 (qI w ad (h1 ad u h7))];exact h7
    ·rw[xtw2 (by omega)];exact hp1.sub ad u hc,fun _ _ h=>h,fun _ _ h=>h⟩
   obtain⟨k1,k2⟩:=tR houts;have hbl:=hp.bl;refine⟨outs,r',v,rfl,g1,hp.keep0,by rw[k1,lQ,xtw38];omega,fun i b cs h7 h8=>?_,A.rep.mono _ lep (jae hp1 hY r hr' (A.rep.mono _ le1 g2))⟩;obtain⟨c0,h9,h10⟩:=k2 i cs h8;have hi:=(xtw5.1 h7).1;rw[lQ,xtw83,xtw3 (by omega)] at h9;obtain⟨T',arr,q1,q2⟩:=hp1.bxs i b c0 (by rw[<- h7];exact hget i hi) h9;exact⟨T',arr,q1,(q2.ren hp1 hY h10).mono lep⟩
  ·exact g1.elim
 ·exact g1.elim
theorem lN{f:Nat}{fn:Func}{x:Code}{ins:List (List A)}{args:List A}{post:List (List A)->A->Prop}{pn:List PanicEntry->Prop}(hc:c.ok)(hq:∀ch s,c.pan ch s->pn ch)(hf:c.P.funcs[f]?=some fn)(hb:fn.body=some x)(hname:(fn.name == "runtime.NumGoroutine")=false)
  (hn:ins.length=c.np) (h:nK args->yT args (fn.ntmps-args.length) fun t=>Ok c x ⟨t,ins,[]⟩ (ji3 c fn.results.toList post)):SpecP c.P f ins args post pn:=by
 refine⟨aS hf hb hname,fun w C β vals h0 h1 h2 h3 h4 h5 h6=>?_⟩;have hl:=A.repL_len h6;refine calls_of_wp hf hb ?_;have hinit:=initK_iff.1 (h (wD _ h6))
 have hb0:∀b∈β,b<w.heap.size:=fun b hb=>by
  obtain⟨i,hi⟩:=xtw20.1 hb
  have hi':i<ins.length:=by rw[h4];exact(xtw5.1 hi).1
  exact(h5 i b ins[i] hi (by simp[hi'])).lt
 have hinv:Inv [] (.of w) C β ⟨args++List.replicate (fn.ntmps-args.length) .dead,ins,[]⟩ { tmps:=vals.toArray++Array.replicate (fn.ntmps-vals.toArray.size) undef,defers:=[] } w:=by
  refine⟨⟨C,β,[]⟩,⟨h1,Sub.refl _,fun _ _ hc=>.inl hc,⟨[],by simp,by simp⟩,h2,h3,h4,h5,rfl,fun g r y hg=>by simp at hg,fun g e k n cs y b hg=>by simp at hg,fun g e k n cs y h' e' k' n' cs' z b _ hg=>by simp at hg,fun g y hg=>by simp at hg,Keeps.refl _ _,jie h0⟩,?_,rfl⟩
  have:(vals.toArray++Array.replicate (fn.ntmps-vals.toArray.size) undef).toList=vals++List.replicate (fn.ntmps-args.length) undef:=by simp[hl]
  rw[this];exact A.repL_append h6 (gN _ _)
 unfold Ok OkD at hinit;refine hinit (.of w) C β _ w _ (by rw[<- h4,hn]) hinv (fun ch s' a' w' hpan ⟨E,hp,ht,hd⟩=>⟨hd,.inr ⟨ch,(List.range β.length).map fun i=>(s'.bx.getD i []).length,rfl,hq ch s' hpan,hp.keep0,by simp,fun i b n h7 h8=>?_⟩⟩) ?_
 ·obtain⟨β',hβ,hβ'⟩:=hp.bp;have hi:=(xtw5.1 h7).1;have hbl:=hp.bl
  have hβl:β.length<=E.β.length:=by rw[hβ];simp
  have hib:i<s'.bx.length:=by omega
  rw[xtw48,xtw93 hi] at h8;simp only[xtw85,xtw76] at h8;subst h8
  have e1:E.β[i]?=some b:=by rw[hβ,xtw18 hi];exact h7
  obtain⟨T',arr,q1,q2⟩:=hp.bxs i b _ e1 (xtw21 hib)
  have e2:(s'.bx.getD i []).length=s'.bx[i].length:=by simp[xtw9,hib]
  refine⟨T',arr,q1,?_⟩;rw[e2];have hl2:=q2.len;have q2:=q2.1;refine .mk' (A.repC_mk ?_ (A.repC_one q2));have:=iK (E:=⟨C,β,[]⟩) (l:=s'.bx[i]) hl2;rw[List.map_const'] at this;exact this
 have fin:=fun s' a' w' hr hi=>ji8 (w:=w) (C:=C) (β:=β) (s':=s') (a':=a') (w':=w') (fn:=fn) (post:=post) hc h1 (by rw[<- h4,hn]) hr hi
 intro e s' a' w' hq hi
 cases e with
 |normal=>obtain⟨k1,v,k2,k3⟩:=fin s' a' w' hq hi;exact⟨k1,v,k2,.inl k3⟩
 |ret=>obtain⟨k1,v,k2,k3⟩:=fin s' a' w' hq hi;exact⟨k1,v,k2,.inl k3⟩
 |_=>exact hq.elim
theorem SpecP.toS{P:Program}{f:Nat}{ins:List (List A)}{args:List A}{post:List (List A)->A->Prop}(h:SpecP P f ins args post fun _=>False):Spec P f ins args post :=
 ⟨h.1,fun w C β vals h0 h1 h2 h3 h4 h5 h6=>(h.2 w C β vals h0 h1 h2 h3 h4 h5 h6).mono fun e w' hh=>hh.elim id fun ⟨_,_,_,h,_⟩=>h.elim⟩
theorem bL{f:Nat}{fn:Func}{x:Code}{ins:List (List A)}{args:List A}{post:List (List A)->A->Prop}(hc:c.ok)(hq:∀ch s,¬c.pan ch s)(hf:c.P.funcs[f]?=some fn)(hb:fn.body=some x)(hname:(fn.name == "runtime.NumGoroutine")=false)
  (hn:ins.length=c.np) (h:nK args->yT args (fn.ntmps-args.length) fun t=>Ok c x ⟨t,ins,[]⟩ (ji3 c fn.results.toList post)):Spec c.P f ins args post :=
 (lN hc (fun ch s k=>hq ch s k) hf hb hname hn h).toS
theorem jhi{f:Nat}{fn:Func}{x:Code}{args:List A}{post:Nat->Nat->Nat->List A->A->Prop}(hc:c.ok)(hq:∀ch s,¬c.pan ch s)(hf:c.P.funcs[f]?=some fn)(hb:fn.body=some x)(hname:(fn.name == "runtime.NumGoroutine")=false)
  (hn:c.np=0) (h:nK args->yT args (fn.ntmps-args.length) fun t=>Ok c x ⟨t,[],[]⟩ (jrE c fn.results.toList post)):bY c.P f args post:=by
 refine⟨aS hf hb hname,fun w C vals h0 h1 h6=>?_⟩;have hl:=A.repL_len h6;refine calls_of_wp hf hb ?_;have hinit:=initK_iff.1 (h (wD _ h6))
 have hinv:Inv [] (.of w) C [] ⟨args++List.replicate (fn.ntmps-args.length) .dead,[],[]⟩ { tmps:=vals.toArray++Array.replicate (fn.ntmps-vals.toArray.size) undef,defers:=[] } w:=by
  refine⟨⟨C,[],[]⟩,⟨h1,Sub.refl _,fun _ _ hc=>.inl hc,⟨[],by simp,by simp⟩,xtw92,by simp,rfl,fun i b cs hi=>by simp at hi,rfl,fun g r y hg=>by simp at hg,fun g e k n cs y b hg=>by simp at hg,fun g e k n cs y h' e' k' n' cs' z b _ hg=>by simp at hg,fun g y hg=>by simp at hg,Keeps.refl _ _,jie h0⟩,?_,rfl⟩
  have:(vals.toArray++Array.replicate (fn.ntmps-vals.toArray.size) undef).toList=vals++List.replicate (fn.ntmps-args.length) undef:=by simp[hl]
  rw[this];exact A.repL_append h6 (gN _ _)
 unfold Ok OkD at hinit;refine hinit (.of w) C [] _ w _ (by rw[hn];rfl) hinv (fun ch s' _ _ h _=>absurd h (hq ch s')) ?_;have fin:∀(s':S) (a':Act) (w':World),(∃g,jpI c g fn.results.toList post s')->Inv [] (.of w) C [] s' a' w'->a'.defers=[]/\∃v,(results fn a'.tmps).run c.P w'=.ok v w'/\∃(et k n:Nat) (cs:List A) (r:A) (v' y:Value) (xs:List Value) (C':Rd),Ending.returned v=.returned v'/\post et k n cs r/\Keeps [] w w'/\Sub C C'/\Sub C' (kR w') ∧
   (∀ad u,C' ad=some u->C ad=some u∨w.heap.size<=ad.block)/\(∀b,blk y=some b->(∀o sp,C' ⟨b,o,sp⟩=none)/\w.heap.size<=b)/\owR w' et k y n xs/\A.repC cs ⟨C',[],[]⟩ xs/\r.rep ⟨C',[],[y]⟩ v':=fun s' a' w' ⟨g,hr⟩ ⟨E,hp,ht,hd⟩=>by
  unfold jpI at hr;obtain⟨r,v,g1,g2,g3⟩:=jag (fn:=fn) hc hp ht hr;refine⟨hd,v,g3,?_⟩;obtain⟨C1,hp1,le1⟩:=hp.pubs (jcA g (aX r));split at g1
  ·rename_i e k n cs hg;split at g1
   ·rename_i r' hr';have hgl:=(xtw5.1 hg).1
    obtain⟨y,hy⟩:∃y,E.ρ[g]?=some y:=⟨_,xtw21 (by rw[show E.ρ.length=(jB s'.rw (jcA g (aX r))).length from hp1.rl.symm];exact hgl)⟩
    obtain⟨xs,⟨k1,kf⟩,k2⟩:=hp1.rws g _ y hg hy;exact⟨e,k,n,cs,r',v,y,xs,C1,rfl,g1,hp1.keep0,hp1.base,hp1.sub,hp1.fresh0,fun b hb=>⟨(hp1.rC g e k n cs y b hg hy hb).2,W0.fr_of.1 (kf b hb)⟩,k1,k2,jbN (E:=⟨C1,E.β,E.ρ⟩) hp1 hy r hr' (A.rep.mono _ le1 g2)⟩
   ·exact g1.elim
  ·exact g1.elim
 intro e s' a' w' hq hi
 cases e with
 |normal=>exact fin s' a' w' hq hi
 |ret=>exact fin s' a' w' hq hi
 |_=>exact hq.elim
theorem jo3{f:Nat}{fn:Func}{x:Code}{args:List A}{post:Nat->Nat->Nat->List A->A->Prop}(hc:c.ok)(hq:∀ch s,¬c.pan ch s)(hf:c.P.funcs[f]?=some fn)(hb:fn.body=some x)(hname:(fn.name == "runtime.NumGoroutine")=false)
  (hn:c.np=0) (hord:kI c.ord x=true) (h:nK args->yT args (fn.ntmps-args.length) fun t=>sQ c x ⟨t,[],[]⟩ (jrE c fn.results.toList post)):bY c.P f args post :=
 jhi hc hq hf hb hname hn fun ho=>initK_iff.2 (kK hc hord (initK_iff.1 (h ho)))
theorem vY{f:Nat}{fn:Func}{x:Code}{ins:List (List A)}{args:List A}{post:List (List A)->A->Prop}{pn:List PanicEntry->Prop}(hc:c.ok)(hq:∀ch s,c.pan ch s->pn ch)(hf:c.P.funcs[f]?=some fn)(hb:fn.body=some x)(hname:(fn.name == "runtime.NumGoroutine")=false)
  (hn:ins.length=c.np) (hord:kI c.ord x=true) (h:nK args->yT args (fn.ntmps-args.length) fun t=>sQ c x ⟨t,ins,[]⟩ (ji3 c fn.results.toList post)):SpecP c.P f ins args post pn :=
 lN hc hq hf hb hname hn fun ho=>initK_iff.2 (kK hc hord (initK_iff.1 (h ho)))
theorem jpT{f:Nat}{fn:Func}{x:Code}{ins:List (List A)}{args:List A}{post:List (List A)->A->Prop}(hc:c.ok)(hq:∀ch s,¬c.pan ch s)(hf:c.P.funcs[f]?=some fn)(hb:fn.body=some x)(hname:(fn.name == "runtime.NumGoroutine")=false)
  (hn:ins.length=c.np) (hord:kI c.ord x=true) (h:nK args->yT args (fn.ntmps-args.length) fun t=>sQ c x ⟨t,ins,[]⟩ (ji3 c fn.results.toList post)):Spec c.P f ins args post :=
 bL hc hq hf hb hname hn fun ho=>initK_iff.2 (kK hc hord (initK_iff.1 (h ho)))
end
end
section
section
variable{P:Program}{pan:List PanicEntry->S->Prop}{Xr:Nat->Bool}{f:Nat}{args args':List A}{s:S}{K:A->S->Prop}{post:List (List A)->A->Prop}{ins:List (List A)}
theorem jcY(ids:List Nat)(h2:q8 [] (jB s.rw ids) args=some args')(hs:nK args'->Spec P f [] args' post)
  (hk:∀r,post [] r->zT (back [] r) fun r'=>j9 (jB s.rw ids) fun rw'=>cG s rw' (K r')):kL P pan Xr f args s K:=by
 unfold kL;refine .inl ⟨[],ids,[],args',post,xtw92,by simp,by simp,rfl,h2,hs,fun outs r hp hl=>?_⟩;obtain rfl:outs=[]:=xtw15 (by simpa using hl);have:=hk r hp;rw[force_iff,qP,wQ] at this;unfold iA;show zT (back [] r) _;rw[force_iff,qP,bQ];exact this
theorem xH(g:Nat)(ids:List Nat){postF:Nat->Nat->Nat->List A->A->Prop}(hg:s.rw.length=g)(h2:q8 [] (jB s.rw ids) args=some args')(hs:nK args'->bY P f args' postF)
  (hk:∀e k n cs r,postF e k n cs r->zT (vL g r) fun r'=>j9 (jB s.rw ids++[.live e k n cs]) fun rw'=>cG s rw' (K r')):kL P pan Xr f args s K:=by
 unfold kL;subst hg;exact .inr (.inl ⟨ids,args',postF,h2,hs,hk⟩)
theorem jjx(ids:List Nat)(h2:iY (jB s.rw ids) s.bx args=some args')(hs:nK args'->Spec P f [] args' post)(hk:∀r,post [] r->∃x,r=.v x/\K (.v x) s):kL P pan Xr f args s K:=by
 unfold kL;exact .inr (.inr (.inl ⟨ids,args',post,h2,hs,hk⟩))
theorem dB(i:Nat)(ids:List Nat){c0 c1:List A}(hX:Xr i=true)(hi:s.bx[i]?=some c0)(h1:q8 [i] (jB s.rw ids) c0=some c1)(h2:q8 [i] (jB s.rw ids) args=some args')(hs:nK args'->Spec P f [c1] args' post)
  (hk:∀o r,post [o] r->iA [i] s.bx [i] [o] fun bx'=>zT (back [i] r) fun r'=>j9 (jB s.rw ids) fun rw'=>kS s bx' rw' (K r')):kL P pan Xr f args s K:=by
 unfold kL;left;have hil:=(xtw5.1 hi).1;refine⟨[i],ids,[c1],args',post,by simp,by simpa using hX,by simpa using hil,?_,h2,hs,fun outs r hp hl=>?_⟩
 ·have:s.bx.getD i []=c0:=by simp[xtw9,hi]
  simp only[xtw22,xtw104,this,nF,h1]
 ·obtain⟨o,rfl⟩:∃o,outs=[o]:=xtw77.1 (by simpa using hl);exact hk o r hp
theorem jrh(i:Nat)(ids:List Nat){c0 c1:List A}{pn:List PanicEntry->Prop}(hX:Xr i=true)(hi:s.bx[i]?=some c0)(h1:q8 [i] (jB s.rw ids) c0=some c1)(h2:q8 [i] (jB s.rw ids) args=some args')(hs:nK args'->SpecP P f [c1] args' post pn)
  (hpn:∀ch bx',pn ch->pan ch ⟨s.t,bx',jB s.rw ids⟩)
  (hk:∀o r,post [o] r->iA [i] s.bx [i] [o] fun bx'=>zT (back [i] r) fun r'=>j9 (jB s.rw ids) fun rw'=>kS s bx' rw' (K r')):kL P pan Xr f args s K:=by
 unfold kL
 right;right;right;left
 have hil:=(xtw5.1 hi).1;refine⟨[i],ids,[c1],args',post,pn,by simp,by simpa using hX,by simpa using hil,?_,h2,hs,fun outs r hp hl=>?_,fun ch bx' h _ _=>hpn ch bx' h⟩
 ·have:s.bx.getD i []=c0:=by simp[xtw9,hi]
  simp only[xtw22,xtw104,this,nF,h1]
 ·obtain⟨o,rfl⟩:∃o,outs=[o]:=xtw77.1 (by simpa using hl);exact hk o r hp
theorem joR(i:Nat)(ids:List Nat){c0 c1:List A}{pn:List PanicEntry->Prop}(hX:Xr i=true)(hi:s.bx[i]?=some c0)(h1:q8 [i] (jB s.rw ids) c0=some c1)(h2:q8 [i] (jB s.rw ids) args=some args')(hs:nK args'->SpecP P f [c1] args' post pn)
  (hpn:∀ch bx',pn ch->bx'.length=s.bx.length->(∀j,j≠i->bx'[j]?=s.bx[j]?)->pan ch ⟨s.t,bx',jB s.rw ids⟩)
  (hk:∀o r,post [o] r->iA [i] s.bx [i] [o] fun bx'=>zT (back [i] r) fun r'=>j9 (jB s.rw ids) fun rw'=>kS s bx' rw' (K r')):kL P pan Xr f args s K:=by
 unfold kL
 right;right;right;left
 have hil:=(xtw5.1 hi).1;refine⟨[i],ids,[c1],args',post,pn,by simp,by simpa using hX,by simpa using hil,?_,h2,hs,fun outs r hp hl=>?_,fun ch bx' h h1 h2=>hpn ch bx' h h1 fun j hj=>h2 j (by simpa using hj)⟩
 ·have:s.bx.getD i []=c0:=by simp[xtw9,hi]
  simp only[xtw22,xtw104,this,nF,h1]
 ·obtain⟨o,rfl⟩:∃o,outs=[o]:=xtw77.1 (by simpa using hl);exact hk o r hp
end
def jjj:List Nat->Bool
 |[]=>false
 |0::_=>true
 |(_+1)::r=>jjj r
def jkP:List Nat->List Nat
 |[]=>[]
 |0::r=>jkP r
 |(n+1)::r=>n::jkP r
def uF:List Nat->(List Nat->Prop)->Prop
 |[],K=>K []
 |0::r,K=>uF r K
 |(n+1)::r,K=>uF r fun g=>K (n::g)
theorem lX:∀{g:List Nat} {K:List Nat->Prop},uF g K↔K (jkP g)
 |[],K=>by simp[uF,jkP]
 |0::r,K=>by simp[uF,jkP,lX (g:=r)]
 |(n+1)::r,K=>by simp[uF,jkP,lX (g:=r)]
def iS:List Nat->List A->(List A->Prop)->Prop
 |_,[],K=>K []
 |W,a::l,K=>uF W fun W'=>match jjj W with
  |true=>iS W' l fun r=>K (a::r)
  |false=>iS W' l fun r=>K (.dead::r)
theorem iT:∀{l:List A} {W:List Nat} {K:List A->Prop},iS W l K->∃t,K t
 |[],W,K,h=>⟨_,h⟩
 |a::l,W,K,h=>by
  unfold iS at h;rw[lX] at h;split at h
  ·obtain⟨t,h⟩:=iT h;exact⟨_,h⟩
  ·obtain⟨t,h⟩:=iT h;exact⟨_,h⟩
def eqL:List A->List A->Prop
 |[],[]=>True
 |a::as,b::bs=>zT b fun b=>match b with
  |.dead=>eqL as bs
  |b=>a=b/\eqL as bs
 |_,_=>False
def eqB:List (List A)->List (List A)->Prop
 |_,[]=>True
 |a::as,b::bs=>eqL a b/\eqB as bs
 |[],_::_=>False
def eqR:List Row->List Row->Prop
 |_,[]=>True
 |a::as,b::bs=>match b with
  |.gone=>eqR as bs
  |b=>a=b/\eqR as bs
 |[],_::_=>False
def LeS(np:Nat)(s s':S):Prop :=
 match Nat.ble np s'.bx.length with
 |true=>match uT s'.bx.length s'.rw.length s'.bx with
  |true=>match wL s'.bx.length s'.rw.length s'.t with
   |true=>eqL s.t s'.t/\eqB s.bx s'.bx/\eqR s.rw s'.rw
   |false=>False
  |false=>False
 |false=>False
theorem jaT:∀{l m:List A},eqL l m->LeL l m
 |[],[],_=>trivial
 |a::as,b::bs,h=>by
  unfold eqL at h;rw[force_iff] at h;unfold LeL;split at h
  ·exact⟨.inl rfl,jaT h⟩
  ·exact⟨.inr h.1,jaT h.2⟩
 |[],_::_,h=>h.elim
 |_::_,[],h=>h.elim
theorem jmx:∀{l m:List (List A)},eqB l m->LeB l m
 |_,[],_=>by unfold LeB;trivial
 |a::as,b::bs,h=>⟨jaT h.1,jmx h.2⟩
 |[],_::_,h=>h.elim
theorem ji4:∀{l m:List Row},eqR l m->LeR l m
 |_,[],_=>by unfold LeR;trivial
 |a::as,b::bs,h=>by
  unfold eqR at h;unfold LeR;split at h
  ·exact⟨.inl rfl,ji4 h⟩
  ·exact⟨.inr h.1,ji4 h.2⟩
 |[],_::_,h=>h.elim
theorem oE{np:Nat}{s s':S}(h:LeS np s s'):Le np s s':=by
 unfold LeS at h;split at h
 ·rename_i h1;split at h
  ·rename_i h2;split at h
   ·rename_i h3;exact jtB h1 h2 h3 (jaT h.1) (jmx h.2.1) (ji4 h.2.2)
   ·exact h.elim
  ·exact h.elim
 ·exact h.elim
def jmO(a:A):Prop:=match a with
 |.v (.slice none 0 0)=>True
 |_=>False
def jl5(g:Nat):List Nat->List A->(List A->Prop)->Prop
 |_,[],K=>K []
 |W,a::l,K=>uF W fun W'=>match jjj W with
  |true=>jmO a/\jl5 g W' l fun r=>K (.own g::r)
  |false=>jl5 g W' l fun r=>K (a::r)
def jhW:List (Nat×Nat)->List Nat
 |[]=>[]
 |(x,o)::r=>match x with
  |0=>o::jhW r
  |_+1=>jhW r
def jk4(g:Nat):List (Nat×Nat)->List (List A)->(List (List A)->Prop)->Prop
 |_,[],K=>K []
 |cs,c::l,K=>jl5 g (jhW cs) c fun c'=>jfU cs fun cs'=>jk4 g cs' l fun r=>K (c'::r)
theorem jmP{a:A}(h:jmO a):a=.v (.slice none 0 0):=by
 unfold jmO at h;split at h
 ·rfl
 ·exact h.elim
theorem r6{g:Nat}:∀{l:List A} {W:List Nat} {K:List A->Prop},jl5 g W l K->∃m,jan g l m/\K m
 |[],W,K,h=>⟨[],trivial,h⟩
 |a::l,W,K,h=>by
  unfold jl5 at h;rw[lX] at h;split at h
  ·obtain⟨m,h1,h2⟩:=r6 h.2;exact⟨.own g::m,⟨.inr ⟨jmP h.1,rfl⟩,h1⟩,h2⟩
  ·obtain⟨m,h1,h2⟩:=r6 h;exact⟨a::m,⟨.inl rfl,h1⟩,h2⟩
theorem jdv{g:Nat}:∀{l:List (List A)} {cs:List (Nat×Nat)} {K:List (List A)->Prop},jk4 g cs l K->∃m,jkD g l m/\K m
 |[],b,K,h=>⟨[],trivial,h⟩
 |c::l,b,K,h=>by
  unfold jk4 at h;obtain⟨c',h1,h2⟩:=r6 h;rw[rL] at h2;obtain⟨m,h3,h4⟩:=jdv h2;exact⟨c'::m,⟨h1,h3⟩,h4⟩
theorem qU{np:Nat}{f:S->(Exit->S->Prop)->Prop}{t:List A}{bx:List (List A)}{rw:List Row}{Q:Exit->S->Prop}(e k:Nat)(ts:List Nat)(cs:List (Nat×Nat))
  (h:cD rw (.live e k 0 []) 0 fun g rw'=>jl5 g ts t fun t'=>jk4 g cs bx fun bx'=>xY np f ⟨t',bx',rw'⟩ Q):xY np f ⟨t,bx,rw⟩ Q:=by
 rw[kU,xtw41] at h;obtain⟨t',h1,h⟩:=r6 h;obtain⟨bx',h2,h⟩:=jdv h;have hle:Le np ⟨t,bx,rw⟩ ⟨t',bx',rw++[.live e k 0 []]⟩:=jmV (s:=⟨t,bx,rw⟩) e k h1 h2;unfold xY at h ⊢;obtain⟨X,F,φ,μ,⟨x,h3,h4⟩,h5⟩:=h;exact⟨X,F,φ,μ,⟨x,hle.trans h3,h4⟩,h5⟩
def fR(rw:List Row)(a:A):A:=match a with
 |.own g=>match rw[g]? with
  |some (.pub k n cs)=>.sl k n cs
  |_=>.own g
 |a=>a
def jc1(rw:List Row):List (List A)->(List (List A)->Prop)->Prop
 |[],K=>K []
 |c::l,K=>n8 (fR rw) c fun c'=>jc1 rw l fun r=>K (c'::r)
theorem mV{rw:List Row}:∀{l:List (List A)} {K:List (List A)->Prop},jc1 rw l K↔K (l.map fun c=>c.map (fR rw))
 |[],K=>by simp[jc1]
 |c::l,K=>by simp[jc1,qN,mV (l:=l)]
theorem job{w0:W0}{w:World}{C0:Rd}{β0:List Nat}{bx:List (List A)}{rw:List Row}{E:Env}(hp:Hp w0 C0 β0 bx rw w E){a:A}{y:Value}(h:a.rep E y):(fR rw a).rep E y:=by
 cases a with
 |own g =>
  unfold fR
  simp only
  split
  ·rename_i k n cs hg;have h2:=h;unfold A.rep at h2;exact hp.rws g _ y hg h2
  ·exact h
 |_=>exact h
theorem lP{w0:W0}{w:World}{C0:Rd}{β0:List Nat}{bx:List (List A)}{rw:List Row}{E:Env}(hp:Hp w0 C0 β0 bx rw w E):∀{l:List A} {us:List Value},A.repL l E us->A.repL (l.map (fR rw)) E us
 |[],us,h=>by simpa using h
 |a::r,us,h=>by
  unfold A.repL at h;obtain⟨u,us',rfl,h2,h3⟩:=h;simp only[xtw22];unfold A.repL;exact⟨u,us',rfl,job hp h2,lP hp h3⟩
theorem jip{np:Nat}{s:S}:Le np s ⟨s.t.map (fR s.rw),s.bx.map fun c=>c.map (fR s.rw),s.rw⟩:=by
 rintro dr w0 C0 β0 a w _ _ ⟨E,hp,hrep,hd⟩;refine⟨E,⟨hp.sub,hp.base,hp.fresh,hp.bp,hp.bnd,hp.bC,by simpa using hp.bl,fun i b cs h1 h2=>?_,hp.rl,hp.rws,hp.rC,hp.rd,hp.rs,hp.keep,hp.gk⟩,lP hp hrep,hd⟩;rw[xtw48,xtw49] at h2;obtain⟨c0,h2,rfl⟩:=h2;obtain⟨T',arr,h3,h4⟩:=hp.bxs i b c0 h1 h2
 exact⟨T',arr,h3,h4.map (fR s.rw) (fun l us k=>lP hp k) rfl (fun t=>rfl) fun a t e=>by
  unfold fR at e;split at e
  ·split at e <;> cases e
  ·exact e⟩
theorem jk2{np:Nat}{f:S->(Exit->S->Prop)->Prop}{s s':S}{Q:Exit->S->Prop}(hle:Le np s s')(h:xY np f s' Q):xY np f s Q:=by
 unfold xY at h ⊢;obtain⟨X,F,φ,μ,⟨x,h3,h4⟩,h5⟩:=h;exact⟨X,F,φ,μ,⟨x,hle.trans h3,h4⟩,h5⟩
theorem xM{np:Nat}{f:S->(Exit->S->Prop)->Prop}{t:List A}{bx:List (List A)}{rw:List Row}{Q:Exit->S->Prop}(ids:List Nat)
  (h:j9 (jB rw ids) fun rw'=>n8 (fR rw') t fun t'=>jc1 rw' bx fun bx'=>xY np f ⟨t',bx',rw'⟩ Q):xY np f ⟨t,bx,rw⟩ Q:=by
 rw[qP,qN,mV] at h;exact jk2 ((jio (s:=⟨t,bx,rw⟩) ids).trans jip) h
def jb3:List A->(List A->Prop)->Prop
 |[],K=>K []
 |a::l,K=>zT a fun a=>jb3 l fun r=>K (a::r)
theorem jb4:∀{l:List A} {K:List A->Prop},jb3 l K↔K l
 |[],K=>by simp[jb3]
 |a::l,K=>by simp[jb3,force_iff,jb4 (l:=l)]
def jb1:List (List A)->(List (List A)->Prop)->Prop
 |[],K=>K []
 |a::l,K=>jb3 a fun a=>jb1 l fun r=>K (a::r)
theorem jb2:∀{l:List (List A)} {K:List (List A)->Prop},jb1 l K↔K l
 |[],K=>by simp[jb1]
 |a::l,K=>by simp[jb1,jb4,jb2 (l:=l)]
@[irreducible] def jcL(np:Nat)(f:S->(Exit->S->Prop)->Prop)(s:S)(_t0:List A)(Q:Exit->S->Prop):Prop :=
 xY np f s Q
theorem jA{np:Nat}{f:S->(Exit->S->Prop)->Prop}{s:S}{Q:Exit->S->Prop}(W:List Nat)(h:iS W s.t fun t0=>jcL np f s t0 Q):xY np f s Q:=by
 obtain⟨t,h⟩:=iT h;unfold jcL at h;exact h
def m9{X:Type}(t0:List A)(g:X->List (Nat×A))(bx:X->List (List A))(rw:X->List Row)(x:X):S:=⟨z7 (g x) t0,bx x,rw x⟩
def jb8{X:Type}(t0:List A)(g:X->List (Nat×A))(bx:X->List (List A))(rw:X->List Row)(x:X)(K:S->Prop):Prop :=
 vW (g x) t0 fun t=>jb1 (bx x) fun b=>j9 (rw x) fun r=>K ⟨t,b,r⟩
theorem headK_iff{X:Type}{t0:List A}{g:X->List (Nat×A)}{bx:X->List (List A)}{rw:X->List Row}{x:X}{K:S->Prop}:jb8 t0 g bx rw x K↔K (m9 t0 g bx rw x):=by
 unfold jb8 m9;rw[wS,jb2,qP]
theorem zW{X:Type}{np:Nat}{s:S}{t0:List A}{g:X->List (Nat×A)}{bx:X->List (List A)}{rw:X->List Row}{x:X}(h:jb8 t0 g bx rw x fun s'=>LeS np s s'):Le np s (m9 t0 g bx rw x):=oE (headK_iff.1 h)
theorem jE{np:Nat}{f:S->(Exit->S->Prop)->Prop}{s:S}{t0:List A}{Q:Exit->S->Prop}{X:Type}(g:X->List (Nat×A))(bx:X->List (List A))(rw:X->List Row)(φ:X->Prop)(μ:X->Nat)(x0:X)
  (h0:jb8 t0 g bx rw x0 fun s'=>LeS np s s') (hφ:φ x0)
  (hr:∀x,φ x->jb8 t0 g bx rw x fun s1=>f s1 fun e s'=>match e with
   |.normal=>∃x',Le np s' (m9 t0 g bx rw x')/\φ x'/\μ x'<μ x
   |e=>Q e s'):jcL np f s t0 Q:=by
 unfold jcL;unfold xY;exact⟨X,m9 t0 g bx rw,φ,μ,⟨x0,zW h0,hφ⟩,fun x hx=>headK_iff.1 (hr x hx)⟩
theorem j7{b:Bool}{p q:Prop}(hb:b=true)(h:p):ifK b p q:=ifK_iff.2 ⟨fun _=>h,fun e=>by rw[hb] at e;cases e⟩
theorem jW{b:Bool}{p q:Prop}(hb:b=false)(h:q):ifK b p q:=ifK_iff.2 ⟨fun e=>(by rw[hb] at e;cases e),fun _=>h⟩
theorem jly{P:Program}{f:Nat}{ins:List (List A)}{args args':List A}{post:List (List A)->A->Prop}(h:∀E us,A.repL args' E us->A.repL args E us)(k:Spec P f ins args post):Spec P f ins args' post :=
 ⟨k.1,fun w C β vals h0 h1 h2 h3 h4 h5 h6=>k.2 w C β vals h0 h1 h2 h3 h4 h5 (h _ _ h6)⟩
theorem jn4{E:Env}{y:Value}{k:Nat}(h:(A.v (.slice none 0 0)).rep E y):(A.sl k 0 []).rep E y:=by
 rw[(A.rep_v_iff.1 h).1];unfold A.rep;exact⟨by simp,by simp,none,0,0,0,rfl,xtw11 _,.inl rfl,fun _=>rfl,by simp[A.repAt]⟩
theorem jG{n:Int}(h : -9223372036854775808<=n/\n<=9223372036854775807):lo .i64<=n/\n<=hi .i64:=h
theorem xV{α:Type}{k:Nat}(f:α->List A)(hf:∀x,(f x).length=k):∀(l:List α) (i:Nat) (hi:i<l.length),jC k i (l.flatMap f)=f l[i]
 |x::l,0,_=>by
  unfold jC;simp only[xtw82,Nat.zero_mul,xtw118,xtw50];rw[List.take_append,xtw56 (by rw[hf];exact xtw11 _),hf];simp
 |x::l,i+1,hi=>by
  have:=xV f hf l i (by simpa using hi);unfold jC at this ⊢;simp only[xtw82,xtw57] at this ⊢;rw[show(i+1)*k=(f x).length+i*k by rw[hf,xtw123];omega,List.drop_append,xtw51 (by omega),xtw53];simpa using this
theorem jgy{α:Type}(f:α->A)(l:List α):l.map f=l.flatMap fun x=>[f x]:=by
 induction l with
 |nil=>rfl
 |cons a r ih=>simp[xtw82,ih]
theorem wN{α:Type}(f:α->A)(l:List α)(i:Nat)(hi:i<l.length):jC 1 i (l.map f)=[f l[i]]:=by
 rw[jgy];exact xV (k:=1) (fun x=>[f x]) (fun _=>rfl) l i hi
theorem jY{P:Program}{pan:List PanicEntry->S->Prop}{Xr:Nat->Bool}{f:Nat}{args args0:List A}{s:S}{K:A->S->Prop}{post:List (List A)->A->Prop}(ids:List Nat)(hs:Spec P f [] args0 post)(hk:∀r,post [] r->zT (back [] r) fun r1=>j9 (jB s.rw ids) fun rw1=>cG s rw1 (K r1))(h2:q8 [] (jB s.rw ids) args=some args0:=by rfl):kL P pan Xr f args s K:=jcY ids h2 (fun _=>hs) hk
theorem vqb{a:Type}{b:Type}{x:Option a}{g:a->Option b}{c:b}(h:x.bind g=some c):∃y,x=some y/\g y=some c:=by
 cases x with
 |none=>cases h
 |some y=>exact⟨y,rfl,h⟩
theorem jL{P:Program}{pan:List PanicEntry->S->Prop}{Xr:Nat->Bool}{f:Nat}{args args0:List A}{s:S}{K:A->S->Prop}{post:List (List A)->A->Prop}(i:Nat)(ids:List Nat){c1:List A}(hs:Spec P f [c1] args0 post)(hk:∀o r,post [o] r->iA [i] s.bx [i] [o] fun bx1=>zT (back [i] r) fun r1=>j9 (jB s.rw ids) fun rw1=>kS s bx1 rw1 (K r1))(hX:Xr i=true:=by rfl)(h1:(s.bx[i]?.bind fun c=>q8 [i] (jB s.rw ids) c)=some c1:=by rfl)(h2:q8 [i] (jB s.rw ids) args=some args0:=by rfl):kL P pan Xr f args s K:=by
 obtain⟨c0,hi,h1⟩:=vqb h1;exact dB i ids hX hi h1 h2 (fun _=>hs) hk
theorem kQ{P:Program}{pan:List PanicEntry->S->Prop}{Xr:Nat->Bool}{f:Nat}{args args0:List A}{s:S}{K:A->S->Prop}{post:List (List A)->A->Prop}(i:Nat)(ids:List Nat){c1:List A}{pn:List PanicEntry->Prop}(hs:SpecP P f [c1] args0 post pn)(hpn:∀ch bx1,pn ch->pan ch ⟨s.t,bx1,jB s.rw ids⟩)(hk:∀o r,post [o] r->iA [i] s.bx [i] [o] fun bx1=>zT (back [i] r) fun r1=>j9 (jB s.rw ids) fun rw1=>kS s bx1 rw1 (K r1))(hX:Xr i=true:=by rfl)(h1:(s.bx[i]?.bind fun c=>q8 [i] (jB s.rw ids) c)=some c1:=by rfl)(h2:q8 [i] (jB s.rw ids) args=some args0:=by rfl):kL P pan Xr f args s K:=by
 obtain⟨c0,hi,h1⟩:=vqb h1;exact jrh i ids hX hi h1 h2 (fun _=>hs) hpn hk
end
end Go.Proofs.YtfbifdccmabdbaaGreatDoor.Vm
