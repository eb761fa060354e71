/- Part 2 of the proof. -/
import Derived.Test.YtdnnmiemgmgffaaGreatDoorK1
import Derived.Lib.FrozenHead2
import Derived.Lib.UnsafeStr
import Derived.Laws.IdiomRangeMap
import Derived.Scope
set_option linter.unusedSimpArgs false
set_option linter.unusedVariables false
namespace Go.Proofs.YtdnnmiemgmgffaaGreatDoor
open Go.RowKit
section
inductive Tr where
 |nil
 |q (k m:Nat) (r:Tr)
 |alt (k m:Nat) (r o:Tr)
def Tr.isAlt:Tr->Bool
 |.alt _ _ _ _=>true
 |_=>false
def Tr.keys:Tr->List Nat
 |.alt k _ _ o=>k::o.keys
 |_=>[]
def Tr.all2:Tr->(Nat->Bool)->Bool
 |.nil,_=>true
 |.q _ _ r,p=>r.all2 p
 |.alt k m r o,p=>(m==1||p k)&&r.all2 p&&o.all2 p
def Tr.del(j:Nat):Tr->Tr
 |.nil=>.nil
 |.q k m r=>if k=j then r else .q k m (r.del j)
 |.alt k _ r o=>if k=j then r else o.del j
def Tr.loud2(j:Nat):Tr->Bool
 |.nil=>false
 |.q k _ r=>if k=j then false else r.loud2 j
 |.alt k m _ o=>if k=j then m != 1 else o.loud2 j
def Tr.depth:Tr->Nat
 |.nil=>0
 |.q _ _ r=>r.depth+1
 |.alt _ _ r o=>max (r.depth+1) o.depth
def Tr.many:Tr->Bool
 |.nil=>false
 |.q _ _ r=>r.many
 |.alt _ _ r o=>match o.isAlt with
  |true=>true
  |false=>r.many
section
variable{P:Program}{ops:Array Oper}{Q:Exit->Act->World->Prop}{md:Region.Mode}{S:World->Prop}
def pS(P:Program)(ops:Array Oper)(Q:Exit->Act->World->Prop)(S:World->Prop):Tr->Act->World->Prop
 |.nil,a,w=>Q .normal a w
 |.q k 0 r,a,w=>∃o v,ops[k]?=some o/\S w/\YieldsIf P ops S o v a/\pS P ops Q S r (a.put o.dst v) w
 |.q k (_+1) r,a,w=>∃o v,ops[k]?=some o/\YieldsIf P ops (fun _=>True) o v a/\pS P ops Q S r (a.put o.dst v) w
 |.alt k m r o,a,w=>(if m=1 then wpOp P ops Q k (fun a' w'=>S w'/\pS P ops Q S r a' w') a w else wpOp P ops Q k (pS P ops Q S r) a w)/\(o.isAlt=true->pS P ops Q S o a w)
def cO(md:Region.Mode)(ops:Array Oper):Bool->Tr->Array Bool->Bool
 |_,.nil,listed=>(Region.ready md ops listed).isEmpty
 |_,.q k m r,listed=>(Region.ready md ops listed).contains k&&Region.free md ops listed k&&(m != 0||r.all2 (fun j=>far md ops listed 3 j k))&&cO md ops true r (listed.setIfInBounds k true)
 |top,.alt k _ r o,listed=>(!top||(Region.ready md ops listed).all (fun j=>(k::o.keys).contains j))&&(Region.ready md ops listed).contains k&&cO md ops true r (listed.setIfInBounds k true)&&(!o.isAlt||cO md ops false o listed)
theorem jgp{t:Tr}{j:Nat}(h:j∈t.keys):t.isAlt=true:=by cases t <;> simp[Tr.keys,Tr.isAlt] at h ⊢
theorem lU{p p':Nat->Bool}(h:∀j,p j=true->p' j=true):∀{t:Tr},t.all2 p=true->t.all2 p'=true
 |.nil,_=>rfl
 |.q _ _ r,ht=>lU h (t:=r) ht
 |.alt k m r o,ht=>by
  unfold Tr.all2 at ht ⊢;simp only[Bool.and_eq_true,Bool.or_eq_true] at ht ⊢;exact⟨⟨ht.1.1.imp id (h k),lU h ht.1.2⟩,lU h ht.2⟩
theorem jah{p:Nat->Bool}{j:Nat}:∀{t:Tr},t.all2 p=true->(t.del j).all2 p=true
 |.nil,_=>rfl
 |.q k m r,ht=>by
  unfold Tr.del;split
  ·exact ht
  ·unfold Tr.all2;exact jah (t:=r) ht
 |.alt k m r o,ht=>by
  unfold Tr.all2 at ht;simp only[Bool.and_eq_true] at ht;unfold Tr.del;split
  ·exact ht.1.2
  ·exact jah ht.2
theorem s9{p:Nat->Bool}{j:Nat}:∀{t:Tr},t.all2 p=true->t.loud2 j=true->p j=true
 |.nil,_,h=>by cases h
 |.q k m r,ht,h=>by
  unfold Tr.loud2 at h;split at h
  ·cases h
  ·exact s9 (t:=r) ht h
 |.alt k m r o,ht,h=>by
  unfold Tr.all2 at ht;simp only[Bool.and_eq_true,Bool.or_eq_true] at ht;unfold Tr.loud2 at h;split at h
  ·rename_i e;subst e;rcases ht.1.1 with h1|h1
   ·simp only[beq_iff_eq] at h1;subst h1;cases h
   ·exact h1
  ·exact s9 ht.2 h
theorem jqy{a:Act}{w:World}{j:Nat}:∀{t:Tr},pS P ops Q S t a w->j∈t.keys->wpOp P ops Q j (fun a' w'=>pS P ops Q S (t.del j) a' w'/\(t.loud2 j=false->S w->S w')) a w
 |.nil,_,h=>by cases h
 |.q _ _ _,_,h=>by cases h
 |.alt k m r o,hw,h=>by
  unfold pS at hw;unfold Tr.del Tr.loud2;by_cases hk:k=j
  ·subst hk;simp only[if_pos];by_cases hm:m=1
   ·subst hm;rw[if_pos rfl] at hw;exact wpOp_mono (fun a' w' h=>⟨h.2,fun _ _=>h.1⟩) hw.1
   ·rw[if_neg hm] at hw;exact wpOp_mono (fun a' w' h=>⟨h,fun h2=>absurd h2 (by simp[hm])⟩) hw.1
  ·simp only[if_neg hk]
   have h':j∈o.keys:=by
    unfold Tr.keys at h;exact(List.mem_cons.1 h).resolve_left (fun e=>hk e.symm)
   exact jqy (hw.2 (jgp h')) h'
theorem jiZ{b:Bool}{k m:Nat}{r:Tr}{listed:Array Bool}(h:cO md ops b (.q k m r) listed=true):k∈Region.ready md ops listed/\Region.free md ops listed k=true/\(m=0->r.all2 (fun j=>far md ops listed 3 j k)=true)/\cO md ops true r (listed.setIfInBounds k true)=true:=by
 unfold cO at h;simp only[Bool.and_eq_true,Bool.or_eq_true] at h;exact⟨by simpa using h.1.1.1,h.1.1.2,fun e=>h.1.2.resolve_left (by simp[e]),h.2⟩
theorem jdJ{k m:Nat}{r o:Tr}{listed:Array Bool}(h:cO md ops true (.alt k m r o) listed=true):∀j∈Region.ready md ops listed,j∈(Tr.alt k m r o).keys:=by
 unfold cO at h;simp only[Bool.and_eq_true,Bool.or_eq_true] at h;have h1:=h.1.1.1.resolve_left (by simp);intro j hj;have:=List.all_eq_true.1 h1 j hj;unfold Tr.keys;simpa using this
theorem jnz(hsel:Region.noSelect ops=true)(hQ:∀c a d v w,Q (.panic c) (Act.put a d v) w->Q (.panic c) a w):∀(t:Tr) (listed:Array Bool) (a:Act) (w:World),cO md ops true t listed=true->pS P ops Q S t a w →
  ∀j∈Region.ready md ops listed,wpOp P ops Q j (fun a' w'=>pS P ops Q S (t.del j) a' w'/\(t.loud2 j=false->S w->S w')) a w
 |.nil,listed,a,w,h,_,j,hj=>by
  unfold cO at h;rw[List.isEmpty_iff] at h;rw[h] at hj;cases hj
 |.alt k m r o,listed,a,w,h,hw,j,hj=>jqy hw (jdJ h j hj)
 |.q k m r,listed,a,w,h,hw,j,hj=>by
  obtain⟨h1,h2,h3,h4⟩:=jiZ h;have hun:=(mem_ready.1 h1).1;unfold Tr.del Tr.loud2;by_cases hjk:k=j
  ·subst hjk;simp only[if_pos]
   match m,hw with
   |0,hw =>
    obtain⟨o,v,ho,hS,hy,hr⟩:=hw;exact hy.wpOp ho hS ⟨hr,fun _ hS=>hS⟩
   |n+1,hw =>
    obtain⟨o,v,ho,hy,hr⟩:=hw;exact hy.wpOp ho trivial ⟨hr,fun _ hS=>hS⟩
  ·simp only[if_neg hjk]
   have hjk':j≠k:=fun e=>hjk e.symm
   obtain⟨_,oj,hoj,_⟩:=mem_ready.1 hj;have hj':=ready_mono (i:=k) hj hjk'
   match m,h,h3,hw with
   |0,h,h3,hw =>
    obtain⟨o,v,ho,hS,hy,hr⟩:=hw;have hap:=Region.free_spec ho h2 j oj hoj hjk' (mem_ready.1 hj).1 (dL hj hun oj hoj);have ih:=jnz hsel hQ r _ _ w h4 hr j hj'
    have hmode:r.loud2 j=false:=by
     cases hl:r.loud2 j with
     |false=>rfl
     |true =>
      have:=s9 (h3 rfl) hl;rw[jia hun hj] at this;cases this
    refine wpOp_mono (fun a' w' h3=>?_) (wpOp_putIf hoj hap (fun cs b=>Region.noSelect_spec hsel _ _ cs b ho) (fun cs b=>Region.noSelect_spec hsel _ _ cs b hoj) (fun c a w=>hQ c a _ _ w) hy ih);exact⟨⟨o,v,ho,h3.2.2 hmode hS,h3.1,h3.2.1⟩,fun _ hS=>h3.2.2 hmode hS⟩
   |n+1,h,h3,hw =>
    obtain⟨o,v,ho,hy,hr⟩:=hw;have hap:=Region.free_spec ho h2 j oj hoj hjk' (mem_ready.1 hj).1 (dL hj hun oj hoj);have ih:=jnz hsel hQ r _ _ w h4 hr j hj';refine wpOp_mono (fun a' w' h3=>?_) (wpOp_putIf hoj hap (fun cs b=>Region.noSelect_spec hsel _ _ cs b ho) (fun cs b=>Region.noSelect_spec hsel _ _ cs b hoj) (fun c a w=>hQ c a _ _ w) hy ih);exact⟨⟨o,v,ho,h3.1,h3.2.1⟩,fun hm hS=>h3.2.2 hm hS⟩
theorem jbG{j:Nat}{listed:Array Bool}:∀{b:Bool} {t:Tr},cO md ops b t listed=true->j∈t.keys->cO md ops true (t.del j) (listed.setIfInBounds j true)=true/\(t.del j).depth<t.depth
 |_,.nil,_,h=>by cases h
 |_,.q _ _ _,_,h=>by cases h
 |b,.alt k m r o,hw,h=>by
  unfold cO at hw;simp only[Bool.and_eq_true,Bool.or_eq_true] at hw;unfold Tr.del;by_cases hk:k=j
  ·subst hk;rw[if_pos rfl];refine⟨hw.1.2,?_⟩;have:(Tr.alt k m r o).depth=max (r.depth+1) o.depth:=rfl;omega
  ·rw[if_neg hk]
   have h':j∈o.keys:=by
    unfold Tr.keys at h;exact(List.mem_cons.1 h).resolve_left (fun e=>hk e.symm)
   have:=jbG (hw.2.resolve_left (by rw[jgp h'];simp)) h';refine⟨this.1,?_⟩;have h2:(Tr.alt k m r o).depth=max (r.depth+1) o.depth:=rfl;omega
theorem jdK:∀(t:Tr) (listed:Array Bool),cO md ops true t listed=true->∀j∈Region.ready md ops listed,cO md ops true (t.del j) (listed.setIfInBounds j true)=true/\(t.del j).depth<t.depth
 |.nil,listed,h,j,hj=>by
  unfold cO at h;rw[List.isEmpty_iff] at h;rw[h] at hj;cases hj
 |.alt k m r o,listed,h,j,hj=>jbG h (jdJ h j hj)
 |.q k m r,listed,h,j,hj=>by
  obtain⟨h1,h2,h3,h4⟩:=jiZ h;unfold Tr.del;by_cases hjk:k=j
  ·subst hjk;rw[if_pos rfl];exact⟨h4,Nat.lt_succ_self _⟩
  ·rw[if_neg hjk]
   have hjk':j≠k:=fun e=>hjk e.symm
   have ih:=jdK r _ h4 j (ready_mono hj hjk');rw[Array.setIfInBounds_comm _ _ hjk] at ih;have hr:=ready_mono (i:=j) h1 (fun e=>hjk e);refine⟨?_,Nat.succ_lt_succ ih.2⟩;unfold cO;simp only[Bool.and_eq_true,Bool.or_eq_true];refine⟨⟨⟨by simpa using hr,sV h2⟩,?_⟩,ih.1⟩;by_cases hm:m=0
   ·exact .inr (jah (lU (fun x hx=>jez (mem_ready.1 h1).1 hj hx) (h3 hm)))
   ·exact .inl (by simpa using hm)
theorem jfn(hsel:Region.noSelect ops=true)(hQ:∀c a d v w,Q (.panic c) (Act.put a d v) w->Q (.panic c) a w):∀(f:Nat) (t:Tr) (listed:Array Bool) (a:Act) (w:World),t.depth<=f->cO md ops true t listed=true->pS P ops Q S t a w →
  wpAny P md ops Q f listed a w
 |0,.nil,listed,a,w,hl,h,hw=>by
  unfold cO at h;rw[List.isEmpty_iff] at h;exact⟨h,hw⟩
 |0,.q k m r,listed,a,w,hl,h,hw=>by have:(Tr.q k m r).depth=r.depth+1:=rfl;omega
 |0,.alt k m r o,listed,a,w,hl,h,hw=>by have:(Tr.alt k m r o).depth=max (r.depth+1) o.depth:=rfl;omega
 |f+1,t,listed,a,w,hl,h,hw=>by
  refine⟨fun h0=>?_,fun j hj=>?_⟩
  ·cases t with
   |nil=>exact hw
   |q k m r=>have:=(jiZ h).1;rw[h0] at this;cases this
   |alt k m r o =>
    unfold cO at h;simp only[Bool.and_eq_true] at h;have:=h.1.1.2;rw[h0] at this;cases this
  ·have hp:=jdK t listed h j hj;exact wpOp_mono (fun a' w' h3=>jfn hsel hQ f _ _ a' w' (by omega) hp.1 h3.1) (jnz hsel hQ t listed a w h hw j hj)
def pO(ops:Array Oper)(t:Tr):Bool:=Region.noSelect ops&&decide (t.depth<=ops.size)&&cO .any ops true t (Array.replicate ops.size false)
theorem jfo{id:Nat}{a:Act}{w:World}(S:World->Prop)(t:Tr)(hm:P.follows .mixedOrders=true)(hB:pO ops t=true)(hQ:∀c a d v w,Q (.panic c) (Act.put a d v) w->Q (.panic c) a w)
  (hS:S w.drew) (h:S w.drew->pS P ops Q S t a w.drew):(Code.region id ops true).wp P Q a w:=by
 simp only[pO,Bool.and_eq_true,decide_eq_true_eq] at hB;exact wp_region_any hm (jfn hB.1.1 hQ _ t _ a _ hB.1.2 hB.2 (h hS))
variable{k m:Nat}{r o':Tr}{a:Act}{w:World}{o:Oper}
theorem jq5(ho:ops[k]?=some o)(hw:Region.wanted o (yielded ops a.tmps)=true)(h:∃v,(∀w,(execOp a.eval o).run P w=.ok (.value v) w)/\pS P ops Q S r (a.put o.dst v) w):pS P ops Q S (.q k (m+1) r) a w :=
 let ⟨v,hr,h⟩:=h
 ⟨o,v,ho,.inl ⟨hw,fun w _=>hr w⟩,h⟩
theorem jq6(ho:ops[k]?=some o)(hw:Region.wanted o (yielded ops a.tmps)=false)(h:pS P ops Q S r (a.put o.dst undef) w):pS P ops Q S (.q k (m+1) r) a w :=
 ⟨o,undef,ho,.inr ⟨hw,rfl⟩,h⟩
theorem jov(ho:ops[k]?=some o)(hS:S w)(hw:Region.wanted o (yielded ops a.tmps)=false)(h:pS P ops Q S r (a.put o.dst undef) w):pS P ops Q S (.q k 0 r) a w :=
 ⟨o,undef,ho,hS,.inr ⟨hw,rfl⟩,h⟩
theorem jq4(ho:ops[k]?=some o)(hS:S w)(hw:Region.wanted o (yielded ops a.tmps)=true)(h:∃v,(∀w,S w->(execOp a.eval o).run P w=.ok (.value v) w)/\pS P ops Q S r (a.put o.dst v) w):pS P ops Q S (.q k 0 r) a w :=
 let ⟨v,hr,h⟩:=h
 ⟨o,v,ho,hS,.inl ⟨hw,hr⟩,h⟩
theorem jot(ho:ops[k]?=some o)(h:∀K:Act->World->Prop,(∀a' w',(S w'/\pS P ops Q S r a' w')->K a' w')->if Region.wanted o (yielded ops a.tmps)=true then o.wp P a w K Q else K (a.put o.dst undef) w)(h2:o'.isAlt=true->pS P ops Q S o' a w):pS P ops Q S (.alt k 1 r o') a w:=by
 unfold pS;rw[if_pos rfl];exact⟨wpOp_step ho h,h2⟩
theorem jou(hm:m≠1)(ho:ops[k]?=some o)(h:∀K:Act->World->Prop,(∀a' w',pS P ops Q S r a' w'->K a' w')->if Region.wanted o (yielded ops a.tmps)=true then o.wp P a w K Q else K (a.put o.dst undef) w)(h2:o'.isAlt=true->pS P ops Q S o' a w):pS P ops Q S (.alt k m r o') a w:=by
 unfold pS;rw[if_neg hm];exact⟨wpOp_step ho h,h2⟩
end
end
end Go.Proofs.YtdnnmiemgmgffaaGreatDoor
namespace Go.Proofs.YtdnnmiemgmgffaaGreatDoor.Vm
open Go.RowKit
section
def jd8(st:Bool):Value->Value->Option Bool
 |.string x,.string y=>match st with
  |true=>some (decide (x=y))
  |false=>none
 |.int k x,.int k' y=>match st with
  |true=>none
  |false=>match Nat.beq (ikN k) (ikN k') with
   |true=>some (decide (x=y))
   |false=>none
 |_,_=>none
def g9(st:Bool):List Value->List A->Value->(A->Prop)->Prop->Prop
 |[],_,_,_,n=>n
 |k::ks,v::vs,x,K,n=>match jd8 st x k with
  |some b=>ifK b (zV v K) (g9 st ks vs x K n)
  |none=>False
 |_::_,[],_,_,_=>False
def jk5(ok:Bool)(b:Bool)(a:A):A:=match ok with
 |true=>.tup [a,.v (.bool b)]
 |false=>a
def u5(T:List (Nat×Te))(t:Nat):Option Bool:=match Tab.get T t with
 |some ⟨.str,_,_⟩=>some true
 |some ⟨.int _,_,_⟩=>some false
 |_=>none
def je8(T:List (Nat×Te))(t:Nat)(ks:List Value)(vs:List A)(k:A)(ok:Bool)(K:A->Prop):Prop :=
 match k with
  |.v key=>match Tab.get T t with
   |some ⟨.map kt et,_,_⟩=>match u5 T kt with
    |some st=>match Tab.get T et with
     |some e=>g9 st ks vs key (fun a=>K (jk5 ok true a)) (match e.d.agg with
      |true=>match e.z with
       |[_]=>False
       |z=>aN yR z fun cs=>K (jk5 ok false (.agg cs))
      |false=>match e.z with
       |[z]=>K (jk5 ok false (yR z))
       |_=>False)
     |none=>False
    |none=>False
   |_=>False
  |_=>False
def oD:List A->(List Value->Prop)->Prop
 |[],K=>K []
 |a::l,K=>match a with
  |.v x=>oD l fun r=>K (x::r)
  |_=>False
theorem jd9{E:Env}:∀{l:List A} {us:List Value} {K:List Value->Prop},oD l K->A.repL l E us->K us
 |[],us,K,h,hr=>by unfold A.repL at hr;subst hr;exact h
 |a::l,us,K,h,hr=>by
  unfold A.repL at hr;obtain⟨u,us',rfl,h1,h2⟩:=hr;unfold oD at h;split at h
  ·have:=jd9 h h2;rw[(A.rep_v_iff.1 h1).1];exact this
  ·exact h.elim
def jjo(T:List (Nat×Te))(s:S)(t:Nat)(x k:A)(ok:Bool)(K:A->Prop):Prop :=
 match x with
 |.mp ks vs=>je8 T t ks vs k ok K
 |.own g=>match s.rw[g]? with
  |some (.live _ z _ cs)=>match z with
   |0=>match cs with
    |[.clo _ kA,.clo _ vs]=>oD kA fun ks=>je8 T t ks vs k ok K
    |_=>False
   |_+1=>False
  |_=>False
 |_=>False
section
variable{P:Program}{T:List (Nat×Te)}{w0:W0}{w:World}{C0:Rd}{β0:List Nat}{s:S}{a:Act}{E:Env}{o:Oper}{K:A->Prop}
theorem Tab.ok.map(hT:Tab.ok P T){t:Nat}{z:List Value}{b:Nat}{k e:TypeId}(h:Tab.get T t=some ⟨.map k e,z,b⟩):P.underlying t=some (.map k e):=by
 obtain⟨i,z,d,h1,h2,h3,_⟩:=hT.info h
 cases d <;> simp[m7] at h3
 rw[h2,h3.1,h3.2]
theorem ja6{r:Nat}{ks us:List Value}(h:kQ w ⟨r,0,some 0⟩=some (.tuple #[.tuple ks.toArray,.tuple us.toArray])):∃es c,w.heap[r]?=some (.map es c)/\es.toList.map (·.key)=ks/\es.toList.map (·.val)=us/\fQ es c:=by
 unfold kQ cM at h
 simp only at h
 split at h
 ·rename_i es c hh;split at h
  case isFalse=>cases h
  rename_i hst;simp only[Option.some.injEq,Value.tuple.injEq,Array.mk.injEq,List.cons.injEq,and_true] at h;refine⟨es,c,hh,?_,?_,hst⟩
  ·have:=congrArg Array.toList h.1;simpa using this
  ·have:=congrArg Array.toList h.2;simpa using this
 ·cases h
theorem jcE(x y:ByteArray):(x==y)=decide (x=y):=by
 cases x with
 |mk x=>cases y with
  |mk y =>
   rw[Bool.eq_iff_iff];show(x==y)=true↔_;simp
def jaZ(kind:TypeDesc)(st:Bool):Prop:=(kind=.string/\st=true)∨((∃k,kind=.int k)/\st=false)
theorem jki{kind:TypeDesc}{st:Bool}(hk:jaZ kind st){x y:Value}{b:Bool}(h:jd8 st x y=some b):Instr.sameNow kind x y=some b:=by
 unfold jd8 at h;split at h
 ·rcases hk with ⟨rfl,rfl⟩|⟨⟨k,rfl⟩,rfl⟩
  ·simp only[Option.some.injEq] at h;rw[<- h];simp only[Instr.sameNow];rename_i x y
   congr 1
   exact jcE x y
  ·cases h
 ·rcases hk with ⟨rfl,rfl⟩|⟨⟨k,rfl⟩,rfl⟩
  ·cases h
  ·simp only at h
   split at h
   ·rename_i hb;obtain rfl:=aL hb;simp only[Option.some.injEq] at h;rw[<- h];simp[Instr.sameNow];rfl
   ·cases h
 ·cases h
theorem jjG{kind:TypeDesc}{st:Bool}(hkind:jaZ kind st){key:Value}{n:Prop}:∀{es:List MapEntry} {ks:List Value} {vs:List A} {us:List Value} {K:A->Prop} (i:Nat),es.map (·.key)=ks->es.map (·.val)=us->A.repL vs E us->g9 st ks vs key K n →
  ∃r,Instr.findNow kind key es i=some r/\((r=none/\n)∨∃j y v,r=some (j,y)/\K v/\v.rep E y)
 |[],ks,vs,us,K,i,h1,h2,h3,h=>by
  simp only[List.map_nil] at h1;subst h1;exact⟨none,by simp[Instr.findNow],.inl ⟨rfl,h⟩⟩
 |e::es,ks,vs,us,K,i,h1,h2,h3,h=>by
  simp only[List.map_cons] at h1 h2;subst h1;subst h2
  cases vs with
  |nil=>exact h.elim
  |cons v vs =>
   unfold A.repL at h3;obtain⟨u,us',h4,h5,h6⟩:=h3;simp only[List.cons.injEq] at h4;obtain⟨rfl,rfl⟩:=h4;unfold g9 at h;split at h
   ·rename_i b hb;rw[ifK_iff] at h;have hs:=jki hkind hb
    cases b with
    |true=>exact⟨some (i,e.val),by simp[Instr.findNow,hs],.inr ⟨i,e.val,v,rfl,force_iff.1 (h.1 rfl),h5⟩⟩
    |false =>
     obtain⟨r,k1,k2⟩:=jjG hkind (i+1) rfl rfl h6 (h.2 rfl);exact⟨r,by simp[Instr.findNow,hs,k1],k2⟩
   ·exact h.elim
theorem jaY(hT:Tab.ok P T){t:Nat}{st:Bool}(h:u5 T t=some st):∃d,P.underlying t=some d/\jaZ d st:=by
 unfold u5 at h;split at h
 ·rename_i z b htab;cases h;exact⟨_,hT.strs htab,.inl ⟨rfl,rfl⟩⟩
 ·rename_i k z b htab;cases h;exact⟨_,hT.int htab,.inr ⟨⟨_,rfl⟩,rfl⟩⟩
 ·cases h
theorem jfG{kt:TypeId}{d:TypeDesc}{st:Bool}{key:Value}(hkd:jaZ d st)(hd:P.underlying kt=some d)(b:Bool)(n:Nat):(Instr.checkKey b (n+1) kt key).run P w=.ok () w:=by
 rcases hkd with ⟨rfl,-⟩|⟨⟨k',rfl⟩,-⟩
 ·cases key <;> simp[Instr.checkKey,run_underlying hd]
 ·cases key <;> simp[Instr.checkKey,run_underlying hd]
theorem tA{ok b:Bool}{r:A}{y:Value}(h:r.rep E y):(jk5 ok b r).rep E (if ok then .tuple #[y,.bool b] else y):=by
 cases ok with
 |false=>exact h
 |true =>
  show(A.tup [r,.v (.bool b)]).rep E (.tuple #[y,.bool b]);unfold A.rep;refine⟨_,rfl,?_⟩;unfold A.repL;refine⟨_,_,rfl,h,?_⟩;unfold A.repL;exact⟨_,_,rfl,A.rep_v trivial,by simp[A.repL]⟩
theorem ja0{e n f f':Nat}{ks vs:List A}{y:Value}{g:Nat}(hp:Hp w0 C0 β0 s.bx s.rw w E)(hg:s.rw[g]?=some (.live e 0 n [.clo f ks,.clo f' vs]))(hy:E.ρ[g]?=some y) :
  ∃r es c us,y=.map (some r)/\w.heap[r]?=some (.map es c)/\n=es.size/\fQ es c/\es.toList.map (·.val)=us/\A.repL ks E.per (es.toList.map (·.key))/\A.repL vs E.per us:=by
 obtain⟨xs,⟨ho,_⟩,hr⟩:=hp.rws g _ y hg hy;unfold A.repC at hr;obtain⟨u1,us1,rfl,-,r1,hr⟩:=hr;unfold A.repC at hr;obtain⟨u2,us2,rfl,-,r2,hr⟩:=hr;unfold A.repC at hr;subst hr;unfold A.rep at r1 r2;obtain⟨k1,rfl,q1⟩:=r1;obtain⟨k2,rfl,q2⟩:=r2;rcases ho with ⟨h,_⟩|⟨_,⟨r,es,c,h1,h2,h3,h4,h5⟩|⟨_,_,h⟩|⟨r,m,seen,since,_,_,_,h⟩|⟨b,_,h,_⟩⟩
 ·exact absurd rfl h
 ·simp only[fnV,List.cons.injEq,Value.func.injEq,and_true] at h5;refine⟨r,es,c,_,h1,h2,h3,h4,rfl,?_,?_⟩
  ·have:=h5.1.2.2;rw[this] at q1;simpa using q1
  ·have:=h5.2.2.2;rw[this] at q2;simpa using q2
 ·cases h
 ·cases h
 ·cases h
theorem jre{x:Value}{z:List Value}(h:x.cells.toList=z)(hn:∀u,z=[u]->False):∃us:Array Value,x=.agg us:=by
 cases x with
 |agg us=>exact⟨us,rfl⟩
 |_=>exact(hn _ (by rw[<- h];rfl)).elim
theorem jde{t:TypeId}{x k:Operand}{ok:Bool}{ks us:List Value}{vs:List A}{r c:Nat}{es:Array MapEntry}(hT:Tab.ok P T)(hz:pV T)(ht:A.repL s.t E a.tmps.toList)(ho:o.op=.lookup t x k ok)(hx:a.eval x=.map (some r))(hr:w.heap[r]?=some (.map es c))(h1:es.toList.map (·.key)=ks)(h2:es.toList.map (·.val)=us)(hvs:A.repL vs E.per us)(h:je8 T t ks vs (ev s k) ok K) :
  ∃r y,K r/\r.rep E y/\(execOp a.eval o).run P w=.ok (.value y) w:=by
 unfold je8 at h;split at h
 ·rename_i key hek;split at h
  ·rename_i kt et z b htab;split at h
   ·rename_i st hst;split at h
    ·rename_i e he;have hk:=(kM ht hek).1;have hu:=hT.map htab;obtain⟨d,hd,hkd⟩:=jaY hT hst;obtain⟨zv,hz1,hz2⟩:=hT.zero he;obtain⟨res,hf,hres⟩:=jjG hkd 0 h1 h2 hvs h
     have hck:∀b,(Instr.checkKey b 10000 kt key).run P w=.ok () w:=fun b=>jfG hkd hd b 9999
     have hg:(getObj r).run P w=.ok (.map es c) w:=by simp[getObj,Sem.run,hr]
     have hfk:(Instr.findKey kt key es.toList).run P w=.ok res w:=by simp[Instr.findKey,run_underlying hd,hf]
     have hrun:∀v b,(match res with|some (_,v)=>(v,true)|none=>(zv,false))=(v,b)->(execOp a.eval o).run P w=.ok (.value (if ok then .tuple #[v,.bool b] else v)) w:=fun v b hvb=>by
      cases res with
      |none =>
       simp only[Prod.mk.injEq] at hvb;obtain⟨rfl,rfl⟩:=hvb;simp[execOp,ho,Instr.lookup,hx,hk,run_underlying hu,hg,hck,hfk,hz2,Result.andThen]
      |some q =>
       obtain⟨j,q⟩:=q;simp only[Prod.mk.injEq] at hvb;obtain⟨rfl,rfl⟩:=hvb;simp[execOp,ho,Instr.lookup,hx,hk,run_underlying hu,hg,hck,hfk,Result.andThen]
     rcases hres with ⟨rfl,hn⟩|⟨j,y,v,rfl,hv,hrep⟩
     ·split at hn
      ·split at hn
       ·exact hn.elim
       ·rename_i hne;rw[qN] at hn;obtain⟨us,rfl⟩:=jre hz1 hne;exact⟨_,_,hn,tA (by unfold A.rep;exact⟨us,rfl,fT hz1 (hz _ _ he) E⟩),hrun _ _ rfl⟩
      ·split at hn
       ·rename_i hag _ z1 hez;obtain⟨z2,g1,g2⟩:=hT.one he hag
        have hzc:z2=z1:=by rw[hez] at g1;simpa using g1.symm
        have hzv:zv=z2:=by
         have e1:=hz2 w;rw[g2 w] at e1;cases e1;rfl
        subst hzc;subst hzv;exact⟨_,_,hn,tA (eQ _ E),hrun _ _ rfl⟩
       ·exact hn.elim
     ·exact⟨_,_,hv,tA (A.rep.mono _ E.per_le hrep),hrun _ _ rfl⟩
    ·exact h.elim
   ·exact h.elim
  ·exact h.elim
 ·exact h.elim
theorem jjX{t:TypeId}{x k:Operand}{ok:Bool}(hT:Tab.ok P T)(hz:pV T)(hp:Hp w0 C0 β0 s.bx s.rw w E)(ht:A.repL s.t E a.tmps.toList)(ho:o.op=.lookup t x k ok)(h:jjo T s t (ev s x) (ev s k) ok K) :
  ∃r y,K r/\r.rep E y/\(execOp a.eval o).run P w=.ok (.value y) w:=by
 have hx:=jM ht x;unfold jjo at h;split at h
 ·rename_i ks vs hev;rw[hev] at hx;unfold A.rep at hx;obtain⟨r,us,hx,hC,hlen,hvs,-⟩:=hx;obtain⟨es,c,hr,h1,h2,-⟩:=ja6 (hp.sub _ _ hC);exact jde hT hz ht ho hx hr h1 h2 hvs h
 ·rename_i g hev;rw[hev] at hx;unfold A.rep at hx;split at h
  ·rename_i e z n cs hg;split at h
   ·split at h
    ·rename_i f kA f' vs;obtain⟨r,es,c,us,e1,hr,-,-,h2,hks,hvs⟩:=ja0 hp hg hx;exact jde hT hz ht ho e1 hr rfl h2 hvs (jd9 h hks)
    ·exact h.elim
   ·exact h.elim
  ·exact h.elim
 ·exact h.elim
end
end
section
def jai(s:S)(t:Nat)(r:Option Operand)(K:A->S->Prop):Prop:=match r with
 |none=>aF s.rw (.live t 0 0 [.clo 0 [],.clo 0 []]) 0 fun g rw=>aH s rw (K (.own g))
 |some _=>False
def jig(st:Bool)(key:Value)(x:A):List A->List A->Nat->(List A->List A->Nat->Prop)->Prop
 |[],[],n,K=>K [.v key] [x] (n+1)
 |k::ks,v::vs,n,K=>match k with
  |.v kv=>match jd8 st key kv with
   |some b=>ifK b (K (.v kv::ks) (x::vs) n) (jig st key x ks vs n fun ks' vs' n'=>K (.v kv::ks') (v::vs') n')
   |none=>False
  |_=>False
 |_,_,_,_=>False
def uW(T:List (Nat×Te))(s:S)(t:Nat)(m k x:A)(K:A->S->Prop):Prop :=
 match m with
 |.own g=>match s.rw[g]? with
  |some (.live e z n cs)=>match z with
   |0=>match cs with
    |[.clo _ ks,.clo _ vs]=>match k with
     |.v key=>match Tab.get T t with
      |some ⟨.map kt _,_,_⟩=>match u5 T kt with
       |some st=>match y7 0 0 x with
        |true=>zV x fun x=>jig st key x ks vs n fun ks' vs' n'=>aS s.rw g (.live e 0 n' [.clo 0 ks',.clo 0 vs']) fun rw=>aH s rw (K .dead)
        |false=>False
       |none=>False
      |_=>False
     |_=>False
    |_=>False
   |_+1=>False
  |_=>False
 |_=>False
section
variable{P:Program}{T:List (Nat×Te)}{w0:W0}{w:World}{C0:Rd}{β0:List Nat}{s:S}{a:Act}{E:Env}{o:Oper}
theorem lX{l:List A}{us:List Value}(h:A.repL l E us):(A.clo 0 l).rep E (fnV us):=by
 unfold A.rep fnV;exact⟨us.toArray,rfl,by simpa using h⟩
theorem kU{x:A}{y:Value}{l:List A}{us:List Value}(h:x.rep E y)(h1:y.oneCell'=true)(k:A.repC l E us):A.repC (x::l) E (y::us):=by
 unfold A.repC;exact⟨y,us,rfl,h1,h,k⟩
theorem dT:A.repC [] E []:=by unfold A.repC;rfl
theorem jiq{t:Nat}{r:Option Operand}{Xr:Nat->Bool}{K:A->S->Prop}(hp:Hp w0 C0 β0 s.bx s.rw w E)(ho:o.op=.makeMap t r)(h:jai s t r K) :
  ∃y w',(execOp a.eval o).run P w=.ok (.value y) w'/\Left w0 C0 β0 Xr s E w K y w':=by
 unfold jai at h
 cases r with
 |some r=>exact h.elim
 |none =>
  simp only at h
  rw[kK,kW] at h;have hE:Ext w (w.alloc (.map #[] 0)):=(Ext.refl w).alloc _;have hp1:=hp.ext hE;have hadd:=hp1.addRow (e:=t) (k:=0) (n:=0) (y:=.map (some w.heap.size)) (xs:=[fnV [],fnV []]) (cs:=[.clo 0 [],.clo 0 []]) (.inr ⟨rfl,.inl ⟨w.heap.size,#[],0,rfl,heap_alloc_new w _,rfl,⟨rfl,fun i e he=>by simp at he⟩,rfl⟩⟩)
   (kU (lX (by simp[A.repL])) rfl (kU (lX (by simp[A.repL])) rfl dT)) (fun b hb=>by cases hb;exact .inl hp.keep.size) (fun b hb=>by
    cases hb;refine⟨hp.bnew,hp.cnone,fun g e' k' n' cs' z h1 h2 h3=>?_⟩
    have:=(hp.rlt h1 h2 h3).2;omega)
  refine⟨.map (some w.heap.size),w.alloc (.map #[] 0),by simp[execOp,ho,Instr.makeMap,newObj,Sem.run,Result.andThen],⟨_,_,_,h,rfl,hadd.2,hadd.1,?_,fun _ b hb _=>(Keeps.of_ext hE).block b hb (by simp),(Keeps.of_ext hE).size⟩⟩;unfold A.rep;rw[Nat.zero_add,hp.rl];simp
theorem jgh{kind:TypeDesc}{st:Bool}(hkind:jaZ kind st){key:Value}{x:A}{xv:Value}{F:Env}(hx:x.rep F xv)(hkey:fD key):∀{es:List MapEntry} {ks vs:List A} {n:Nat} {K:List A->List A->Nat->Prop} (i:Nat),A.repL ks F (es.map (·.key))->A.repL vs F (es.map (·.val))->jig st key x ks vs n K →
  ∃r ks' vs' n',K ks' vs' n'/\Instr.findNow kind key es i=some r/\((r=none/\n'=n+1/\A.repL ks' F (es.map (·.key)++[key])/\A.repL vs' F (es.map (·.val)++[xv])) ∨
   ∃j e,r=some (i+j,e.val)/\es[j]?=some e/\e.key=key/\((∃b,key=.string b)∨∃k n,key=.int k n)/\n'=n/\A.repL ks' F (es.map (·.key))/\A.repL vs' F ((es.map (·.val)).set j xv))
 |[],[],[],n,K,i,h1,h2,h=>⟨none,_,_,_,h,by simp[Instr.findNow],.inl ⟨rfl,rfl,by simp[A.repL,A.rep,hkey],by simp[A.repL,hx]⟩⟩
 |[],[],v::vs,n,K,i,h1,h2,h=>h.elim
 |[],k::ks,[],n,K,i,h1,h2,h=>h.elim
 |[],k::ks,v::vs,n,K,i,h1,h2,h=>by unfold A.repL at h1;obtain⟨u,us',h1,_⟩:=h1;simp at h1
 |e::es,[],vs,n,K,i,h1,h2,h=>by simp[A.repL] at h1
 |e::es,k::ks,[],n,K,i,h1,h2,h=>by simp[A.repL] at h2
 |e::es,k::ks,v::vs,n,K,i,h1,h2,h=>by
  simp only[List.map_cons] at h1 h2;unfold A.repL at h1 h2;obtain⟨u,us,e1,r1,r2⟩:=h1;obtain⟨u2,us2,e2,q1,q2⟩:=h2;simp only[List.cons.injEq] at e1 e2;obtain⟨rfl,rfl⟩:=e1;obtain⟨rfl,rfl⟩:=e2;unfold jig at h;split at h
  ·rename_i kv;have hkv:=(A.rep_v_iff.1 r1).1;split at h
   ·rename_i b hb;rw[ifK_iff] at h;have hs:=jki hkind (by rw[hkv];exact hb:jd8 st key e.key=some b)
    cases b with
    |true =>
     have hkk:e.key=key/\((∃b,key=.string b)∨∃k n,key=.int k n):=by
      rw[hkv];unfold jd8 at hb;split at hb
      ·split at hb
       ·simp only[Option.some.injEq,decide_eq_true_eq] at hb;exact⟨by rw[hb],.inl ⟨_,rfl⟩⟩
       ·cases hb
      ·split at hb
       ·cases hb
       ·split at hb
        ·rename_i hik;obtain rfl:=aL hik;simp only[Option.some.injEq,decide_eq_true_eq] at hb;exact⟨by rw[hb],.inr ⟨_,_,rfl⟩⟩
        ·cases hb
      ·cases hb
     refine⟨some (i,e.val),_,_,_,h.1 rfl,by simp[Instr.findNow,hs],.inr ⟨0,e,by simp,rfl,hkk.1,hkk.2,rfl,?_,?_⟩⟩
     ·unfold A.repL;exact⟨_,_,rfl,r1,r2⟩
     ·simp only[List.map_cons,List.set_cons_zero];unfold A.repL;exact⟨_,_,rfl,hx,q2⟩
    |false =>
     obtain⟨r,ks',vs',n',k1,k2,k3⟩:=jgh hkind hx hkey (i+1) r2 q2 (h.2 rfl);refine⟨r,_,_,_,k1,by simp[Instr.findNow,hs,k2],?_⟩;rcases k3 with ⟨rfl,g1,g2,g3⟩|⟨j,e',rfl,g1,g2,gk,g3,g4,g5⟩
     ·refine .inl ⟨rfl,g1,?_,?_⟩
      ·simp only[List.map_cons,List.cons_append];unfold A.repL;exact⟨_,_,rfl,r1,g2⟩
      ·simp only[List.map_cons,List.cons_append];unfold A.repL;exact⟨_,_,rfl,q1,g3⟩
     ·refine .inr ⟨j+1,e',by simp[Nat.add_assoc,Nat.add_comm 1],by simpa using g1,g2,gk,g3,?_,?_⟩
      ·simp only[List.map_cons];unfold A.repL;exact⟨_,_,rfl,r1,g4⟩
      ·simp only[List.map_cons,List.set_cons_succ];unfold A.repL;exact⟨_,_,rfl,q1,g5⟩
   ·exact h.elim
  ·exact h.elim
theorem Hp.turnRow{bx:List (List A)}{rw:List Row}{w':World}(h:Hp w0 C0 β0 bx rw w E){g e n n':Nat}{cs cs':List A}{y:Value}{xs':List Value}{b:Nat}(hg:rw[g]?=some (.live e 0 n cs))(hy:E.ρ[g]?=some y)(hb:blk y=some b)(kp:Keeps [b] w w')(hown:owR w' e 0 y n' xs')(hr:A.repC cs' E.per xs') :
  Hp w0 C0 β0 bx (rw.set g (.live e 0 n' cs')) w' E:=by
 have hgl:=(List.getElem?_eq_some_iff.1 hg).1;obtain⟨hbn,hbC⟩:=h.rC g e 0 n cs y b hg hy hb
 have part:∀(j e1 k1 n1:Nat) (cs1:List A),(rw.set g (.live e 0 n' cs'))[j]?=some (.live e1 k1 n1 cs1)->∃n2 cs2,rw[j]?=some (.live e1 k1 n2 cs2):=fun j e1 k1 n1 cs1 h2=>by
  by_cases hj:g=j
  ·subst hj;rw[List.getElem?_set_self hgl] at h2;cases h2;exact⟨n,cs,hg⟩
  ·rw[List.getElem?_set_ne hj] at h2;exact⟨n1,cs1,h2⟩
 refine⟨fun ad v hc=>kp.cell (h.sub ad v hc) (fun hm=>?_),h.base,h.fresh,h.bp,h.bnd,h.bC,h.bl,fun i b' cs2 h2 h3=>?_,by simpa using h.rl,fun j r z h2 h3=>?_,fun j e1 k1 n1 cs1 z b' h2 h3 h4=>?_,fun j e1 k1 n1 cs1 z j' e2 k2 n2 cs2 z' b' hne h2 h3 h4 h5 h6=>?_,h.rs,?_,h.gk⟩
 ·simp at hm;have hn:=hbC ad.off ad.spot;rw[<- hm] at hn;have:E.C ad=none:=hn;rw[this] at hc;cases hc
 ·refine(h.bxs i b' cs2 h2 h3).same (kp.block b' (h.blt (List.mem_iff_getElem?.2 ⟨i,h2⟩)) (fun hm=>?_));simp at hm;subst hm;exact hbn (List.mem_iff_getElem?.2 ⟨i,h2⟩)
 ·by_cases hj:g=j
  ·subst hj;rw[List.getElem?_set_self hgl] at h2;cases h2;obtain rfl:=Option.some.inj (h3.symm.trans hy);obtain⟨xs,k1,k2⟩:=h.rws g _ _ hg hy;exact⟨xs',⟨hown,k1.2⟩,hr⟩
  ·rw[List.getElem?_set_ne hj] at h2;refine(h.rws j r z h2 h3).mono (Env.le.refl E) (fun e1 k1 n1 cs1 hr b' hb'=>?_);subst hr;refine kp.block b' (h.rlt h2 h3 hb').2 (fun hm=>?_);simp at hm;subst hm;exact h.rd g e 0 n cs y j e1 k1 n1 cs1 z b' hj hg hy h2 h3 hb hb'
 ·obtain⟨n2,cs2,h7⟩:=part j e1 k1 n1 cs1 h2;exact h.rC j e1 k1 n2 cs2 z b' h7 h3 h4
 ·obtain⟨n3,cs3,h7⟩:=part j e1 k1 n1 cs1 h2;obtain⟨n4,cs4,h8⟩:=part j' e2 k2 n2 cs2 h4;exact h.rd j e1 k1 n3 cs3 z j' e2 k2 n4 cs4 z' b' hne h7 h3 h8 h5 h6
 ·refine h.keep.step kp (fun b' hb'=>?_);simp at hb';subst hb'
  exact(h.rlt hg hy hb).1.elim .inr fun hx=>.inl (List.mem_append_right _ hx)
theorem jd7(w:World)(b:Nat)(ob:Obj):Keeps [b] w { w with heap:=w.heap.setIfInBounds b ob }:=⟨rfl,rfl,rfl,by simp,fun k hk hn=>by
 have:b≠k:=fun e=>hn (by simp[e])
 simp[Array.getElem?_setIfInBounds_ne this]⟩
theorem jll{v:Value}(h:(∃b,v=.string b)∨∃k n,v=.int k n)(m:Nat):Instr.sameBits m v v=true:=by
 rcases h with ⟨b,rfl⟩|⟨k,n,rfl⟩
 ·have e:(b==b)=true:=by rw[jcE];simp
  cases m <;> simp[Instr.sameBits,e]
 ·have e:(k==k)=true:=by cases k <;> rfl
  cases m <;> simp[Instr.sameBits,e]
theorem jd4{t:TypeId}{m k x:Operand}{K:A->S->Prop}(hT:Tab.ok P T)(hp:Hp w0 C0 β0 s.bx s.rw w E)(ht:A.repL s.t E a.tmps.toList)(ho:o.op=.insert t m k x∨o.op=.mapUpdate t m k x)(h:uW T s t (ev s m) (ev s k) (ev s x) K) :
  ∃w' rw',(execOp a.eval o).run P w=.ok .skip w'/\K .dead ⟨s.t,s.bx,rw'⟩/\Hp w0 C0 β0 s.bx rw' w' E:=by
 unfold uW at h;split at h
 ·rename_i g hev;have hm:=jM ht m;rw[hev] at hm;unfold A.rep at hm;split at h
  ·rename_i e z n cs hg;split at h
   ·split at h
    ·rename_i f ks f' vs;split at h
     ·rename_i key hek;split at h
      ·rename_i kt et zz bb htab;split at h
       ·rename_i st hst;split at h
        ·rename_i hrf;rw[force_iff] at h;obtain⟨r,es,c,us,e1,hr,hn,hst2,h2,hks,hvs⟩:=ja0 hp hg hm;obtain⟨hk,okk⟩:=kM ht hek;have hu:=hT.map htab;obtain⟨d,hd,hkd⟩:=jaY hT hst;have hxr:=jM ht x
         have hxp:(ev s x).rep E.per (a.eval x):=by
          have:=lH (nb:=0) (nr:=0) _ hrf hxr;simpa [Env.per] using this
         subst h2;obtain⟨res,ks',vs',n',hK,hf,hres⟩:=jgh hkd hxp okk 0 hks hvs h;obtain⟨-,hK⟩:=zQ hK;rw[kW] at hK
         have hck:∀b,(Instr.checkKey b 10000 kt key).run P w=.ok () w:=fun b=>jfG hkd hd b 9999
         have hgo:(getObj r).run P w=.ok (.map es c) w:=by simp[getObj,Sem.run,hr]
         have hfk:(Instr.findKey kt key es.toList).run P w=.ok res w:=by simp[Instr.findKey,run_underlying hd,hf]
         have hrl:r<w.heap.size:=(Array.getElem?_eq_some_iff.1 hr).1
         have fin:∀es' c',(Instr.mapUpdate t (.map (some r)) key (a.eval x)).run P w=.ok () { w with heap:=w.heap.setIfInBounds r (.map es' c') }->n'=es'.size->fQ es' c'->A.repL ks' E.per (es'.toList.map (·.key))->A.repL vs' E.per (es'.toList.map (·.val))->∃w' rw',(execOp a.eval o).run P w=.ok .skip w'/\K .dead ⟨s.t,s.bx,rw'⟩/\Hp w0 C0 β0 s.bx rw' w' E:=fun es' c' q1 q2 q3 q4 q5=>by
          refine⟨_,_,?_,hK,hp.turnRow hg hm (b:=r) (by rw[e1];rfl) (jd7 w r (.map es' c')) (.inr ⟨rfl,.inl ⟨r,es',c',e1,by simp[hrl],q2,q3,rfl⟩⟩) (kU (lX q4) rfl (kU (lX q5) rfl dT))⟩;rcases ho with ho|ho
          ·simp[execOp,ho,e1,hk,q1,Result.andThen]
          ·simp[execOp,ho,e1,hk,q1,Result.andThen]
         rcases hres with ⟨rfl,rfl,g1,g2⟩|⟨j,en,rfl,g1,g2,hkk,rfl,g3,g4⟩
         ·refine fin (es.push { key:=key,val:=a.eval x,born:=c }) (c+1) ?_ (by rw[hn];simp) ⟨by rw[hst2.1];simp,fun i e2 he=>?_⟩ (by simpa using g1) (by simpa using g2)
          ·simp[Instr.mapUpdate,run_underlying hu,hgo,hck,hfk,Result.andThen,setObj,Sem.run,hr]
          ·by_cases hi:i<es.size
           ·rw[Array.getElem?_push_lt hi] at he;exact hst2.2 i e2 (by rw[Array.getElem?_eq_getElem hi];exact he)
           ·have hil:=(Array.getElem?_eq_some_iff.1 he).1
            have:i=es.size:=by simp at hil;omega
            subst this;simp at he;rw[<- he];exact hst2.1
         ·have hjs:es[j]?=some en:=by simpa using g1
          have hjl:=(Array.getElem?_eq_some_iff.1 hjs).1;refine fin (es.modify j fun e=>{ e with key:=key,val:=a.eval x }) c ?_ (by rw[hn];simp) ⟨by rw[hst2.1];simp,fun i e2 he=>?_⟩ ?_ ?_
          ·have hb:=jll hkk 10000;simp[Instr.mapUpdate,run_underlying hu,hgo,hck,hfk,Result.andThen,setObj,Sem.run,hr,hjs,Instr.keyThatStays,g2,hb]
          ·rw[Array.getElem?_modify] at he;split at he
           ·rename_i hij;subst hij;rw[hjs] at he;simp at he;rw[<- he];exact hst2.2 j en hjs
           ·exact hst2.2 i e2 he
          ·have:(es.modify j fun e=>{ e with key:=key,val:=a.eval x }).toList.map (·.key)=es.toList.map (·.key):=by
            apply List.ext_getElem?;intro i;simp only[List.getElem?_map,Array.getElem?_toList,Array.getElem?_modify];split
            ·rename_i hij;subst hij;simp[hjs,g2]
            ·rfl
           rw[this];exact g3
          ·have:(es.modify j fun e=>{ e with key:=key,val:=a.eval x }).toList.map (·.val)=(es.toList.map (·.val)).set j (a.eval x):=by
            apply List.ext_getElem?;intro i;simp only[List.getElem?_map,Array.getElem?_toList,Array.getElem?_modify,List.getElem?_set];split
            ·rename_i hij;subst hij;simp[hjs,hjl]
            ·rfl
           rw[this];exact g4
        ·exact h.elim
       ·exact h.elim
      ·exact h.elim
     ·exact h.elim
    ·exact h.elim
   ·exact h.elim
  ·exact h.elim
 ·exact h.elim
end
def jhR(T:List (Nat×Te))(s:S)(t:Nat)(x:A)(K:A->S->Prop):Prop :=
 match x with
 |.mp ks vs=>match Tab.get T t with
  |some ⟨.map _ _,_,_⟩=>match Nat.ble ks.length 1000000 with
   |true=>aF s.rw (.live 0 0 0 [.mp ks vs,.clo 0 [],.v (.int .i64 (ks.length:Int))]) 0 fun g rw=>aH s rw (K (.own g))
   |false=>False
  |_=>False
 |_=>False
def jlT(s:S)(x:A)(K:A->S->Prop):Prop :=
 match x with
 |.own g=>match s.rw[g]? with
  |some (.live e z n cs)=>match z with
   |0=>match cs with
    |[.mp ks vs,.clo _ sn,.v (.int _ m)]=>m=(ks.length:Int)/\(∀x∈sn,∃u,x=A.v u)/\((∀j:Nat,j<ks.length->A.v (.int .i64 (j:Int))∈sn)->K (.tup [.v (.bool false)]) s) ∧
     ∀j:Nat,j<ks.length->A.v (.int .i64 (j:Int))∉sn->aS s.rw g (.live e 0 (n+1) [.mp ks vs,.clo 0 (.v (.int .i64 (j:Int))::sn),.v (.int .i64 m)]) fun rw=>aH s rw (K (.tup [.v (.bool true),.v (ks.getD j undef),vs.getD j .dead]))
    |_=>False
   |_+1=>False
  |_=>False
 |_=>False
def jhN(s:S)(x:A)(K:A->Prop):Prop :=
 match x with
 |.own g=>match s.rw[g]? with
  |some (.live e z n cs)=>match z with
   |0=>match cs with
    |[.mp ks vs,.clo _ (.v (.int _ j)::_),.v (.int _ m)]=>(m=(ks.length:Int)/\0<=j/\j<(ks.length:Int))/\K (.tup [.v (ks.getD j.toNat undef),vs.getD j.toNat .dead])
    |_=>False
   |_+1=>False
  |_=>False
 |_=>False
section
variable{P:Program}{T:List (Nat×Te)}{w0:W0}{w:World}{C0:Rd}{β0:List Nat}{s:S}{a:Act}{E:Env}{o:Oper}
theorem jiW(w:World)(ty:TypeId)(r bm since c:Nat)(seen:Array Nat)(es:Array MapEntry)(hr:w.heap[r]?=some (.mapIter (some bm) since seen since))(hb:w.heap[bm]?=some (.map es c))(hst:fQ es c)(hs:since=es.size) :
  ((∀j,j<es.size->seen.contains j=true)/\(Instr.next (.pointer (some ⟨r,0,none⟩)) false ty).run P w=.ok (.tuple #[.bool false]) w) ∨
  ∃(j:Nat) (e:MapEntry) (w1:World),es[j]?=some e/\seen.contains j=false/\(w1=w∨w1=w.drew)/\(Instr.next (.pointer (some ⟨r,0,none⟩)) false ty).run P w=.ok (.tuple #[.bool true,e.key,e.val]) { w1 with heap:=w1.heap.setIfInBounds r (.mapIter (some bm) since (seen.push j) since) }:=by
 have hc:c=since:=by rw[hs];exact hst.1
 have hold:∀x∈es.toList,x.born<since:=fun x hx=>by
  obtain⟨i,hi,rfl⟩:=List.mem_iff_getElem.1 hx;have:=hst.2 i _ (by rw[Array.getElem?_eq_getElem (by simpa using hi)]);simp at this hi ⊢;omega
 simp only[Instr.next,getObj,Sem.run_bind,Sem.run,hr,hb,Result.andThen,next_test_false seen es since since hold (Nat.le_refl _),Bool.false_eq_true,if_false]
 have hL:∀x,x∈(Array.filter (fun e => !seen.contains e.born) es).toList↔x∈es.toList/\seen.contains x.born=false:=fun x=>by simp
 have hmem:∀x∈(Array.filter (fun e => !seen.contains e.born) es).toList,x.born<since:=fun x hx=>hold x ((hL x).1 hx).1
 generalize Array.filter (fun e => !seen.contains e.born) es=L at hmem hL ⊢;have e1:L.filter (fun x=>decide (x.born<since))=L:=Array.filter_eq_self.2 (fun x hx=>by simpa using hmem x (by simpa using hx))
 have e2:L.filter (fun x=>decide (x.born≥since)) = #[]:=by
  rw[Array.filter_eq_empty_iff];intro x hx;have:=hmem x (by simpa using hx);simp;omega
 simp only[e1,e2,Array.append_empty];by_cases h0:L.size=0
 ·left;have:L = #[]:=Array.eq_empty_of_size_eq_zero h0;subst this;refine⟨fun j hj=>?_,by simp[choose,Sem.run,Question.forced]⟩
  cases hcn:seen.contains j with
  |true=>rfl
  |false =>
   have hb:=hst.2 j es[j] (Array.getElem?_eq_getElem hj);have:=(hL es[j]).2 ⟨by simp,by rw[hb];exact hcn⟩;simp at this
 ·right
  have hne:L.isEmpty=false:=by simp[Array.isEmpty,h0]
  simp only[hne,Bool.false_eq_true,if_false,Array.empty_append,Array.size_map]
  have hch:∃(j:Nat) (w1:World),j<L.size/\(w1=w∨w1=w.drew)/\(choose (Question.mapNext L.size)).run P w=.ok j w1:=by
   by_cases hf:L.size<=1
   ·exact⟨0,w,by omega,.inl rfl,by simp[choose,Sem.run,Question.forced,hf]⟩
   ·exact⟨_,w.drew,Nat.mod_lt _ (by omega),.inr rfl,by
     simp only[choose,Sem.run,Question.forced,decide_eq_true_eq,hf,if_false,Question.cut]
     rfl⟩
  obtain⟨j,w1,hj,hal,hrun⟩:=hch;have hLj:=(hL L[j]).1 (by simp);obtain⟨i,hi,hie⟩:=List.mem_iff_getElem.1 hLj.1
  have hei:es[i]?=some L[j]:=by rw[Array.getElem?_eq_getElem (by simpa using hi)];simpa using hie
  have hbi:=hst.2 i _ hei;refine⟨i,L[j],w1,hei,by rw[<- hbi];exact hLj.2,hal,?_⟩
  have hw1:w1.heap=w.heap:=by rcases hal with rfl|rfl <;> rfl
  have hset:∀o',(setObj r o').run P w1=.ok () { w1 with heap:=w1.heap.setIfInBounds r o' }:=fun o'=>by
   simp only[setObj,Sem.run,hw1,hr]
  simp only[hrun,Array.getElem?_map,Array.getElem?_eq_getElem hj,Option.map_some,Sem.run_bind,hset,Result.andThen,hbi,hc];rfl
theorem jgI{e n f:Nat}{ks:List Value}{vs sn:List A}{k:IntKind}{m:Int}{y:Value}{g:Nat}(hp:Hp w0 C0 β0 s.bx s.rw w E)(hg:s.rw[g]?=some (.live e 0 n [.mp ks vs,.clo f sn,.v (.int k m)]))(hy:E.ρ[g]?=some y) :
  ∃(r bm since c:Nat) (seen:Array Nat) (es:Array MapEntry) (us:List Value),y=.pointer (some ⟨r,0,none⟩)/\w.heap[r]?=some (.mapIter (some bm) since seen since)/\n=seen.size/\A.repL sn E.per (seen.toList.reverse.map fun i:Nat=>Value.int .i64 (i:Int))/\(Value.int k m=.int .i64 (since:Int)/\fD (.int k m)) ∧
   w.heap[bm]?=some (.map es c)/\es.toList.map (·.key)=ks/\es.toList.map (·.val)=us/\fQ es c/\vs.length=ks.length/\A.repL vs E.per us/\(∀k∈ks,fD k)/\(A.mp ks vs).rep E.per (.map (some bm)):=by
 obtain⟨xs,⟨ho,_⟩,hr⟩:=hp.rws g _ y hg hy;unfold A.repC at hr;obtain⟨u1,us1,rfl,-,r1,hr⟩:=hr;unfold A.repC at hr;obtain⟨u2,us2,rfl,-,r2,hr⟩:=hr;unfold A.repC at hr;obtain⟨u3,us3,rfl,-,r3,hr⟩:=hr;unfold A.repC at hr;subst hr;have r1':=r1;unfold A.rep at r1 r2;obtain⟨rr,us,rfl,hC,hlen,hvs,hok⟩:=r1;obtain⟨k2,rfl,q2⟩:=r2;obtain⟨rfl,ok3⟩:=A.rep_v_iff.1 r3;rcases ho with ⟨h,_⟩|⟨_,⟨r,es,c,h1,h2,h3,h4,h5⟩|⟨_,_,h⟩|⟨r,m',seen,since,h1,h2,h3,h4⟩|⟨b,_,h,_⟩⟩
 ·exact absurd rfl h
 ·cases h5
 ·cases h
 ·simp only[List.cons.injEq,Value.map.injEq,Option.some.injEq,and_true,fnV,Value.func.injEq] at h4;obtain⟨e1,e2,e3⟩:=h4;subst e1;obtain⟨es,c,hr,g1,g2,g3⟩:=ja6 (hp.sub _ _ hC);refine⟨r,rr,since,c,seen,es,us,h1,h2,h3,?_,⟨e3,ok3⟩,hr,g1,g2,g3,hlen,hvs,hok,r1'⟩;have:=e2.2.2;rw[this] at q2;simpa using q2
 ·cases h
theorem jnX{sn:List A}{F:Env}{seen:List Nat}(h:A.repL sn F (seen.map fun i:Nat=>Value.int .i64 (i:Int)))(hv:True)(j:Nat)(hj:A.v (.int .i64 (j:Int))∈sn):j∈seen:=by
 induction sn generalizing seen with
 |nil=>cases hj
 |cons x sn ih =>
  unfold A.repL at h;obtain⟨u,us',e,h1,h2⟩:=h
  cases seen with
  |nil=>simp at e
  |cons i seen =>
   simp only[List.map_cons,List.cons.injEq] at e;obtain⟨rfl,rfl⟩:=e;rcases List.mem_cons.1 hj with rfl|hj
   ·have:=(A.rep_v_iff.1 h1).1;simp at this;rw[List.mem_cons];exact .inl (by omega)
   ·exact List.mem_cons_of_mem _ (ih h2 hj)
theorem jlp{sn:List A}{F:Env}{seen:List Nat}(h:A.repL sn F (seen.map fun i:Nat=>Value.int .i64 (i:Int)))(hs:∀x∈sn,∃v,x=A.v v)(j:Nat)(hj:j∈seen):A.v (.int .i64 (j:Int))∈sn:=by
 induction sn generalizing seen with
 |nil =>
  unfold A.repL at h
  cases seen with
  |nil=>cases hj
  |cons i seen=>simp at h
 |cons x sn ih =>
  unfold A.repL at h;obtain⟨u,us',e,h1,h2⟩:=h
  cases seen with
  |nil=>cases hj
  |cons i seen =>
   simp only[List.map_cons,List.cons.injEq] at e;obtain⟨rfl,rfl⟩:=e;rcases List.mem_cons.1 hj with rfl|hj
   ·obtain⟨v,rfl⟩:=hs x (by simp);have:=(A.rep_v_iff.1 h1).1;rw[<- this];simp
   ·exact List.mem_cons_of_mem _ (ih h2 (fun y hy=>hs y (List.mem_cons_of_mem _ hy)) hj)
theorem jow{F:Env}{x1 x2:A}{y1 y2:Value}(h1:x1.rep F y1)(h2:x2.rep F y2):(A.tup [x1,x2]).rep F (.tuple #[y1,y2]):=by
 unfold A.rep;refine⟨_,rfl,?_⟩;simp only[A.repL];exact⟨_,_,rfl,h1,_,_,rfl,h2,rfl⟩
theorem jgo{ks:List Value}{es:Array MapEntry}{en:MapEntry}{j:Nat}(h:es.toList.map (·.key)=ks)(hj:es[j]?=some en):ks.getD j undef=en.key:=by
 subst h;simp[List.getD_eq_getElem?_getD,hj]
theorem jpt{x:Operand}{K:A->S->Prop}(hp:Hp w0 C0 β0 s.bx s.rw w E)(ht:A.repL s.t E a.tmps.toList)(ho:o.op=.next x false)(h:jlT s (ev s x) K) :
  ∃y w' r s',(execOp a.eval o).run P w=.ok (.value y) w'/\K r s'/\s'.t=s.t/\Hp w0 C0 β0 s'.bx s'.rw w' E/\r.rep E y:=by
 unfold jlT at h;split at h
 ·rename_i g hev;have hx:=jM ht x;rw[hev] at hx;unfold A.rep at hx;split at h
  ·rename_i e z n cs hg;split at h
   ·split at h
    ·rename_i ks vs f sn k m;obtain⟨hm,hsn,h1,h2⟩:=h;obtain⟨r,bm,since,c,seen,es,us,e1,hr,hn,hseen,⟨e3,ok3⟩,hb,g1,g2,hst,hlen,hvs,hok,hmp⟩:=jgI hp hg hx
     have hes:es.size=ks.length:=by rw[<- g1];simp
     obtain⟨rfl,hms⟩:k=.i64/\m=(since:Int):=by
      simp only[Value.int.injEq] at e3;exact⟨e3.1,e3.2⟩
     have hs:since=es.size:=by omega
     rcases jiW (P:=P) w o.type r bm since c seen es hr hb hst hs with ⟨q1,q2⟩|⟨j,en,w1,q1,q2,q3,q4⟩
     ·refine⟨.tuple #[.bool false],w,_,s,by simp[execOp,ho,e1,q2,Result.andThen],h1 fun j hj=>?_,rfl,hp,?_⟩
      ·refine jlp hseen hsn j ?_;have:=q1 j (by omega);simpa using this
      ·unfold A.rep;refine⟨_,rfl,?_⟩;simp only[A.repL];exact⟨_,_,rfl,A.rep_v trivial,rfl⟩
     ·have hjl:=(Array.getElem?_eq_some_iff.1 q1).1
      have hj:j<ks.length:=by omega
      have hns:A.v (.int .i64 (j:Int))∉sn:=fun hm2=>by
       have:=jnX hseen trivial j hm2
       have hc2:seen.contains j=true:=by simpa using this
       rw[q2] at hc2;cases hc2
      have hK:=h2 j hj hns;obtain⟨-,hK⟩:=zQ hK;rw[kW] at hK
      have hw1:Hp w0 C0 β0 s.bx s.rw w1 E/\w1.heap=w.heap:=by
       rcases q3 with rfl|rfl
       ·exact⟨hp,rfl⟩
       ·exact⟨hp.ext (Ext.refl w).drew,rfl⟩
      have hokj:fD (.int .i64 (j:Int)):=by
       have h64:lo .i64 = -9223372036854775808/\hi .i64=9223372036854775807:=⟨rfl,rfl⟩
       rw[okV_int] at ok3 ⊢;omega
      have hrl:r<w1.heap.size:=by rw[hw1.2];exact(Array.getElem?_eq_some_iff.1 hr).1
      have hu:us[j]?=some en.val:=by rw[<- g2];simp[q1]
      refine⟨.tuple #[.bool true,en.key,en.val],{ w1 with heap:=w1.heap.setIfInBounds r (.mapIter (some bm) since (seen.push j) since) },_,_,by simp[execOp,ho,e1,q4,Result.andThen],hK,rfl,?_,?_⟩
      ·refine hw1.1.turnRow hg hx (b:=r) (by rw[e1];rfl) (jd7 w1 r _) (.inr ⟨rfl,.inr (.inr (.inl ⟨r,bm,seen.push j,since,e1,by simp[hrl],by rw[hn];simp,rfl⟩))⟩) ?_;refine kU hmp rfl (kU ?_ rfl (kU (by rw[<- e3];exact A.rep_v ok3) rfl dT))
       have e9:(seen.push j).toList.reverse.map (fun i:Nat=>Value.int .i64 (i:Int))=.int .i64 (j:Int)::seen.toList.reverse.map (fun i:Nat=>Value.int .i64 (i:Int)):=by simp
       rw[e9];refine lX ?_;unfold A.repL;exact⟨_,_,rfl,A.rep_v hokj,hseen⟩
      ·rw[jgo g1 q1];unfold A.rep;refine⟨_,rfl,?_⟩;simp only[A.repL];refine⟨_,_,rfl,A.rep_v trivial,_,_,rfl,A.rep_v (hok _ ?_),_,_,rfl,?_,rfl⟩
       ·rw[<- g1];exact List.mem_map.2 ⟨en,by rw[Array.mem_toList_iff];exact Array.mem_of_getElem? q1,rfl⟩
       ·have:=A.repL_getD hvs j undef
        have e9:us.getD j undef=en.val:=by simp[List.getD_eq_getElem?_getD,hu]
        rw[e9] at this;exact A.rep.mono _ E.per_le this
    ·exact h.elim
   ·exact h.elim
  ·exact h.elim
 ·exact h.elim
theorem jic{es:Array MapEntry}{c j:Nat}{en:MapEntry}(hst:fQ es c)(hj:es[j]?=some en):es.find? (fun e=>e.born==j)=some en:=by
 obtain⟨hjl,hje⟩:=Array.getElem?_eq_some_iff.1 hj;have hbj:en.born=j:=hst.2 j en hj;rw[<- Array.find?_toList,List.find?_eq_some_iff_getElem];refine⟨by simp[hbj],j,by simpa using hjl,by simpa using hje,fun i hi=>?_⟩;have:=hst.2 i es[i] (Array.getElem?_eq_getElem (by omega));simp[this];omega
theorem jmC{x:Operand}{K:A->Prop}(hp:Hp w0 C0 β0 s.bx s.rw w E)(ht:A.repL s.t E a.tmps.toList)(ho:o.op=.entry x)(h:jhN s (ev s x) K) :
  ∃r y,K r/\r.rep E y/\(execOp a.eval o).run P w=.ok (.value y) w:=by
 unfold jhN at h;split at h
 ·rename_i g hev;have hx:=jM ht x;rw[hev] at hx;unfold A.rep at hx;split at h
  ·rename_i e z n cs hg;split at h
   ·split at h
    ·rename_i ks vs f kj j sn k m;obtain⟨⟨hm,hj0,hjm⟩,h⟩:=h;obtain⟨r,bm,since,c,seen,es,us,e1,hr,hn,hseen,⟨e3,ok3⟩,hb,g1,g2,hst,hlen,hvs,hok,hmp⟩:=jgI hp hg hx
     have hes:es.size=ks.length:=by rw[<- g1];simp
     have hms:m=(since:Int):=by
      simp only[Value.int.injEq] at e3;exact e3.2
     have hs:since=es.size:=by omega
     have hc:c=since:=by rw[hs];exact hst.1
     unfold A.repL at hseen;obtain⟨u,us',hsl,hj,-⟩:=hseen;have hjv:=(A.rep_v_iff.1 hj).1
     obtain⟨i,hi⟩:∃i,seen.back?=some i/\u=.int .i64 (i:Int):=by
      cases hrev:seen.toList.reverse with
      |nil=>rw[hrev] at hsl;simp at hsl
      |cons i l =>
       rw[hrev] at hsl;simp only[List.map_cons,List.cons.injEq] at hsl;refine⟨i,?_,hsl.1.symm⟩
       have e9:seen.toList=l.reverse++[i]:=by rw[<- List.reverse_reverse seen.toList,hrev];simp
       rw[<- Array.getLast?_toList,e9];simp
     obtain⟨hi,rfl⟩:=hi
     have hij:kj=.i64/\j=(i:Int):=by
      simp only[Value.int.injEq] at hjv;exact⟨hjv.1.symm,hjv.2.symm⟩
     obtain⟨rfl,rfl⟩:=hij
     have hil:i<es.size:=by omega
     ·have hei:es[i]?=some es[i]:=Array.getElem?_eq_getElem hil;refine⟨_,.tuple #[es[i].key,es[i].val],h,?_,?_⟩
      ·rw[show((i:Int)).toNat=i from by simp,jgo g1 hei]
       have hu:us[i]?=some es[i].val:=by rw[<- g2];simp[hil]
       refine jow (A.rep_v (hok _ ?_)) ?_
       ·rw[<- g1];exact List.mem_map.2 ⟨es[i],by simp,rfl⟩
       ·have:=A.repL_getD hvs i undef
        have e9:us.getD i undef=es[i].val:=by simp[List.getD_eq_getElem?_getD,hu]
        rw[e9] at this;exact A.rep.mono _ E.per_le this
      ·have hf:=jic hst hei;simp only[execOp,ho,e1,Instr.entry,getObj,Sem.run_bind,Sem.run,hr,hb,Result.andThen,hi,hc,bne_self_eq_false,Bool.false_eq_true,if_false,hf];rfl
    ·exact h.elim
   ·exact h.elim
  ·exact h.elim
 ·exact h.elim
theorem jnC{t:TypeId}{x:Operand}{Xr:Nat->Bool}{K:A->S->Prop}(hT:Tab.ok P T)(hp:Hp w0 C0 β0 s.bx s.rw w E)(ht:A.repL s.t E a.tmps.toList)(ho:o.op=.range t x)(h:jhR T s t (ev s x) K) :
  ∃y w',(execOp a.eval o).run P w=.ok (.value y) w'/\Left w0 C0 β0 Xr s E w K y w':=by
 unfold jhR at h;split at h
 ·rename_i ks vs hev;have hx:=jM ht x;rw[hev] at hx;split at h
  ·rename_i kt et z b htab;split at h
   ·rename_i hle;rw[kK,kW] at h;have hx':=hx;unfold A.rep at hx;obtain⟨r,us,hx,hC,hlen,hvs,hok⟩:=hx;obtain⟨es,c,hr,g1,g2,hst⟩:=ja6 (hp.sub _ _ hC)
    have hes:es.size=ks.length:=by rw[<- g1];simp
    have hE:Ext w (w.alloc (.mapIter (some r) c #[] c)):=(Ext.refl w).alloc _;have hp1:=hp.ext hE
    have hc:c=ks.length:=by rw[<- hes];exact hst.1
    have hmp:(A.mp ks vs).rep E.per (.map (some r)):=by
     rw[hx] at hx';unfold A.rep at hx' ⊢;exact hx'
    have hle':ks.length<=1000000:=Nat.le_of_ble_eq_true hle
    have hki:fD (.int .i64 (ks.length:Int)):=by
     have h64:lo .i64 = -9223372036854775808/\hi .i64=9223372036854775807:=⟨rfl,rfl⟩
     rw[okV_int];omega
    have hadd:=hp1.addRow (e:=0) (k:=0) (n:=0) (y:=.pointer (some ⟨w.heap.size,0,none⟩)) (xs:=[.map (some r),fnV [],.int .i64 (ks.length:Int)]) (cs:=[.mp ks vs,.clo 0 [],.v (.int .i64 (ks.length:Int))])
     (.inr ⟨rfl,.inr (.inr (.inl ⟨w.heap.size,r,#[],c,rfl,heap_alloc_new w _,rfl,by rw[hc];rfl⟩))⟩)
     (kU hmp rfl (kU (lX (by simp[A.repL])) rfl (kU (A.rep_v hki) rfl dT))) (fun b hb=>by cases hb;exact .inl hp.keep.size) (fun b hb=>by
      cases hb;refine⟨hp.bnew,hp.cnone,fun g e' k' n' cs' z h1 h2 h3=>?_⟩
      exact absurd (hp.rlt h1 h2 h3).2 (Nat.lt_irrefl _))
    have hu:=hT.map htab;refine⟨.pointer (some ⟨w.heap.size,0,none⟩),w.alloc (.mapIter (some r) c #[] c),?_,⟨_,_,_,h,rfl,hadd.2,hadd.1,?_,fun _ b hb _=>(Keeps.of_ext hE).block b hb (by simp),(Keeps.of_ext hE).size⟩⟩
    ·have:=run_range_map (P:=P) w t kt et r es c hu hr;simp[execOp,ho,hx,this,Result.andThen]
    ·unfold A.rep;rw[Nat.zero_add,hp.rl];simp
   ·exact h.elim
  ·exact h.elim
 ·exact h.elim
theorem jeR{e n:Nat}{b:ByteArray}{y:Value}{g:Nat}(hp:Hp w0 C0 β0 s.bx s.rw w E)(hg:s.rw[g]?=some (.live e 0 n [.v (.string b)]))(hy:E.ρ[g]?=some y):n=b.size/\b.size<=maxLen/\w.ownsRowF 0 e 1 y n (Lib.strCells b):=by
 obtain⟨xs,⟨ho,_⟩,hr⟩:=hp.rws g _ y hg hy;unfold A.repC at hr;obtain⟨u1,us1,rfl,-,r1,hr⟩:=hr;unfold A.repC at hr;subst hr;obtain⟨rfl,ok⟩:=A.rep_v_iff.1 r1;rcases ho with ⟨h,_⟩|⟨_,⟨r,es,c,h1,h2,h3,h4,h5⟩|⟨_,_,h⟩|⟨r,m',seen,since,h1,h2,h3,h4⟩|⟨b',h1,h2,h3⟩⟩
 ·exact absurd rfl h
 ·cases h5
 ·cases h
 ·cases h4
 ·cases h2;exact⟨h1,ok,h3⟩
theorem jfv{w:World}(t u ty e:TypeId)(i:TypeInfo)(ht:P.underlying t=some (.slice e))(hu:P.underlying u=some .string)(hi:P.info? e=some i)(hz:i.zero=some (.int .u8 0))(hsize:i.size=1)(hby:i.bytes=1)
  (v:Value) (n:Nat) (xs:List Value) (hown:w.ownsRowF 0 e 1 v n xs) (b:ByteArray) (h63:n+b.size<=maxLen) (hbytes:n+b.size<=140737488355328) :
  ∃v' w',(Builtin.append_ #[t,u] ty #[v,.string b]).run P w=.ok v' w'/\w'.ownsRowF 0 e 1 v' (n+b.size) (xs++Lib.strCells b)/\w.grownBy w' v.ownBlock/\∀k,v'.ownBlock=some k->w.heap.size<=k∨v.ownBlock=some k:=by
 by_cases hv:v=.slice none 0 0/\n=0
 ·obtain⟨rfl,rfl⟩:=hv;have hx:xs=[]:=List.eq_nil_of_length_eq_zero (by simpa using hown.1);subst hx;obtain⟨v',w',h1,h2,h3,h4⟩:=Lib.run_append_own_stringF (P:=P) w w.heap.size t u ty e i ht hu hi hz hsize hby (.slice none 0 0) 0 [] (World.ownsRowF_nil _ _ _ _) b h63 hbytes (Nat.le_refl _);refine⟨v',w',h1,⟨h2.1,h2.2.imp id fun ⟨g,cap,cur,fz,q1,q2,q3⟩=>⟨g,cap,cur,fz,q1,Nat.zero_le _,q3⟩⟩,h3,fun k hk=>.inl (h2.lt k hk).1⟩
 ·obtain⟨v',w',h1,h2,h3,h4⟩:=Lib.run_append_own_stringF (P:=P) w 0 t u ty e i ht hu hi hz hsize hby v n xs hown b h63 hbytes (Nat.zero_le _);refine⟨v',w',h1,h2,h3,fun k hk=>?_⟩
  have hsmall:n+b.size<=9223372036854775807:=by simp only[maxLen] at h63;omega
  rcases hown.2 with hn|⟨g,cap,cur,fz,rfl,hbg,hg,hfz,hnc,hcm,hcs,htake⟩
  ·exact absurd hn hv
  ·by_cases hroom:n+b.size<=cap
   ·have hcs':cur.size=cap:=by simpa using hcs
    have hr2:=Lib.run_append_room_stringF (P:=P) w t u ty e i ht hu hi hsize g n cap cur fz hg (by simpa using hfz) b hroom (by omega);rw[hr2] at h1;injection h1 with e1 e2;rw[<- e1] at hk;exact .inr hk
   ·have holds:∀j u,xs[j]?=some u->w.cell? ((⟨g,0,none⟩:Addr).add j)=some u:=hown.cells (g:=g) rfl;have hr2:=Lib.run_append_grow_string (P:=P) w t u ty e i (.int .u8 0) ht hu hi hz ⟨g,0,none⟩ n cap xs (by rw[hsize];simpa using hown.1) holds b (by omega) (by omega) (by rw[hby];exact growslice_fits (by omega) (by omega));rw[hr2] at h1;injection h1 with e1 e2;rw[<- e1] at hk;cases hk;exact .inl (Nat.le_refl _)
theorem jfu{w:World}(t ty e:TypeId)(i:TypeInfo)(ht:P.underlying t=some (.slice e))(hi:P.info? e=some i)(hz:i.zero=some (.int .u8 0))(hsize:i.size=1)(hby:i.bytes=1)
  (v:Value) (n:Nat) (xs:List Value) (hown:w.ownsRowF 0 e 1 v n xs) (ad:Addr) (c:Nat) (x:Value) (hx1:x.oneCell'=true) (hc:w.cell? ad=some x) (h63:n+1<=maxLen) (hbytes:n+1<=140737488355328) :
  ∃v' w',(Builtin.append_ #[t,t] ty #[v,.slice (some ad) 1 c]).run P w=.ok v' w'/\w'.ownsRowF 0 e 1 v' (n+1) (xs++[x])/\w.grownBy w' v.ownBlock/\∀k,v'.ownBlock=some k->w.heap.size<=k∨v.ownBlock=some k:=by
 have hnews:∀j u,[x][j]?=some u->w.cell? (ad.add j)=some u:=fun j u hj=>by
  obtain⟨rfl,rfl⟩:=mH hj;rw[show ad.add 0=ad from by cases ad;simp[Addr.add]];exact hc
 have h1':∀u∈[x],u.oneCell'=true:=fun u hu=>by
  simp at hu;rw[hu];exact hx1
 by_cases hv:v=.slice none 0 0/\n=0
 ·obtain⟨rfl,rfl⟩:=hv;have hx:xs=[]:=List.eq_nil_of_length_eq_zero (by simpa using hown.1);subst hx;obtain⟨v',w',h1,h2,h3,h4⟩:=run_append_ownF (P:=P) w w.heap.size t ty e i (.int .u8 0) 1 1 ht hi hz hsize hby rfl (by omega) (.slice none 0 0) 0 [] (World.ownsRowF_nil _ _ _ _) ad 1 c [x] rfl hnews h1' h63 (by omega) (Nat.le_refl _);refine⟨v',w',h1,⟨h2.1,h2.2.imp id fun ⟨g,cap,cur,fz,q1,q2,q3⟩=>⟨g,cap,cur,fz,q1,Nat.zero_le _,q3⟩⟩,h3,fun k hk=>.inl (h2.lt k hk).1⟩
 ·obtain⟨v',w',h1,h2,h3,h4⟩:=run_append_ownF (P:=P) w 0 t ty e i (.int .u8 0) 1 1 ht hi hz hsize hby rfl (by omega) v n xs hown ad 1 c [x] rfl hnews h1' h63 (by omega) (Nat.zero_le _);refine⟨v',w',h1,h2,h3,fun k hk=>?_⟩
  have hsmall:n+1<=9223372036854775807:=by simp only[maxLen] at h63;omega
  rcases hown.2 with hn|⟨g,cap,cur,fz,rfl,hbg,hg,hfz,hnc,hcm,hcs,htake⟩
  ·exact absurd hn hv
  ·by_cases hroom:n+1<=cap
   ·have hcs':cur.size=cap:=by simpa using hcs
    have hr2:=run_append_roomF (P:=P) w t ty e i ht hi g n cap cur fz hg (by rw[hsize];simpa using hfz) ad 1 c [x] (by rw[hsize];rfl) hnews h1' hroom (by rw[hsize];simp;omega);rw[hr2] at h1;injection h1 with e1 e2;rw[<- e1] at hk;exact .inr hk
   ·have holds:∀j u,xs[j]?=some u->w.cell? ((⟨g,0,none⟩:Addr).add j)=some u:=hown.cells (g:=g) rfl;have hr2:=run_append_grow (P:=P) w t ty e i (.int .u8 0) ht hi hz ⟨g,0,none⟩ n cap xs (by rw[hsize];simpa using hown.1) holds ad 1 c [x] (by rw[hsize];rfl) hnews (by omega) (by omega) (by rw[hby];exact growslice_fits (by omega) (by omega));rw[hr2] at h1;injection h1 with e1 e2;rw[<- e1] at hk;cases hk;exact .inl (Nat.le_refl _)
end
def jm6(c:Int):ByteArray:=⟨#[UInt8.ofNat c.toNat]⟩
def jqw(T:List (Nat×Te))(s:S)(t t':Nat)(y:A)(K:ByteArray->Prop):Prop :=
 match y with
 |.v (.string b)=>match Tab.get T t' with
  |some ⟨.str,_,_⟩=>K b
  |_=>False
 |.own h=>match Nat.beq t t' with
  |true=>match s.rw[h]? with
   |some (.live _ k m cs)=>match Nat.beq k 1,Nat.beq m 1 with
    |true,true=>match cs with
     |[.v (.int .u8 c)]=>K (jm6 c)
     |_=>False
    |_,_=>False
   |_=>False
  |false=>False
 |_=>False
def jlM(T:List (Nat×Te))(s:S)(t t':Nat)(g:Nat)(y:A)(K:A->S->Prop):Prop :=
 match s.rw[g]? with
 |some (.live e z n cs)=>match z with
  |0=>match cs with
   |[.v (.string b)]=>match Tab.get T t with
    |some ⟨.slice e',_,_⟩=>match Nat.beq e' e,Tab.get T e' with
     |true,some ⟨.int .u8,z',by'⟩=>match z',Nat.beq by' 1 with
      |[.int .u8 0],true=>jqw T s t t' y fun b2=>n+b2.size<=140737488355328/\aS s.rw g .gone fun r=>aF r (.live e 0 (n+b2.size) [.v (.string (b++b2))]) 0 fun g' r'=>aH s r' (K (.own g'))
      |_,_=>False
     |_,_=>False
    |_=>False
   |_=>False
  |_+1=>False
 |_=>False
def jhS(s:S)(x:A)(K:A->Prop):Prop :=
 match x with
 |.own g=>match s.rw[g]? with
  |some (.live _ z n cs)=>match z with
   |0=>match cs with
    |[.v (.string _)]=>0<n/\K (.orow g 0)
    |_=>False
   |_+1=>False
  |_=>False
 |_=>False
def jlX(T:List (Nat×Te))(s:S)(ts:List Nat)(x l:A)(K:A->Prop):Prop :=
 match ts with
 |[pt,_]=>match Tab.get T pt with
  |some ⟨.ptr e',_,_⟩=>match x with
   |.orow g off=>match off with
    |0=>match s.rw[g]? with
     |some (.live e z n cs)=>match z with
      |0=>match cs with
       |[.v (.string b)]=>match l with
        |.v (.int k m)=>match k with
         |.i64=>match Nat.beq e' e,Tab.get T e' with
          |true,some ⟨.int .u8,[_],_⟩=>(0<n/\m=(n:Int))/\K (.v (.string b))
          |_,_=>False
         |_=>False
        |_=>False
       |_=>False
      |_+1=>False
     |_=>False
    |_+1=>False
   |_=>False
  |_=>False
 |_=>False
section
variable{P:Program}{T:List (Nat×Te)}{w0:W0}{w:World}{C0:Rd}{β0:List Nat}{s:S}{a:Act}{E:Env}{o:Oper}
theorem jff(a b:ByteArray):Lib.strCells (a++b)=Lib.strCells a++Lib.strCells b:=by
 simp[Lib.strCells,ByteArray.data_append]
theorem joY{args:Array Operand}{ts:Array TypeId}{x y:Operand}{t t':TypeId}{g:Nat}{K:A->S->Prop}(hT:Tab.ok P T)(hp:Hp w0 C0 β0 s.bx s.rw w E)(ht:A.repL s.t E a.tmps.toList)
  (ha:args.toList=[x,y]) (hts:ts.toList=[t,t']) (ho:o.op=.call ⟨.builtin .append,args,ts⟩) (hev:ev s x=.own g) (h:jlM T s t t' g (ev s y) K) :
  ∃v w' r s' E',(execOp a.eval o).run P w=.ok (.value v) w'/\K r s'/\s'.t=s.t/\E.le E'/\Hp w0 C0 β0 s'.bx s'.rw w' E'/\r.rep E' v:=by
 obtain rfl:args = #[x,y]:=by rw[<- ha]
 obtain rfl:ts = #[t,t']:=by rw[<- hts]
 have hx:=jM ht x;rw[hev] at hx;unfold A.rep at hx;unfold jlM at h;split at h
 ·rename_i e z n cs hg;split at h
  ·split at h
   ·rename_i b;split at h
    ·rename_i e' z2 by2 htab;split at h
     ·rename_i z' by' hbe hel
      obtain rfl:=Nat.eq_of_beq_eq_true hbe;split at h
      ·rename_i hby;obtain rfl:=Nat.eq_of_beq_eq_true hby;obtain⟨i,zv,d',hi1,hi2,hi3,hi4,hi5,hi6,hi7⟩:=hT.info hel;have hut:=hT.slice htab;have hsize:i.size=1:=hi6;have hby1:i.bytes=1:=hi7
       have hz:i.zero=some (.int .u8 0):=by
        obtain⟨z3,g1,g2⟩:=hT.one hel rfl
        have e9:z3=.int .u8 0:=by simpa using g1.symm
        obtain⟨z4,g3,g4⟩:=hT.zero hel;have q1:=g2 w
        have q2:(zeroValue e').run P w=.ok zv w:=by simp[zeroValue,typeInfo,program,Sem.run,hi1,hi4,Sem.bind,pure,bind]
        rw[q2] at q1;cases q1;rw[hi4,e9]
       obtain⟨hn,hbm,hown⟩:=jeR hp hg hx
       -- the new row
       have fin:∀b2:ByteArray,n+b2.size<=140737488355328/\(aS s.rw g .gone fun r=>aF r (.live e' 0 (n+b2.size) [.v (.string (b++b2))]) 0 fun g' r'=>aH s r' (K (.own g'))) →
         (n+b2.size<=maxLen->n+b2.size<=140737488355328->∃v' w',(Builtin.append_ #[t,t'] o.type #[a.eval x,a.eval y]).run P w=.ok v' w'/\w'.ownsRowF 0 e' 1 v' (n+b2.size) (Lib.strCells b++Lib.strCells b2)/\w.grownBy w' (a.eval x).ownBlock/\∀k,v'.ownBlock=some k->w.heap.size<=k∨(a.eval x).ownBlock=some k) →
         ∃v w' r s' E',(execOp a.eval o).run P w=.ok (.value v) w'/\K r s'/\s'.t=s.t/\E.le E'/\Hp w0 C0 β0 s'.bx s'.rw w' E'/\r.rep E' v:=fun b2 ⟨hle,hK⟩ hrun=>by
        obtain⟨-,hK⟩:=zQ hK;rw[kK,kW] at hK
        have hml:n+b2.size<=maxLen:=by unfold maxLen;omega
        obtain⟨v',w',h1,h2,h3,h4⟩:=hrun hml hle
        have hyb:∀k,(a.eval x).ownBlock=some k↔blk (a.eval x)=some k:=fun k=>⟨eG,jbx hown⟩
        have hvb:∀k,v'.ownBlock=some k↔blk v'=some k:=fun k=>⟨eG,jbx h2⟩
        have hbe2:(a.eval x).ownBlock=blk (a.eval x):=by
         cases h9:blk (a.eval x) with
         |none =>
          cases h8:(a.eval x).ownBlock with
          |none=>rfl
          |some k=>rw[(hyb k).1 h8] at h9;cases h9
         |some k=>exact(hyb k).2 h9
        have kp:Keeps ([]++(blk (a.eval x)).toList) w w':=by
         have:=Keeps.of_grown h3;rw[hbe2] at this;simpa using this
        have hkC:Sub E.C (kQ w'):=fun ad u hc=>by
         refine kp.cell (hp.sub ad u hc) (fun hm=>?_);rw[List.nil_append] at hm
         have h8:blk (a.eval x)=some ad.block:=by
          cases h9:blk (a.eval x) with
          |none=>rw[h9] at hm;simp at hm
          |some k=>rw[h9] at hm;simp at hm;rw[hm]
         have:E.C ad=none:=(hp.rC g _ _ _ _ _ _ hg hx h8).2 ad.off ad.spot;rw[this] at hc;cases hc
        have hos:fD (.string (b++b2)):=by
         show(b++b2).size<=maxLen;rw[ByteArray.size_append,<- hn];exact hml
        have hc:=hp.callR hg hx (Y:=[]) (by simp) kp (C':=E.C) (Sub.refl _) hkC (fun ad u hc=>.inl hc) (bx':=s.bx) rfl (y':=v') (n':=n+b2.size) (cs':=[.v (.string (b++b2))]) (xs':=[.string (b++b2)])
         (.inr ⟨rfl,.inr (.inr (.inr ⟨b++b2,by rw[ByteArray.size_append,hn],rfl,by rw[jff];exact h2⟩))⟩) (kU (A.rep_v hos) rfl dT)
         (fun k hk=>by
          have h8:=h4 k ((hvb k).2 hk);rcases h8 with h8|h8
          ·exact⟨fun o sp=>by
            cases h9:E.C ⟨k,o,sp⟩ with
            |none=>rfl
            |some u=>have:=hp.clt h9;simp at this;omega,.inl h8⟩
          ·have h8:=(hyb k).1 h8
           exact⟨(hp.rC g _ _ _ _ _ _ hg hx h8).2,.inr h8⟩) (fun i b cs h1 h2=>.inr ⟨by simp,h2⟩)
        refine⟨v',w',_,⟨s.t,s.bx,s.rw.set g .gone++[.live e' 0 (n+b2.size) [.v (.string (b++b2))]]⟩,_,?_,hK,rfl,hc.2,hc.1,?_⟩
        ·simp[execOp,ho,resolve,invoke,builtin,h1,Result.andThen]
        ·unfold A.rep;simp[hp.rl]
       unfold jqw at h;split at h
       ·rename_i b2 hey;have hyv:=(kM ht hey).1;split at h
        ·rename_i z5 b5 hstr
         refine fin b2 h fun h63 hbytes=>?_
         rw[hyv];exact jfv t t' o.type e' i hut (hT.strs hstr) hi1 hz hsize hby1 _ n _ hown b2 h63 hbytes
        ·exact h.elim
       ·rename_i h0 hey;split at h
        ·rename_i hb0;obtain rfl:=Nat.eq_of_beq_eq_true hb0;split at h
         ·rename_i e2 k m cs2 hg2;split at h
          ·rename_i hb1 hb2;obtain rfl:=Nat.eq_of_beq_eq_true hb1;obtain rfl:=Nat.eq_of_beq_eq_true hb2;split at h
           ·rename_i c;have hy:=jM ht y;rw[hey] at hy;unfold A.rep at hy;obtain⟨xs,⟨ho2,_⟩,hr2⟩:=hp.rws h0 _ _ hg2 hy;have ho2:=ho2.row (by omega);unfold A.repC at hr2;obtain⟨u,us',rfl,-,r1,hr3⟩:=hr2;unfold A.repC at hr3;subst hr3;obtain⟨rfl,okc⟩:=A.rep_v_iff.1 r1;obtain⟨h5,h6,h7⟩:=y6 ho2;rcases h7 with ⟨_,h7⟩|⟨bb,cap,h7,_,h8⟩
            ·cases h7
            ·have hcell:=h8 0 _ rfl
             have hbs:Lib.strCells (jm6 c)=[.int .u8 c]:=by
              have hc0:0<=c/\c<=255:=okc
              have:((UInt8.ofNat c.toNat).toNat:Int)=c:=by
               rw[UInt8.toNat_ofNat'];omega
              show [Value.int .u8 ((UInt8.ofNat c.toNat).toNat:Int)]=_;rw[this]
             refine fin (jm6 c) h fun h63 hbytes=>?_
             rw[h7,hbs];exact jfu t o.type e' i hut hi1 hz hsize hby1 _ n _ hown ⟨bb,0,none⟩ cap (.int .u8 c) rfl (by simpa using hcell) h63 hbytes
           ·exact h.elim
          ·exact h.elim
         ·exact h.elim
        ·exact h.elim
       ·exact h.elim
      ·exact h.elim
     ·exact h.elim
    ·exact h.elim
   ·exact h.elim
  ·exact h.elim
 ·exact h.elim
theorem jnW{args:Array Operand}{ts:Array TypeId}{x:Operand}{K:A->Prop}(hp:Hp w0 C0 β0 s.bx s.rw w E)(ht:A.repL s.t E a.tmps.toList)(ha:args.toList=[x])(ho:o.op=.call ⟨.builtin .unsafeSliceData,args,ts⟩)(h:jhS s (ev s x) K):xE P a o E K:=by
 obtain rfl:args = #[x]:=by rw[<- ha]
 unfold jhS at h;split at h
 ·rename_i g hev;have hx:=jM ht x;rw[hev] at hx;unfold A.rep at hx;split at h
  ·rename_i e z n cs hg;split at h
   ·split at h
    ·rename_i b;obtain⟨hn0,h⟩:=h;obtain⟨hn,hbm,hown⟩:=jeR hp hg hx;rcases hown.2 with ⟨_,h9⟩|⟨bb,cap,cur,fz,h1,_,h2,h3,h4,h5⟩
     ·omega
     ·refine⟨_,.pointer (some ⟨bb,0,none⟩),h,?_,fun w'=>?_⟩
      ·unfold A.rep;exact⟨bb,n,cap,by rw[<- h1];exact hx,rfl⟩
      ·have:=Lib.run_unsafeSliceData_row (P:=P) w' ts o.type ⟨bb,0,none⟩ n cap (by omega);simp[execOp,ho,resolve,invoke,builtin,h1,this,Result.andThen]
    ·exact h.elim
   ·exact h.elim
  ·exact h.elim
 ·exact h.elim
theorem Tab.ok.ptr(hT:Tab.ok P T){t:Nat}{z:List Value}{b:Nat}{e:TypeId}(h:Tab.get T t=some ⟨.ptr e,z,b⟩):P.underlying t=some (.pointer e):=by
 obtain⟨i,z,d,h1,h2,h3,_⟩:=hT.info h
 cases d <;> simp[m7] at h3
 rw[h2,h3]
theorem jq9{args:Array Operand}{ts:Array TypeId}{x l:Operand}{K:A->Prop}(hT:Tab.ok P T)(hp:Hp w0 C0 β0 s.bx s.rw w E)(ht:A.repL s.t E a.tmps.toList)(ha:args.toList=[x,l])(ho:o.op=.call ⟨.builtin .unsafeString,args,ts⟩)(h:jlX T s ts.toList (ev s x) (ev s l) K) :
  ∃r y w',(execOp a.eval o).run P w=.ok (.value y) w'/\K r/\r.rep E y/\Hp w0 C0 β0 s.bx s.rw w' E:=by
 obtain rfl:args = #[x,l]:=by rw[<- ha]
 unfold jlX at h;split at h
 ·rename_i pt it hts
  obtain rfl:ts = #[pt,it]:=by rw[<- hts]
  split at h
  ·rename_i e' z1 b1 hpt;split at h
   ·rename_i g off hev;have hx:=jM ht x;rw[hev] at hx;unfold A.rep at hx;obtain⟨bb,n0,cap0,hy,hxv⟩:=hx;split at h
    ·split at h
     ·rename_i e z n cs hg;split at h
      ·split at h
       ·rename_i b;split at h
        ·rename_i k m hel;split at h
         ·split at h
          ·rename_i z3 by3 hbe het;obtain rfl:=Nat.eq_of_beq_eq_true hbe;obtain⟨⟨hn0,rfl⟩,h⟩:=h;obtain⟨hn,hbm,hown⟩:=jeR hp hg hy;have hlv:=(kM ht hel).1;obtain⟨i,zv,d',hi1,hi2,hi3,hi4,hi5,hi6,hi7⟩:=hT.info het
           have hcells:P.cellsOf e'=1:=by simp[Program.cellsOf,hi1,hi6]
           rcases hown.2 with ⟨_,h9⟩|⟨b2,cap,cur,fz,h1,_,h2,h3,h4,h5,h6,h7⟩
           ·omega
           ·cases h1
            have hll:b.data.toList.length=n0:=by rw[hn,Array.length_toList];rfl
            have hrun:=Lib.run_unsafeString_row (P:=P) w pt it o.type e' (hT.ptr hpt) hcells bb cur.size (by unfold World.shape?;rw[h2]) b.data.toList (by intro h8;rw[h8] at hll;simp at hll;omega) (by rw[hll,h6];omega) (by rw[hll];unfold maxLen at h5;omega) (fun j x hj=>by
             have:=hown.cells (g:=bb) rfl j (.int .u8 x.toNat) (by simp[Lib.strCells,hj])
             exact this)
            rw[hll] at hrun;refine⟨_,.string b,w.freeze ⟨bb,0,none⟩ n0,?_,h,A.rep_v hbm,?_⟩
            ·simp[execOp,ho,resolve,invoke,builtin,hxv,hlv,hrun,Result.andThen]
            ·have hkp:Keeps [bb] w (w.freeze ⟨bb,0,none⟩ n0):=by
              unfold World.freeze;split
              ·exact Keeps.refl _ _
              ·refine⟨rfl,rfl,rfl,by simp,fun k hk hnk=>?_⟩
               have:bb≠k:=fun e=>hnk (by simp[e])
               simp[Array.getElem?_modify,this]
             have hrow:(w.freeze ⟨bb,0,none⟩ n0).ownsRowF 0 e' 1 (.slice (some ⟨bb,0,none⟩) n0 cap0) n0 (Lib.strCells b):=by
              refine⟨hown.1,?_⟩;unfold World.freeze;split
              ·exact .inr ⟨bb,cap0,cur,fz,rfl,Nat.zero_le _,h2,h3,h4,h5,h6,h7⟩
              ·obtain⟨lo',hi'⟩:=fz;refine .inr ⟨bb,cap0,cur,(if lo'==hi' then(0,0+n0) else(min lo' 0,max hi' (0+n0))),rfl,Nat.zero_le _,?_,?_,h4,h5,h6,h7⟩
               ·simp[Array.getElem?_modify,h2]
               ·simp only at h3
                split <;> simp <;> omega
             have:=hp.turnRow hg hy (b:=bb) rfl hkp (.inr ⟨rfl,.inr (.inr (.inr ⟨b,hn,rfl,hrow⟩))⟩) (kU (A.rep_v hbm) rfl dT)
             have e9:s.rw.set g (.live e' 0 n0 [.v (.string b)])=s.rw:=by
              apply List.ext_getElem?;intro j;rw[List.getElem?_set];by_cases hj:g=j
              ·subst hj;have e2:=List.getElem?_eq_some_iff.1 hg;simp[e2.1,e2.2]
              ·simp[hj]
             rw[e9] at this;exact this
          ·exact h.elim
         ·exact h.elim
        ·exact h.elim
       ·exact h.elim
      ·exact h.elim
     ·exact h.elim
    ·exact h.elim
   ·exact h.elim
  ·exact h.elim
 ·exact h.elim
end
end
section
structure Cx where
 P:Program
 T:List (Nat×Te)
 ord:Nat->Tr
 xs:Nat->List Nat
 np:Nat
 pan:List PanicEntry->S->Prop
structure Cx.ok(c:Cx):Prop where
 T:Tab.ok c.P c.T
 z:pV c.T
 m:c.P.follows .mixedOrders=true
def kP(s:S)(dst:Option Nat)(r:A)(K:S->Prop):Prop :=
 match dst with
 |none=>K s
 |some d=>zV r fun r=>aS s.t d r fun t=>jhE s t K
def aG(ops:List Oper)(o:Oper)(s:S)(Ky Kn:Prop):Prop :=
 match o.guard with
 |none=>Ky
 |some (j,b)=>match ops[j]? with
  |some oj=>match oj.dst with
   |some d=>match s.t.getD d .dead with
    |.v (.bool c)=>match b with
     |true=>ifK c Ky Kn
     |false=>ifK c Kn Ky
    |.tup []=>Kn
    |_=>False
   |none=>False
  |none=>False
def jof(rw:List Row):A->A
 |.own g=>match rw[g]? with
  |some (.pub k n cs)=>.sl k n cs
  |_=>.own g
 |a=>a
def jee(c:Cx)(s:S)(t:Nat)(x:Operand)(l h m:Option Operand)(K:A->S->Prop):Prop :=
 match ev s x with
 |.own g=>qA (jA s.rw [g]) fun rw'=>aN (jof rw') s.t fun t'=>oR c.P c.T ⟨t',s.bx,rw'⟩ (.slice t x l h m) fun r=>K r ⟨s.t,s.bx,rw'⟩
 |_=>oR c.P c.T s (.slice t x l h m) fun r=>K r s
def jn3(c:Cx)(s:S)(x:Operand)(l h m:Option Operand):Option (Nat×Operand) :=
 match c.xs 1000003 with
 |[k]=>match Nat.beq k 1000003 with
  |true=>match l,h,m with
   |none,some i,none=>match ev s x with
    |.own g=>some (g,i)
    |_=>none
   |_,_,_=>none
  |false=>none
 |_=>none
theorem jn4{c:Cx}{s:S}{x i:Operand}{l h m:Option Operand}{g:Nat}(e:jn3 c s x l h m=some (g,i)):ev s x=.own g/\l=none/\h=some i/\m=none:=by
 unfold jn3 at e;split at e
 ·split at e
  ·split at e
   ·split at e
    ·cases e;exact⟨by assumption,rfl,rfl,rfl⟩
    ·cases e
   ·cases e
  ·cases e
 ·cases e
def jmY(s:S)(x:A):Option Nat:=match x with
 |.own g=>match s.rw[g]? with
  |some (.live _ k _ _)=>match k with
   |0=>some g
   |_+1=>none
  |_=>none
 |_=>none
theorem jmZ{s:S}{x:A}{g:Nat}(h:jmY s x=some g):x=.own g:=by
 unfold jmY at h;split at h
 ·split at h
  ·split at h
   ·cases h;rfl
   ·cases h
  ·cases h
 ·cases h
def ado(c:Cx)(Xr:Nat->Bool)(s:S)(o:Oper)(K:S->Prop):Prop :=
 match o.op with
 |.load t x=>m9 c.T (fun _=>false) s t x fun r=>kP s o.dst r K
 |.store t x y=>jjt c.T s t x y fun r s'=>kP s' o.dst r K
 |.alloc t=>aE c.P c.T c.pan Xr s (.alloc t) fun r s'=>kP s' o.dst r K
 |.box t x=>aE c.P c.T c.pan Xr s (.box t x) fun r s'=>kP s' o.dst r K
 |.buildSlice t n ps=>aE c.P c.T c.pan Xr s (.buildSlice t n ps) fun r s'=>kP s' o.dst r K
 |.makeSlice t l k=>aE c.P c.T c.pan Xr s (.makeSlice t l k) fun r s'=>kP s' o.dst r K
 |.build t ps=>jae c.T s t ps.toList fun r=>kP s o.dst r K
 |.call ⟨.value f,args,ts⟩=>aE c.P c.T c.pan Xr s (.call ⟨.value f,args,ts⟩) fun r s'=>kP s' o.dst r K
 |.call ⟨.builtin .append,args,ts⟩=>match args.toList with
  |[x,y]=>match ts.toList with
   |[t,t']=>match jmY s (ev s x) with
    |some g=>jlM c.T s t t' g (ev s y) fun r s'=>kP s' o.dst r K
    |none=>uV c.T s t t' (ev s x) (ev s y) fun r s'=>kP s' o.dst r K
   |_=>False
  |_=>False
 |.call ⟨.builtin .unsafeString,args,ts⟩=>match args.toList with
  |[x,y]=>jlX c.T s ts.toList (ev s x) (ev s y) fun r=>kP s o.dst r K
  |_=>False
 |.makeMap t r=>jai s t r fun r s'=>kP s' o.dst r K
 |.insert t m k x=>uW c.T s t (ev s m) (ev s k) (ev s x) fun r s'=>kP s' o.dst r K
 |.mapUpdate t m k x=>uW c.T s t (ev s m) (ev s k) (ev s x) fun r s'=>kP s' o.dst r K
 |.range t x=>jhR c.T s t (ev s x) fun r s'=>kP s' o.dst r K
 |.next x st=>match st with
  |false=>jlT s (ev s x) fun r s'=>kP s' o.dst r K
  |true=>False
 |.entry x=>jhN s (ev s x) fun r=>kP s o.dst r K
 |.convert src dst x=>match js0 c.T src dst with
  |true=>jlR c.T s src dst x fun r s'=>kP s' o.dst r K
  |false=>jjm c.T s src dst x fun r s'=>kP s' o.dst r K
 |.panic x=>match ev s x with
  |.v (.iface t y)=>c.pan [⟨.iface t y,false,false⟩] s
  |_=>False
 |.lookup t x k ok=>jjo c.T s t (ev s x) (ev s k) ok fun r=>kP s o.dst r K
 |.slice t x l h m=>match jn3 c s x l h m with
  |some (g,i)=>jed c.T s t g (ev s i) fun r s'=>kP s' o.dst r K
  |none=>jee c s t x l h m fun r s'=>kP s' o.dst r K
 |op=>oR c.P c.T s op fun r=>kP s o.dst r K
def jea(c:Cx)(s:S)(o:Oper)(K:A->Prop):Prop :=
 match o.op with
 |.build t ps=>jae c.T s t ps.toList K
 |.call ⟨.builtin .unsafeSliceData,args,ts⟩=>match args.toList with
  |[x]=>jhS s (ev s x) K
  |_=>False
 |op=>oR c.P c.T s op K
def vG(c:Cx)(Xr:Nat->Bool)(s:S)(o:Oper)(K:A->S->Prop):Prop :=
 match o.op with
 |.load t x=>m9 c.T (fun _=>false) s t x fun r=>K r s
 |.alloc t=>aE c.P c.T c.pan Xr s (.alloc t) K
 |.box t x=>aE c.P c.T c.pan Xr s (.box t x) K
 |.buildSlice t n ps=>aE c.P c.T c.pan Xr s (.buildSlice t n ps) K
 |.makeSlice t l k=>aE c.P c.T c.pan Xr s (.makeSlice t l k) K
 |.call ⟨.value f,args,ts⟩=>aE c.P c.T c.pan Xr s (.call ⟨.value f,args,ts⟩) K
 |.build t ps=>jae c.T s t ps.toList fun r=>K r s
 |.convert src dst x=>jjm c.T s src dst x K
 |.lookup t x k ok=>jjo c.T s t (ev s x) (ev s k) ok fun r=>K r s
 |.slice t x l h m=>jee c s t x l h m K
 |op=>oR c.P c.T s op fun r=>K r s
section
variable{c:Cx}{dr:List (Nat×List A)}{w0:W0}{C0:Rd}{β0:List Nat}{s:S}{a:Act}{w:World}{E:Env}{o:Oper}
theorem kV(E:Env):(A.tup []).rep E undef:=by
 unfold A.rep;exact⟨#[],rfl,by simp[A.repL]⟩
theorem qS{dst:Option Nat}{r:A}{y:Value}{K:S->Prop}(hp:Hp w0 C0 β0 s.bx s.rw w E)(ht:A.repL s.t E a.tmps.toList)(hd:repD dr E a.defers)(hr:r.rep E y)(h:kP s dst r K) :
  ∃s',K s'/\s'.bx=s.bx/\s'.rw=s.rw/\A.repL s'.t E (a.put dst y).tmps.toList/\repD dr E (a.put dst y).defers:=by
 cases dst with
 |none=>exact⟨s,h,rfl,rfl,ht,hd⟩
 |some d =>
  unfold kP at h
  simp only at h
  rw[force_iff] at h;obtain⟨_,h⟩:=zQ h;rw[tP] at h;refine⟨_,h,rfl,rfl,?_,hd⟩;show A.repL (s.t.set d r) E (a.tmps.setIfInBounds d y).toList;rw[Array.toList_setIfInBounds];exact A.repL_set ht d hr
theorem xP{ops:List Oper}{Ky Kn:Prop}(ht:A.repL s.t E a.tmps.toList)(h:aG ops o s Ky Kn) :
  (Region.wanted o (yielded ops.toArray a.tmps)=true/\Ky)∨(Region.wanted o (yielded ops.toArray a.tmps)=false/\Kn):=by
 unfold aG at h;split at h
 ·rename_i hg;exact .inl ⟨by simp[Region.wanted,hg],h⟩
 ·rename_i j b hg;split at h
  ·rename_i oj hoj;split at h
   ·rename_i d hdst;split at h
    ·rename_i c' hc;have hr:=A.repL_getD ht d undef;rw[hc] at hr;have hv:=(A.rep_v_iff.1 hr).1
     have hdl:a.tmps[d]?=some (.bool c'):=by
      cases ha:a.tmps[d]? with
      |none =>
       have:a.tmps.toList.getD d undef=undef:=by simp[List.getD_eq_getElem?_getD,ha]
       rw[this] at hv;simp[undef] at hv
      |some v =>
       have:a.tmps.toList.getD d undef=v:=by simp[List.getD_eq_getElem?_getD,ha]
       rw[this] at hv;rw[hv]
     have hw:Region.wanted o (yielded ops.toArray a.tmps)=(some c'==some b):=by
      simp[Region.wanted,hg,yielded,hoj,hdst,hdl]
     rw[hw]
     cases c' <;> cases b <;> first
      |exact .inl ⟨rfl,h⟩
      |exact .inr ⟨rfl,h⟩
    ·rename_i hc;have hr:=A.repL_getD ht d undef;rw[hc] at hr;unfold A.rep A.repL at hr;obtain⟨us,hv,hus⟩:=hr
     have hw:Region.wanted o (yielded ops.toArray a.tmps)=(none==some b):=by
      cases ha:a.tmps[d]? with
      |none=>simp[Region.wanted,hg,yielded,hoj,hdst,ha]
      |some v =>
       have e:a.tmps.toList.getD d undef=v:=by simp[List.getD_eq_getElem?_getD,ha]
       rw[e] at hv;simp[Region.wanted,hg,yielded,hoj,hdst,ha,hv]
     rw[hw];exact .inr ⟨by cases b <;> rfl,h⟩
    ·exact h.elim
   ·exact h.elim
  ·exact h.elim
theorem jgO{K:A->Prop}(hc:c.ok)(hp:Hp w0 C0 β0 s.bx s.rw w E)(ht:A.repL s.t E a.tmps.toList)(h:jea c s o K):xE c.P a o E K:=by
 unfold jea at h;split at h
 ·rename_i t ps ho;exact jaq hc.T hc.z hp ht ho h
 ·rename_i args ts ho;split at h
  ·rename_i x hx;exact jnW hp ht hx ho h
  ·exact h.elim
 ·exact cV hc.T hp ht h
theorem jog{bx:List (List A)}{rw:List Row}(hp:Hp w0 C0 β0 bx rw w E){x:A}{y:Value}(h:x.rep E y):(jof rw x).rep E y:=by
 cases x with
 |own g =>
  unfold jof
  simp only
  split
  ·rename_i k n cs hg;unfold A.rep at h;exact hp.rws g _ y hg h
  ·exact h
 |_=>exact h
theorem jdU{bx:List (List A)}{rw:List Row}(hp:Hp w0 C0 β0 bx rw w E):∀{l:List A} {us:List Value},A.repL l E us->A.repL (l.map (jof rw)) E us
 |[],us,h=>h
 |a::l,us,h=>by
  unfold A.repL at h;obtain⟨u,us',rfl,h1,h2⟩:=h;rw[List.map_cons];unfold A.repL;exact⟨u,us',rfl,jog hp h1,jdU hp h2⟩
theorem jls{Xr:Nat->Bool}{K:A->S->Prop}{t:Nat}{x:Operand}{l h m:Option Operand}(hc:c.ok)(hp:Hp w0 C0 β0 s.bx s.rw w E)(ht:A.repL s.t E a.tmps.toList)(ho:o.op=.slice t x l h m)(hh:jee c s t x l h m K) :
  ∃y,(execOp a.eval o).run c.P w=.ok (.value y) w/\Left w0 C0 β0 Xr s E w K y w:=by
 unfold jee at hh;split at hh
 ·rename_i g hg;rw[qR,qN] at hh;obtain⟨C1,hp1,le1⟩:=hp.pubs [g];have ht1:=jdU (E:=⟨C1,E.β,E.ρ⟩) hp1 (A.repL.mono _ le1 ht);obtain⟨r,y,h1,h2,h3⟩:=cV (s:=⟨s.t.map (jof (jA s.rw [g])),s.bx,jA s.rw [g]⟩) hc.T hp1 ht1 (by rw[ho];exact hh);exact⟨y,h3 w,⟨r,_,_,h1,rfl,le1,hp1,h2,fun _=>Same.refl _ _ _,Nat.le_refl _⟩⟩
 ·obtain⟨r,y,h1,h2,h3⟩:=cV hc.T hp ht (by rw[ho];exact hh);exact⟨y,h3 w,⟨r,s,E,h1,rfl,Env.le.refl E,hp,h2,fun _=>Same.refl _ _ _,Nat.le_refl _⟩⟩
theorem rD{Xr:Nat->Bool}{K:A->S->Prop}{Kc:Act->World->Prop}{Q:Exit->Act->World->Prop}(hc:c.ok)(hp:Hp w0 C0 β0 s.bx s.rw w E)(ht:A.repL s.t E a.tmps.toList)(h:vG c Xr s o K)
  (hx:∀ch s' E' w',c.pan ch s'->s'.t=s.t->E.le E'->Hp w0 C0 β0 s'.bx s'.rw w' E'->Q (.panic ch) a w')
  (hk:∀y w',Left w0 C0 β0 Xr s E w K y w'->Kc (a.put o.dst y) w'):o.wp c.P a w Kc Q:=by
 have pure':xE c.P a o E (fun r=>K r s)->o.wp c.P a w Kc Q:=fun ⟨r,y,h1,h2,h3⟩=>by
  unfold Oper.wp;rw[h3];exact hk y w ⟨r,s,E,h1,rfl,Env.le.refl E,hp,h2,fun _=>Same.refl _ _ _,Nat.le_refl _⟩
 unfold vG at h;split at h
 ·rename_i t x ho;obtain⟨r,y,h1,h2,h3⟩:=jjW hc.T hp ht ho h;unfold Oper.wp;rw[h3 w (Same.refl _ _ _)];exact hk y w ⟨r,s,E,h1,rfl,Env.le.refl E,hp,h2,fun _=>Same.refl _ _ _,Nat.le_refl _⟩
 ·rename_i t ho;exact rE hc.T hc.z hp ht (by rw[ho];exact h) hx hk
 ·rename_i t x ho;exact rE hc.T hc.z hp ht (by rw[ho];exact h) hx hk
 ·rename_i t n ps ho;exact rE hc.T hc.z hp ht (by rw[ho];exact h) hx hk
 ·rename_i t n ps ho;exact rE hc.T hc.z hp ht (by rw[ho];exact h) hx hk
 ·rename_i f args ts ho;exact rE hc.T hc.z hp ht (by rw[ho];exact h) hx hk
 ·rename_i t ps ho;exact pure' (jaq hc.T hc.z hp ht ho h)
 ·rename_i src dst x ho;exact jp3 hc.T hp ht ho h hk
 ·rename_i t x k ok ho;obtain⟨r,y,h1,h2,h3⟩:=jjX hc.T hc.z hp ht ho h;unfold Oper.wp;rw[h3];exact hk y w ⟨r,s,E,h1,rfl,Env.le.refl E,hp,h2,fun _=>Same.refl _ _ _,Nat.le_refl _⟩
 ·rename_i t x l hh m ho;obtain⟨y,h1,h2⟩:=jls (Xr:=Xr) hc hp ht ho h;unfold Oper.wp;rw[h1];exact hk y w h2
 ·exact pure' (cV hc.T hp ht h)
theorem jcP{Xr:Nat->Bool}{K:S->Prop}{Kc:Act->World->Prop}{Q:Exit->Act->World->Prop}(hc:c.ok)(hdr:∃n,wR n dr=true)(hi:Inv dr w0 C0 β0 s a w)(h:ado c Xr s o K)(hx:∀ch s' a' w',c.pan ch s'->Inv dr w0 C0 β0 s' a' w'->Q (.panic ch) a' w')(hk:∀s' a' w',K s'->Inv dr w0 C0 β0 s' a' w'->Kc a' w'):o.wp c.P a w Kc Q:=by
 obtain⟨E,hp,ht,hd⟩:=hi;obtain⟨nd,hdr⟩:=hdr
 have hx':∀ch s' E' w',c.pan ch s'->s'.t=s.t->E.le E'->Hp w0 C0 β0 s'.bx s'.rw w' E'->Q (.panic ch) a w':=fun ch s' E' w' h1 h2 h3 h4=>hx ch s' a w' h1 ⟨E',h4,by rw[h2];exact A.repL.mono _ h3 ht,hd.mono h3⟩
 have calm:vG c Xr s o (fun r s'=>kP s' o.dst r K)->o.wp c.P a w Kc Q:=fun h=>rD hc hp ht h hx' fun y w' ⟨⟨r,s',E',h1,h2,h3,h4,h5,_⟩⟩=>by
  obtain⟨s2,k1,k2,k3,k4,k5⟩:=qS (a:=a) h4 (by rw[h2];exact A.repL.mono _ h3 ht) (hd.mono h3) h5 h1;exact hk s2 _ _ k1 ⟨E',by rw[k2,k3];exact h4,k4,k5⟩
 have pure':xE c.P a o E (fun r=>kP s o.dst r K)->o.wp c.P a w Kc Q:=fun ⟨r,y,h1,h2,h3⟩=>by
  unfold Oper.wp;rw[h3];obtain⟨s2,k1,k2,k3,k4,k5⟩:=qS (a:=a) hp ht hd h2 h1;exact hk s2 _ _ k1 ⟨E,by rw[k2,k3];exact hp,k4,k5⟩
 unfold ado at h;split at h
 ·rename_i t x ho;exact calm (by unfold vG;rw[ho];exact h)
 ·rename_i t x y ho;unfold jjt at h;split at h
  ·rename_i g off hx;obtain⟨w',rw',h1,h2,h3⟩:=jlk hc.T hp ht ho hx h;unfold Oper.wp;rw[h1];obtain⟨s2,k1,k2,k3,k4,k5⟩:=qS (a:=a) (s:=⟨s.t,s.bx,rw'⟩) h3 ht hd (A.rep_dead _ undef) h2;exact hk s2 _ _ k1 ⟨E,by rw[k2,k3];exact h3,k4,k5⟩
  ·obtain⟨w',bx',h1,h2,h3,-⟩:=jhk hc.T hp ht ho h;unfold Oper.wp;rw[h1];obtain⟨s2,k1,k2,k3,k4,k5⟩:=qS (a:=a) (s:=⟨s.t,bx',s.rw⟩) h3 ht hd (A.rep_dead _ undef) h2;exact hk s2 _ _ k1 ⟨E,by rw[k2,k3];exact h3,k4,k5⟩
 ·rename_i t ho;exact calm (by unfold vG;rw[ho];exact h)
 ·rename_i t x ho;exact calm (by unfold vG;rw[ho];exact h)
 ·rename_i t n ps ho;exact calm (by unfold vG;rw[ho];exact h)
 ·rename_i t n ps ho;exact calm (by unfold vG;rw[ho];exact h)
 ·rename_i t ps ho;exact pure' (jaq hc.T hc.z hp ht ho h)
 ·rename_i f args ts ho;exact calm (by unfold vG;rw[ho];exact h)
 ·rename_i args ts ho;split at h
  ·rename_i x y hx;split at h
   ·rename_i t t' hts;split at h
    ·rename_i g hg;obtain⟨v,w',r,s',E',h1,h2,h3,h4,h5,h6⟩:=joY hc.T hp ht hx hts ho (jmZ hg) h;unfold Oper.wp;rw[h1];obtain⟨s2,k1,k2,k3,k4,k5⟩:=qS (a:=a) h5 (by rw[h3];exact A.repL.mono _ h4 ht) (hd.mono h4) h6 h2;exact hk s2 _ _ k1 ⟨E',by rw[k2,k3];exact h5,k4,k5⟩
    refine jcA hc.T hp ht hx hts ho h fun y w' r s' E' h1 h2 h3 h4 h5 h6 _ _=>?_
    obtain⟨s2,k1,k2,k3,k4,k5⟩:=qS (a:=a) h3 h2 (hd.keep h5 h6 hdr) h4 h1;exact hk s2 _ _ k1 ⟨E',by rw[k2,k3];exact h3,k4,k5⟩
   ·exact h.elim
  ·exact h.elim
 ·rename_i args ts ho;split at h
  ·rename_i x y hx;obtain⟨r,v,w',h1,h2,h3,h4⟩:=jq9 hc.T hp ht hx ho h;unfold Oper.wp;rw[h1];obtain⟨s2,k1,k2,k3,k4,k5⟩:=qS (a:=a) h4 ht hd h3 h2;exact hk s2 _ _ k1 ⟨E,by rw[k2,k3];exact h4,k4,k5⟩
  ·exact h.elim
 ·rename_i t r ho;obtain⟨y,w',h1,⟨⟨r,s',E',g1,g2,g3,g4,g5,_⟩⟩⟩:=jiq (Xr:=Xr) hp ho h;unfold Oper.wp;rw[h1];obtain⟨s2,k1,k2,k3,k4,k5⟩:=qS (a:=a) g4 (by rw[g2];exact A.repL.mono _ g3 ht) (hd.mono g3) g5 g1;exact hk s2 _ _ k1 ⟨E',by rw[k2,k3];exact g4,k4,k5⟩
 ·rename_i t m k x ho;obtain⟨w',rw',h1,h2,h3⟩:=jd4 hc.T hp ht (.inl ho) h;unfold Oper.wp;rw[h1];obtain⟨s2,k1,k2,k3,k4,k5⟩:=qS (a:=a) (s:=⟨s.t,s.bx,rw'⟩) h3 ht hd (A.rep_dead _ undef) h2;exact hk s2 _ _ k1 ⟨E,by rw[k2,k3];exact h3,k4,k5⟩
 ·rename_i t m k x ho;obtain⟨w',rw',h1,h2,h3⟩:=jd4 hc.T hp ht (.inr ho) h;unfold Oper.wp;rw[h1];obtain⟨s2,k1,k2,k3,k4,k5⟩:=qS (a:=a) (s:=⟨s.t,s.bx,rw'⟩) h3 ht hd (A.rep_dead _ undef) h2;exact hk s2 _ _ k1 ⟨E,by rw[k2,k3];exact h3,k4,k5⟩
 ·rename_i t x ho;obtain⟨y,w',h1,⟨⟨r,s',E',g1,g2,g3,g4,g5,_⟩⟩⟩:=jnC (Xr:=Xr) hc.T hp ht ho h;unfold Oper.wp;rw[h1];obtain⟨s2,k1,k2,k3,k4,k5⟩:=qS (a:=a) g4 (by rw[g2];exact A.repL.mono _ g3 ht) (hd.mono g3) g5 g1;exact hk s2 _ _ k1 ⟨E',by rw[k2,k3];exact g4,k4,k5⟩
 ·rename_i x st ho;split at h
  ·obtain⟨y,w',r,s',h1,h2,h3,h4,h5⟩:=jpt hp ht ho h;unfold Oper.wp;rw[h1];obtain⟨s2,k1,k2,k3,k4,k5⟩:=qS (a:=a) h4 (by rw[h3];exact ht) hd h5 h2;exact hk s2 _ _ k1 ⟨E,by rw[k2,k3];exact h4,k4,k5⟩
  ·exact h.elim
 ·rename_i x ho;obtain⟨r,y,h1,h2,h3⟩:=jmC hp ht ho h;unfold Oper.wp;rw[h3];obtain⟨s2,k1,k2,k3,k4,k5⟩:=qS (a:=a) hp ht hd h2 h1;exact hk s2 _ _ k1 ⟨E,by rw[k2,k3];exact hp,k4,k5⟩
 ·rename_i src dst x ho;split at h
  ·obtain⟨y,w',r,s',E',h1,h2,h3,h4,h5,h6⟩:=jpo hc.T hp ht ho h;unfold Oper.wp;rw[h1];obtain⟨s2,k1,k2,k3,k4,k5⟩:=qS (a:=a) h5 (by rw[h3];exact A.repL.mono _ h4 ht) (hd.mono h4) h6 h2;exact hk s2 _ _ k1 ⟨E',by rw[k2,k3];exact h5,k4,k5⟩
  ·exact calm (by unfold vG;rw[ho];exact h)
 ·rename_i x ho;split at h
  ·rename_i t y hev;have hv:=(kM ht hev).1;unfold Oper.wp
   have hrun:(execOp a.eval o).run c.P w=.halt (.panic (.iface t y)) w:=by simp[execOp,ho,hv,Instr.panic,goPanic,Sem.run,Result.andThen]
   rw[hrun,Oper.upon_panic];exact hx _ s a w h ⟨E,hp,ht,hd⟩
  ·exact h.elim
 ·rename_i t x k ok ho;obtain⟨r,y,h1,h2,h3⟩:=jjX hc.T hc.z hp ht ho h;unfold Oper.wp;rw[h3];obtain⟨s2,k1,k2,k3,k4,k5⟩:=qS (a:=a) hp ht hd h2 h1;exact hk s2 _ _ k1 ⟨E,by rw[k2,k3];exact hp,k4,k5⟩
 ·rename_i t x l hh m ho;split at h
  ·rename_i g i hsh;obtain⟨hx,rfl,rfl,rfl⟩:=jn4 hsh;obtain⟨y,r,s',E',h1,h2,h3,h4,h5,h6,h7⟩:=jlq hc.T hp ht ho hx h;unfold Oper.wp;rw[h7];obtain⟨s2,k1,k2,k3,k4,k5⟩:=qS (a:=a) h3 h2 (hd.keep (by rw[h5];exact Sub.refl _) (by rw[h6];exact fun _ _ h=>h) hdr) h4 h1;exact hk s2 _ _ k1 ⟨E',by rw[k2,k3];exact h3,k4,k5⟩
  ·exact calm (by unfold vG;rw[ho];exact h)
 ·exact pure' (cV hc.T hp ht h)
def jti(s:S)(K:S->Prop):Prop:=K s
def jtj(c:Cx)(ops:List Oper)(o:Oper)(ih:S->(S->Prop)->Prop)(s:S)(K:S->Prop):Prop :=
 aG ops o s (ado c (fun _=>true) s o fun s'=>ih s' K) (kP s o.dst (.tup []) fun s'=>ih s' K)
noncomputable def bV(c:Cx)(ops:List Oper)(l:List Oper):S->(S->Prop)->Prop :=
 List.rec jti (fun o _ ih=>jtj c ops o ih) l
theorem jf9{ops:List Oper}{Q:Exit->Act->World->Prop}(hc:c.ok)(hdr:∃n,wR n dr=true)(hx:∀ch s' a' w',c.pan ch s'->Inv dr w0 C0 β0 s' a' w'->Q (.panic ch) a' w'):∀{l:List Oper} {s:S} {a:Act} {w:World} {K:S->Prop},Inv dr w0 C0 β0 s a w->bV c ops l s K->(∀s' a' w',K s'->Inv dr w0 C0 β0 s' a' w'->Q .normal a' w')->wpList c.P ops.toArray Q l a w
 |[],s,a,w,K,hi,h,hk=>hk s a w h hi
 |o::r,s,a,w,K,hi,h,hk=>by
  obtain⟨E,hp,ht,hd⟩:=hi
  change aG ops o s (ado c (fun _=>true) s o fun s'=>bV c ops r s' K) (kP s o.dst (.tup []) fun s'=>bV c ops r s' K) at h
  refine wpList_step fun Kc hKc=>?_
  rcases xP ht h with ⟨h1,h2⟩|⟨h1,h2⟩
  ·rw[if_pos h1]
   exact jcP hc hdr ⟨E,hp,ht,hd⟩ h2 hx fun s' a' w' h3 h4=>hKc _ _ (jf9 hc hdr hx h4 h3 hk)
  ·rw[if_neg (by rw[h1];simp)];obtain⟨s2,k1,k2,k3,k4,k5⟩:=qS (a:=a) hp ht hd (kV _) h2;exact hKc _ _ (jf9 hc hdr hx ⟨E,by rw[k2,k3];exact hp,k4,k5⟩ k1 hk)
def jtk(_:Nat)(s:S)(K:S->Prop):Prop:=K s
def jnm(q n0:Nat)(x:A)(p:Prop):Prop:=match x with
 |.box i _=>match Nat.blt i n0 with
  |true=>p
  |false=>False
 |.pp _=>match q with
  |0=>p
  |_+1=>False
 |_=>False
def jlW(c:Cx)(Xr:Nat->Bool)(n0:Nat)(ops:List Oper)(k m:Nat)(ih:Nat->S->(S->Prop)->Prop)(q:Nat)(s:S)(K:S->Prop):Prop :=
 match ops[k]? with
  |some o=>match m with
   |0=>match o.op with
    |.load t x=>match Nat.ble q 1 with
     |true=>aG ops o s (jnm q n0 (ev s x) (m9 c.T Xr s t x fun r=>kP s o.dst r fun s'=>ih q s' K)) (kP s o.dst (.tup []) fun s'=>ih q s' K)
     |false=>False
    |_=>False
   |_+1=>aG ops o s (jea c s o fun r=>kP s o.dst r fun s'=>ih q s' K) (kP s o.dst (.tup []) fun s'=>ih q s' K)
  |none=>False
def jhM(c:Cx)(Xr:Nat->Bool)(s:S)(o:Oper)(K:A->S->Prop):Prop :=
 match o.op with
 |.call ⟨.builtin .append,args,ts⟩=>match args.toList with
  |[x,y]=>match ts.toList with
   |[t,t']=>uV c.T s t t' (ev s x) (ev s y) K
   |_=>False
  |_=>False
 |.store t x y=>match ev s x with
  |.box i _=>match Xr i with
   |true=>jef c.T s t x y K
   |false=>False
  |_=>False
 |_=>vG c Xr s o K
def jjs(c:Cx)(Xr:Nat->Bool)(ops:List Oper)(k m:Nat)(ih:Nat->S->(S->Prop)->Prop)(q:Nat)(s:S)(K:S->Prop):Prop :=
 match ops[k]? with
  |some o=>match Nat.beq m 1 with
   |true=>match Nat.ble q 1 with
    |true=>aG ops o s (jhM c Xr s o fun r s'=>kP s' o.dst r fun s'=>ih 1 s' K) (kP s o.dst (.tup []) fun s'=>ih 1 s' K)
    |false=>False
   |false=>aG ops o s (ado c (fun _=>true) s o fun s'=>ih 2 s' K) (kP s o.dst (.tup []) fun s'=>ih 2 s' K)
  |none=>False
def jlV(c:Cx)(Xr:Nat->Bool)(ops:List Oper)(k m:Nat)(alt:Bool)(ih iho:Nat->S->(S->Prop)->Prop)(q:Nat)(s:S)(K:S->Prop):Prop :=
 match alt with
 |true=>jjs c Xr ops k m ih q s K/\iho q s K
 |false=>jjs c Xr ops k m ih q s K
noncomputable def jcc(c:Cx)(Xr:Nat->Bool)(n0:Nat)(ops:List Oper)(t:Tr):Nat->S->(S->Prop)->Prop :=
 Tr.rec jtk (fun k m _ ih=>jlW c Xr n0 ops k m ih) (fun k m _ o ih iho=>jlV c Xr ops k m o.isAlt ih iho) t
def je3(Xr:Nat->Bool)(E0:Env)(ws w:World):Prop:=(∀(i b:Nat),E0.β[i]?=some b->Xr i=false->w.heap[b]?=ws.heap[b]?)/\Sub E0.C (kQ w)
structure jlJ(Xr:Nat->Bool)(E0:Env)(ws:World)(E:Env)(w:World):Prop where
 C:Sub E0.C E.C
 β:∀(i b:Nat),E0.β[i]?=some b->E.β[i]?=some b
 kept:je3 Xr E0 ws w
theorem jgv{Xr:Nat->Bool}{E0:Env}{ws:World}{q t:Nat}{x:Operand}{K:A->Prop}(hT:Tab.ok c.P c.T)(hp:Hp w0 C0 β0 s.bx s.rw w E)(ht:A.repL s.t E a.tmps.toList)(hs:jlJ Xr E0 ws E w)(hq:q=0->E=E0)(ho:o.op=.load t x)(h:jnm q E0.β.length (ev s x) (m9 c.T Xr s t x K)) :
  ∃r y,K r/\r.rep E y/\∀w',je3 Xr E0 ws w'->(execOp a.eval o).run c.P w'=.ok (.value y) w':=by
 unfold jnm at h;split at h
 ·rename_i i off0 hev;split at h
  ·rename_i hlt
   have hi:i<E0.β.length:=by simpa using hlt
   have hxi:Xr i=false:=by
    unfold m9 at h;split at h
    ·split at h
     ·rename_i hb;rw[hev] at hb;simpa [jgG] using hb
     ·exact h.elim
    ·exact h.elim
   obtain⟨r,y,k1,k2,k3⟩:=jgu hT hp ht ho h hev;refine⟨r,y,k1,k2,fun w' hw=>k3 w' fun b hb=>?_⟩;have e0:E0.β[i]?=some E0.β[i]:=List.getElem?_eq_getElem hi;have e1:=hs.β i _ e0;rw[e1] at hb;cases hb;exact(hw.1 i _ e0 hxi).trans (hs.kept.1 i _ e0 hxi).symm
  ·exact h.elim
 ·rename_i cs hev;split at h
  ·obtain rfl:=hq rfl
   refine jb9 (je3 Xr E ws) hT (jM ht x) ho h fun cs' hX hcs=>?_
   have hx:=jM ht x;rw[hev] at hx hcs;unfold A.rep at hx;obtain⟨b,off,hy,hr⟩:=hx;simp only[gX] at hcs;cases hcs;obtain⟨us,h1,h2⟩:=A.repAt_vals hr;exact⟨b,off,us,hy,by rw[yI (jbb h1)];exact A.repC.mono _ E.per_le h1,fun w' hw j u hu=>hw.2 _ _ (h2 j u hu)⟩
  ·exact h.elim
 ·exact h.elim
theorem jdl{l:List Nat}(h:l.Nodup){i j b:Nat}(hi:l[i]?=some b)(hj:l[j]?=some b):i=j:=by
 obtain⟨h1,h2⟩:=List.getElem?_eq_some_iff.1 hi;obtain⟨h3,h4⟩:=List.getElem?_eq_some_iff.1 hj;exact x8 h (h2.trans h4.symm)
theorem jm8{Xr:Nat->Bool}(hf:Xr 1000000007=false){K:A->S->Prop}{Kc:Act->World->Prop}{Q:Exit->Act->World->Prop}(hc:c.ok)(hp:Hp w0 C0 β0 s.bx s.rw w E)(ht:A.repL s.t E a.tmps.toList)(h:jhM c Xr s o K)
  (hx:∀ch s' E' w',c.pan ch s'->s'.t=s.t->E.le E'->Hp w0 C0 β0 s'.bx s'.rw w' E'->Q (.panic ch) a w')
  (hk:∀y w' r s' E',K r s'->A.repL s'.t E' a.tmps.toList->Hp w0 C0 β0 s'.bx s'.rw w' E'->r.rep E' y->Sub E.C E'.C->(∀(i b:Nat),E.β[i]?=some b->E'.β[i]?=some b)->(∀(i b:Nat),E.β[i]?=some b->Xr i=false->w'.heap[b]?=w.heap[b]?)->Kc (a.put o.dst y) w'):o.wp c.P a w Kc Q:=by
 unfold jhM at h;split at h
 ·rename_i args ts ho;split at h
  ·rename_i x y hx;split at h
   ·rename_i t t' hts
    exact jcA hc.T hp ht hx hts ho h fun y w' r s' E' h1 h2 h3 h4 h5 h6 h7 _=>hk y w' r s' E' h1 h2 h3 h4 h5 h6 fun i b hb _=>h7 b (List.mem_iff_getElem?.2 ⟨i,hb⟩)
   ·exact h.elim
  ·exact h.elim
 ·rename_i t x y ho;split at h
  ·rename_i i0 off0 hev0;split at h
   ·rename_i hX;obtain⟨w',bx',h1,h2,h3,i,off,b,hev,hb,hoth⟩:=jhk hc.T hp ht ho h;rw[hev0] at hev;cases hev;unfold Oper.wp;rw[h1]
    refine hk undef w' .dead ⟨s.t,bx',s.rw⟩ E h2 ht h3 (A.rep_dead _ _) (Sub.refl _) (fun _ _ h=>h) fun j b' hj hxj=>hoth b' ?_
    rintro rfl;have e:=jdl hp.bnd hj hb;subst e;rw[hX] at hxj;cases hxj
   ·exact h.elim
  ·exact h.elim
 ·exact rD hc hp ht h hx fun y w' ⟨⟨r,s',E',g1,g2,g3,g4,g5,g6,g7⟩⟩=>hk y w' r s' E' g1 (by rw[g2];exact A.repL.mono _ g3 ht) g4 g5 g3.C g3.β fun i b hb hx=>Same.box hp (g6 hf) hb hx
def jcL(s:S):S:=⟨s.t.map fun _=>.dead,s.bx,s.rw⟩
def jc9(c:Cx)(dr:List (Nat×List A))(w0:W0)(C0:Rd)(β0:List Nat)(Q:Exit->Act->World->Prop):Exit->Act->World->Prop
 |.panic ch,a,w=>∃s',c.pan ch s'/\Inv dr w0 C0 β0 (jcL s') a w
 |e,a,w=>Q e a w
theorem iN{E:Env}:∀{l:List A} {us:List Value},us.length=l.length->A.repL (l.map fun _=>A.dead) E us
 |[],us,h=>by obtain rfl:=List.eq_nil_of_length_eq_zero h;simp[A.repL]
 |a::r,[],h=>by simp at h
 |a::r,u::us,h=>by
  simp only[List.map_cons];unfold A.repL;exact⟨u,us,rfl,A.rep_dead _ _,iN (by simpa using h)⟩
theorem jgj{E:Env}{s':S}{us:List Value}(hp:Hp w0 C0 β0 s'.bx s'.rw w E)(ht:A.repL s'.t E us)(hl:us.length=a.tmps.size)(hd:repD dr E a.defers):Inv dr w0 C0 β0 (jcL s') a w :=
 ⟨E,hp,iN (by have:=A.repL_len ht;simp;omega),hd⟩
theorem jgJ{Q:Exit->Act->World->Prop}:∀c' a d v w,jc9 c dr w0 C0 β0 Q (.panic c') (Act.put a d v) w->jc9 c dr w0 C0 β0 Q (.panic c') a w:=by
 rintro ch a d v w ⟨s',h1,E,h2,h3,h4⟩;refine⟨s',h1,E,h2,?_,?_⟩
 ·have hl:=A.repL_len h3;refine iN ?_
  cases d with
  |none=>simpa [jcL,Act.put] using hl
  |some d=>simpa [jcL,Act.put] using hl
 ·cases d <;> exact h4
theorem vQ{ops:List Oper}{Q:Exit->Act->World->Prop}{Xr:Nat->Bool}(hf:Xr 1000000007=false){E0:Env}{ws:World}(hc:c.ok)(hdr:∃n,wR n dr=true) :
  ∀{l:Tr} {q:Nat} {s:S} {a:Act} {w:World} {E:Env} {K:S->Prop},Hp w0 C0 β0 s.bx s.rw w E->A.repL s.t E a.tmps.toList->repD dr E a.defers->(q<=1->jlJ Xr E0 ws E w)->(q=0->E=E0) →
   jcc c Xr E0.β.length ops l q s K->(∀s' a' w',K s'->Inv dr w0 C0 β0 s' a' w'->Q .normal a' w')->pS c.P ops.toArray (jc9 c dr w0 C0 β0 Q) (je3 Xr E0 ws) l a w
 |.nil,q,s,a,w,E,K,hp,ht,hd,hs,hq,h,hk=>hk s a w h ⟨E,hp,ht,hd⟩
 |.q k m rest,q,s,a,w,E,K,hp,ht,hd,hs,hq,h,hk=>by
  change jlW c Xr E0.β.length ops k m (jcc c Xr E0.β.length ops rest) q s K at h
  unfold jlW at h;split at h
  ·rename_i o hok
   have hok':ops.toArray[k]?=some o:=by simpa using hok
   match m,h with
   |0,h =>
    simp only at h
    split at h
    ·rename_i t x ho;split at h
     ·rename_i hq1;have hs1:=hs (Nat.le_of_ble_eq_true hq1);rcases xP ht h with ⟨h1,h2⟩|⟨h1,h2⟩
      ·obtain⟨r,y,k1,k2,k3⟩:=jgv hc.T hp ht hs1 hq ho h2;obtain⟨s2,p1,p2,p3,p4,p5⟩:=qS (a:=a) hp ht hd k2 k1;exact jq4 hok' hs1.kept h1 ⟨y,k3,vQ hf hc hdr (by rw[p2,p3];exact hp) p4 p5 hs hq p1 hk⟩
      ·obtain⟨s2,p1,p2,p3,p4,p5⟩:=qS (a:=a) hp ht hd (kV _) h2;exact jov hok' hs1.kept h1 (vQ hf hc hdr (by rw[p2,p3];exact hp) p4 p5 hs hq p1 hk)
     ·exact h.elim
    ·exact h.elim
   |n+1,h =>
    simp only at h
    rcases xP ht h with ⟨h1,h2⟩|⟨h1,h2⟩
    ·obtain⟨r,y,k1,k2,k3⟩:=jgO hc hp ht h2;obtain⟨s2,p1,p2,p3,p4,p5⟩:=qS (a:=a) hp ht hd k2 k1;exact jq5 hok' h1 ⟨y,k3,vQ hf hc hdr (by rw[p2,p3];exact hp) p4 p5 hs hq p1 hk⟩
    ·obtain⟨s2,p1,p2,p3,p4,p5⟩:=qS (a:=a) hp ht hd (kV _) h2;exact jq6 hok' h1 (vQ hf hc hdr (by rw[p2,p3];exact hp) p4 p5 hs hq p1 hk)
  ·exact h.elim
 |.alt k m rest other,q,s,a,w,E,K,hp,ht,hd,hs,hq,h,hk=>by
  change jlV c Xr ops k m other.isAlt (jcc c Xr E0.β.length ops rest) (jcc c Xr E0.β.length ops other) q s K at h
  have hL2:jjs c Xr ops k m (jcc c Xr E0.β.length ops rest) q s K/\(other.isAlt=true->jcc c Xr E0.β.length ops other q s K):=by
   unfold jlV at h;split at h
   ·exact⟨h.1,fun _=>h.2⟩
   ·rename_i e;exact⟨h,fun e'=>by rw[e] at e';cases e'⟩
  have hO:other.isAlt=true->pS c.P ops.toArray (jc9 c dr w0 C0 β0 Q) (je3 Xr E0 ws) other a w:=fun e=>vQ hf hc hdr hp ht hd hs hq (hL2.2 e) hk
  have hL:=hL2.1;clear hL2 h;unfold jjs at hL;split at hL
  ·rename_i o hok
   have hok':ops.toArray[k]?=some o:=by simpa using hok
   split at hL
   ·rename_i hm;obtain rfl:=Nat.eq_of_beq_eq_true hm;split at hL
    ·rename_i hq1;have hs1:=hs (Nat.le_of_ble_eq_true hq1);refine jot hok' (fun Kc hKc=>?_) hO;rcases xP ht hL with ⟨h1,h2⟩|⟨h1,h2⟩
     ·rw[if_pos h1]
      refine jm8 hf hc hp ht h2 (fun ch s' E' w' q1 q2 q3 q4=>⟨s',q1,jgj q4 (by rw[q2];exact A.repL.mono _ q3 ht) (by simp) (hd.mono q3)⟩) fun y w' r s' E' g1 g2 g3 g4 g5 g6 g7=>?_
      obtain⟨nd,hdn⟩:=hdr;obtain⟨s2,p1,p2,p3,p4,p5⟩:=qS (a:=a) g3 g2 (hd.keep g5 g6 hdn) g4 g1
      have hsin:jlJ Xr E0 ws E' w':=⟨hs1.C.trans g5,fun i b hb=>g6 i b (hs1.β i b hb),fun i b hb hx=>(g7 i b (hs1.β i b hb) hx).trans (hs1.kept.1 i b hb hx),(hs1.C.trans g5).trans g3.sub⟩
      exact hKc _ _ ⟨hsin.kept,vQ hf hc ⟨nd,hdn⟩ (by rw[p2,p3];exact g3) p4 p5 (fun _=>hsin) (fun e=>by cases e) p1 hk⟩
     ·rw[if_neg (by rw[h1];simp)];obtain⟨s2,p1,p2,p3,p4,p5⟩:=qS (a:=a) hp ht hd (kV _) h2;exact hKc _ _ ⟨hs1.kept,vQ hf hc hdr (by rw[p2,p3];exact hp) p4 p5 (fun _=>hs1) (fun e=>by cases e) p1 hk⟩
    ·exact hL.elim
   ·rename_i hm;refine jou (fun e=>by rw[e] at hm;simp at hm) hok' (fun Kc hKc=>?_) hO;rcases xP ht hL with ⟨h1,h2⟩|⟨h1,h2⟩
    ·rw[if_pos h1]
     refine jcP hc hdr ⟨E,hp,ht,hd⟩ h2 (fun ch s' a' w' q1 ⟨E',q2,q3,q4⟩=>⟨s',q1,jgj q2 q3 (by simp) q4⟩) fun s' a' w' h3 ⟨E',g1,g2,g3⟩=>?_
     exact hKc _ _ (vQ hf hc hdr g1 g2 g3 (fun e=>by omega) (fun e=>by cases e) h3 hk)
    ·rw[if_neg (by rw[h1];simp)];obtain⟨s2,p1,p2,p3,p4,p5⟩:=qS (a:=a) hp ht hd (kV _) h2;exact hKc _ _ (vQ hf hc hdr (by rw[p2,p3];exact hp) p4 p5 (fun e=>by omega) (fun e=>by cases e) p1 hk)
  ·exact hL.elim
def tS:List Nat->Nat->Bool
 |[],_=>true
 |x::r,n=>match Nat.blt x n with
  |true=>tS r n
  |false=>false
theorem jcz{n:Nat}:∀{l:List Nat},tS l n=true->∀x∈l,x<n
 |[],_,x,hx=>by cases hx
 |y::r,h,x,hx=>by
  unfold tS at h;split at h
  ·rename_i hy;rcases List.mem_cons.1 hx with rfl|hx
   ·simpa using hy
   ·exact jcz h x hx
  ·cases h
def xrB(X:List Nat)(i:Nat):Bool:=match Nat.beq i 1000000007 with
 |true=>false
 |false=>o9 i X
theorem dB(h:Hp w0 C0 β0 s.bx s.rw w E):Hp w0 C0 β0 s.bx s.rw w.drew E:=h.ext (Ext.refl w).drew
theorem jo1{id:Nat}{ops:List Oper}{Q:Exit->Act->World->Prop}{X:List Nat}{l:Tr}{K:S->Prop}(hc:c.ok)(hdr:∃n,wR n dr=true)(hx:∀ch s' a' w',c.pan ch s'->Inv dr w0 C0 β0 (jcL s') a' w'->Q (.panic ch) a' w')(hi:Inv dr w0 C0 β0 s a w)(hX:tS X s.bx.length=true)(hB:pO ops.toArray l=true)
  (h:jcc c (xrB X) s.bx.length ops l 0 s K) (hk:∀s' a' w',K s'->Inv dr w0 C0 β0 s' a' w'->Q .normal a' w'):(Code.region id ops.toArray true).wp c.P Q a w:=by
 obtain⟨E,hp,ht,hd⟩:=hi;rw[hp.bl] at h
 have hk0:je3 (xrB X) E w.drew w.drew:=⟨fun _ _ _ _=>rfl,(dB hp).sub⟩
 refine wp_mono (Q:=jc9 c dr w0 C0 β0 Q) (jfo (je3 (xrB X) E w.drew) l hc.m hB jgJ hk0 fun _=>?_) (fun e a w h=>by
  cases e with
  |panic ch=>obtain⟨s',h1,h2⟩:=h;exact hx ch s' a w h1 h2
  |_=>exact h)
 exact vQ rfl hc hdr (dB hp) ht hd (fun _=>⟨Sub.refl _,fun _ _ h=>h,hk0⟩) (fun _=>rfl) h hk
@[irreducible] def fU(f:(S->Prop)->Prop)(K:S->Prop):Prop:=∃φ:S->Prop,f φ/\∀x,φ x->K x
theorem cB{f:(S->Prop)->Prop}{K:S->Prop}(s':S)(h:f fun x=>x=s')(k:K s'):fU f K:=by
 unfold fU;exact⟨fun x=>x=s',h,fun x e=>e ▸ k⟩
theorem ji9{p:Nat->Prop}:∀n,p n->∃m,p m/\∀k,p k->m<=k:=fun n=>by
 induction n using Nat.strongRecOn with
 |_ n ih =>
  intro hn;by_cases h:∃k,k<n/\p k
  ·obtain⟨k,h1,h2⟩:=h;exact ih k h1 h2
  ·exact⟨n,hn,fun k hk=>Nat.le_of_not_lt fun h1=>h ⟨k,h1,hk⟩⟩
theorem jtN{α:Type}{p:α->Nat->Prop}:∃M:α->Nat,∀z,(∃n,p z n)->p z (M z)/\∀m,p z m->M z<=m:=by
 have h:∀z,∃m,(∃n,p z n)->p z m/\∀k,p z k->m<=k:=fun z=>by
  by_cases hz:∃n,p z n
  ·obtain⟨n,hn⟩:=hz;obtain⟨m,h1,h2⟩:=ji9 n hn;exact⟨m,fun _=>⟨h1,h2⟩⟩
  ·exact⟨0,fun h=>absurd h hz⟩
 exact⟨fun z=>Classical.choose (h z),fun z=>Classical.choose_spec (h z)⟩
end
end
section
theorem fG{α:Type}{l l':List α}{i:Nat}{x:α}(h:l[i]?=some x):(l++l')[i]?=some x:=by
 have hi:=(List.getElem?_eq_some_iff.1 h).1;rw[List.getElem?_append_left hi];exact h
theorem Hp.drop{w0:W0}{w:World}{C0 C:Rd}{β0 β β':List Nat}{ρ ρ':List Value}{bx bx':List (List A)}{rw rw':List Row}(h:Hp w0 C0 β0 (bx++bx') (rw++rw') w ⟨C,β++β',ρ++ρ'⟩)(hb:bx.length=β.length)(hr:rw.length=ρ.length)(hβ:∃β1,β=β0++β1/\∀b∈β1,w0.w.heap.size<=b)
  (hbx:∀(i b:Nat) (cs:List A),β[i]?=some b->bx[i]?=some cs->boxAt w ⟨C,β,ρ⟩ b cs) (hrw:∀(g:Nat) (r:Row) (y:Value),rw[g]?=some r->ρ[g]?=some y->rowRep w w0 ⟨C,β,ρ⟩ r y):Hp w0 C0 β0 bx rw w ⟨C,β,ρ⟩ :=
 ⟨h.sub,h.base,h.fresh,hβ,(List.nodup_append.1 h.bnd).1,fun b hb=>h.bC b (List.mem_append_left _ hb),hb,hbx,hr,hrw,
  fun g e k n cs y b h1 h2 h3=>by
   have:=h.rC g e k n cs y b (fG h1) (fG h2) h3
   exact⟨fun hm=>this.1 (List.mem_append_left _ hm),this.2⟩,
  fun g e k n cs y g' e' k' n' cs' z b hne h1 h2 h3 h4 h5=>h.rd g e k n cs y g' e' k' n' cs' z b hne (fG h1) (fG h2) (fG h3) (fG h4) h5,
  fun g y h1=>h.rs g y (fG h1),h.keep,h.gk⟩
def jbS{α:Type}:Nat->List α->List α
 |0,_=>[]
 |_+1,[]=>[]
 |n+1,a::r=>a::jbS n r
theorem jho{α:Type}:∀(n:Nat) (l:List α),jbS n l=l.take n
 |0,_=>by simp[jbS]
 |_+1,[]=>by simp[jbS]
 |n+1,a::r=>by simp[jbS,jho n r]
def jup(bx:List (List A))(rw:List Row)(s':S)(r R:A):Prop :=
 match r with
 |.own g=>match Nat.blt g rw.length with
  |true=>R=.own g
  |false=>match s'.rw[g]? with
   |some (.live _ k n cs)=>jix k (R=.sl k n cs)
   |some (.pub k n cs)=>R=.sl k n cs
   |_=>False
 |r=>match y7 bx.length rw.length r with
  |true=>R=r
  |false=>False
def jra(bx:List (List A))(rw:List Row)(s':S)(r R:A):Prop:=jbS bx.length s'.bx=bx/\jbS rw.length s'.rw=rw/\jup bx rw s' r R
section
variable{c:Cx}{dr:List (Nat×List A)}{w0:W0}{C0:Rd}{β0:List Nat}{s:S}{a:Act}{w:World}{E:Env}{o:Oper}
theorem jiR{base:Nat}{rw:List Row}{g e k n:Nat}{cs:List A}{bx:List (List A)}{y:Value}(hk:k≠0)(hp:Hp w0 C0 β0 bx rw w E)(hg:rw[g]?=some (.live e k n cs))(hy:E.ρ[g]?=some y) :
  ∃C',Sub E.C C'/\Hp w0 C0 β0 bx (rw.set g (.pub k n cs)) w ⟨C',E.β,E.ρ⟩/\(A.sl k n cs).rep ⟨C',E.β,E.ρ⟩ y:=by
 obtain⟨C',h1,h2⟩:=hp.pub hk hg;refine⟨C',h2.C,h1,?_⟩;have hgl:=(List.getElem?_eq_some_iff.1 hg).1;exact h1.rws g (.pub k n cs) y (by rw[List.getElem?_set_self hgl]) hy
theorem jkv{bx:List (List A)}{rw:List Row}{s':S}{r R:A}{E':Env}{w':World}{y:Value}(hp:Hp w0 C0 β0 bx rw w E)(h:jra bx rw s' r R)(le:E.le E')(hp':Hp w0 C0 β0 s'.bx s'.rw w' E')(hr:r.rep E' y)
  (hsame:Same (fun _=>false) E w w') :
  ∃C',Sub E.C C'/\Hp w0 C0 β0 bx rw w' ⟨C',E.β,E.ρ⟩/\R.rep ⟨C',E.β,E.ρ⟩ y:=by
 obtain⟨h1,h2,h3⟩:=h;rw[jho] at h1 h2
 obtain⟨β',hβ'⟩:∃β',E'.β=E.β++β':=by
  refine⟨E'.β.drop E.β.length,?_⟩
  have:E'.β.take E.β.length=E.β:=by
   apply List.ext_getElem?;intro i;by_cases hi:i<E.β.length
   ·rw[List.getElem?_take,if_pos hi,List.getElem?_eq_getElem hi];exact le.β i _ (List.getElem?_eq_getElem hi)
   ·rw[List.getElem?_take,if_neg hi,List.getElem?_eq_none (by omega)]
  rw[<- this];simp[List.take_append_drop]
  have hl:E.β.length<=E'.β.length:=by
   have:=congrArg List.length this;simp at this;omega
  rw[Nat.min_eq_left hl,List.take_append_drop]
 obtain⟨ρ',hρ'⟩:∃ρ',E'.ρ=E.ρ++ρ':=by
  refine⟨E'.ρ.drop E.ρ.length,?_⟩
  have:E'.ρ.take E.ρ.length=E.ρ:=by
   apply List.ext_getElem?;intro i;by_cases hi:i<E.ρ.length
   ·rw[List.getElem?_take,if_pos hi,List.getElem?_eq_getElem hi];exact le.ρ i _ (List.getElem?_eq_getElem hi)
   ·rw[List.getElem?_take,if_neg hi,List.getElem?_eq_none (by omega)]
  rw[<- this];simp[List.take_append_drop]
  have hl:E.ρ.length<=E'.ρ.length:=by
   have:=congrArg List.length this;simp at this;omega
  rw[Nat.min_eq_left hl,List.take_append_drop]
 have hbx':s'.bx=bx++s'.bx.drop bx.length:=by
  have:=(List.take_append_drop bx.length s'.bx).symm;rwa [h1] at this
 have hrw':s'.rw=rw++s'.rw.drop rw.length:=by
  have:=(List.take_append_drop rw.length s'.rw).symm;rwa [h2] at this
 -- the old state,in the new world,in any reading that is greater
 have back:∀(C':Rd) (rwx:List Row),Sub E.C C'->Hp w0 C0 β0 s'.bx rwx w' ⟨C',E'.β,E'.ρ⟩->rwx.take rw.length=rw->Hp w0 C0 β0 bx rw w' ⟨C',E.β,E.ρ⟩:=fun C' rwx hC hx hrx=>by
  have e:rwx=rw++rwx.drop rw.length:=by
   have:=(List.take_append_drop rw.length rwx).symm;rwa [hrx] at this
  rw[hbx',e,hβ',hρ'] at hx
  have le2:E.le ⟨C',E.β,E.ρ⟩:=⟨hC,fun _ _ h=>h,fun _ _ h=>h⟩
  refine hx.drop hp.bl hp.rl hp.bp (fun i b cs g1 g2=>?_) (fun g r y g1 g2=>?_)
  ·exact((hp.bxs i b cs g1 g2).same (Same.box (s:=⟨[],bx,rw⟩) hp hsame g1 rfl)).mono le2
  ·exact(hp.rws g r y g1 g2).mono le2 fun e k n cs hr b hb=>Same.row (s:=⟨[],bx,rw⟩) hp hsame (by rw[<- hr];exact g1) g2 hb
 have plain:y7 bx.length rw.length r=true->∃C',Sub E.C C'/\Hp w0 C0 β0 bx rw w' ⟨C',E.β,E.ρ⟩/\r.rep ⟨C',E.β,E.ρ⟩ y:=fun hrf=>by
  refine⟨E'.C,le.C,back E'.C s'.rw le.C hp' h2,?_⟩;have:=lH (nb:=bx.length) (nr:=rw.length) r hrf hr;rw[hβ',hρ',hp.bl,hp.rl] at this;simpa using this
 unfold jup at h3;split at h3
 ·rename_i g;split at h3
  ·rename_i hlt;rw[h3];exact plain (by unfold y7;exact hlt)
  ·rename_i hlt;split at h3
   ·rename_i k n cs hg;obtain⟨hk0,h3⟩:=notZ_iff.1 h3;obtain⟨C',k1,k2,k3⟩:=jiR (base:=0) hk0 hp' hg (by unfold A.rep at hr;exact hr)
    have hge:rw.length<=g:=by
     rcases Nat.lt_or_ge g rw.length with h4|h4
     ·have h5:Nat.blt g rw.length=true:=by simpa using h4
      rw[hlt] at h5;cases h5
     ·exact h4
    refine⟨C',le.C.trans k1,back C' _ (le.C.trans k1) k2 ?_,?_⟩
    ·rw[List.take_set_of_le hge];exact h2
    ·rw[h3];unfold A.rep at k3 ⊢;exact k3
   ·rename_i k n cs hg
    have hy:E'.ρ[g]?=some y:=by unfold A.rep at hr;exact hr
    have k3:(A.sl k n cs).rep E' y:=hp'.rws g _ y hg hy;refine⟨E'.C,le.C,back E'.C s'.rw le.C hp' h2,?_⟩;rw[h3];unfold A.rep at k3 ⊢;exact k3
   ·exact h3.elim
 ·split at h3
  ·rename_i hrf;rw[h3];exact plain hrf
  ·exact h3.elim
end
def jdt:List (Nat×A)->A->A
 |[],a=>a
 |(j,b)::r,a=>match j with
  |0=>b
  |_+1=>jdt r a
def dec{α:Type}:List (Nat×α)->List (Nat×α)
 |[]=>[]
 |(j,b)::r=>match j with
  |0=>dec r
  |n+1=>(n,b)::dec r
def jfQ{α:Type}:List (Nat×α)->(List (Nat×α)->Prop)->Prop
 |[],K=>K []
 |(j,b)::r,K=>match j with
  |0=>jfQ r K
  |n+1=>jfQ r fun g=>K ((n,b)::g)
theorem rG{α:Type}:∀{g:List (Nat×α)} {K:List (Nat×α)->Prop},jfQ g K↔K (dec g)
 |[],K=>by simp[jfQ,dec]
 |(0,b)::r,K=>by simp[jfQ,dec,rG (g:=r)]
 |(n+1,b)::r,K=>by simp[jfQ,dec,rG (g:=r)]
def z7:List (Nat×A)->List A->List A
 |_,[]=>[]
 |g,a::l=>jdt g a::z7 (dec g) l
def vR:List (Nat×A)->List A->(List A->Prop)->Prop
 |_,[],K=>K []
 |g,a::l,K=>zV (jdt g a) fun a'=>jfQ g fun g'=>vR g' l fun r=>K (a'::r)
theorem wT:∀{l:List A} {g:List (Nat×A)} {K:List A->Prop},vR g l K↔K (z7 g l)
 |[],g,K=>by simp[vR,z7]
 |a::l,g,K=>by simp[vR,z7,force_iff,rG,wT (l:=l)]
def fW:List (Nat×A)->Nat->A->A
 |[],_,a=>a
 |(j,b)::r,x,a=>if j=x then b else fW r x a
theorem jbj:∀(g:List (Nat×A)) (a:A),jdt g a=fW g 0 a
 |[],a=>rfl
 |(0,b)::r,a=>by simp[jdt,fW]
 |(n+1,b)::r,a=>by simp[jdt,fW,jbj r a]
theorem jaC:∀(g:List (Nat×A)) (x:Nat) (a:A),fW (dec g) x a=fW g (x+1) a
 |[],x,a=>rfl
 |(0,b)::r,x,a=>by simp[dec,fW,jaC r x a]
 |(n+1,b)::r,x,a=>by simp[dec,fW,jaC r x a]
theorem fN:∀(l:List A) (g:List (Nat×A)) (x:Nat),(z7 g l)[x]?=(l[x]?).map (fW g x)
 |[],g,x=>by simp[z7]
 |a::l,g,0=>by simp[z7,jbj]
 |a::l,g,x+1=>by
  simp only[z7,List.getElem?_cons_succ];rw[fN l (dec g) x]
  congr 1
  funext b;exact jaC g x b
theorem fO:∀(l:List A) (g:List (Nat×A)),(z7 g l).length=l.length
 |[],g=>by simp[z7]
 |a::l,g=>by simp[z7,fO l]
theorem ja3{E:Env}:∀{l:List A} {us:List Value},us.length=l.length->(∀(x:Nat) (a:A) (u:Value),l[x]?=some a->us[x]?=some u->a.rep E u)->A.repL l E us
 |[],us,hl,h=>by unfold A.repL;exact List.eq_nil_of_length_eq_zero (by simpa using hl)
 |a::l,[],hl,h=>by simp at hl
 |a::l,u::us,hl,h=>by
  unfold A.repL;exact⟨u,us,rfl,h 0 a u rfl rfl,ja3 (by simpa using hl) fun x b v h1 h2=>h (x+1) b v (by simpa using h1) (by simpa using h2)⟩
def cF:List Edge->List Nat
 |[]=>[]
 |e::r=>match Region.binds .any e with
  |true=>e.on::cF r
  |false=>cF r
theorem onsOf_mem:∀{l:List Edge} {j:Nat},j∈cF l↔∃e∈l,Region.binds .any e=true/\e.on=j
 |[],j=>by simp[cF]
 |e::r,j=>by
  unfold cF;split
  ·rename_i h;rw[List.mem_cons,onsOf_mem (l:=r)];constructor
   ·rintro (rfl|⟨e',h1,h2⟩)
    ·exact⟨e,by simp,h,rfl⟩
    ·exact⟨e',by simp[h1],h2⟩
   ·rintro⟨e',h1,h2,h3⟩;rcases List.mem_cons.1 h1 with rfl|h1
    ·exact .inl h3.symm
    ·exact .inr ⟨e',h1,h2,h3⟩
  ·rename_i h;rw[onsOf_mem (l:=r)];constructor
   ·rintro⟨e',h1,h2⟩;exact⟨e',by simp[h1],h2⟩
   ·rintro⟨e',h1,h2,h3⟩;rcases List.mem_cons.1 h1 with rfl|h1
    ·rw[h] at h2;cases h2
    ·exact⟨e',h1,h2,h3⟩
def vJ(i:Nat)(o:Oper)(rs:List A):List Oper->Nat->List (Nat×A)
 |[],_=>[]
 |oj::r,j=>match oj.dst with
  |none=>vJ i o rs r (j+1)
  |some d=>match o9 j (cF o.after.toList) with
   |true=>(d,rs.getD j .dead)::vJ i o rs r (j+1)
   |false=>match o9 i (cF oj.after.toList) with
    |true=>vJ i o rs r (j+1)
    |false=>(d,.dead)::vJ i o rs r (j+1)
def dD(rs:List A):List Oper->Nat->List (Nat×A)
 |[],_=>[]
 |oj::r,j=>match oj.dst with
  |none=>dD rs r (j+1)
  |some d=>(d,rs.getD j .dead)::dD rs r (j+1)
def iG(c:Cx)(ops:List Oper)(s:S)(rs:List A)(i:Nat)(o:Oper):Prop :=
 aG ops o ⟨z7 (vJ i o rs ops 0) s.t,s.bx,s.rw⟩ (vG c (fun _=>false) ⟨z7 (vJ i o rs ops 0) s.t,s.bx,s.rw⟩ o fun r s'=>jra s.bx s.rw s' r (rs.getD i .dead)) (rs.getD i .dead=.tup [])
def jrd(_:Nat)(rs:List A)(K:List A->Prop):Prop:=K rs
def jaf(c:Cx)(ops:List Oper)(s:S)(o:Oper)(ih:Nat->List A->(List A->Prop)->Prop)(i:Nat)(rs:List A)(K:List A->Prop):Prop :=
 ∃R:A,(vR (vJ i o rs ops 0) s.t fun t=>aG ops o ⟨t,s.bx,s.rw⟩ (vG c (fun _=>false) ⟨t,s.bx,s.rw⟩ o fun r s'=>jra s.bx s.rw s' r R) (R=.tup []))/\zV R fun R=>aF rs R 0 fun _ rs'=>ih (i+1) rs' K
noncomputable def jcw(c:Cx)(ops:List Oper)(s:S)(l:List Oper):Nat->List A->(List A->Prop)->Prop :=
 List.rec jrd (fun o _ ih=>jaf c ops s o ih) l
def jlN(c:Cx)(ops:List Oper)(s:S)(K:S->Prop):Prop:=jcw c ops s ops 0 [] fun rs=>vR (dD rs ops 0) s.t fun t=>jhE s t K
def jjD(ops:List Oper)(j:Nat):Option Nat:=(ops[j]?).bind (·.dst)
def sT(ops:Array Oper):Bool :=
 Region.noSelect ops&&ops.toList.zipIdx.all (fun x=>x.1.after.toList.all fun e => !Region.binds .any e||decide (e.on<x.2)) &&
 (List.range ops.size).all fun i=>(List.range ops.size).all fun j=>i==j||(jjD ops.toList i).isNone||jjD ops.toList i != jjD ops.toList j
structure iF(ops:List Oper):Prop where
 sel:Region.noSelect ops.toArray=true
 topo:∀(i:Nat) (o:Oper),ops[i]?=some o->∀e∈o.after,Region.binds .any e=true->e.on<i
 dist:∀(i j:Nat) (oi oj:Oper) (d:Nat),ops[i]?=some oi->ops[j]?=some oj->oi.dst=some d->oj.dst=some d->i=j
theorem jaI{ops:List Oper}(h:sT ops.toArray=true):iF ops:=by
 unfold sT at h;simp only[Bool.and_eq_true] at h;refine⟨h.1.1,fun i o ho e he hb=>?_,fun i j oi oj d hi hj di dj=>?_⟩
 ·have:=List.all_eq_true.1 h.1.2 (o,i) (by rw[List.mem_zipIdx_iff_getElem?];simpa using ho);have:=List.all_eq_true.1 this e (by simpa using he);simpa [hb] using this
 ·have hi':=(List.getElem?_eq_some_iff.1 hi).1;have hj':=(List.getElem?_eq_some_iff.1 hj).1;have h1:=List.all_eq_true.1 h.2 i (List.mem_range.2 (by simpa using hi'));have h2:=List.all_eq_true.1 h1 j (List.mem_range.2 (by simpa using hj'));simp[jjD,hi,hj,di,dj] at h2;exact h2
section
variable{c:Cx}{dr:List (Nat×List A)}{w0:W0}{C0:Rd}{β0:List Nat}{s:S}{a:Act}{w:World}{E:Env}{ops:List Oper}
theorem sS{i:Nat}{o:Oper}{rs ms:List A}(h:∀j∈cF o.after.toList,j<rs.length):∀(l:List Oper) (j:Nat),vJ i o (rs++ms) l j=vJ i o rs l j
 |[],j=>rfl
 |oj::r,j=>by
  unfold vJ;rw[sS h r (j+1)];split
  ·rfl
  ·split
   ·rename_i hm;rw[memB_iff] at hm;have:=h j hm;simp[List.getD_eq_getElem?_getD,List.getElem?_append_left this]
   ·rfl
theorem jcx(hf:iF ops):∀{l:List Oper} {i:Nat} {rs:List A} {K:List A->Prop},l=ops.drop i->rs.length=i->jcw c ops s l i rs K →
  ∃ms,K (rs++ms)/\∀(j:Nat) (o:Oper),i<=j->ops[j]?=some o->iG c ops s (rs++ms) j o
 |[],i,rs,K,hl,hr,h=>⟨[],by rw[List.append_nil];exact h,fun j o hj ho=>by
   have:=(List.getElem?_eq_some_iff.1 ho).1
   have h2:(ops.drop i).length=0:=by rw[<- hl];rfl
   simp at h2;omega⟩
 |o::l,i,rs,K,hl,hr,h=>by
  change jaf c ops s o (jcw c ops s l) i rs K at h
  unfold jaf at h;obtain⟨R,h1,h2⟩:=h;rw[wT] at h1;rw[force_iff,kK] at h2
  have hil:i<ops.length:=by
   have:(ops.drop i).length=l.length+1:=by rw[<- hl];rfl
   simp at this;omega
  have ho:ops[i]?=some o:=by
   have:=congrArg (·[0]?) hl;simp at this;exact this.symm
  have hl':l=ops.drop (i+1):=by
   have:=congrArg List.tail hl;simpa using this
  obtain⟨ms,k1,k2⟩:=jcx hf hl' (by simp[hr]) h2;refine⟨R::ms,by simpa using k1,fun j oj hj hoj=>?_⟩;by_cases hji:j=i
  ·subst hji;rw[ho] at hoj;cases hoj;unfold iG
   rw[sS (fun j' hj'=>by
    obtain⟨e,he,hb,rfl⟩:=onsOf_mem.1 hj';have:=hf.topo j o ho e (by simpa using he) hb
    rw[hr];exact this)]
   have e:(rs++R::ms).getD j .dead=R:=by
    rw[List.getD_eq_getElem?_getD,List.getElem?_append_right (by omega),hr];simp
   rw[e];exact h1
  ·have:=k2 j oj (by omega) hoj;simpa using this
structure jcr(dr:List (Nat×List A))(w0:W0)(C0:Rd)(β0:List Nat)(s:S)(E:Env)(ops:List Oper)(rs:List A)(D:Array Bool)(a:Act)(w:World):Prop where
 ex:∃C',Sub E.C C'/\Hp w0 C0 β0 s.bx s.rw w ⟨C',E.β,E.ρ⟩/\∀(x:Nat) (a':A) (v:Value),s.t[x]?=some a'->a.tmps.toList[x]?=some v →
  (∀(j:Nat) (oj:Oper),ops[j]?=some oj->oj.dst=some x->D.getD j false=true->(rs.getD j .dead).rep ⟨C',E.β,E.ρ⟩ v)/\((∀(j:Nat) (oj:Oper),ops[j]?=some oj->oj.dst=some x->D.getD j false=false)->a'.rep ⟨C',E.β,E.ρ⟩ v)
 size:a.tmps.size=s.t.length
 defers:repD dr E a.defers
 dsize:D.size=ops.length
 closed:∀(j:Nat) (o:Oper),ops[j]?=some o->D.getD j false=true->∀e∈o.after,Region.binds .any e=true->D.getD e.on false=true
theorem cC:∀{g:List (Nat×A)} {x:Nat} {a:A},(∃b,(x,b)∈g/\fW g x a=b)∨((∀b,(x,b)∉g)/\fW g x a=a)
 |[],x,a=>.inr ⟨by simp,rfl⟩
 |(j,b)::r,x,a=>by
  unfold fW;by_cases hj:j=x
  ·subst hj;rw[if_pos rfl];exact .inl ⟨b,by simp,rfl⟩
  ·rw[if_neg hj];rcases cC (g:=r) (x:=x) (a:=a) with ⟨b',h1,h2⟩|⟨h1,h2⟩
   ·exact .inl ⟨b',by simp[h1],h2⟩
   ·refine .inr ⟨fun b' hb=>?_,h2⟩;rcases List.mem_cons.1 hb with h3|h3
    ·exact hj (Prod.mk.inj h3).1.symm
    ·exact h1 b' h3
theorem jcT{i:Nat}{o:Oper}{rs:List A}:∀{l:List Oper} {n:Nat},(∀x b,(x,b)∈vJ i o rs l n->∃(j:Nat) (oj:Oper),l[j]?=some oj/\oj.dst=some x/\((n+j∈cF o.after.toList/\b=rs.getD (n+j) .dead)∨b=.dead)) ∧
  (∀(j:Nat) (oj:Oper) (x:Nat),l[j]?=some oj->oj.dst=some x->(∀b,(x,b)∉vJ i o rs l n)->i∈cF oj.after.toList)
 |[],n=>⟨by simp[vJ],by simp⟩
 |oj::r,n=>by
  obtain⟨ih1,ih2⟩:=jcT (i:=i) (o:=o) (rs:=rs) (l:=r) (n:=n+1)
  have up:∀x b,(x,b)∈vJ i o rs r (n+1)->∃(j:Nat) (oj':Oper),(oj::r)[j]?=some oj'/\oj'.dst=some x/\((n+j∈cF o.after.toList/\b=rs.getD (n+j) .dead)∨b=.dead):=fun x b hx=>by
   obtain⟨j,oj',h1,h2,h3⟩:=ih1 x b hx;exact⟨j+1,oj',by simpa using h1,h2,by rw[show n+(j+1)=n+1+j by omega];exact h3⟩
  unfold vJ
  cases hd:oj.dst with
  |none =>
   simp only
   refine⟨up,fun j oj' x h1 h2 h3=>?_⟩
   cases j with
   |zero=>simp at h1;subst h1;rw[hd] at h2;cases h2
   |succ j=>exact ih2 j oj' x (by simpa using h1) h2 h3
  |some d =>
   simp only
   cases hm:o9 n (cF o.after.toList) with
   |true =>
    simp only
    refine⟨fun x b hx=>?_,fun j oj' x h1 h2 h3=>?_⟩
    ·rcases List.mem_cons.1 hx with h4|h4
     ·cases h4;exact⟨0,oj,rfl,hd,.inl ⟨by rw[memB_iff] at hm;simpa using hm,by simp⟩⟩
     ·exact up x b h4
    ·cases j with
     |zero=>simp at h1;subst h1;rw[hd] at h2;cases h2;exact absurd (List.mem_cons_self ..) (h3 _)
     |succ j=>exact ih2 j oj' x (by simpa using h1) h2 fun b hb=>h3 b (List.mem_cons_of_mem _ hb)
   |false =>
    simp only
    cases hm2:o9 i (cF oj.after.toList) with
    |true =>
     simp only
     refine⟨up,fun j oj' x h1 h2 h3=>?_⟩
     cases j with
     |zero=>simp at h1;subst h1;exact memB_iff.1 hm2
     |succ j=>exact ih2 j oj' x (by simpa using h1) h2 h3
    |false =>
     simp only
     refine⟨fun x b hx=>?_,fun j oj' x h1 h2 h3=>?_⟩
     ·rcases List.mem_cons.1 hx with h4|h4
      ·cases h4;exact⟨0,oj,rfl,hd,.inr rfl⟩
      ·exact up x b h4
     ·cases j with
      |zero=>simp at h1;subst h1;rw[hd] at h2;cases h2;exact absurd (List.mem_cons_self ..) (h3 _)
      |succ j=>exact ih2 j oj' x (by simpa using h1) h2 fun b hb=>h3 b (List.mem_cons_of_mem _ hb)
theorem jaD{rs:List A}:∀{l:List Oper} {n:Nat},(∀x b,(x,b)∈dD rs l n->∃(j:Nat) (oj:Oper),l[j]?=some oj/\oj.dst=some x/\b=rs.getD (n+j) .dead) ∧
  (∀(j:Nat) (oj:Oper) (x:Nat),l[j]?=some oj->oj.dst=some x->∃b,(x,b)∈dD rs l n)
 |[],n=>⟨by simp[dD],by simp⟩
 |oj::r,n=>by
  obtain⟨ih1,ih2⟩:=jaD (rs:=rs) (l:=r) (n:=n+1)
  have up:∀x b,(x,b)∈dD rs r (n+1)->∃(j:Nat) (oj':Oper),(oj::r)[j]?=some oj'/\oj'.dst=some x/\b=rs.getD (n+j) .dead:=fun x b hx=>by
   obtain⟨j,oj',h1,h2,h3⟩:=ih1 x b hx;exact⟨j+1,oj',by simpa using h1,h2,by rw[show n+(j+1)=n+1+j by omega];exact h3⟩
  unfold dD
  cases hd:oj.dst with
  |none =>
   simp only
   refine⟨up,fun j oj' x h1 h2=>?_⟩
   cases j with
   |zero=>simp at h1;subst h1;rw[hd] at h2;cases h2
   |succ j=>exact ih2 j oj' x (by simpa using h1) h2
  |some d =>
   simp only
   refine⟨fun x b hx=>?_,fun j oj' x h1 h2=>?_⟩
   ·rcases List.mem_cons.1 hx with h4|h4
    ·cases h4;exact⟨0,oj,rfl,hd,by simp⟩
    ·exact up x b h4
   ·cases j with
    |zero=>simp at h1;subst h1;rw[hd] at h2;cases h2;exact⟨_,List.mem_cons_self ..⟩
    |succ j =>
     obtain⟨b,hb⟩:=ih2 j oj' x (by simpa using h1) h2;exact⟨b,List.mem_cons_of_mem _ hb⟩
theorem jaK(hf:iF ops){rs:List A}{D:Array Bool}(h:jcr dr w0 C0 β0 s E ops rs D a w){i:Nat}{o:Oper}(ho:ops[i]?=some o)(hu:D.getD i false=false)(hd:∀e∈o.after,Region.binds .any e=true->D.getD e.on false=true){C':Rd}
  (hx:∀(x:Nat) (a':A) (v:Value),s.t[x]?=some a'->a.tmps.toList[x]?=some v →
   (∀(j:Nat) (oj:Oper),ops[j]?=some oj->oj.dst=some x->D.getD j false=true->(rs.getD j .dead).rep ⟨C',E.β,E.ρ⟩ v)/\((∀(j:Nat) (oj:Oper),ops[j]?=some oj->oj.dst=some x->D.getD j false=false)->a'.rep ⟨C',E.β,E.ρ⟩ v)) :
  A.repL (z7 (vJ i o rs ops 0) s.t) ⟨C',E.β,E.ρ⟩ a.tmps.toList:=by
 refine ja3 (by rw[fO];simpa using h.size) fun x b u h1 h2=>?_
 rw[fN,Option.map_eq_some_iff] at h1;obtain⟨a',h1,rfl⟩:=h1;obtain⟨g1,g2⟩:=hx x a' u h1 h2;obtain⟨m1,m2⟩:=jcT (i:=i) (o:=o) (rs:=rs) (l:=ops) (n:=0);rcases cC (g:=vJ i o rs ops 0) (x:=x) (a:=a') with ⟨b,k1,k2⟩|⟨k1,k2⟩
 ·rw[k2];obtain⟨j,oj,q1,q2,q3⟩:=m1 x b k1;rcases q3 with ⟨q3,rfl⟩|rfl
  ·rw[Nat.zero_add] at q3 ⊢;obtain⟨e,he,hb,rfl⟩:=onsOf_mem.1 q3;exact g1 e.on oj q1 q2 (hd e (by simpa using he) hb)
  ·exact A.rep_dead _ _
 ·rw[k2]
  refine g2 fun j oj q1 q2=>?_
  have:=m2 j oj x q1 q2 k1;obtain⟨e,he,hb,he2⟩:=onsOf_mem.1 this
  cases hD:D.getD j false with
  |false=>rfl
  |true =>
   have:=h.closed j oj q1 hD e (by simpa using he) hb;rw[he2,hu] at this;cases this
theorem rK(hf:iF ops){rs:List A}{D:Array Bool}(h:jcr dr w0 C0 β0 s E ops rs D a w){i:Nat}{o:Oper}(ho:ops[i]?=some o)(hu:D.getD i false=false)(hd:∀e∈o.after,Region.binds .any e=true->D.getD e.on false=true){C' C'':Rd}(hC:Sub E.C C'')(hCC:Sub C' C''){w':World}{y:Value}
  (hp:Hp w0 C0 β0 s.bx s.rw w' ⟨C'',E.β,E.ρ⟩) (hy:(rs.getD i .dead).rep ⟨C'',E.β,E.ρ⟩ y)
  (hx:∀(x:Nat) (a':A) (v:Value),s.t[x]?=some a'->a.tmps.toList[x]?=some v →
   (∀(j:Nat) (oj:Oper),ops[j]?=some oj->oj.dst=some x->D.getD j false=true->(rs.getD j .dead).rep ⟨C',E.β,E.ρ⟩ v)/\((∀(j:Nat) (oj:Oper),ops[j]?=some oj->oj.dst=some x->D.getD j false=false)->a'.rep ⟨C',E.β,E.ρ⟩ v)) :
  jcr dr w0 C0 β0 s E ops rs (D.setIfInBounds i true) (a.put o.dst y) w':=by
 have hil:=(List.getElem?_eq_some_iff.1 ho).1
 have hD:∀j,(D.setIfInBounds i true).getD j false=if j=i then true else D.getD j false:=fun j=>by
  by_cases hj:j=i
  ·subst hj;rw[if_pos rfl];simp[Array.getD_eq_getD_getElem?,h.dsize,hil]
  ·rw[if_neg hj];simp only[Array.getD_eq_getD_getElem?];rw[Array.getElem?_setIfInBounds_ne (fun e=>hj e.symm)]
 have le:(⟨C',E.β,E.ρ⟩:Env).le ⟨C'',E.β,E.ρ⟩:=⟨hCC,fun _ _ h=>h,fun _ _ h=>h⟩
 refine⟨⟨C'',hC,hp,fun x a' v h1 h2=>?_⟩,?_,?_,by simp[h.dsize],fun j oj hj hDj e he hb=>?_⟩
 ·by_cases hdx:o.dst=some x
  ·refine⟨fun j oj q1 q2 q3=>?_,fun hn=>?_⟩
   ·obtain rfl:i=j:=hf.dist i j o oj x ho q1 hdx q2
    have hv:v=y:=by
     rw[hdx] at h2;have:(a.tmps.setIfInBounds x y).toList[x]?=some v:=h2;rw[Array.toList_setIfInBounds] at this
     have hxl:x<a.tmps.toList.length:=by
      have:=(List.getElem?_eq_some_iff.1 h1).1;have:=h.size
      simp;omega
     rw[List.getElem?_set_self hxl] at this;exact(Option.some.inj this).symm
    rw[hv];exact hy
   ·have:=hn i o ho hdx;rw[hD,if_pos rfl] at this;cases this
  ·have h2':a.tmps.toList[x]?=some v:=by
    cases hod:o.dst with
    |none=>rw[hod] at h2;exact h2
    |some d =>
     rw[hod] at h2 hdx;have:(a.tmps.setIfInBounds d y).toList[x]?=some v:=h2;rw[Array.toList_setIfInBounds] at this;rw[List.getElem?_set_ne (fun e=>hdx (by rw[e]))] at this;exact this
   obtain⟨g1,g2⟩:=hx x a' v h1 h2';refine⟨fun j oj q1 q2 q3=>?_,fun hn=>?_⟩
   ·have hji:j≠i:=fun e=>by
     subst e;rw[ho] at q1;cases q1;exact hdx q2
    rw[hD,if_neg hji] at q3;exact(g1 j oj q1 q2 q3).mono _ le
   ·refine(g2 fun j oj q1 q2=>?_).mono _ le;have:=hn j oj q1 q2
    have hji:j≠i:=fun e=>by
     subst e;rw[ho] at q1;cases q1;exact hdx q2
    rwa [hD,if_neg hji] at this
 ·cases hod:o.dst with
  |none=>exact h.size
  |some d =>
   show(a.tmps.setIfInBounds d y).size=_;simpa using h.size
 ·cases hod:o.dst <;> exact h.defers
 ·rw[hD];split
  ·rfl
  ·rw[hD] at hDj;split at hDj
   ·rename_i hji;subst hji;rw[ho] at hj;cases hj;exact hd e he hb
   ·exact h.closed j oj hj hDj e he hb
def kF(n:Nat)(D:Array Bool):List Nat:=(List.range n).filter fun i => !D.getD i false
theorem sD{n i:Nat}{D:Array Bool}(hi:i<n)(hs:D.size=n)(hu:D.getD i false=false):(kF n (D.setIfInBounds i true)).length<(kF n D).length:=by
 have:kF n (D.setIfInBounds i true)=(kF n D).filter fun j=>decide (j≠i):=by
  unfold kF;rw[List.filter_filter]
  refine List.filter_congr fun j _=>?_
  by_cases hj:j=i
  ·subst hj;simp[Array.getD_eq_getD_getElem?,hs,hi]
  ·simp only[Array.getD_eq_getD_getElem?];rw[Array.getElem?_setIfInBounds_ne (fun e=>hj e.symm)];simp[hj]
 rw[this];refine List.length_filter_lt_length_iff_exists.2 ⟨i,?_,by simp⟩;unfold kF;rw[List.mem_filter];exact⟨List.mem_range.2 hi,by simp[hu]⟩
theorem jjI{D:Array Bool}{i:Nat}(h:i<D.size)(b b':Bool):D.getD i b=D.getD i b':=by simp[Array.getD_eq_getD_getElem?,h]
theorem fJ{D:Array Bool}(hs:D.size=ops.length){i:Nat}(h:i∈Region.ready .any ops.toArray D):i<ops.length/\D.getD i false=false/\∃o,ops[i]?=some o/\∀e∈o.after,Region.binds .any e=true->D.getD e.on false=true:=by
 obtain⟨h1,o,h2,h3⟩:=mem_ready.1 h
 have h2':ops[i]?=some o:=by simpa using h2
 have hi:=(List.getElem?_eq_some_iff.1 h2').1;exact⟨hi,by rw[jjI (by omega) false true];exact h1,o,h2',h3⟩
theorem pA(hf:iF ops){D:Array Bool}(hs:D.size=ops.length)(h:Region.ready .any ops.toArray D=[]):∀i,i<ops.length->D.getD i false=true:=fun i=>by
 induction i using Nat.strongRecOn with
 |_ i ih =>
  intro hi
  cases hD:D.getD i false with
  |true=>rfl
  |false =>
   have:i∈Region.ready .any ops.toArray D:=mem_ready.2 ⟨by rw[jjI (by omega) true false];exact hD,ops[i],by simp[hi],fun e he hb=>by
    have:=hf.topo i ops[i] (List.getElem?_eq_getElem hi) e he hb
    exact ih e.on this (by omega)⟩
   rw[h] at this;cases this
theorem jfZ{rs:List A}{D:Array Bool}(h:jcr dr w0 C0 β0 s E ops rs D a w)(hall:∀i,i<ops.length->D.getD i false=true):Inv dr w0 C0 β0 ⟨z7 (dD rs ops 0) s.t,s.bx,s.rw⟩ a w:=by
 obtain⟨C',h1,h2,h3⟩:=h.ex;refine⟨⟨C',E.β,E.ρ⟩,h2,?_,repD.mono (E:=E) (F:=⟨C',E.β,E.ρ⟩) ⟨h1,fun _ _ h=>h,fun _ _ h=>h⟩ h.defers⟩
 refine ja3 (by rw[fO];simpa using h.size) fun x b u g1 g2=>?_
 rw[fN,Option.map_eq_some_iff] at g1;obtain⟨a',g1,rfl⟩:=g1;obtain⟨k1,k2⟩:=h3 x a' u g1 g2;obtain⟨m1,m2⟩:=jaD (rs:=rs) (l:=ops) (n:=0);rcases cC (g:=dD rs ops 0) (x:=x) (a:=a') with ⟨b,q1,q2⟩|⟨q1,q2⟩
 ·rw[q2];obtain⟨j,oj,p1,p2,rfl⟩:=m1 x b q1;rw[Nat.zero_add];exact k1 j oj p1 p2 (hall j (List.getElem?_eq_some_iff.1 p1).1)
 ·rw[q2]
  refine k2 fun j oj p1 p2=>?_
  obtain⟨b,hb⟩:=m2 j oj x p1 p2;exact absurd hb (q1 b)
theorem jaJ{Q:Exit->Act->World->Prop}(hc:c.ok)(hn:∀ch s,¬c.pan ch s)(hf:iF ops){rs:List A}(hg:∀(j:Nat) (o:Oper),ops[j]?=some o->iG c ops s rs j o)(hk:∀a' w',Inv dr w0 C0 β0 ⟨z7 (dD rs ops 0) s.t,s.bx,s.rw⟩ a' w'->Q .normal a' w') :
  ∀(f:Nat) (D:Array Bool) (a:Act) (w:World),(kF ops.length D).length<=f->jcr dr w0 C0 β0 s E ops rs D a w->wpAny c.P .any ops.toArray Q f D a w
 |0,D,a,w,hl,h=>by
  have hn:Region.ready .any ops.toArray D=[]:=by
   rw[List.eq_nil_iff_forall_not_mem];intro i hi;obtain⟨h1,h2,-⟩:=fJ h.dsize hi
   have:i∈kF ops.length D:=by unfold kF;rw[List.mem_filter];exact⟨List.mem_range.2 h1,by simp[h2]⟩
   have h3:kF ops.length D=[]:=List.eq_nil_of_length_eq_zero (by omega);rw[h3] at this;cases this
  exact⟨hn,hk a w (jfZ h (pA hf h.dsize hn))⟩
 |f+1,D,a,w,hl,h=>by
  refine⟨fun hn=>hk a w (jfZ h (pA hf h.dsize hn)),fun i hi=>?_⟩;obtain⟨h1,h2,o,ho,hd⟩:=fJ h.dsize hi;obtain⟨C',q1,q2,q3⟩:=h.ex;have hst:=jaK hf h ho h2 hd q3;have hG:=hg i o ho;unfold iG at hG;unfold wpOp
  have ho':ops.toArray[i]?=some o:=by simpa using ho
  rw[ho']
  simp only
  have hlt:=sD h1 h.dsize h2;rcases xP hst hG with ⟨k1,k2⟩|⟨k1,k2⟩
  ·rw[if_pos k1];left
   refine rD hc (s:=⟨z7 (vJ i o rs ops 0) s.t,s.bx,s.rw⟩) q2 hst k2 (fun ch s' _ _ h1 _ _ _=>absurd h1 (hn ch s')) fun y w' ⟨⟨r,s',E',g1,g2,g3,g4,g5,g6,g7⟩⟩=>?_
   obtain⟨C'',p1,p2,p3⟩:=jkv q2 g1 g3 g4 g5 (g6 rfl);exact jaJ hc hn hf hg hk f _ _ _ (by omega) (rK hf h ho h2 hd (q1.trans p1) p1 p2 p3 q3)
  ·rw[if_neg (by rw[k1];simp)];exact jaJ hc hn hf hg hk f _ _ _ (by omega) (rK hf h ho h2 hd q1 (Sub.refl _) q2 (by rw[k2];exact kV _) q3)
theorem jpf{id:Nat}{Q:Exit->Act->World->Prop}{K:S->Prop}(hc:c.ok)(hn:∀ch s,¬c.pan ch s)(hi:Inv dr w0 C0 β0 s a w)(hB:sT ops.toArray=true)(h:jlN c ops s K)(hk:∀s' a' w',K s'->Inv dr w0 C0 β0 s' a' w'->Q .normal a' w'):(Code.region id ops.toArray true).wp c.P Q a w:=by
 obtain⟨E,hp,ht,hd⟩:=hi;have hf:=jaI hB;obtain⟨rs,k1,k2⟩:=jcx (c:=c) (s:=s) (ops:=ops) hf (l:=ops) (i:=0) (rs:=[]) (K:=fun rs=>vR (dD rs ops 0) s.t fun t=>jhE s t K) (by rw[List.drop_zero]) rfl h;rw[List.nil_append,wT,tP] at k1;rw[List.nil_append] at k2;refine wp_region_noPanic (wp_region_any hc.m ?_);refine jaJ (Q:=NoPanic Q) hc hn hf (fun j o ho=>k2 j o (Nat.zero_le _) ho) (fun a' w' h'=>hk _ a' w' k1 h') _ (Array.replicate ops.toArray.size false) _ _ ?_ (E:=E) ⟨⟨E.C,Sub.refl _,dB hp,fun x a' v h1 h2=>⟨fun j oj _ _ hj=>?_,fun _=>?_⟩⟩,by have:=A.repL_len ht;simpa using this,hd,by simp,fun j oj _ hj=>?_⟩
 ·unfold kF;refine Nat.le_trans (List.length_filter_le _ _) (by simp)
 ·exfalso
  simp only[Array.getD_eq_getD_getElem?,Array.getElem?_replicate] at hj
  split at hj <;> simp at hj
 ·obtain⟨u,hu,hr⟩:=A.repL_get ht h1;rw[h2] at hu;cases hu;exact hr
 ·exfalso
  simp only[Array.getD_eq_getD_getElem?,Array.getElem?_replicate] at hj
  split at hj <;> simp at hj
end
def Tr.isFlow:Tr->Bool
 |.q _ m _=>Nat.beq m 7
 |_=>false
end
section
def jb1(ops:List Oper):Bool:=(List.range (ops.length-1)).all fun j=>ops.zipIdx.any fun x=>decide (j<x.2)&&o9 j (cF x.1.after.toList)
def yA:List Oper->List Oper
 |[]=>[]
 |o::r=>match r with
  |[]=>[]
  |_::_=>o::yA r
def jb0:List Oper->Option Oper
 |[]=>none
 |o::r=>match r with
  |[]=>some o
  |_::_=>jb0 r
theorem rO:∀{ops:List Oper} {o:Oper},jb0 ops=some o->ops=yA ops++[o]
 |[],o,h=>by simp[jb0] at h
 |a::r,o,h=>by
  cases r with
  |nil=>simp[jb0] at h;simp[yA,h]
  |cons b r =>
   have:=rO (ops:=b::r) (o:=o) (by simpa [jb0] using h)
   have e:yA (a::b::r)=a::yA (b::r):=by simp[yA]
   rw[e,List.cons_append,<- this]
def je7(c:Cx)(ops:List Oper)(s:S)(K:S->Prop):Prop:=match jb0 ops with
 |some oL=>jcw c ops s (yA ops) 0 [] fun rs=>vR (dD rs (yA ops) 0) s.t fun t=>jhE s t fun s1=>aG ops oL s1 (ado c (fun _=>true) s1 oL K) (kP s1 oL.dst (.tup []) K)
 |none=>False
section
variable{c:Cx}{dr:List (Nat×List A)}{w0:W0}{C0:Rd}{β0:List Nat}{s:S}{a:Act}{w:World}{E:Env}{ops:List Oper}
theorem jag(hf:iF ops):∀{l rest:List Oper} {i:Nat} {rs:List A} {K:List A->Prop},ops.drop i=l++rest->rs.length=i->jcw c ops s l i rs K →
  ∃ms,K (rs++ms)/\∀(j:Nat) (o:Oper),i<=j->j<i+l.length->ops[j]?=some o->iG c ops s (rs++ms) j o
 |[],rest,i,rs,K,hl,hr,h=>⟨[],by rw[List.append_nil];exact h,fun j o hj hj2 ho=>by simp at hj2;omega⟩
 |o::l,rest,i,rs,K,hl,hr,h=>by
  change jaf c ops s o (jcw c ops s l) i rs K at h
  unfold jaf at h;obtain⟨R,h1,h2⟩:=h;rw[wT] at h1;rw[force_iff,kK] at h2
  have ho:ops[i]?=some o:=by
   have:=congrArg (·[0]?) hl;simp at this;exact this
  have hl':ops.drop (i+1)=l++rest:=by
   have:=congrArg List.tail hl;simpa using this
  obtain⟨ms,k1,k2⟩:=jag hf hl' (by simp[hr]) h2;refine⟨R::ms,by simpa using k1,fun j oj hj hj2 hoj=>?_⟩;by_cases hji:j=i
  ·subst hji;rw[ho] at hoj;cases hoj;unfold iG
   rw[sS (fun j' hj'=>by
    obtain⟨e,he,hb,rfl⟩:=onsOf_mem.1 hj';have:=hf.topo j o ho e (by simpa using he) hb
    rw[hr];exact this)]
   have e:(rs++R::ms).getD j .dead=R:=by
    rw[List.getD_eq_getElem?_getD,List.getElem?_append_right (by omega),hr];simp
   rw[e];exact h1
  ·have:=k2 j oj (by omega) (by simp at hj2;omega) hoj;simpa using this
theorem jlQ{D:Array Bool}(hL:jb1 ops=true)(hcl:∀(j:Nat) (o:Oper),ops[j]?=some o->D.getD j false=true->∀e∈o.after,Region.binds .any e=true->D.getD e.on false=true)
  {oL:Oper} (ho:ops[ops.length-1]?=some oL) (hd:∀e∈oL.after,Region.binds .any e=true->D.getD e.on false=true):∀(n j:Nat),ops.length-1-j=n->j<ops.length-1->D.getD j false=true:=fun n=>by
 induction n using Nat.strongRecOn with
 |_ n ih =>
  intro j hn hj;unfold jb1 at hL;have h1:=List.all_eq_true.1 hL j (List.mem_range.2 hj);obtain⟨⟨o,k⟩,h2,h3⟩:=List.any_eq_true.1 h1;simp only[Bool.and_eq_true,decide_eq_true_eq] at h3
  have hk:ops[k]?=some o:=by
   rw[List.mem_zipIdx_iff_getElem?] at h2;simpa using h2
  obtain⟨e,he,hb,he2⟩:=onsOf_mem.1 (memB_iff.1 h3.2);have hkl:=(List.getElem?_eq_some_iff.1 hk).1;by_cases hkL:k=ops.length-1
  ·subst hkL;rw[ho] at hk;cases hk;rw[<- he2];exact hd e (by simpa using he) hb
  ·have:=ih (ops.length-1-k) (by omega) k rfl (by omega);rw[<- he2];exact hcl k o hk this e (by simpa using he) hb
theorem jdw{D:Array Bool}(hs:D.size=ops.length)(h:∀i,i<ops.length->D.getD i false=true):Region.ready .any ops.toArray D=[]:=by
 rw[List.eq_nil_iff_forall_not_mem];intro i hi;obtain⟨h1,h2,-⟩:=fJ hs hi;rw[h i h1] at h2;cases h2
theorem jc6{Q:Exit->Act->World->Prop}{D:Array Bool}(hs:D.size=ops.length)(h:∀i,i<ops.length->D.getD i false=true)(hQ:Q .normal a w):∀f,wpAny c.P .any ops.toArray Q f D a w
 |0=>⟨jdw hs h,hQ⟩
 |f+1=>⟨fun _=>hQ,fun i hi=>by rw[jdw hs h] at hi;cases hi⟩
theorem sU{Q:Exit->Act->World->Prop}{K:S->Prop}(hc:c.ok)(hn:∀ch s,¬c.pan ch s)(hdr:∃n,wR n dr=true)(hf:iF ops)(hL:jb1 ops=true){oL:Oper}(hoL:jb0 ops=some oL){rs:List A}(hg:∀(j:Nat) (o:Oper),j<ops.length-1->ops[j]?=some o->iG c ops s rs j o)
  (hlast:aG ops oL ⟨z7 (dD rs (yA ops) 0) s.t,s.bx,s.rw⟩ (ado c (fun _=>true) ⟨z7 (dD rs (yA ops) 0) s.t,s.bx,s.rw⟩ oL K) (kP ⟨z7 (dD rs (yA ops) 0) s.t,s.bx,s.rw⟩ oL.dst (.tup []) K))
  (hk:∀s' a' w',K s'->Inv dr w0 C0 β0 s' a' w'->Q .normal a' w') :
  ∀(f:Nat) (D:Array Bool) (a:Act) (w:World),D.getD (ops.length-1) false=false->(kF ops.length D).length<=f->jcr dr w0 C0 β0 s E ops rs D a w->wpAny c.P .any ops.toArray Q f D a w
 |0,D,a,w,hu,hl,h=>by
  exfalso
  have hops:=rO hoL
  have h0:0<ops.length:=by rw[hops];simp
  have:ops.length-1∈kF ops.length D:=by unfold kF;rw[List.mem_filter];exact⟨List.mem_range.2 (by omega),by simp[hu]⟩
  have h3:kF ops.length D=[]:=List.eq_nil_of_length_eq_zero (by omega);rw[h3] at this;cases this
 |f+1,D,a,w,hu,hl,h=>by
  have hops:=rO hoL
  have hlen:ops.length=(yA ops).length+1:=by have:=congrArg List.length hops;simpa using this
  have hoL2:ops[ops.length-1]?=some oL:=by
   have e:ops.length-1=(yA ops).length:=by omega
   have h3:(yA ops++[oL])[(yA ops).length]?=some oL:=by simp
   rw[<- hops] at h3;rw[e];exact h3
  refine⟨fun hn'=>?_,fun i hi=>?_⟩
  ·have:=pA hf h.dsize hn' (ops.length-1) (by omega);rw[hu] at this;cases this
  obtain⟨h1,h2,o,ho,hd⟩:=fJ h.dsize hi;obtain⟨C',q1,q2,q3⟩:=h.ex;unfold wpOp
  have ho':ops.toArray[i]?=some o:=by simpa using ho
  rw[ho']
  simp only
  have hlt:=sD h1 h.dsize h2
  have hDi:∀j,(D.setIfInBounds i true).getD j false=if j=i then true else D.getD j false:=fun j=>by
   by_cases hj:j=i
   ·subst hj;rw[if_pos rfl];simp[Array.getD_eq_getD_getElem?,h.dsize,h1]
   ·rw[if_neg hj];simp only[Array.getD_eq_getD_getElem?];rw[Array.getElem?_setIfInBounds_ne (fun e=>hj e.symm)]
  by_cases hiL:i=ops.length-1
  ·subst hiL;rw[hoL2] at ho;cases ho;have hall:=jlQ hL h.closed hoL2 hd
   have hdone:∀j,j<ops.length->(D.setIfInBounds (ops.length-1) true).getD j false=true:=fun j hj=>by
    rw[hDi];split
    ·rfl
    ·exact hall _ j rfl (by omega)
   -- the state when all others have come up
   have hst:A.repL (z7 (dD rs (yA ops) 0) s.t) ⟨C',E.β,E.ρ⟩ a.tmps.toList:=by
    refine ja3 (by rw[fO];simpa using h.size) fun x b u g1 g2=>?_
    rw[fN,Option.map_eq_some_iff] at g1;obtain⟨a',g1,rfl⟩:=g1;obtain⟨k1,k2⟩:=q3 x a' u g1 g2;obtain⟨m1,m2⟩:=jaD (rs:=rs) (l:=yA ops) (n:=0)
    have up:∀(j:Nat) (oj:Oper),(yA ops)[j]?=some oj->ops[j]?=some oj:=fun j oj hj=>by
     rw[hops];rw[List.getElem?_append_left (List.getElem?_eq_some_iff.1 hj).1];exact hj
    rcases cC (g:=dD rs (yA ops) 0) (x:=x) (a:=a') with ⟨b,p1,p2⟩|⟨p1,p2⟩
    ·rw[p2];obtain⟨j,oj,r1,r2,rfl⟩:=m1 x b p1;rw[Nat.zero_add];have hjl:=(List.getElem?_eq_some_iff.1 r1).1;exact k1 j oj (up j oj r1) r2 (hall _ j rfl (by omega))
    ·rw[p2]
     refine k2 fun j oj r1 r2=>?_
     by_cases hjl:j<(yA ops).length
     ·have r3:(yA ops)[j]?=some oj:=by
       rw[hops,List.getElem?_append_left hjl] at r1;exact r1
      obtain⟨b,hb⟩:=m2 j oj x r3 r2;exact absurd hb (p1 b)
     ·have:=(List.getElem?_eq_some_iff.1 r1).1
      have e:j=ops.length-1:=by omega
      rw[e];exact hu
   have hinv:Inv dr w0 C0 β0 ⟨z7 (dD rs (yA ops) 0) s.t,s.bx,s.rw⟩ a w:=⟨⟨C',E.β,E.ρ⟩,q2,hst,repD.mono (E:=E) (F:=⟨C',E.β,E.ρ⟩) ⟨q1,fun _ _ h=>h,fun _ _ h=>h⟩ h.defers⟩
   rcases xP hst hlast with ⟨k1,k2⟩|⟨k1,k2⟩
   ·rw[if_pos k1];left
    exact jcP hc hdr hinv k2 (fun ch s' _ _ h1 _=>absurd h1 (hn ch s')) fun s' a' w' g1 g2=>jc6 (by simp[h.dsize]) hdone (hk s' a' w' g1 g2) f
   ·rw[if_neg (by rw[k1];simp)];obtain⟨s2,p1,p2,p3,p4,p5⟩:=qS (s:=⟨z7 (dD rs (yA ops) 0) s.t,s.bx,s.rw⟩) (a:=a) q2 hst (repD.mono (E:=E) (F:=⟨C',E.β,E.ρ⟩) ⟨q1,fun _ _ h=>h,fun _ _ h=>h⟩ h.defers) (kV _) k2;exact jc6 (by simp[h.dsize]) hdone (hk s2 _ _ p1 ⟨_,by rw[p2,p3];exact q2,p4,p5⟩) f
  ·have hst:=jaK hf h ho h2 hd q3;have hG:=hg i o (by omega) ho;unfold iG at hG
   have hu2:(D.setIfInBounds i true).getD (ops.length-1) false=false:=by
    rw[hDi,if_neg (fun e=>hiL e.symm)];exact hu
   rcases xP hst hG with ⟨k1,k2⟩|⟨k1,k2⟩
   ·rw[if_pos k1];left
    refine rD hc (s:=⟨z7 (vJ i o rs ops 0) s.t,s.bx,s.rw⟩) q2 hst k2 (fun ch s' _ _ h1 _ _ _=>absurd h1 (hn ch s')) fun y w' ⟨⟨r,s',E',g1,g2,g3,g4,g5,g6,g7⟩⟩=>?_
    obtain⟨C'',p1,p2,p3⟩:=jkv q2 g1 g3 g4 g5 (g6 rfl);exact sU hc hn hdr hf hL hoL hg hlast hk f _ _ _ hu2 (by omega) (rK hf h ho h2 hd (q1.trans p1) p1 p2 p3 q3)
   ·rw[if_neg (by rw[k1];simp)];exact sU hc hn hdr hf hL hoL hg hlast hk f _ _ _ hu2 (by omega) (rK hf h ho h2 hd q1 (Sub.refl _) q2 (by rw[k2];exact kV _) q3)
theorem jmM{id:Nat}{Q:Exit->Act->World->Prop}{K:S->Prop}(hc:c.ok)(hn:∀ch s,¬c.pan ch s)(hdr:∃n,wR n dr=true)(hi:Inv dr w0 C0 β0 s a w)(hB:sT ops.toArray=true)(hL:jb1 ops=true)(h:je7 c ops s K)(hk:∀s' a' w',K s'->Inv dr w0 C0 β0 s' a' w'->Q .normal a' w'):(Code.region id ops.toArray true).wp c.P Q a w:=by
 obtain⟨E,hp,ht,hd⟩:=hi;have hf:=jaI hB;unfold je7 at h;split at h
 rotate_left
 ·exact h.elim
 rename_i oL hoL;have hops:=rO hoL
 have hlen:ops.length=(yA ops).length+1:=by have:=congrArg List.length hops;simpa using this
 obtain⟨rs,k1,k2⟩:=jag (c:=c) (s:=s) (ops:=ops) hf (l:=yA ops) (rest:=[oL]) (i:=0) (rs:=[]) (by rw[List.drop_zero];exact hops) rfl h;rw[List.nil_append,wT,tP] at k1;rw[List.nil_append] at k2;refine wp_region_noPanic (wp_region_any hc.m ?_);refine sU (Q:=NoPanic Q) hc hn hdr hf hL hoL (fun j o hj ho=>k2 j o (Nat.zero_le _) (by omega) ho) k1 (fun s' a' w' g h'=>hk s' a' w' g h') _ (Array.replicate ops.toArray.size false) _ _ ?_ ?_ (E:=E) ⟨⟨E.C,Sub.refl _,dB hp,fun x a' v h1 h2=>⟨fun j oj _ _ hj=>?_,fun _=>?_⟩⟩,by have:=A.repL_len ht;simpa using this,hd,by simp,fun j oj _ hj=>?_⟩
 ·simp only[Array.getD_eq_getD_getElem?,Array.getElem?_replicate]
  split <;> rfl
 ·unfold kF;refine Nat.le_trans (List.length_filter_le _ _) (by simp)
 ·exfalso
  simp only[Array.getD_eq_getD_getElem?,Array.getElem?_replicate] at hj
  split at hj <;> simp at hj
 ·obtain⟨u,hu,hr⟩:=A.repL_get ht h1;rw[h2] at hu;cases hu;exact hr
 ·exfalso
  simp only[Array.getD_eq_getD_getElem?,Array.getElem?_replicate] at hj
  split at hj <;> simp at hj
end
def Tr.isFlowL:Tr->Bool
 |.q _ m _=>Nat.beq m 8
 |_=>false
end
section
section
variable{c:Cx}{dr:List (Nat×List A)}{w0:W0}{C0:Rd}{β0:List Nat}{s:S}{a:Act}{w:World}{E:Env}{o:Oper}
@[irreducible] def nB(np:Nat)(f:S->(Exit->S->Prop)->Prop)(s:S)(Q:Exit->S->Prop):Prop :=
 ∃(X:Type) (F:X->S) (φ:X->Prop) (μ:X->Nat),(∃x,Le np s (F x)/\φ x)/\∀x,φ x->f (F x) fun e s'=>match e with
  |.normal=>∃x',Le np s' (F x')/\φ x'/\μ x'<μ x
  |e=>Q e s'
def Cx.mute(c:Cx):Cx:=⟨c.P,c.T,c.ord,c.xs,c.np,fun _ _=>False⟩
def Cx.kill(c:Cx):Cx:=⟨c.P,c.T,c.ord,c.xs,c.np,fun ch s=>c.pan ch (jcL s)⟩
theorem Cx.ok.mute(h:c.ok):c.mute.ok:=⟨h.T,h.z,h.m⟩
theorem Cx.ok.kill(h:c.ok):c.kill.ok:=⟨h.T,h.z,h.m⟩
structure Cx.okN(c:Cx):Prop where
 ok:c.ok
 no:∀ch s,¬c.pan ch s
def xB:Code->Bool
 |.seq x y=>xB x&&xB y
 |.cond _ x y=>xB x&&xB y
 |.block _ x=>xB x
 |.loop _=>false
 |.scope x=>xB x
 |_=>true
abbrev AW:=S->(Exit->S->Prop)->Prop
def jeh(e:Exit)(s:S)(Q:Exit->S->Prop):Prop:=Q e s
def jlZ(_:S)(_:Exit->S->Prop):Prop:=False
@[irreducible] def joV(c:Cx)(l:List Oper)(s:S)(K:S->Prop):Prop :=
 ∀(dr:List (Nat×List A)) (w0:W0) (C0:Rd) (β0:List Nat) (a:Act) (w:World) (Q:Exit->Act->World->Prop),(∃n,wR n dr=true)->(∀ch s' a' w',c.pan ch s'->Inv dr w0 C0 β0 s' a' w'->Q (.panic ch) a' w') →
  Inv dr w0 C0 β0 s a w->(∀s' a' w',K s'->Inv dr w0 C0 β0 s' a' w'->Q .normal a' w')->wpList c.P l.toArray Q l a w
def jsw(c:Cx)(m:List Nat)(l:List Oper)(s:S)(K:S->Prop):Prop:=match m with
 |[k]=>match Nat.beq k 3000003 with
  |true=>joV c l s K
  |false=>bV c l l s K
 |_=>bV c l l s K
def cW(c:Cx)(id:Nat)(ops:Array Oper)(dr:Bool)(s:S)(Q:Exit->S->Prop):Prop :=
 match dr with
  |false=>jsw c (c.xs (Nat.add 3000000 id)) ops.toList s fun s'=>Q .normal s'
  |true=>match tS (c.xs id) s.bx.length with
   |true=>match Tr.isFlow (c.ord id) with
    |true=>jlN c.mute ops.toList s fun s'=>Q .normal s'
    |false=>match Tr.isFlowL (c.ord id) with
    |true=>je7 c.mute ops.toList s fun s'=>Q .normal s'
    |false=>match (c.ord id).many with
    |false=>jcc c.kill (xrB (c.xs id)) s.bx.length ops.toList (c.ord id) 0 s fun s'=>Q .normal s'
    |true=>fU (fun K=>jcc c.kill (xrB (c.xs id)) s.bx.length ops.toList (c.ord id) 0 s K) fun s'=>Q .normal s'
   |false=>False
def jun(y:AW)(Q:Exit->S->Prop)(e:Exit)(s':S):Prop:=match e with
 |.normal=>y s' Q
 |e=>Q e s'
def jri(x y:AW)(s:S)(Q:Exit->S->Prop):Prop:=x s (jun y Q)
def jeg(b:Operand)(x y:AW)(s:S)(Q:Exit->S->Prop):Prop:=match ev s b with
 |.v (.bool b)=>ifK b (x s Q) (y s Q)
 |_=>False
def jhV(id:Nat)(Q:Exit->S->Prop)(e:Exit)(s':S):Prop:=match e with
 |.exit i=>match Nat.beq i id with
  |true=>Q .normal s'
  |false=>Q (.exit i) s'
 |e=>Q e s'
def jlY(id:Nat)(x:AW)(s:S)(Q:Exit->S->Prop):Prop:=x s (jhV id Q)
def jnV(Q:Exit->S->Prop)(e:Exit)(s':S):Prop:=match e with
 |.goto _=>False
 |e=>Q e s'
def jm0(x:AW)(s:S)(Q:Exit->S->Prop):Prop:=x s (jnV Q)
noncomputable def sG(c:Cx)(x:Code):AW :=
 Code.rec (motive:=fun _=>AW) (jeh .normal) (fun id ops dr=>cW c id ops dr) (fun _ _ x y=>jri x y) (fun b _ _ x y=>jeg b x y) (fun id _ x=>jlY id x) (fun _ x=>nB c.np x)
  (fun _ _ _ _ _ _=>jlZ) (fun id=>jeh (.exit id)) (fun _ x=>jm0 x) (fun _=>jeh .normal) (fun _=>jlZ) (jeh .ret) (fun _=>jlZ) x
def kD(ord:Nat->Tr):Code->Bool
 |.region id ops true=>match Tr.isFlow (ord id) with
  |true=>sT ops
  |false=>match Tr.isFlowL (ord id) with
   |true=>sT ops&&jb1 ops.toList
   |false=>pO ops (ord id)
 |.seq x y=>kD ord x&&kD ord y
 |.cond _ x y=>kD ord x&&kD ord y
 |.block _ x=>kD ord x
 |.loop x=>kD ord x
 |.scope x=>kD ord x
 |_=>true
theorem jk2{p:Prop}{x y:Code}(h:p∨(xB x&&xB y)=true):p∨xB x=true:=h.imp id fun h=>by simp only[Bool.and_eq_true] at h;exact h.1
theorem jgB{p:Prop}{x y:Code}(h:p∨(xB x&&xB y)=true):p∨xB y=true:=h.imp id fun h=>by simp only[Bool.and_eq_true] at h;exact h.2
theorem nU(hc:c.ok)(hn:β0.length=c.np)(hdr:∃n,wR n dr=true):∀(x:Code) {s:S} {a:Act} {w:World} {q:Exit->S->Prop} {Q:Exit->Act->World->Prop},(wR c.np dr=true∨xB x=true)->(∀ch s' a' w',c.pan ch s'->Inv dr w0 C0 β0 s' a' w'->Q (.panic ch) a' w')->kD c.ord x=true->Inv dr w0 C0 β0 s a w->sG c x s q->(∀e s' a' w',q e s'->Inv dr w0 C0 β0 s' a' w'->Q e a' w')->x.wp c.P Q a w
 |.skip,s,a,w,q,Q,hl,hx,_,hi,h,hk=>wp_skip (hk _ _ _ _ h hi)
 |.region id ops drw,s,a,w,q,Q,hl,hx,ho,hi,h,hk=>by
  obtain⟨l⟩:=ops
  change cW c id l.toArray drw s q at h
  unfold cW at h
  cases drw with
  |false =>
   refine wp_region_lit ?_
   have h:jsw c (c.xs (Nat.add 3000000 id)) l s fun s'=>q .normal s':=h
   have hs:bV c l l s (fun s'=>q .normal s')->wpList c.P l.toArray Q l a w:=fun h=>jf9 hc hdr hx hi h fun s' a' w' h1 h2=>hk _ _ _ _ h1 h2
   unfold jsw at h;split at h
   ·split at h
    ·unfold joV at h
     exact h dr w0 C0 β0 a w Q hdr hx hi fun s' a' w' h1 h2=>hk _ _ _ _ h1 h2
    ·exact hs h
   ·exact hs h
  |true =>
   simp only at h
   split at h
   ·rename_i hxs;unfold kD at ho;split at h
    ·rename_i hfl;rw[hfl] at ho
     exact jpf (c:=c.mute) hc.mute (fun _ _ h=>h) hi ho h fun s' a' w' h1 h2=>hk _ _ _ _ h1 h2
    ·rename_i hfl;rw[hfl] at ho;split at h
     ·rename_i hfl2;rw[hfl2] at ho;simp only[Bool.and_eq_true] at ho
      exact jmM (c:=c.mute) hc.mute (fun _ _ h=>h) hdr hi ho.1 ho.2 h fun s' a' w' h1 h2=>hk _ _ _ _ h1 h2
     rename_i hfl2;rw[hfl2] at ho;split at h
     ·exact jo1 (c:=c.kill) hc.kill hdr (fun ch s' a' w' h1 h2=>hx _ _ _ _ h1 h2) hi hxs ho h fun s' a' w' h1 h2=>hk _ _ _ _ h1 h2
     ·unfold fU at h;obtain⟨φ,h,h'⟩:=h
      exact jo1 (c:=c.kill) hc.kill hdr (fun ch s' a' w' h1 h2=>hx _ _ _ _ h1 h2) hi hxs ho h fun s' a' w' h1 h2=>hk _ _ _ _ (h' _ h1) h2
   ·exact h.elim
 |.seq x y,s,a,w,q,Q,hl,hx,ho,hi,h,hk=>by
  unfold kD at ho;simp only[Bool.and_eq_true] at ho
  change sG c x s (jun (sG c y) q) at h
  refine wp_seq (nU hc hn hdr x (jk2 hl) (fun ch s' a' w' h1 h2=>hx ch s' a' w' h1 h2) ho.1 hi h fun e s' a' w' h1 h2=>?_)
  cases e with
  |normal=>exact nU hc hn hdr y (jgB hl) hx ho.2 h2 h1 hk
  |_=>exact hk _ _ _ _ h1 h2
 |.cond b x y,s,a,w,q,Q,hl,hx,ho,hi,h,hk=>by
  unfold kD at ho;simp only[Bool.and_eq_true] at ho
  change jeg b (sG c x) (sG c y) s q at h
  unfold jeg at h;split at h
  ·rename_i t hb;obtain⟨E,hp,ht,hd⟩:=hi;obtain⟨hv,-⟩:=kM ht hb;rw[ifK_iff] at h;exact wp_cond_split hv (fun e=>nU hc hn hdr x (jk2 hl) hx ho.1 ⟨E,hp,ht,hd⟩ (h.1 e) hk) (fun e=>nU hc hn hdr y (jgB hl) hx ho.2 ⟨E,hp,ht,hd⟩ (h.2 e) hk)
  ·exact h.elim
 |.block id x,s,a,w,q,Q,hl,hx,ho,hi,h,hk=>by
  unfold kD at ho
  change sG c x s (jhV id q) at h
  refine wp_block (nU hc hn hdr x hl (fun ch s' a' w' h1 h2=>hx ch s' a' w' h1 h2) ho hi h fun e s' a' w' h1 h2=>?_)
  cases e with
  |exit i =>
   unfold jhV at h1
   simp only at h1
   split at h1
   ·rename_i hb;have:=Nat.eq_of_beq_eq_true hb;show(if i=id then _ else _);rw[if_pos this];exact hk _ _ _ _ h1 h2
   ·rename_i hb;show(if i=id then _ else _);rw[if_neg (fun e=>by rw[e] at hb;simp at hb)];exact hk _ _ _ _ h1 h2
  |_=>exact hk _ _ _ _ h1 h2
 |.loop x,s,a,w,q,Q,hl,hx,ho,hi,h,hk=>by
  unfold kD at ho
  change nB c.np (sG c x) s q at h
  unfold nB at h;obtain⟨X,F,φ,μ,⟨x0,h1,h2⟩,hround⟩:=h;have hr:wR c.np dr=true:=hl.elim id (fun e=>by cases e);obtain⟨M,hM⟩:=jtN (p:=fun(z:Act×World) n=>∃x,φ x/\Inv dr w0 C0 β0 (F x) z.1 z.2/\μ x=n)
  refine wp_loop (fun a' w'=>∃x,φ x/\Inv dr w0 C0 β0 (F x) a' w') (fun a' w'=>M (a',w')) ⟨x0,h2,h1 dr w0 C0 β0 a w hr hn hi⟩ fun a' w' ⟨x1,h3,h4⟩=>?_
  obtain⟨⟨x2,h5,h6,h7⟩,-⟩:=hM (a',w') ⟨_,x1,h3,h4,rfl⟩
  refine nU hc hn hdr x (.inl hr) (fun ch s' a' w' h1 h2=>hx ch s' a' w' h1 h2) ho h6 (hround x2 h5) fun e s' a2 w2 h8 h9=>?_
  cases e with
  |normal =>
   obtain⟨x3,g1,g2,g3⟩:=h8;have g4:=g1 dr w0 C0 β0 a2 w2 hr hn h9;refine⟨⟨x3,g2,g4⟩,?_⟩;have:=(hM (a2,w2) ⟨_,x3,g2,g4,rfl⟩).2 (μ x3) ⟨x3,g2,g4,rfl⟩;show M (a2,w2)<M (a',w');omega
  |_=>exact hk _ _ _ _ h8 h9
 |.exit id,s,a,w,q,Q,hl,hx,_,hi,h,hk=>wp_exit (hk _ _ _ _ h hi)
 |.ret,s,a,w,q,Q,hl,hx,_,hi,h,hk=>wp_ret (hk _ _ _ _ h hi)
 |.label _,s,a,w,q,Q,hl,hx,_,hi,h,hk=>wp_label (hk _ _ _ _ h hi)
 |.rangeFunc ..,_,_,_,_,_,_,_,_,_,h,_=>h.elim
 |.scope x,s,a,w,q,Q,hl,hx,ho,hi,h,hk=>by
  unfold kD at ho
  change sG c x s (jnV q) at h
  refine wp_scope_straight (nU hc hn hdr x hl (fun ch s' a' w' h1 h2=>hx ch s' a' w' h1 h2) ho hi h fun e s' a' w' h1 h2=>?_)
  cases e with
  |goto l=>exact h1.elim
  |_=>exact hk _ _ _ _ h1 h2
 |.goto _,_,_,_,_,_,_,_,_,_,h,_=>h.elim
 |.refuse _,_,_,_,_,_,_,_,_,_,h,_=>h.elim
end
end
section
def jfP:Nat->(List A->Prop)->Prop
 |0,K=>K []
 |n+1,K=>jfP n fun r=>K (.dead::r)
theorem jcK:∀{n:Nat} {K:List A->Prop},jfP n K↔K (List.replicate n .dead)
 |0,K=>by simp[jfP]
 |n+1,K=>by simp[jfP,jcK (n:=n),List.replicate_succ]
def yM:List A->Nat->(List A->Prop)->Prop
 |[],n,K=>jfP n K
 |a::as,n,K=>yM as n fun r=>K (a::r)
theorem initK_iff:∀{as:List A} {n:Nat} {K:List A->Prop},yM as n K↔K (as++List.replicate n .dead)
 |[],n,K=>by simp[yM,jcK]
 |a::as,n,K=>by simp[yM,initK_iff (as:=as)]
theorem vA{E:Env}:∀(n:Nat) (v:Value),A.repL (List.replicate n .dead) E (List.replicate n v)
 |0,v=>by simp[A.repL]
 |n+1,v=>by
  rw[List.replicate_succ,List.replicate_succ];unfold A.repL;exact⟨_,_,rfl,A.rep_dead _ _,vA n v⟩
def upto:Nat->List Nat
 |0=>[]
 |n+1=>upto n++[n]
theorem sE:∀n,(upto n).length=n
 |0=>rfl
 |n+1=>by simp[upto,sE n]
theorem jc1:∀{n j i:Nat},(upto n)[j]?=some i->i=j/\j<n
 |0,j,i,h=>by simp[upto] at h
 |n+1,j,i,h=>by
  unfold upto at h;by_cases hj:j<n
  ·rw[List.getElem?_append_left (by rw[sE];exact hj)] at h;have:=jc1 h;omega
  ·rw[List.getElem?_append_right (by rw[sE];omega),sE] at h;have h1:=(List.getElem?_eq_some_iff.1 h).1
   have e:j-n=0:=by simp at h1;omega
   rw[e] at h;simp at h;omega
def jiO(T:List (Nat×Te))(s:S)(r:ResultVar)(K:A->Prop):Prop :=
 match r with
 |.tmp t=>K (s.t.getD t .dead)
 |.cell t ty=>m9 T (fun _=>false) s ty (.tmp t) K
def jiP(T:List (Nat×Te))(s:S)(rv:List ResultVar)(K:A->Prop):Prop :=
 match rv with
 |[]=>K (.tup [])
 |[r]=>jiO T s r K
 |[r1,r2]=>jiO T s r1 fun x=>jiO T s r2 fun y=>K (.tup [x,y])
 |[r1,r2,r3]=>jiO T s r1 fun x=>jiO T s r2 fun y=>jiO T s r3 fun z=>K (.tup [x,y,z])
 |_=>False
def uA:List (List A)->List Nat
 |[]=>[]
 |a::r=>o6 a++uA r
def cI{α:Type}:Nat->List α->List α
 |0,_=>[]
 |_+1,[]=>[]
 |n+1,a::r=>a::cI n r
theorem lQ{α:Type}:∀(n:Nat) (l:List α),cI n l=l.take n
 |0,_=>by simp[cI]
 |_+1,[]=>by simp[cI]
 |n+1,a::r=>by simp[cI,lQ n r]
def jiQ(c:Cx)(rv:List ResultVar)(post:List (List A)->A->Prop)(s:S):Prop :=
 jiP c.T s rv fun r=>match nP (upto c.np) (jA s.rw (bE r++uA (cI c.np s.bx))) (cI c.np s.bx) with
  |some outs=>match ren (upto c.np) (jA s.rw (bE r++uA (cI c.np s.bx))) r with
   |some r'=>post outs r'
   |none=>False
  |none=>False
def ji5(c:Cx)(rv:List ResultVar)(post:List (List A)->A->Prop)(e:Exit)(s:S):Prop :=
 match e with
 |.ret=>jiQ c rv post s
 |.normal=>jiQ c rv post s
 |_=>False
section
variable{c:Cx}{w0:W0}{C0:Rd}{β0:List Nat}{s:S}{a:Act}{w:World}{E:Env}
def jiU(tmps:Array Value)(r:ResultVar):Sem Value:=match r with
 |.tmp t=>pure (tmps.getD t undef)
 |.cell a t=>do loadVar t (<- asAddr (tmps.getD a undef))
theorem repL_cons{x:A}{y:Value}{l:List A}{us:List Value}(h:x.rep E y)(k:A.repL l E us):A.repL (x::l) E (y::us):=by
 unfold A.repL;exact⟨y,us,rfl,h,k⟩
theorem mM{r:ResultVar}{K:A->Prop}(hc:c.ok)(hp:Hp w0 C0 β0 s.bx s.rw w E)(ht:A.repL s.t E a.tmps.toList)(h:jiO c.T s r K):∃x y,K x/\x.rep E y/\(jiU a.tmps r).run c.P w=.ok y w:=by
 cases r with
 |tmp t =>
  refine⟨_,a.tmps.getD t undef,h,?_,by simp[jiU]⟩;have:=A.repL_getD ht t undef;simpa using this
 |cell t ty =>
  obtain⟨x,y,h1,h2,h3⟩:=jjW (o:=⟨none,.load ty (.tmp t),ty, "",#[],none⟩) hc.T hp ht rfl h;refine⟨x,y,h1,h2,?_⟩;have e:=h3 w (Same.refl _ _ _);have hx:=jM ht (.tmp t);simp only[execOp,Act.eval,Instr.loadAt] at e
  cases hv:a.tmps.getD t undef with
  |pointer p =>
   rw[hv] at e
   cases p with
   |none=>simp[Instr.sureAddr,stuck,Sem.run,Result.andThen] at e
   |some ad =>
    simp only[jiU,hv,asAddr];simp[Instr.sureAddr,Result.andThen] at e ⊢;split at e
    ·rename_i v w' hrun;cases e;exact hrun
    ·cases e
  |_=>rw[hv] at e;simp[Instr.sureAddr,stuck,Sem.run,Result.andThen] at e
theorem r5{fn:Func}{K:A->Prop}(hc:c.ok)(hp:Hp w0 C0 β0 s.bx s.rw w E)(ht:A.repL s.t E a.tmps.toList)(h:jiP c.T s fn.results.toList K):∃x y,K x/\x.rep E y/\(results fn a.tmps).run c.P w=.ok y w:=by
 have he:results fn a.tmps=(do let vs <- fn.results.mapM (jiU a.tmps);pure (if h:vs.size=1 then vs[0] else .tuple vs)):=by
  unfold results
  congr 1
 unfold jiP at h;split at h
 ·rename_i hr;have hr':fn.results = #[]:=Array.toList_eq_nil_iff.1 hr;exact⟨_,.tuple #[],h,by unfold A.rep;exact⟨#[],rfl,by simp[A.repL]⟩,by rw[he,hr'];simp⟩
 ·rename_i r hr
  have hr':fn.results = #[r]:=by rw[<- hr]
  obtain⟨x,y,h1,h2,h3⟩:=mM hc hp ht h;exact⟨x,y,h1,h2,by rw[he,hr'];simp[h3,Result.andThen]⟩
 ·rename_i r1 r2 hr
  have hr':fn.results = #[r1,r2]:=by rw[<- hr]
  obtain⟨x,y,h1,h2,h3⟩:=mM hc hp ht h;obtain⟨x2,y2,k1,k2,k3⟩:=mM hc hp ht h1;refine⟨_,.tuple #[y,y2],k1,?_,by rw[he,hr'];simp[h3,k3,Result.andThen]⟩;unfold A.rep;exact⟨_,rfl,repL_cons h2 (repL_cons k2 (by simp[A.repL]))⟩
 ·rename_i r1 r2 r3 hr
  have hr':fn.results = #[r1,r2,r3]:=by rw[<- hr]
  obtain⟨x,y,h1,h2,h3⟩:=mM hc hp ht h;obtain⟨x2,y2,k1,k2,k3⟩:=mM hc hp ht h1;obtain⟨x3,y3,g1,g2,g3⟩:=mM hc hp ht k1;refine⟨_,.tuple #[y,y2,y3],g1,?_,by rw[he,hr'];simp[h3,k3,g3,Result.andThen]⟩;unfold A.rep;exact⟨_,rfl,repL_cons h2 (repL_cons k2 (repL_cons g2 (by simp[A.repL])))⟩
 ·exact h.elim
theorem nC{P:Program}{f:Nat}{fn:Func}{x:Code}(hf:P.funcs[f]?=some fn)(hb:fn.body=some x)(hname:(fn.name == "runtime.NumGoroutine")=false) (vs:Array Value) (w:World):(callFunc f vs).run P w=.ok (.enter f vs) w:=by
 have h3:¬fn.name = "runtime.NumGoroutine" := by simpa using hname
 simp[callFunc,program,Sem.run,hf,h3,hb,Result.andThen]
mutual
def yH(g:Nat)(rw:List Row):A->Option A
 |.dead=>some .dead
 |.v x=>some (.v x)
 |.sl k n cs=>some (.sl k n cs)
 |.pp cs=>some (.pp cs)
 |.gp g o=>some (.gp g o)
 |.adr T=>some (.adr T)
 |.err=>some .err
 |.num=>some .num
 |.own h=>match Nat.beq g h with
  |true=>some (.own 0)
  |false=>match rw[h]? with
   |some (.pub k n cs)=>some (.sl k n cs)
   |_=>none
 |.orow _ _=>none
 |.box _ _=>none
 |.clo f caps=>match cG g rw caps with
  |some l=>some (.clo f l)
  |none=>none
 |.bm f caps=>match cG g rw caps with
  |some l=>some (.bm f l)
  |none=>none
 |.mp ks vs=>some (.mp ks vs)
 |.agg l=>match cG g rw l with
  |some l=>some (.agg l)
  |none=>none
 |.tup l=>match cG g rw l with
  |some l=>some (.tup l)
  |none=>none
def cG(g:Nat)(rw:List Row):List A->Option (List A)
 |[]=>some []
 |a::r=>match yH g rw a with
  |some a=>match cG g rw r with
   |some r=>some (a::r)
   |none=>none
  |none=>none
end
mutual
theorem jbv{bx:List (List A)}{rw:List Row}{g:Nat}{z:Value}(hp:Hp w0 C0 β0 bx rw w E)(hg:E.ρ[g]?=some z):∀(a:A) {a':A} {y:Value},yH g rw a=some a'->a.rep E y->a'.rep ⟨E.C,[],[z]⟩ y
 |.dead,a',y,h,_=>by simp[yH] at h;subst h;exact A.rep_dead _ _
 |.v x,a',y,h,hr=>by simp[yH] at h;subst h;unfold A.rep at hr ⊢;exact hr
 |.sl k n cs,a',y,h,hr=>by simp[yH] at h;subst h;unfold A.rep at hr ⊢;exact hr
 |.pp cs,a',y,h,hr=>by simp[yH] at h;subst h;unfold A.rep at hr ⊢;exact hr
 |.own j,a',y,h,hr=>by
  unfold yH at h;split at h
  ·rename_i hb;cases h;have:=Nat.eq_of_beq_eq_true hb;subst this;unfold A.rep at hr ⊢;rw[hg] at hr;simpa using hr
  ·split at h
   ·rename_i k n cs hj;cases h;unfold A.rep at hr;have:=hp.rws j _ y hj hr;have h2:(A.sl k n cs).rep E y:=this;unfold A.rep at h2 ⊢;exact h2
   ·cases h
 |.orow _ _,a',y,h,_=>by simp[yH] at h
 |.box _ _,a',y,h,_=>by simp[yH] at h
 |.gp _ _,a',y,h,hr=>by unfold yH at h;cases h;unfold A.rep at hr ⊢;exact hr
 |.adr _,a',y,h,hr=>by unfold A.rep at hr;exact hr.elim
 |.err,a',y,h,hr=>by unfold yH at h;cases h;unfold A.rep at hr ⊢;exact hr
 |.num,a',y,h,hr=>by unfold yH at h;cases h;unfold A.rep at hr ⊢;exact hr
 |.clo f caps,a',y,h,hr=>by
  unfold yH at h;split at h
  ·rename_i l hl;cases h;unfold A.rep at hr ⊢;obtain⟨us,h1,h2⟩:=hr;exact⟨us,h1,nQ hp hg caps hl h2⟩
  ·cases h
 |.bm f caps,a',y,h,hr=>by
  unfold yH at h;split at h
  ·rename_i l hl;cases h;unfold A.rep at hr ⊢;obtain⟨us,h1,h2⟩:=hr;exact⟨us,h1,nQ hp hg caps hl h2⟩
  ·cases h
 |.mp _ _,a',y,h,hr=>by unfold yH at h;cases h;unfold A.rep at hr ⊢;exact hr
 |.agg l,a',y,h,hr=>by
  unfold yH at h;split at h
  ·rename_i l' hl;cases h;unfold A.rep at hr ⊢;obtain⟨us,h1,h2⟩:=hr;exact⟨us,h1,A.repC_mk (nQ hp hg l hl (A.repC_L h2)) (A.repC_one h2)⟩
  ·cases h
 |.tup l,a',y,h,hr=>by
  unfold yH at h;split at h
  ·rename_i l' hl;cases h;unfold A.rep at hr ⊢;obtain⟨us,h1,h2⟩:=hr;exact⟨us,h1,nQ hp hg l hl h2⟩
  ·cases h
theorem nQ{bx:List (List A)}{rw:List Row}{g:Nat}{z:Value}(hp:Hp w0 C0 β0 bx rw w E)(hg:E.ρ[g]?=some z):∀(l:List A) {l':List A} {us:List Value},cG g rw l=some l'->A.repL l E us->A.repL l' ⟨E.C,[],[z]⟩ us
 |[],l',us,h,hr=>by simp[cG] at h;subst h;unfold A.repL at hr ⊢;exact hr
 |a::r,l',us,h,hr=>by
  unfold cG at h;split at h
  ·rename_i a1 ha;split at h
   ·rename_i r1 hr1;cases h;unfold A.repL at hr ⊢;obtain⟨u,us',rfl,h1,h2⟩:=hr;exact⟨u,us',rfl,jbv hp hg a ha h1,nQ hp hg r hr1 h2⟩
   ·cases h
  ·cases h
end
def jci(g:Nat):List Nat->List Nat
 |[]=>[]
 |i::r=>match Nat.beq g i with|true=>jci g r|false=>i::jci g r
def jpL(c:Cx)(g:Nat)(rv:List ResultVar)(post:Nat->Nat->Nat->List A->A->Prop)(s:S):Prop :=
 jiP c.T s rv fun r=>match (jA s.rw (jci g (bE r)))[g]? with
  |some (.live e k n cs)=>match yH g (jA s.rw (jci g (bE r))) r with
   |some r'=>post e k n cs r'
   |none=>False
  |_=>False
def jrH(c:Cx)(rv:List ResultVar)(post:Nat->Nat->Nat->List A->A->Prop)(e:Exit)(s:S):Prop :=
 match e with
 |.ret=>∃g,jpL c g rv post s
 |.normal=>∃g,jpL c g rv post s
 |_=>False
@[irreducible] def OkD(dr:List (Nat×List A))(c:Cx)(x:Code)(s:S)(q:Exit->S->Prop):Prop:=∀(w0:W0) (C0:Rd) (β0:List Nat) (a:Act) (w:World) (Q:Exit->Act->World->Prop),β0.length=c.np->Inv dr w0 C0 β0 s a w →
 (∀ch s' a' w',c.pan ch s'->Inv dr w0 C0 β0 s' a' w'->Q (.panic ch) a' w')->(∀e s' a' w',q e s'->Inv dr w0 C0 β0 s' a' w'->Q e a' w')->x.wp c.P Q a w
abbrev Ok:=OkD []
theorem jiA{dr:List (Nat×List A)}{x:Code}{q:Exit->S->Prop}(hc:c.ok)(hdr:∃n,wR n dr=true)(hl:wR c.np dr=true∨xB x=true)(ho:kD c.ord x=true)(h:sG c x s q):OkD dr c x s q:=by
 unfold OkD
 exact fun w0 C0 β0 a w Q hn hi hx hk=>nU hc hn hdr x hl hx ho hi h hk
theorem z6{x:Code}{q:Exit->S->Prop}(hc:c.ok)(ho:kD c.ord x=true)(h:sG c x s q):Ok c x s q:=jiA hc ⟨0,rfl⟩ (.inl rfl) ho h
theorem jqN{x:Code}{s':S}{q:Exit->S->Prop}(h:Le c.np s s')(k:Ok c x s' q):Ok c x s q:=by
 unfold Ok OkD at k ⊢
 exact fun w0 C0 β0 a w Q hn hi hx hk=>k w0 C0 β0 a w Q hn (h _ w0 C0 β0 a w rfl hn hi) hx hk
def okQ(c:Cx)(y:Code)(q:Exit->S->Prop)(e:Exit)(s':S):Prop:=match e with
 |.normal=>Ok c y s' q
 |e=>q e s'
def jtU(dr:List (Nat×List A))(c:Cx)(y:Code)(q:Exit->S->Prop)(e:Exit)(s':S):Prop:=match e with
 |.normal=>OkD dr c y s' q
 |e=>q e s'
theorem jpw{dr:List (Nat×List A)}{x y:Code}{q:Exit->S->Prop}(h:OkD dr c x s (jtU dr c y q)):OkD dr c (.seq x y) s q:=by
 unfold OkD at h ⊢;intro w0 C0 β0 a w Q hn hi hx hk;refine wp_seq (h w0 C0 β0 a w _ hn hi (fun ch s' a' w' h1 h2=>hx ch s' a' w' h1 h2) fun e s' a' w' h1 h2=>?_)
 cases e with
 |normal =>
  have h1:OkD dr c y s' q:=h1;unfold OkD at h1;exact h1 w0 C0 β0 a' w' Q hn h2 hx hk
 |_=>exact hk _ _ _ _ h1 h2
theorem jsh{x y:Code}{q:Exit->S->Prop}(h:Ok c x s (okQ c y q)):Ok c (.seq x y) s q:=jpw (by
 have e:okQ c y q=jtU [] c y q:=by
  funext e s'
  cases e <;> rfl
 rw[<- e];exact h)
theorem yO{x y:Code}{q:Exit->S->Prop}(hc:c.ok)(ho:kD c.ord x=true)(h:sG c x s (okQ c y q)):Ok c (.seq x y) s q:=jsh (z6 hc ho h)
theorem jib{fn:Func}{post:List (List A)->A->Prop}{w w':World}{C:Rd}{β:List Nat}{s':S}{a':Act}(hc:c.ok)(h1:Sub C (kQ w))(hnp:β.length=c.np)(hr:jiQ c fn.results.toList post s')(hi:Inv [] (.of w) C β s' a' w') :
  a'.defers=[]/\∃v,(results fn a'.tmps).run c.P w'=.ok v w'/\∃outs r v',Ending.returned v=.returned v'/\post outs r/\Keeps β w w'/\outs.length=β.length ∧
   (∀(i b:Nat) (cs:List A),β[i]?=some b->outs[i]?=some cs->boxAt w' ⟨zA C w w',β,[]⟩ b cs)/\r.rep ⟨zA C w w',β,[]⟩ v':=by
 obtain⟨E,hp,ht,hd⟩:=hi;obtain⟨r,v,g1,g2,g3⟩:=r5 (fn:=fn) hc hp ht hr;refine⟨hd,v,g3,?_⟩;split at g1
 ·rename_i outs houts;split at g1
  ·rename_i r' hr';obtain⟨C1,hp1,le1⟩:=hp.pubs (bE r++uA (cI c.np s'.bx));obtain⟨β',hβ,hβ'⟩:=hp.bp
   have hβl:β.length<=E.β.length:=by rw[hβ];simp
   have hget:∀i:Nat,i<β.length->E.β[i]?=β[i]?:=fun i hi=>by rw[hβ,List.getElem?_append_left hi]
   have hY:yP ⟨C1,E.β,E.ρ⟩ (upto c.np) β:=fun j i hj=>by
    obtain⟨rfl,hi⟩:=jc1 hj
    have:i<β.length:=by rw[hnp];exact hi
    exact⟨β[i],by simp[this],by rw[hget i this];simp[this]⟩
   have lep:(⟨C1,β,[]⟩:Env).le ⟨zA C w w',β,[]⟩:=⟨fun ad u hc=>by
    show zA C w w' ad=some u;unfold zA;rcases hp1.fresh0 ad u hc with h7|h7
    ·rw[if_pos (qI w ad (h1 ad u h7))];exact h7
    ·rw[if_neg (by omega)];exact hp1.sub ad u hc,fun _ _ h=>h,fun _ _ h=>h⟩
   obtain⟨k1,k2⟩:=tG houts;have hbl:=hp.bl;refine⟨outs,r',v,rfl,g1,hp.keep0,by rw[k1,lQ,List.length_take];omega,fun i b cs h7 h8=>?_,A.rep.mono _ lep (ja2 hp1 hY r hr' (A.rep.mono _ le1 g2))⟩;obtain⟨c0,h9,h10⟩:=k2 i cs h8;have hi:=(List.getElem?_eq_some_iff.1 h7).1;rw[lQ,List.getElem?_take,if_pos (by omega)] at h9;obtain⟨T',arr,q1,q2⟩:=hp1.bxs i b c0 (by rw[<- h7];exact hget i hi) h9;exact⟨T',arr,q1,(q2.ren hp1 hY h10).mono lep⟩
  ·exact g1.elim
 ·exact g1.elim
theorem lN{f:Nat}{fn:Func}{x:Code}{ins:List (List A)}{args:List A}{post:List (List A)->A->Prop}{pn:List PanicEntry->Prop}(hc:c.ok)(hq:∀ch s,c.pan ch s->pn ch)(hf:c.P.funcs[f]?=some fn)(hb:fn.body=some x)(hname:(fn.name == "runtime.NumGoroutine")=false)
  (hn:ins.length=c.np) (h:nN args->yM args (fn.ntmps-args.length) fun t=>Ok c x ⟨t,ins,[]⟩ (ji5 c fn.results.toList post)):SpecP c.P f ins args post pn:=by
 refine⟨nC hf hb hname,fun w C β vals h0 h1 h2 h3 h4 h5 h6=>?_⟩;have hl:=A.repL_len h6;refine calls_of_wp hf hb ?_;have hinit:=initK_iff.1 (h (kZ _ h6))
 have hb0:∀b∈β,b<w.heap.size:=fun b hb=>by
  obtain⟨i,hi⟩:=List.mem_iff_getElem?.1 hb
  have hi':i<ins.length:=by rw[h4];exact(List.getElem?_eq_some_iff.1 hi).1
  exact(h5 i b ins[i] hi (by simp[hi'])).lt
 have hinv:Inv [] (.of w) C β ⟨args++List.replicate (fn.ntmps-args.length) .dead,ins,[]⟩ { tmps:=vals.toArray++Array.replicate (fn.ntmps-vals.toArray.size) undef,defers:=[] } w:=by
  refine⟨⟨C,β,[]⟩,⟨h1,Sub.refl _,fun _ _ hc=>.inl hc,⟨[],by simp,by simp⟩,h2,h3,h4,h5,rfl,fun g r y hg=>by simp at hg,fun g e k n cs y b hg=>by simp at hg,fun g e k n cs y h' e' k' n' cs' z b _ hg=>by simp at hg,fun g y hg=>by simp at hg,Keeps.refl _ _,jg5 h0⟩,?_,rfl⟩
  have:(vals.toArray++Array.replicate (fn.ntmps-vals.toArray.size) undef).toList=vals++List.replicate (fn.ntmps-args.length) undef:=by simp[hl]
  rw[this];exact A.repL_append h6 (vA _ _)
 unfold Ok OkD at hinit;refine hinit (.of w) C β _ w _ (by rw[<- h4,hn]) hinv (fun ch s' a' w' hpan ⟨E,hp,ht,hd⟩=>⟨hd,.inr ⟨ch,(List.range β.length).map fun i=>(s'.bx.getD i []).length,rfl,hq ch s' hpan,hp.keep0,by simp,fun i b n h7 h8=>?_⟩⟩) ?_
 ·obtain⟨β',hβ,hβ'⟩:=hp.bp;have hi:=(List.getElem?_eq_some_iff.1 h7).1;have hbl:=hp.bl
  have hβl:β.length<=E.β.length:=by rw[hβ];simp
  have hib:i<s'.bx.length:=by omega
  rw[List.getElem?_map,List.getElem?_range hi] at h8;simp only[Option.map_some,Option.some.injEq] at h8;subst h8
  have e1:E.β[i]?=some b:=by rw[hβ,List.getElem?_append_left hi];exact h7
  obtain⟨T',arr,q1,q2⟩:=hp.bxs i b _ e1 (List.getElem?_eq_getElem hib)
  have e2:(s'.bx.getD i []).length=s'.bx[i].length:=by simp[List.getD_eq_getElem?_getD,hib]
  refine⟨T',arr,q1,?_⟩;rw[e2];have hl2:=q2.len;have q2:=q2.1;refine .mk' (A.repC_mk ?_ (A.repC_one q2));have:=iN (E:=⟨C,β,[]⟩) (l:=s'.bx[i]) hl2;rw[List.map_const'] at this;exact this
 have fin:=fun s' a' w' hr hi=>jib (w:=w) (C:=C) (β:=β) (s':=s') (a':=a') (w':=w') (fn:=fn) (post:=post) hc h1 (by rw[<- h4,hn]) hr hi
 intro e s' a' w' hq hi
 cases e with
 |normal=>obtain⟨k1,v,k2,k3⟩:=fin s' a' w' hq hi;exact⟨k1,v,k2,.inl k3⟩
 |ret=>obtain⟨k1,v,k2,k3⟩:=fin s' a' w' hq hi;exact⟨k1,v,k2,.inl k3⟩
 |_=>exact hq.elim
theorem SpecP.toS{P:Program}{f:Nat}{ins:List (List A)}{args:List A}{post:List (List A)->A->Prop}(h:SpecP P f ins args post fun _=>False):Spec P f ins args post :=
 ⟨h.1,fun w C β vals h0 h1 h2 h3 h4 h5 h6=>(h.2 w C β vals h0 h1 h2 h3 h4 h5 h6).mono fun e w' hh=>hh.elim id fun ⟨_,_,_,h,_⟩=>h.elim⟩
theorem bM{f:Nat}{fn:Func}{x:Code}{ins:List (List A)}{args:List A}{post:List (List A)->A->Prop}(hc:c.ok)(hq:∀ch s,¬c.pan ch s)(hf:c.P.funcs[f]?=some fn)(hb:fn.body=some x)(hname:(fn.name == "runtime.NumGoroutine")=false)
  (hn:ins.length=c.np) (h:nN args->yM args (fn.ntmps-args.length) fun t=>Ok c x ⟨t,ins,[]⟩ (ji5 c fn.results.toList post)):Spec c.P f ins args post :=
 (lN hc (fun ch s k=>hq ch s k) hf hb hname hn h).toS
theorem jhc{f:Nat}{fn:Func}{x:Code}{args:List A}{post:Nat->Nat->Nat->List A->A->Prop}(hc:c.ok)(hq:∀ch s,¬c.pan ch s)(hf:c.P.funcs[f]?=some fn)(hb:fn.body=some x)(hname:(fn.name == "runtime.NumGoroutine")=false)
  (hn:c.np=0) (h:nN args->yM args (fn.ntmps-args.length) fun t=>Ok c x ⟨t,[],[]⟩ (jrH c fn.results.toList post)):jad c.P f args post:=by
 refine⟨nC hf hb hname,fun w C vals h0 h1 h6=>?_⟩;have hl:=A.repL_len h6;refine calls_of_wp hf hb ?_;have hinit:=initK_iff.1 (h (kZ _ h6))
 have hinv:Inv [] (.of w) C [] ⟨args++List.replicate (fn.ntmps-args.length) .dead,[],[]⟩ { tmps:=vals.toArray++Array.replicate (fn.ntmps-vals.toArray.size) undef,defers:=[] } w:=by
  refine⟨⟨C,[],[]⟩,⟨h1,Sub.refl _,fun _ _ hc=>.inl hc,⟨[],by simp,by simp⟩,List.nodup_nil,by simp,rfl,fun i b cs hi=>by simp at hi,rfl,fun g r y hg=>by simp at hg,fun g e k n cs y b hg=>by simp at hg,fun g e k n cs y h' e' k' n' cs' z b _ hg=>by simp at hg,fun g y hg=>by simp at hg,Keeps.refl _ _,jg5 h0⟩,?_,rfl⟩
  have:(vals.toArray++Array.replicate (fn.ntmps-vals.toArray.size) undef).toList=vals++List.replicate (fn.ntmps-args.length) undef:=by simp[hl]
  rw[this];exact A.repL_append h6 (vA _ _)
 unfold Ok OkD at hinit;refine hinit (.of w) C [] _ w _ (by rw[hn];rfl) hinv (fun ch s' _ _ h _=>absurd h (hq ch s')) ?_;have fin:∀(s':S) (a':Act) (w':World),(∃g,jpL c g fn.results.toList post s')->Inv [] (.of w) C [] s' a' w'->a'.defers=[]/\∃v,(results fn a'.tmps).run c.P w'=.ok v w'/\∃(et k n:Nat) (cs:List A) (r:A) (v' y:Value) (xs:List Value) (C':Rd),Ending.returned v=.returned v'/\post et k n cs r/\Keeps [] w w'/\Sub C C'/\Sub C' (kQ w') ∧
   (∀ad u,C' ad=some u->C ad=some u∨w.heap.size<=ad.block)/\(∀b,blk y=some b->(∀o sp,C' ⟨b,o,sp⟩=none)/\w.heap.size<=b)/\owR w' et k y n xs/\A.repC cs ⟨C',[],[]⟩ xs/\r.rep ⟨C',[],[y]⟩ v':=fun s' a' w' ⟨g,hr⟩ ⟨E,hp,ht,hd⟩=>by
  unfold jpL at hr;obtain⟨r,v,g1,g2,g3⟩:=r5 (fn:=fn) hc hp ht hr;refine⟨hd,v,g3,?_⟩;obtain⟨C1,hp1,le1⟩:=hp.pubs (jci g (bE r));split at g1
  ·rename_i e k n cs hg;split at g1
   ·rename_i r' hr';have hgl:=(List.getElem?_eq_some_iff.1 hg).1
    obtain⟨y,hy⟩:∃y,E.ρ[g]?=some y:=⟨_,List.getElem?_eq_getElem (by rw[show E.ρ.length=(jA s'.rw (jci g (bE r))).length from hp1.rl.symm];exact hgl)⟩
    obtain⟨xs,⟨k1,kf⟩,k2⟩:=hp1.rws g _ y hg hy;exact⟨e,k,n,cs,r',v,y,xs,C1,rfl,g1,hp1.keep0,hp1.base,hp1.sub,hp1.fresh0,fun b hb=>⟨(hp1.rC g e k n cs y b hg hy hb).2,W0.fr_of.1 (kf b hb)⟩,k1,k2,jbv (E:=⟨C1,E.β,E.ρ⟩) hp1 hy r hr' (A.rep.mono _ le1 g2)⟩
   ·exact g1.elim
  ·exact g1.elim
 intro e s' a' w' hq hi
 cases e with
 |normal=>exact fin s' a' w' hq hi
 |ret=>exact fin s' a' w' hq hi
 |_=>exact hq.elim
theorem jo5{f:Nat}{fn:Func}{x:Code}{args:List A}{post:Nat->Nat->Nat->List A->A->Prop}(hc:c.ok)(hq:∀ch s,¬c.pan ch s)(hf:c.P.funcs[f]?=some fn)(hb:fn.body=some x)(hname:(fn.name == "runtime.NumGoroutine")=false)
  (hn:c.np=0) (hord:kD c.ord x=true) (h:nN args->yM args (fn.ntmps-args.length) fun t=>sG c x ⟨t,[],[]⟩ (jrH c fn.results.toList post)):jad c.P f args post :=
 jhc hc hq hf hb hname hn fun ho=>initK_iff.2 (z6 hc hord (initK_iff.1 (h ho)))
theorem vT{f:Nat}{fn:Func}{x:Code}{ins:List (List A)}{args:List A}{post:List (List A)->A->Prop}{pn:List PanicEntry->Prop}(hc:c.ok)(hq:∀ch s,c.pan ch s->pn ch)(hf:c.P.funcs[f]?=some fn)(hb:fn.body=some x)(hname:(fn.name == "runtime.NumGoroutine")=false)
  (hn:ins.length=c.np) (hord:kD c.ord x=true) (h:nN args->yM args (fn.ntmps-args.length) fun t=>sG c x ⟨t,ins,[]⟩ (ji5 c fn.results.toList post)):SpecP c.P f ins args post pn :=
 lN hc hq hf hb hname hn fun ho=>initK_iff.2 (z6 hc hord (initK_iff.1 (h ho)))
theorem jpW{f:Nat}{fn:Func}{x:Code}{ins:List (List A)}{args:List A}{post:List (List A)->A->Prop}(hc:c.ok)(hq:∀ch s,¬c.pan ch s)(hf:c.P.funcs[f]?=some fn)(hb:fn.body=some x)(hname:(fn.name == "runtime.NumGoroutine")=false)
  (hn:ins.length=c.np) (hord:kD c.ord x=true) (h:nN args->yM args (fn.ntmps-args.length) fun t=>sG c x ⟨t,ins,[]⟩ (ji5 c fn.results.toList post)):Spec c.P f ins args post :=
 bM hc hq hf hb hname hn fun ho=>initK_iff.2 (z6 hc hord (initK_iff.1 (h ho)))
end
end
section
section
variable{P:Program}{pan:List PanicEntry->S->Prop}{Xr:Nat->Bool}{f:Nat}{args args':List A}{s:S}{K:A->S->Prop}{post:List (List A)->A->Prop}{ins:List (List A)}
theorem jcH(ids:List Nat)(h2:zC [] (jA s.rw ids) args=some args')(hs:nN args'->Spec P f [] args' post)
  (hk:∀r,post [] r->zV (back [] r) fun r'=>qA (jA s.rw ids) fun rw'=>aH s rw' (K r')):kB P pan Xr f args s K:=by
 unfold kB;refine .inl ⟨[],ids,[],args',post,List.nodup_nil,by simp,by simp,rfl,h2,hs,fun outs r hp hl=>?_⟩;obtain rfl:outs=[]:=List.eq_nil_of_length_eq_zero (by simpa using hl);have:=hk r hp;rw[force_iff,qR,kW] at this;unfold iC;show zV (back [] r) _;rw[force_iff,qR,bQ];exact this
theorem jqx(g:Nat)(ids:List Nat){postF:Nat->Nat->Nat->List A->A->Prop}(hg:s.rw.length=g)(h2:zC [] (jA s.rw ids) args=some args')(hs:nN args'->jad P f args' postF)
  (hk:∀e k n cs r,postF e k n cs r->zV (vI g r) fun r'=>qA (jA s.rw ids++[.live e k n cs]) fun rw'=>aH s rw' (K r')):kB P pan Xr f args s K:=by
 unfold kB;subst hg;exact .inr (.inl ⟨ids,args',postF,h2,hs,hk⟩)
theorem jju(ids:List Nat)(h2:lA (jA s.rw ids) s.bx args=some args')(hs:nN args'->Spec P f [] args' post)(hk:∀r,post [] r->∃x,r=.v x/\K (.v x) s):kB P pan Xr f args s K:=by
 unfold kB;exact .inr (.inr (.inl ⟨ids,args',post,h2,hs,hk⟩))
theorem cZ(i:Nat)(ids:List Nat){c0 c1:List A}(hX:Xr i=true)(hi:s.bx[i]?=some c0)(h1:zC [i] (jA s.rw ids) c0=some c1)(h2:zC [i] (jA s.rw ids) args=some args')(hs:nN args'->Spec P f [c1] args' post)
  (hk:∀o r,post [o] r->iC [i] s.bx [i] [o] fun bx'=>zV (back [i] r) fun r'=>qA (jA s.rw ids) fun rw'=>kT s bx' rw' (K r')):kB P pan Xr f args s K:=by
 unfold kB;left;have hil:=(List.getElem?_eq_some_iff.1 hi).1;refine⟨[i],ids,[c1],args',post,by simp,by simpa using hX,by simpa using hil,?_,h2,hs,fun outs r hp hl=>?_⟩
 ·have:s.bx.getD i []=c0:=by simp[List.getD_eq_getElem?_getD,hi]
  simp only[List.map_cons,List.map_nil,this,nP,h1]
 ·obtain⟨o,rfl⟩:∃o,outs=[o]:=List.length_eq_one_iff.1 (by simpa using hl);exact hk o r hp
theorem jrq(i:Nat)(ids:List Nat){c0 c1:List A}{pn:List PanicEntry->Prop}(hX:Xr i=true)(hi:s.bx[i]?=some c0)(h1:zC [i] (jA s.rw ids) c0=some c1)(h2:zC [i] (jA s.rw ids) args=some args')(hs:nN args'->SpecP P f [c1] args' post pn)
  (hpn:∀ch bx',pn ch->pan ch ⟨s.t,bx',jA s.rw ids⟩)
  (hk:∀o r,post [o] r->iC [i] s.bx [i] [o] fun bx'=>zV (back [i] r) fun r'=>qA (jA s.rw ids) fun rw'=>kT s bx' rw' (K r')):kB P pan Xr f args s K:=by
 unfold kB
 right;right;right;left
 have hil:=(List.getElem?_eq_some_iff.1 hi).1;refine⟨[i],ids,[c1],args',post,pn,by simp,by simpa using hX,by simpa using hil,?_,h2,hs,fun outs r hp hl=>?_,fun ch bx' h _ _=>hpn ch bx' h⟩
 ·have:s.bx.getD i []=c0:=by simp[List.getD_eq_getElem?_getD,hi]
  simp only[List.map_cons,List.map_nil,this,nP,h1]
 ·obtain⟨o,rfl⟩:∃o,outs=[o]:=List.length_eq_one_iff.1 (by simpa using hl);exact hk o r hp
theorem jp1(i:Nat)(ids:List Nat){c0 c1:List A}{pn:List PanicEntry->Prop}(hX:Xr i=true)(hi:s.bx[i]?=some c0)(h1:zC [i] (jA s.rw ids) c0=some c1)(h2:zC [i] (jA s.rw ids) args=some args')(hs:nN args'->SpecP P f [c1] args' post pn)
  (hpn:∀ch bx',pn ch->bx'.length=s.bx.length->(∀j,j≠i->bx'[j]?=s.bx[j]?)->pan ch ⟨s.t,bx',jA s.rw ids⟩)
  (hk:∀o r,post [o] r->iC [i] s.bx [i] [o] fun bx'=>zV (back [i] r) fun r'=>qA (jA s.rw ids) fun rw'=>kT s bx' rw' (K r')):kB P pan Xr f args s K:=by
 unfold kB
 right;right;right;left
 have hil:=(List.getElem?_eq_some_iff.1 hi).1;refine⟨[i],ids,[c1],args',post,pn,by simp,by simpa using hX,by simpa using hil,?_,h2,hs,fun outs r hp hl=>?_,fun ch bx' h h1 h2=>hpn ch bx' h h1 fun j hj=>h2 j (by simpa using hj)⟩
 ·have:s.bx.getD i []=c0:=by simp[List.getD_eq_getElem?_getD,hi]
  simp only[List.map_cons,List.map_nil,this,nP,h1]
 ·obtain⟨o,rfl⟩:∃o,outs=[o]:=List.length_eq_one_iff.1 (by simpa using hl);exact hk o r hp
end
def jjh:List Nat->Bool
 |[]=>false
 |0::_=>true
 |(_+1)::r=>jjh r
def jkO:List Nat->List Nat
 |[]=>[]
 |0::r=>jkO r
 |(n+1)::r=>n::jkO r
def tX:List Nat->(List Nat->Prop)->Prop
 |[],K=>K []
 |0::r,K=>tX r K
 |(n+1)::r,K=>tX r fun g=>K (n::g)
theorem lY:∀{g:List Nat} {K:List Nat->Prop},tX g K↔K (jkO g)
 |[],K=>by simp[tX,jkO]
 |0::r,K=>by simp[tX,jkO,lY (g:=r)]
 |(n+1)::r,K=>by simp[tX,jkO,lY (g:=r)]
def iW:List Nat->List A->(List A->Prop)->Prop
 |_,[],K=>K []
 |W,a::l,K=>tX W fun W'=>match jjh W with
  |true=>iW W' l fun r=>K (a::r)
  |false=>iW W' l fun r=>K (.dead::r)
theorem iX:∀{l:List A} {W:List Nat} {K:List A->Prop},iW W l K->∃t,K t
 |[],W,K,h=>⟨_,h⟩
 |a::l,W,K,h=>by
  unfold iW at h;rw[lY] at h;split at h
  ·obtain⟨t,h⟩:=iX h;exact⟨_,h⟩
  ·obtain⟨t,h⟩:=iX h;exact⟨_,h⟩
def eqL:List A->List A->Prop
 |[],[]=>True
 |a::as,b::bs=>zV b fun b=>match b with
  |.dead=>eqL as bs
  |b=>a=b/\eqL as bs
 |_,_=>False
def eqB:List (List A)->List (List A)->Prop
 |_,[]=>True
 |a::as,b::bs=>eqL a b/\eqB as bs
 |[],_::_=>False
def eqR:List Row->List Row->Prop
 |_,[]=>True
 |a::as,b::bs=>match b with
  |.gone=>eqR as bs
  |b=>a=b/\eqR as bs
 |[],_::_=>False
def LeS(np:Nat)(s s':S):Prop :=
 match Nat.ble np s'.bx.length with
 |true=>match uI s'.bx.length s'.rw.length s'.bx with
  |true=>match wL s'.bx.length s'.rw.length s'.t with
   |true=>eqL s.t s'.t/\eqB s.bx s'.bx/\eqR s.rw s'.rw
   |false=>False
  |false=>False
 |false=>False
theorem jaE:∀{l m:List A},eqL l m->LeL l m
 |[],[],_=>trivial
 |a::as,b::bs,h=>by
  unfold eqL at h;rw[force_iff] at h;unfold LeL;split at h
  ·exact⟨.inl rfl,jaE h⟩
  ·exact⟨.inr h.1,jaE h.2⟩
 |[],_::_,h=>h.elim
 |_::_,[],h=>h.elim
theorem jmD:∀{l m:List (List A)},eqB l m->LeB l m
 |_,[],_=>by unfold LeB;trivial
 |a::as,b::bs,h=>⟨jaE h.1,jmD h.2⟩
 |[],_::_,h=>h.elim
theorem ji6:∀{l m:List Row},eqR l m->LeR l m
 |_,[],_=>by unfold LeR;trivial
 |a::as,b::bs,h=>by
  unfold eqR at h;unfold LeR;split at h
  ·exact⟨.inl rfl,ji6 h⟩
  ·exact⟨.inr h.1,ji6 h.2⟩
 |[],_::_,h=>h.elim
theorem oG{np:Nat}{s s':S}(h:LeS np s s'):Le np s s':=by
 unfold LeS at h;split at h
 ·rename_i h1;split at h
  ·rename_i h2;split at h
   ·rename_i h3;exact jtM h1 h2 h3 (jaE h.1) (jmD h.2.1) (ji6 h.2.2)
   ·exact h.elim
  ·exact h.elim
 ·exact h.elim
def jn1(a:A):Prop:=match a with
 |.v (.slice none 0 0)=>True
 |_=>False
def jl2(g:Nat):List Nat->List A->(List A->Prop)->Prop
 |_,[],K=>K []
 |W,a::l,K=>tX W fun W'=>match jjh W with
  |true=>jn1 a/\jl2 g W' l fun r=>K (.own g::r)
  |false=>jl2 g W' l fun r=>K (a::r)
def jhX:List (Nat×Nat)->List Nat
 |[]=>[]
 |(x,o)::r=>match x with
  |0=>o::jhX r
  |_+1=>jhX r
def jk1(g:Nat):List (Nat×Nat)->List (List A)->(List (List A)->Prop)->Prop
 |_,[],K=>K []
 |cs,c::l,K=>jl2 g (jhX cs) c fun c'=>jfQ cs fun cs'=>jk1 g cs' l fun r=>K (c'::r)
theorem jn2{a:A}(h:jn1 a):a=.v (.slice none 0 0):=by
 unfold jn1 at h;split at h
 ·rfl
 ·exact h.elim
theorem rT{g:Nat}:∀{l:List A} {W:List Nat} {K:List A->Prop},jl2 g W l K->∃m,oN g l m/\K m
 |[],W,K,h=>⟨[],trivial,h⟩
 |a::l,W,K,h=>by
  unfold jl2 at h;rw[lY] at h;split at h
  ·obtain⟨m,h1,h2⟩:=rT h.2;exact⟨.own g::m,⟨.inr ⟨jn2 h.1,rfl⟩,h1⟩,h2⟩
  ·obtain⟨m,h1,h2⟩:=rT h;exact⟨a::m,⟨.inl rfl,h1⟩,h2⟩
theorem jdh{g:Nat}:∀{l:List (List A)} {cs:List (Nat×Nat)} {K:List (List A)->Prop},jk1 g cs l K->∃m,jhI g l m/\K m
 |[],b,K,h=>⟨[],trivial,h⟩
 |c::l,b,K,h=>by
  unfold jk1 at h;obtain⟨c',h1,h2⟩:=rT h;rw[rG] at h2;obtain⟨m,h3,h4⟩:=jdh h2;exact⟨c'::m,⟨h1,h3⟩,h4⟩
theorem qU{np:Nat}{f:S->(Exit->S->Prop)->Prop}{t:List A}{bx:List (List A)}{rw:List Row}{Q:Exit->S->Prop}(e k:Nat)(ts:List Nat)(cs:List (Nat×Nat))
  (h:aF rw (.live e k 0 []) 0 fun g rw'=>jl2 g ts t fun t'=>jk1 g cs bx fun bx'=>nB np f ⟨t',bx',rw'⟩ Q):nB np f ⟨t,bx,rw⟩ Q:=by
 rw[kK,Nat.zero_add] at h;obtain⟨t',h1,h⟩:=rT h;obtain⟨bx',h2,h⟩:=jdh h;have hle:Le np ⟨t,bx,rw⟩ ⟨t',bx',rw++[.live e k 0 []]⟩:=js7 (s:=⟨t,bx,rw⟩) e k h1 h2;unfold nB at h ⊢;obtain⟨X,F,φ,μ,⟨x,h3,h4⟩,h5⟩:=h;exact⟨X,F,φ,μ,⟨x,hle.trans h3,h4⟩,h5⟩
def fR(rw:List Row)(a:A):A:=match a with
 |.own g=>match rw[g]? with
  |some (.pub k n cs)=>.sl k n cs
  |_=>.own g
 |a=>a
def jbM(rw:List Row):List (List A)->(List (List A)->Prop)->Prop
 |[],K=>K []
 |c::l,K=>aN (fR rw) c fun c'=>jbM rw l fun r=>K (c'::r)
theorem mW{rw:List Row}:∀{l:List (List A)} {K:List (List A)->Prop},jbM rw l K↔K (l.map fun c=>c.map (fR rw))
 |[],K=>by simp[jbM]
 |c::l,K=>by simp[jbM,qN,mW (l:=l)]
theorem jod{w0:W0}{w:World}{C0:Rd}{β0:List Nat}{bx:List (List A)}{rw:List Row}{E:Env}(hp:Hp w0 C0 β0 bx rw w E){a:A}{y:Value}(h:a.rep E y):(fR rw a).rep E y:=by
 cases a with
 |own g =>
  unfold fR
  simp only
  split
  ·rename_i k n cs hg;have h2:=h;unfold A.rep at h2;exact hp.rws g _ y hg h2
  ·exact h
 |_=>exact h
theorem lP{w0:W0}{w:World}{C0:Rd}{β0:List Nat}{bx:List (List A)}{rw:List Row}{E:Env}(hp:Hp w0 C0 β0 bx rw w E):∀{l:List A} {us:List Value},A.repL l E us->A.repL (l.map (fR rw)) E us
 |[],us,h=>by simpa using h
 |a::r,us,h=>by
  unfold A.repL at h;obtain⟨u,us',rfl,h2,h3⟩:=h;simp only[List.map_cons];unfold A.repL;exact⟨u,us',rfl,jod hp h2,lP hp h3⟩
theorem jio{np:Nat}{s:S}:Le np s ⟨s.t.map (fR s.rw),s.bx.map fun c=>c.map (fR s.rw),s.rw⟩:=by
 rintro dr w0 C0 β0 a w _ _ ⟨E,hp,hrep,hd⟩;refine⟨E,⟨hp.sub,hp.base,hp.fresh,hp.bp,hp.bnd,hp.bC,by simpa using hp.bl,fun i b cs h1 h2=>?_,hp.rl,hp.rws,hp.rC,hp.rd,hp.rs,hp.keep,hp.gk⟩,lP hp hrep,hd⟩;rw[List.getElem?_map,Option.map_eq_some_iff] at h2;obtain⟨c0,h2,rfl⟩:=h2;obtain⟨T',arr,h3,h4⟩:=hp.bxs i b c0 h1 h2
 exact⟨T',arr,h3,h4.map (fR s.rw) (fun l us k=>lP hp k) rfl (fun t=>rfl) fun a t e=>by
  unfold fR at e;split at e
  ·split at e <;> cases e
  ·exact e⟩
theorem jjY{np:Nat}{f:S->(Exit->S->Prop)->Prop}{s s':S}{Q:Exit->S->Prop}(hle:Le np s s')(h:nB np f s' Q):nB np f s Q:=by
 unfold nB at h ⊢;obtain⟨X,F,φ,μ,⟨x,h3,h4⟩,h5⟩:=h;exact⟨X,F,φ,μ,⟨x,hle.trans h3,h4⟩,h5⟩
theorem nL{np:Nat}{f:S->(Exit->S->Prop)->Prop}{t:List A}{bx:List (List A)}{rw:List Row}{Q:Exit->S->Prop}(ids:List Nat)
  (h:qA (jA rw ids) fun rw'=>aN (fR rw') t fun t'=>jbM rw' bx fun bx'=>nB np f ⟨t',bx',rw'⟩ Q):nB np f ⟨t,bx,rw⟩ Q:=by
 rw[qR,qN,mW] at h;exact jjY ((jin (s:=⟨t,bx,rw⟩) ids).trans jio) h
def jaP:List A->(List A->Prop)->Prop
 |[],K=>K []
 |a::l,K=>zV a fun a=>jaP l fun r=>K (a::r)
theorem jaQ:∀{l:List A} {K:List A->Prop},jaP l K↔K l
 |[],K=>by simp[jaP]
 |a::l,K=>by simp[jaP,force_iff,jaQ (l:=l)]
def jaN:List (List A)->(List (List A)->Prop)->Prop
 |[],K=>K []
 |a::l,K=>jaP a fun a=>jaN l fun r=>K (a::r)
theorem jaO:∀{l:List (List A)} {K:List (List A)->Prop},jaN l K↔K l
 |[],K=>by simp[jaN]
 |a::l,K=>by simp[jaN,jaQ,jaO (l:=l)]
@[irreducible] def jcs(np:Nat)(f:S->(Exit->S->Prop)->Prop)(s:S)(_t0:List A)(Q:Exit->S->Prop):Prop :=
 nB np f s Q
theorem jC{np:Nat}{f:S->(Exit->S->Prop)->Prop}{s:S}{Q:Exit->S->Prop}(W:List Nat)(h:iW W s.t fun t0=>jcs np f s t0 Q):nB np f s Q:=by
 obtain⟨t,h⟩:=iX h;unfold jcs at h;exact h
def oB{X:Type}(t0:List A)(g:X->List (Nat×A))(bx:X->List (List A))(rw:X->List Row)(x:X):S:=⟨z7 (g x) t0,bx x,rw x⟩
def jaU{X:Type}(t0:List A)(g:X->List (Nat×A))(bx:X->List (List A))(rw:X->List Row)(x:X)(K:S->Prop):Prop :=
 vR (g x) t0 fun t=>jaN (bx x) fun b=>qA (rw x) fun r=>K ⟨t,b,r⟩
theorem headK_iff{X:Type}{t0:List A}{g:X->List (Nat×A)}{bx:X->List (List A)}{rw:X->List Row}{x:X}{K:S->Prop}:jaU t0 g bx rw x K↔K (oB t0 g bx rw x):=by
 unfold jaU oB;rw[wT,jaO,qR]
theorem zZ{X:Type}{np:Nat}{s:S}{t0:List A}{g:X->List (Nat×A)}{bx:X->List (List A)}{rw:X->List Row}{x:X}(h:jaU t0 g bx rw x fun s'=>LeS np s s'):Le np s (oB t0 g bx rw x):=oG (headK_iff.1 h)
theorem jI{np:Nat}{f:S->(Exit->S->Prop)->Prop}{s:S}{t0:List A}{Q:Exit->S->Prop}{X:Type}(g:X->List (Nat×A))(bx:X->List (List A))(rw:X->List Row)(φ:X->Prop)(μ:X->Nat)(x0:X)
  (h0:jaU t0 g bx rw x0 fun s'=>LeS np s s') (hφ:φ x0)
  (hr:∀x,φ x->jaU t0 g bx rw x fun s1=>f s1 fun e s'=>match e with
   |.normal=>∃x',Le np s' (oB t0 g bx rw x')/\φ x'/\μ x'<μ x
   |e=>Q e s'):jcs np f s t0 Q:=by
 unfold jcs;unfold nB;exact⟨X,oB t0 g bx rw,φ,μ,⟨x0,zZ h0,hφ⟩,fun x hx=>headK_iff.1 (hr x hx)⟩
theorem j9{b:Bool}{p q:Prop}(hb:b=true)(h:p):ifK b p q:=ifK_iff.2 ⟨fun _=>h,fun e=>by rw[hb] at e;cases e⟩
theorem jW{b:Bool}{p q:Prop}(hb:b=false)(h:q):ifK b p q:=ifK_iff.2 ⟨fun e=>(by rw[hb] at e;cases e),fun _=>h⟩
theorem jsd{E:Env}{y:Value}{k:Nat}(h:(A.v (.slice none 0 0)).rep E y):(A.sl k 0 []).rep E y:=by
 rw[(A.rep_v_iff.1 h).1];unfold A.rep;exact⟨by simp,by simp,none,0,0,0,rfl,Nat.le_refl _,.inl rfl,fun _=>rfl,by simp[A.repAt]⟩
theorem jH{n:Int}(h : -9223372036854775808<=n/\n<=9223372036854775807):lo .i64<=n/\n<=hi .i64:=h
theorem xU{α:Type}{k:Nat}(f:α->List A)(hf:∀x,(f x).length=k):∀(l:List α) (i:Nat) (hi:i<l.length),jD k i (l.flatMap f)=f l[i]
 |x::l,0,_=>by
  unfold jD;simp only[List.flatMap_cons,Nat.zero_mul,List.drop_zero,List.getElem_cons_zero];rw[List.take_append,List.take_of_length_le (by rw[hf];exact Nat.le_refl _),hf];simp
 |x::l,i+1,hi=>by
  have:=xU f hf l i (by simpa using hi);unfold jD at this ⊢;simp only[List.flatMap_cons,List.getElem_cons_succ] at this ⊢;rw[show(i+1)*k=(f x).length+i*k by rw[hf,Nat.add_mul];omega,List.drop_append,List.drop_of_length_le (by omega),List.nil_append];simpa using this
theorem jgz{α:Type}(f:α->A)(l:List α):l.map f=l.flatMap fun x=>[f x]:=by
 induction l with
 |nil=>rfl
 |cons a r ih=>simp[List.flatMap_cons,ih]
theorem y8{α:Type}(f:α->A)(l:List α)(i:Nat)(hi:i<l.length):jD 1 i (l.map f)=[f l[i]]:=by
 rw[jgz];exact xU (k:=1) (fun x=>[f x]) (fun _=>rfl) l i hi
theorem kL{P:Program}{pan:List PanicEntry->S->Prop}{Xr:Nat->Bool}{f:Nat}{args args0:List A}{s:S}{K:A->S->Prop}{post:List (List A)->A->Prop}(ids:List Nat)(hs:Spec P f [] args0 post)(hk:∀r,post [] r->zV (back [] r) fun r1=>qA (jA s.rw ids) fun rw1=>aH s rw1 (K r1))(h2:zC [] (jA s.rw ids) args=some args0:=by rfl):kB P pan Xr f args s K:=jcH ids h2 (fun _=>hs) hk
theorem vqb{a:Type}{b:Type}{x:Option a}{g:a->Option b}{c:b}(h:x.bind g=some c):∃y,x=some y/\g y=some c:=by
 cases x with
 |none=>cases h
 |some y=>exact⟨y,rfl,h⟩
theorem jT{P:Program}{pan:List PanicEntry->S->Prop}{Xr:Nat->Bool}{f:Nat}{args args0:List A}{s:S}{K:A->S->Prop}{post:List (List A)->A->Prop}(i:Nat)(ids:List Nat){c1:List A}(hs:Spec P f [c1] args0 post)(hk:∀o r,post [o] r->iC [i] s.bx [i] [o] fun bx1=>zV (back [i] r) fun r1=>qA (jA s.rw ids) fun rw1=>kT s bx1 rw1 (K r1))(hX:Xr i=true:=by rfl)(h1:(s.bx[i]?.bind fun c=>zC [i] (jA s.rw ids) c)=some c1:=by rfl)(h2:zC [i] (jA s.rw ids) args=some args0:=by rfl):kB P pan Xr f args s K:=by
 obtain⟨c0,hi,h1⟩:=vqb h1;exact cZ i ids hX hi h1 h2 (fun _=>hs) hk
theorem kR{P:Program}{pan:List PanicEntry->S->Prop}{Xr:Nat->Bool}{f:Nat}{args args0:List A}{s:S}{K:A->S->Prop}{post:List (List A)->A->Prop}(i:Nat)(ids:List Nat){c1:List A}{pn:List PanicEntry->Prop}(hs:SpecP P f [c1] args0 post pn)(hpn:∀ch bx1,pn ch->pan ch ⟨s.t,bx1,jA s.rw ids⟩)(hk:∀o r,post [o] r->iC [i] s.bx [i] [o] fun bx1=>zV (back [i] r) fun r1=>qA (jA s.rw ids) fun rw1=>kT s bx1 rw1 (K r1))(hX:Xr i=true:=by rfl)(h1:(s.bx[i]?.bind fun c=>zC [i] (jA s.rw ids) c)=some c1:=by rfl)(h2:zC [i] (jA s.rw ids) args=some args0:=by rfl):kB P pan Xr f args s K:=by
 obtain⟨c0,hi,h1⟩:=vqb h1;exact jrq i ids hX hi h1 h2 (fun _=>hs) hpn hk
end
end Go.Proofs.YtdnnmiemgmgffaaGreatDoor.Vm
