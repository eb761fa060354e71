/- Part 0 of the proof. -/
import Derived.WalkKit
import Derived.WalkSpells
import Derived.WalkLawsBesides
import Derived.Laws.AppendOwnNone
import Derived.OrdersHeld
import Derived.StillTail
import Derived.RegionTactic
import Derived.Deep.RegionHeld3
import Derived.Lib.FrozenHead
set_option linter.unusedSimpArgs false
set_option linter.unusedVariables false
namespace Go.Proofs.YtdnnmiemgmgffaaGreatDoor
open Go.RowKit
section
theorem jJ{p:Prop}[Decidable p](h:p):decide p=true:=decide_eq_true h
theorem jG{p:Prop}[Decidable p](h:¬p):decide p=false:=decide_eq_false h

def Ext(w w':World):Prop:=Below w.heap.size w w'

theorem Ext.refl(w:World):Ext w w:=Below.refl _ _
theorem Ext.trans{a b c:World}(h:Ext a b)(k:Ext b c):Ext a c:=Below.trans h (Below.mono k (Below.size h))
theorem Ext.alloc{a w:World}(h:Ext a w)(o:Obj):Ext a (w.alloc o):=Below.alloc h (Below.size h) o
theorem Ext.drew{a w:World}(h:Ext a w):Ext a w.drew:=Below.drew h
theorem Ext.block{w w':World}(h:Ext w w'){b:Nat}{o:Obj}(hb:w.heap[b]?=some o):w'.heap[b]?=some o :=
 (Below.block h b (Array.getElem?_eq_some_iff.1 hb).1).trans hb
theorem Ext.c{w w':World}(h:Ext w w'){a:Addr}{v:Value}(hc:w.cell? a=some v):w'.cell? a=some v :=
 (Below.cell h (World.block_lt_of_cell? w a hc)).trans hc
def Ret(w:World)(Φ:Value->World->Prop)(e:Ending)(w':World):Prop:=∃v,e=.returned v/\Ext w w'/\Φ v w'
def oO(w:World)(v:Value)(e:Ending)(w':World):Prop:=e=.returned v/\Ext w w'
abbrev Rd:=Addr->Option Value
def Sub(C D:Rd):Prop:=∀a v,C a=some v->D a=some v
theorem Sub.refl(C:Rd):Sub C C:=fun _ _ h=>h
theorem Sub.trans{C D E:Rd}(h:Sub C D)(k:Sub D E):Sub C E:=fun a v e=>k a v (h a v e)
theorem Ext.sub{w w':World}(h:Ext w w'):Sub w.cell? w'.cell?:=fun _ _ hc=>h.c hc
def jcV(N:Nat)(w:World):Rd:=fun a=>if a.block<N then none else w.cell? a
theorem fromC_some{N:Nat}{w:World}{a:Addr}{v:Value}:jcV N w a=some v↔N<=a.block/\w.cell? a=some v:=by
 unfold jcV;by_cases h:a.block<N
 ·rw[if_pos h];constructor
  ·intro h;cases h
  ·intro h;omega
 ·rw[if_neg h];constructor
  ·intro k;exact⟨by omega,k⟩
  ·intro k;exact k.2
theorem Ext.from{w w':World}(h:Ext w w')(N:Nat):Sub (jcV N w) (jcV N w'):=fun a v hc=>by
 rw[fromC_some] at hc ⊢;exact⟨hc.1,h.c hc.2⟩
def StrsAt(C:Rd)(v:Value)(l:List ByteArray):Prop :=
 l.length<=1000000000/\(∀s∈l,s.size<=maxLen)/\∃p b off cap,v=.slice p l.length cap/\l.length<=cap/\(l=[]∨p=some ⟨b,off,none⟩)/\(p=none->cap=0) ∧
  ∀i,i<l.length->C ⟨b,off+i,none⟩=some (.string (l.getD i ByteArray.empty))
theorem StrsAt.mono{C D:Rd}{v:Value}{l:List ByteArray}(h:StrsAt C v l)(x:Sub C D):StrsAt D v l:=by
 obtain⟨h1,h2,p,b,off,cap,hv,hc,hp,hn,hh⟩:=h;exact⟨h1,h2,p,b,off,cap,hv,hc,hp,hn,fun i hi=>x _ _ (hh i hi)⟩
inductive Nd where
 |mk (k n:Int) (s:ByteArray) (kids:List Nd)
def Nd.k:Nd->Int|.mk k _ _ _=>k
def Nd.n:Nd->Int|.mk _ n _ _=>n
def Nd.s:Nd->ByteArray|.mk _ _ s _=>s
def Nd.kids:Nd->List Nd|.mk _ _ _ l=>l
mutual
def Nd.At(C:Rd):Nd->Value->Prop
 |.mk k n s kids,v=>(-9223372036854775808<=k/\k<=9223372036854775807)/\(-9223372036854775808<=n/\n<=9223372036854775807)/\s.size<=maxLen/\kids.length<=1000000000 ∧
   ∃p b off cap,v=.agg #[.int .i64 k,.int .i64 n,.string s,.slice p kids.length cap]/\kids.length<=cap/\(kids=[]∨p=some ⟨b,off,none⟩)/\(p=none->cap=0)/\Nd.In C b kids off
def Nd.In(C:Rd)(b:Nat):List Nd->Nat->Prop
 |[],_=>True
 |t::ts,off=>(∃v0 v1 v2 v3,C ⟨b,off,none⟩=some v0/\C ⟨b,off+1,none⟩=some v1/\C ⟨b,off+2,none⟩=some v2/\C ⟨b,off+3,none⟩=some v3/\Nd.At C t (.agg #[v0,v1,v2,v3]))/\Nd.In C b ts (off+4)
end
mutual
theorem Nd.At.mono{C D:Rd}(x:Sub C D):∀(t:Nd) (v:Value),t.At C v->t.At D v
 |.mk k n s kids,v,h=>by
  unfold Nd.At at h ⊢;obtain⟨h1,h2,h3,h4,p,b,off,cap,h5,h6,h7,h8,h9⟩:=h;exact⟨h1,h2,h3,h4,p,b,off,cap,h5,h6,h7,h8,Nd.In.mono x b kids off h9⟩
theorem Nd.In.mono{C D:Rd}(x:Sub C D)(b:Nat):∀(l:List Nd) (off:Nat),Nd.In C b l off->Nd.In D b l off
 |[],_,_=>by unfold Nd.In;trivial
 |t::ts,off,h=>by
  unfold Nd.In at h ⊢;obtain⟨⟨v0,v1,v2,v3,c0,c1,c2,c3,ha⟩,hr⟩:=h;exact⟨⟨v0,v1,v2,v3,x _ _ c0,x _ _ c1,x _ _ c2,x _ _ c3,Nd.At.mono x t _ ha⟩,Nd.In.mono x b ts (off+4) hr⟩
end
def NdsAt(C:Rd)(v:Value)(l:List Nd):Prop :=
 l.length<=1000000000/\∃p b off cap,v=.slice p l.length cap/\l.length<=cap/\(l=[]∨p=some ⟨b,off,none⟩)/\(p=none->cap=0)/\Nd.In C b l off
theorem NdsAt.mono{C D:Rd}{v:Value}{l:List Nd}(h:NdsAt C v l)(x:Sub C D):NdsAt D v l:=by
 obtain⟨h1,p,b,off,cap,hv,hc,hp,hn,hh⟩:=h;exact⟨h1,p,b,off,cap,hv,hc,hp,hn,Nd.In.mono x b l off hh⟩
theorem Nd.In.get{C:Rd}{b:Nat}:∀(l:List Nd) (off:Nat),Nd.In C b l off->∀i (hi:i<l.length),
  ∃v0 v1 v2 v3,C ⟨b,off+i*4,none⟩=some v0/\C ⟨b,off+i*4+1,none⟩=some v1/\C ⟨b,off+i*4+2,none⟩=some v2/\C ⟨b,off+i*4+3,none⟩=some v3/\Nd.At C l[i] (.agg #[v0,v1,v2,v3])
 |t::ts,off,h,i,hi=>by
  unfold Nd.In at h;obtain⟨h0,hr⟩:=h
  cases i with
  |zero=>simpa using h0
  |succ i =>
   have:=Nd.In.get ts (off+4) hr i (by simpa using hi)
   have e:off+4+i*4=off+(i+1)*4:=by omega
   rw[e] at this;simpa using this
theorem Nd.In.mk{C:Rd}{b:Nat}:∀(l:List Nd) (off:Nat),(∀i (hi:i<l.length),
  ∃v0 v1 v2 v3,C ⟨b,off+i*4,none⟩=some v0/\C ⟨b,off+i*4+1,none⟩=some v1/\C ⟨b,off+i*4+2,none⟩=some v2/\C ⟨b,off+i*4+3,none⟩=some v3/\Nd.At C l[i] (.agg #[v0,v1,v2,v3]))->Nd.In C b l off
 |[],_,_=>by unfold Nd.In;trivial
 |t::ts,off,h=>by
  unfold Nd.In;refine⟨by have:=h 0 (by simp);rw[Nat.zero_mul,Nat.add_zero] at this;exact this,Nd.In.mk ts (off+4) fun i hi=>?_⟩;have:=h (i+1) (by simpa using hi)
  have e:off+4+i*4=off+(i+1)*4:=by omega
  rw[e];simpa using this
theorem Nd.At.parts{C:Rd}{t:Nd}{v:Value}(h:t.At C v):∃kv,v=.agg #[.int .i64 t.k,.int .i64 t.n,.string t.s,kv]/\(-9223372036854775808<=t.k/\t.k<=9223372036854775807)/\(-9223372036854775808<=t.n/\t.n<=9223372036854775807)/\t.s.size<=maxLen/\NdsAt C kv t.kids:=by
 cases t with
 |mk k n s kids =>
  unfold Nd.At at h;obtain⟨h1,h2,h3,h4,p,b,off,cap,h5,h6,h7,h8,h9⟩:=h;exact⟨_,h5,h1,h2,h3,h4,p,b,off,cap,rfl,h6,h7,h8,h9⟩
theorem Nd.At.of_parts{C:Rd}{t:Nd}{kv:Value}(h1 : -9223372036854775808<=t.k/\t.k<=9223372036854775807)(h2 : -9223372036854775808<=t.n/\t.n<=9223372036854775807)(h3:t.s.size<=maxLen)(h:NdsAt C kv t.kids) :
  t.At C (.agg #[.int .i64 t.k,.int .i64 t.n,.string t.s,kv]):=by
 cases t with
 |mk k n s kids =>
  unfold Nd.At;obtain⟨h4,p,b,off,cap,h5,h6,h7,h8,h9⟩:=h;exact⟨h1,h2,h3,h4,p,b,off,cap,by rw[h5];rfl,h6,h7,h8,h9⟩

def yX(p:Nd×Value):List Value:=[.int .i64 p.1.k,.int .i64 p.1.n,.string p.1.s,p.2]
theorem jjH:∀(l:List (Nd×Value)) (i:Nat) (hi:i<l.length) (j:Nat),j<4->(l.flatMap yX)[i*4+j]?=(yX l[i])[j]?
 |p::l,0,_,j,hj=>by
  rw[List.flatMap_cons,List.getElem?_append_left (by simp[yX];omega)];simp
 |p::l,i+1,hi,j,hj=>by
  have h4:(yX p).length=4:=rfl;rw[List.flatMap_cons,List.getElem?_append_right (by omega),h4];have:=jjH l i (by simpa using hi) j hj
  have e:(i+1)*4+j-4=i*4+j:=by omega
  rw[e,this];simp
theorem NdsAt.new{C D:Rd}{B:Nat}(x:Sub C D)(l:List (Nd×Value))(hnew:∀j u,(l.flatMap yX)[j]?=some u->D ⟨B,j,none⟩=some u)(hl:l.length<=1000000000)
  (h:∀p∈l,p.1.At C (.agg (yX p).toArray)):NdsAt D (.slice (some ⟨B,0,none⟩) l.length l.length) (l.map (·.1)):=by
 refine⟨by simpa using hl,_,B,0,l.length,by simp,by simp,.inr rfl,by simp,Nd.In.mk _ _ fun i hi=>?_⟩
 have hi':i<l.length:=by simpa using hi
 have c:=fun j hj=>jjH l i hi' j hj
 refine⟨.int .i64 l[i].1.k,.int .i64 l[i].1.n,.string l[i].1.s,l[i].2,?_,?_,?_,?_,?_⟩
 ·rw[Nat.zero_add];exact hnew _ _ ((c 0 (by omega)).trans rfl)
 ·rw[Nat.zero_add];exact hnew _ _ ((c 1 (by omega)).trans rfl)
 ·rw[Nat.zero_add];exact hnew _ _ ((c 2 (by omega)).trans rfl)
 ·rw[Nat.zero_add];exact hnew _ _ ((c 3 (by omega)).trans rfl)
 ·have:=Nd.At.mono x _ _ (h l[i] (List.getElem_mem hi'));rw[List.getElem_map];exact this
theorem jfE(w:World)(cs:List Value)(T:TypeId)(j:Nat)(u:Value)(h:cs[j]?=some u):(w.alloc (.cells cs.toArray T)).cell? ⟨w.heap.size,j,none⟩=some u:=by
 have:=heap_alloc_new w (.cells cs.toArray T);unfold World.cell?;rw[this];simpa using h
theorem NdsAt.newFrom{w:World}{N:Nat}(hN:N<=w.heap.size)(T:TypeId)(l:List (Nd×Value))(hl:l.length<=1000000000)(h:∀p∈l,p.1.At (jcV N w) (.agg (yX p).toArray)) :
  NdsAt (jcV N (w.alloc (.cells (l.flatMap yX).toArray T))) (.slice (some ⟨w.heap.size,0,none⟩) l.length l.length) (l.map (·.1)) :=
 NdsAt.new (Ext.from ((Ext.refl w).alloc _) N) l (fun j u hj=>fromC_some.2 ⟨hN,jfE w _ T j u hj⟩) hl h
theorem jdq{w:World}{base:Nat}{e:TypeId}{size:Nat}{v:Value}{n:Nat}{xs:List Value}(h:w.ownsRow base e size v n xs) :
  (v=.slice none 0 0/\n=0/\xs=[])∨∃g cap,v=.slice (some ⟨g,0,none⟩) n cap/\base<=g/\g<w.heap.size/\n<=cap/\∀j u,xs[j]?=some u->w.cell? ⟨g,j,none⟩=some u:=by
 rcases h.2 with ⟨h1,h2⟩|⟨g,cap,cur,hv,hb,hg,hn,_,_,ht⟩
 ·refine .inl ⟨h1,h2,?_⟩;have:=h.1;subst h2;exact List.eq_nil_of_length_eq_zero (by simpa using this)
 ·refine .inr ⟨g,cap,hv,hb,(Array.getElem?_eq_some_iff.1 hg).1,hn,fun j u hu=>?_⟩;have:=h.cells (g:=g) (by rw[hv];rfl) j u hu
  have hadd:(⟨g,0,none⟩:Addr).add j=⟨g,j,none⟩:=by unfold Addr.add;split <;> simp_all
  rwa [hadd] at this

theorem jdr{w:World}{base:Nat}{e:TypeId}{size:Nat}{v:Value}{n:Nat}{xs:List Value}(h:w.ownsRow base e size v n xs):∃p m c,v=.slice p m c:=by
 rcases jdq h with ⟨hv,_,_⟩|⟨g,cap,hv,_⟩
 ·exact⟨_,_,_,hv⟩
 ·exact⟨_,_,_,hv⟩
theorem je6(b off j:Nat):(⟨b,off,none⟩:Addr).add j=⟨b,off+j,none⟩:=by unfold Addr.add;split <;> simp_all
theorem uT{P:Program}(w:World)(base:Nat)(t ty e:TypeId)(i:TypeInfo)(z:Value)(size bytes:Nat)(ht:P.underlying t=some (.slice e))(hi:P.info? e=some i)(hz:i.zero=some z)
  (hsize:i.size=size) (hby:i.bytes=bytes) (hzs:z.cells.size=size) (hsz:0<size)
  (v:Value) (n:Nat) (xs:List Value) (hown:w.ownsRow base e size v n xs)
  (a:Addr) (m c:Nat) (news:List Value) (hl:news.length=m*size) (hnews:∀j u,news[j]?=some u->w.cell? (a.add j)=some u) (h1:∀u∈news,u.oneCell'=true)
  (h63:n+m<=maxLen) (hbytes:(n+m)*bytes<=140737488355328) (hbase:base<=w.heap.size) :
  ∃v' w',(Builtin.append_ #[t,t] ty #[v,.slice (some a) m c]).run P w=.ok v' w'/\w'.ownsRow base e size v' (n+m) (xs++news)/\w.grownBy w' v.ownBlock ∧
   (v'.ownBlock=v.ownBlock∨v'.ownBlock=some w.heap.size):=by
 obtain⟨v',w',hr,h2,h3,h4⟩:=run_append_own (P:=P) w base t ty e i z size bytes ht hi hz hsize hby hzs hsz v n xs hown a m c news hl hnews h1 h63 hbytes hbase;refine⟨v',w',hr,h2,h3,?_⟩;subst hsize;subst hby
 have hsmall:n+m<=9223372036854775807:=by simp only[maxLen] at h63;omega
 rcases hown.2 with ⟨rfl,rfl⟩|⟨g,cap,cur,rfl,hbg,hg,hnc,hcm,hcs,htake⟩
 ·by_cases hm:m=0
  ·rw[h4.2 ⟨rfl,hm⟩];exact .inl rfl
  ·have hr2:=run_append_nil (P:=P) w t ty e i z ht hi hz a m c news hl hnews (by omega) (by omega) (by have hb:=hbytes;simp only[Nat.zero_add] at hb;omega);rw[hr2] at hr;injection hr with e1 e2;rw[<- e1];exact .inr rfl
 ·by_cases hroom:n+m<=cap
  ·have hfit:n*i.size+news.length<=cur.size:=by rw[hl,hcs,<- Nat.add_mul];exact Nat.mul_le_mul_right _ hroom
   have hr2:=run_append_room (P:=P) w t ty e i ht hi g n cap cur hg a m c news hl hnews h1 hroom hfit;rw[hr2] at hr;injection hr with e1 e2;rw[<- e1];exact .inl rfl
  ·have holds:∀j u,xs[j]?=some u->w.cell? ((⟨g,0,none⟩:Addr).add j)=some u:=hown.cells (g:=g) rfl;have hr2:=run_append_grow (P:=P) w t ty e i z ht hi hz ⟨g,0,none⟩ n cap xs hown.1 holds a m c news hl hnews (by omega) (by omega) (growslice_fits (by omega) hbytes);rw[hr2] at hr;injection hr with e1 e2;rw[<- e1];exact .inr rfl

theorem lJ{P:Program}(w:World)(base:Nat)(t ty e:TypeId)(i:TypeInfo)(z:Value)(size bytes:Nat)(ht:P.underlying t=some (.slice e))(hi:P.info? e=some i)(hz:i.zero=some z)
  (hsize:i.size=size) (hby:i.bytes=bytes) (hzs:z.cells.size=size) (hsz:0<size)
  (v:Value) (n:Nat) (xs:List Value) (hown:w.ownsRow base e size v n xs)
  (p:Option Addr) (m c:Nat) (news:List Value) (hl:news.length=m*size) (hp:p=none->m=0/\c=0) (hnews:∀a,p=some a->∀j u,news[j]?=some u->w.cell? (a.add j)=some u) (h1:∀u∈news,u.oneCell'=true)
  (h63:n+m<=maxLen) (hbytes:(n+m)*bytes<=140737488355328) (hbase:base<=w.heap.size) :
  ∃v' w',(Builtin.append_ #[t,t] ty #[v,.slice p m c]).run P w=.ok v' w'/\w'.ownsRow base e size v' (n+m) (xs++news)/\w.grownBy w' v.ownBlock ∧
   (v'.ownBlock=v.ownBlock∨v'.ownBlock=some w.heap.size):=by
 cases p with
 |none =>
  obtain⟨rfl,rfl⟩:=hp rfl;have hn:news=[]:=List.eq_nil_of_length_eq_zero (by simpa using hl);subst hn;refine⟨v,w,run_append_owned_none w base t ty e i size ht hi v n xs hown,by simpa using hown,⟨rfl,rfl,rfl,Nat.le_refl _,fun _ _ _=>rfl⟩,.inl rfl⟩
 |some a =>
  exact uT (P:=P) w base t ty e i z size bytes ht hi hz hsize hby hzs hsz v n xs hown a m c news hl (hnews a rfl) h1 h63 hbytes hbase
theorem mS{w:World}{b:Nat}{c:Array Value}{T:TypeId}{fr:Nat×Nat}(h:w.heap[b]?=some (.cells c T fr))(o:Nat)(v:Value):(w.setCell ⟨b,o,none⟩ v).heap[b]?=some (.cells (c.setIfInBounds o v) T fr):=by
 simp[World.setCell,Array.getElem?_modify,h]
theorem xY(w:World)(b o:Nat)(v:Value):w.grownBy (w.setCell ⟨b,o,none⟩ v) (some b) :=
 ⟨rfl,rfl,rfl,by simp[World.setCell],fun k _ hk=>Below.heap_setCell _ _ _ _ (by simpa using hk)⟩
theorem sM{w:World}{R:Nat}{a b c d:Value}{T:TypeId}(h:w.heap[R]?=some (.cells #[a,b,c,d] T (0,0))) :
  w.cell? ⟨R,0,none⟩=some a/\w.cell? ⟨R,1,none⟩=some b/\w.cell? ⟨R,2,none⟩=some c/\w.cell? ⟨R,3,none⟩=some d ∧
  w.frozen? ⟨R,0,none⟩=false/\w.frozen? ⟨R,1,none⟩=false/\w.frozen? ⟨R,2,none⟩=false/\w.frozen? ⟨R,3,none⟩=false:=by
 simp[World.cell?,World.frozen?,h]
section
variable{T:Type}{cells:T->List Value}{ok:Rd->T->Prop}
structure juZ(cells:T->List Value)(ok:Rd->T->Prop)(w:World)(base:Nat)(e:TypeId)(k:Nat)(A:Nat->Prop)(v:Value)(xs:List T):Prop where
 row:w.ownsRow base e k v xs.length (xs.flatMap cells)
 ex:∃C:Rd,(∀a u,C a=some u->w.cell? a=some u/\A a.block/\some a.block≠v.ownBlock)/\∀x∈xs,ok C x
variable{w w':World}{base:Nat}{e:TypeId}{k:Nat}{A:Nat->Prop}{v v':Value}{xs:List T}{r:Option Nat}
end

def okN(C:Rd)(p:Nd×Value):Prop:=p.1.At C (.agg (yX p).toArray)
def juP:List ByteArray:=[⟨#[60]⟩,⟨#[60,61]⟩,⟨#[62]⟩,⟨#[62,61]⟩,⟨#[61,61]⟩,⟨#[33,61]⟩]
def juO:List ByteArray:=[⟨#[43]⟩,⟨#[45]⟩,⟨#[42]⟩,⟨#[47]⟩]
abbrev opsA:=juO
abbrev opsC:=juP
end
section
section
variable{P:Program}{ops:Array Oper}{Q:Exit->Act->World->Prop}{md:Region.Mode}{S:World->Prop}

def wpS(P:Program)(ops:Array Oper)(Q:Exit->Act->World->Prop)(S:World->Prop):List (Nat×Nat)->Act->World->Prop
 |[],a,w=>Q .normal a w
 |(k,0)::rest,a,w=>∃o v,ops[k]?=some o/\S w/\YieldsIf P ops S o v a/\wpS P ops Q S rest (a.put o.dst v) w
 |(k,1)::rest,a,w=>wpOp P ops Q k (fun a' w'=>S w'/\wpS P ops Q S rest a' w') a w
 |(k,2)::rest,a,w=>wpOp P ops Q k (wpS P ops Q S rest) a w
 |(k,_+3)::rest,a,w=>∃o v,ops[k]?=some o/\YieldsIf P ops (fun _=>True) o v a/\wpS P ops Q S rest (a.put o.dst v) w

def far(md:Region.Mode)(ops:Array Oper)(listed:Array Bool):Nat->Nat->Nat->Bool
 |0,j,k=>Region.waitsFor md ops j k
 |n+1,j,k=>Region.waitsFor md ops j k||(List.range ops.size).any (fun i => !(listed.getD i true)&&Region.waitsFor md ops j i&&far md ops listed n i k)

def aR(md:Region.Mode)(ops:Array Oper):List (Nat×Nat)->Array Bool->Bool
 |[],listed=>(Region.ready md ops listed).isEmpty
 |(k,m)::rest,listed =>
  (Region.ready md ops listed).contains k &&
  (match m with
  |0=>Region.free md ops listed k&&rest.all (fun x=>x.2 != 2||far md ops listed 3 x.1 k)
  |1|2=>Region.ready md ops listed==[k]
  |_+3=>Region.free md ops listed k) &&
  aR md ops rest (listed.setIfInBounds k true)

theorem aY{k m:Nat}{rest:List (Nat×Nat)}{listed:Array Bool}(h:aR md ops ((k,m)::rest) listed=true) :
  k∈Region.ready md ops listed/\aR md ops rest (listed.setIfInBounds k true)=true:=by
 simp only[aR,Bool.and_eq_true] at h;exact⟨by simpa using h.1.1,h.2⟩
theorem mQ{k m:Nat}{rest:List (Nat×Nat)}{listed:Array Bool}(h:aR md ops ((k,m)::rest) listed=true)(hm:m=0∨3<=m):Region.free md ops listed k=true:=by
 simp only[aR,Bool.and_eq_true] at h;rcases hm with rfl|hm
 ·have h2:Region.free md ops listed k=true/\rest.all (fun x=>x.2 != 2||far md ops listed 3 x.1 k)=true:=by simpa using h.1.2
  exact h2.1
 ·obtain⟨n,rfl⟩:∃n,m=n+3:=⟨m-3,by omega⟩
  simpa using h.1.2
theorem mR{k m:Nat}{rest:List (Nat×Nat)}{listed:Array Bool}(h:aR md ops ((k,m)::rest) listed=true)(hm:m=1∨m=2):Region.ready md ops listed=[k]:=by
 simp only[aR,Bool.and_eq_true] at h
 rcases hm with rfl|rfl <;> simpa using h.1.2
theorem jdI{k:Nat}{rest:List (Nat×Nat)}{listed:Array Bool}(h:aR md ops ((k,0)::rest) listed=true)(j:Nat)(hj:(j,2)∈rest):far md ops listed 3 j k=true:=by
 simp only[aR,Bool.and_eq_true] at h;have h2:Region.free md ops listed k=true/\rest.all (fun x=>x.2 != 2||far md ops listed 3 x.1 k)=true:=h.1.2;have:=List.all_eq_true.1 h2.2 _ hj;simpa using this
theorem jh6:∀(l:List (Nat×Nat)) (listed:Array Bool),aR md ops l listed=true->∀j∈Region.ready md ops listed,∃m,(j,m)∈l
 |[],listed,h,j,hj=>by
  simp only[aR,List.isEmpty_iff] at h;rw[h] at hj;cases hj
 |(k,m)::rest,listed,h,j,hj=>by
  by_cases hjk:j=k
  ·exact⟨m,by simp[hjk]⟩
  ·obtain⟨m',hm'⟩:=jh6 rest _ (aY h).2 j (ready_mono hj hjk);exact⟨m',List.mem_cons_of_mem _ hm'⟩
theorem jh7:∀(l:List (Nat×Nat)) (listed:Array Bool),aR md ops l listed=true->∀k,listed.getD k true=true->∀x∈l,x.1≠k
 |[],_,_,_,_,x,hx=>by cases hx
 |(j,m)::rest,listed,h,k,hk,x,hx=>by
  obtain⟨h1,h2⟩:=aY h
  have hjk:j≠k:=fun e=>by
   have:=(mem_ready.1 h1).1;rw[e,hk] at this;cases this
  rcases List.mem_cons.1 hx with rfl|hx
  ·exact hjk
  ·refine jh7 rest _ h2 k ?_ x hx;rw[getD_set_ne true hjk];exact hk
theorem jsI{listed:Array Bool}{k:Nat}(h:listed.getD k true=false):(listed.setIfInBounds k true).getD k true=true:=by
 rcases Nat.lt_or_ge k listed.size with h'|h'
 ·simp[h']
 ·simp[Array.getElem?_eq_none h'] at h
theorem tY{k m:Nat}{rest:List (Nat×Nat)}{listed:Array Bool}(h:aR md ops ((k,m)::rest) listed=true):((k,m)::rest).filter (fun x=>x.1 != k)=rest:=by
 obtain⟨h1,h2⟩:=aY h;have:=jh7 rest _ h2 k (jsI (mem_ready.1 h1).1);rw[List.filter_cons_of_neg (by simp),List.filter_eq_self];intro x hx;simpa using this x hx
theorem rJ{k m j:Nat}{rest:List (Nat×Nat)}(h:j≠k):((k,m)::rest).filter (fun x=>x.1 != j)=(k,m)::rest.filter (fun x=>x.1 != j):=by
 rw[List.filter_cons_of_pos (by simpa using (Ne.symm h))]
theorem dL{j k:Nat}{listed:Array Bool}(hj:j∈Region.ready md ops listed)(hk:listed.getD k true=false):∀oj,ops[j]?=some oj->∀e∈oj.after,Region.binds md e=true->e.on≠k:=fun oj hoj e he hb heq=>by
 obtain⟨_,o,ho,hall⟩:=mem_ready.1 hj;have:o=oj:=Option.some.inj (ho.symm.trans hoj);subst this;have h1:=hall e he hb;rw[heq,getD_both hk] at h1;cases h1
theorem fC{j k:Nat}{listed:Array Bool}(hj:j∈Region.ready md ops listed)(hk:listed.getD k true=false):Region.waitsFor md ops j k=false:=by
 cases h:Region.waitsFor md ops j k with
 |false=>rfl
 |true =>
  obtain⟨oj,hoj,e,he,hb,hon⟩:=Region.waitsFor_spec h;exact absurd hon (dL hj hk oj hoj e he hb)
theorem jia{listed:Array Bool}{k:Nat}(hk:listed.getD k true=false):∀{n j:Nat},j∈Region.ready md ops listed->far md ops listed n j k=false
 |0,j,hj=>by unfold far;exact fC hj hk
 |n+1,j,hj=>by
  unfold far;rw[fC hj hk,Bool.false_or,List.any_eq_false];intro i _ hi;simp only[Bool.and_eq_true,Bool.not_eq_true'] at hi;rw[fC hj hi.1.1] at hi;cases hi.1.2
theorem jez{listed:Array Bool}{k j:Nat}(hk:listed.getD k true=false)(hj:j∈Region.ready md ops listed):∀{n x:Nat},far md ops listed n x k=true->far md ops (listed.setIfInBounds j true) n x k=true
 |0,x,h=>h
 |n+1,x,h=>by
  unfold far at h ⊢;rw[Bool.or_eq_true] at h ⊢;rcases h with h|h
  ·exact .inl h
  ·right;obtain⟨i,hi,h⟩:=List.any_eq_true.1 h;simp only[Bool.and_eq_true,Bool.not_eq_true'] at h;refine List.any_eq_true.2 ⟨i,hi,?_⟩;simp only[Bool.and_eq_true,Bool.not_eq_true']
   have hij:j≠i:=fun e=>by
    subst e;rw[jia hk hj] at h;cases h.2
   exact⟨⟨by rw[getD_set_ne true hij];exact h.1.1,h.1.2⟩,jez hk hj h.2⟩
theorem jsv(hsel:Region.noSelect ops=true)(hQ:∀c a d v w,Q (.panic c) (Act.put a d v) w->Q (.panic c) a w):∀(l:List (Nat×Nat)) (listed:Array Bool) (a:Act) (w:World),aR md ops l listed=true->wpS P ops Q S l a w →
  ∀j∈Region.ready md ops listed,wpOp P ops Q j (fun a' w'=>wpS P ops Q S (l.filter (fun x=>x.1 != j)) a' w'/\((∀m,(j,m)∈l->m≠2)->S w->S w')) a w
 |[],listed,a,w,h,_,j,hj=>by
  simp only[aR,List.isEmpty_iff] at h;rw[h] at hj;cases hj
 |(k,m)::rest,listed,a,w,h,hw,j,hj=>by
  obtain⟨h1,h2⟩:=aY h;have hun:=(mem_ready.1 h1).1;by_cases hjk:j=k
  ·subst hjk;rw[tY h]
   match m,h,hw with
   |0,_,hw =>
    obtain⟨o,v,ho,hS,hy,hr⟩:=hw;exact hy.wpOp ho hS ⟨hr,fun _ hS=>hS⟩
   |1,_,hw=>exact wpOp_mono (fun a' w' h=>⟨h.2,fun _ _=>h.1⟩) hw
   |2,_,hw=>exact wpOp_mono (fun a' w' h=>⟨h,fun h2 _=>absurd rfl (h2 2 (by simp))⟩) hw
   |n+3,_,hw =>
    obtain⟨o,v,ho,hy,hr⟩:=hw;exact hy.wpOp ho trivial ⟨hr,fun _ hS=>hS⟩
  ·rw[rJ hjk];obtain⟨_,oj,hoj,_⟩:=mem_ready.1 hj;have hj':=ready_mono (i:=k) hj hjk
   match m,h,hw with
   |1,h,_=>rw[mR h (.inl rfl)] at hj;exact absurd (by simpa using hj) hjk
   |2,h,_=>rw[mR h (.inr rfl)] at hj;exact absurd (by simpa using hj) hjk
   |0,h,hw =>
    obtain⟨o,v,ho,hS,hy,hr⟩:=hw;have hap:=Region.free_spec ho (mQ h (.inl rfl)) j oj hoj hjk (mem_ready.1 hj).1 (dL hj hun oj hoj);have ih:=jsv hsel hQ rest _ _ w h2 hr j hj'
    have hmode:∀m,(j,m)∈rest->m≠2:=fun m hm e=>by
     subst e;have:=jdI h j hm;rw[jia hun hj] at this;cases this
    refine wpOp_mono (fun a' w' h3=>?_) (wpOp_putIf hoj hap (fun cs b=>Region.noSelect_spec hsel _ _ cs b ho) (fun cs b=>Region.noSelect_spec hsel _ _ cs b hoj) (fun c a w=>hQ c a _ _ w) hy ih);exact⟨⟨o,v,ho,h3.2.2 hmode hS,h3.1,h3.2.1⟩,fun hm hS=>h3.2.2 hmode hS⟩
   |n+3,h,hw =>
    obtain⟨o,v,ho,hy,hr⟩:=hw;have hap:=Region.free_spec ho (mQ h (.inr (by omega))) j oj hoj hjk (mem_ready.1 hj).1 (dL hj hun oj hoj);have ih:=jsv hsel hQ rest _ _ w h2 hr j hj';refine wpOp_mono (fun a' w' h3=>?_) (wpOp_putIf hoj hap (fun cs b=>Region.noSelect_spec hsel _ _ cs b ho) (fun cs b=>Region.noSelect_spec hsel _ _ cs b hoj) (fun c a w=>hQ c a _ _ w) hy ih);exact⟨⟨o,v,ho,h3.1,h3.2.1⟩,fun hm hS=>h3.2.2 (fun m hm'=>hm m (List.mem_cons_of_mem _ hm')) hS⟩
theorem sV{k j:Nat}{listed:Array Bool}(h:Region.free md ops listed k=true):Region.free md ops (listed.setIfInBounds j true) k=true:=by
 unfold Region.free at h ⊢
 cases hk:ops[k]? with
 |none=>rw[hk] at h;exact h
 |some o =>
  simp only[hk,List.all_eq_true,List.mem_range,Bool.or_eq_true] at h ⊢;intro i hi;rcases h i hi with (h1|h1)|h1
  ·exact .inl (.inl h1)
  ·refine .inl (.inr ?_);by_cases hij:j=i
   ·subst hij;rcases Nat.lt_or_ge j listed.size with h'|h'
    ·simp[h']
    ·simp[Array.getElem?_eq_none (show(listed.setIfInBounds j true).size<=j by simpa using h')]
   ·rw[getD_set_ne true hij];exact h1
  ·exact .inr h1
theorem jdH:∀(l:List (Nat×Nat)) (listed:Array Bool),aR md ops l listed=true->∀j∈Region.ready md ops listed,aR md ops (l.filter (fun x=>x.1 != j)) (listed.setIfInBounds j true)=true
 |[],listed,h,j,hj=>by
  simp only[aR,List.isEmpty_iff] at h;rw[h] at hj;cases hj
 |(k,m)::rest,listed,h,j,hj=>by
  obtain⟨h1,h2⟩:=aY h;by_cases hjk:j=k
  ·subst hjk;rw[tY h];exact h2
  ·rw[rJ hjk];have ih:=jdH rest _ h2 j (ready_mono hj hjk);rw[Array.setIfInBounds_comm _ _ (Ne.symm hjk)] at ih;have hr:=ready_mono (i:=j) h1 (Ne.symm hjk)
   match m,h with
   |1,h=>rw[mR h (.inl rfl)] at hj;exact absurd (by simpa using hj) hjk
   |2,h=>rw[mR h (.inr rfl)] at hj;exact absurd (by simpa using hj) hjk
   |0,h =>
    simp only[aR,Bool.and_eq_true];refine⟨⟨by simpa using hr,sV (mQ h (.inl rfl)),?_⟩,ih⟩;rw[List.all_eq_true];rintro⟨i,mi⟩ hx;have hx':=(List.mem_filter.1 hx).1;by_cases hmi:mi=2
    ·subst hmi;simpa using jez (mem_ready.1 h1).1 hj (jdI h i hx')
    ·simp[hmi]
   |n+3,h =>
    simp only[aR,Bool.and_eq_true];exact⟨⟨by simpa using hr,sV (mQ h (.inr (by omega)))⟩,ih⟩
theorem je1(hsel:Region.noSelect ops=true)(hQ:∀c a d v w,Q (.panic c) (Act.put a d v) w->Q (.panic c) a w):∀(f:Nat) (l:List (Nat×Nat)) (listed:Array Bool) (a:Act) (w:World),l.length<=f->aR md ops l listed=true->wpS P ops Q S l a w →
  wpAny P md ops Q f listed a w
 |0,l,listed,a,w,hl,h,hw=>by
  have:l=[]:=List.eq_nil_of_length_eq_zero (by omega);subst this;simp only[aR,List.isEmpty_iff] at h;exact⟨h,hw⟩
 |f+1,l,listed,a,w,hl,h,hw=>by
  refine⟨fun h0=>?_,fun j hj=>?_⟩
  ·cases l with
   |nil=>exact hw
   |cons x rest=>have:=(aY h).1;rw[h0] at this;cases this
  ·refine wpOp_mono (fun a' w' h3=>je1 hsel hQ f _ _ a' w' ?_ (jdH l listed h j hj) h3.1) (jsv hsel hQ l listed a w h hw j hj);obtain⟨m,hm⟩:=jh6 l listed h j hj
   have:(l.filter (fun x=>x.1 != j)).length<l.length:=by
    exact List.length_filter_lt_length_iff_exists.2 ⟨(j,m),hm,by simp⟩
   omega
def jqX(ops:Array Oper)(l:List (Nat×Nat)):Bool:=Region.noSelect ops&&decide (l.length<=ops.size)&&aR .any ops l (Array.replicate ops.size false)
theorem cQ{id:Nat}{a:Act}{w:World}(S:World->Prop)(l:List (Nat×Nat))(hm:P.follows .mixedOrders=true)(hB:jqX ops l=true)
  (hS:S w.drew) (h:S w.drew->wpS P ops (NoPanic Q) S l a w.drew):(Code.region id ops true).wp P Q a w:=by
 simp only[jqX,Bool.and_eq_true,decide_eq_true_eq] at hB;exact wp_region_noPanic (wp_region_any hm (je1 hB.1.1 (fun _ _ _ _ _ h=>h) _ l _ a _ hB.1.2 hB.2 (h hS)))
theorem iJ{p q:Prop}(hp:p)(h:p->q):p/\q:=⟨hp,h hp⟩
theorem cP{P:Program}(w:World){o:Oper}{a:Act}{K:Act->World->Prop}{Q:Exit->Act->World->Prop}(s x:Operand)(t:TypeId)
  (ho:o.op=.call { callee:=.builtin .append,args := #[s,x],argTypes := #[t,t] })
  (base:Nat) (e:TypeId) (i:TypeInfo) (z:Value) (size bytes:Nat) (ht:P.underlying t=some (.slice e)) (hi:P.info? e=some i) (hz:i.zero=some z)
  (hsize:i.size=size) (hby:i.bytes=bytes) (hzs:z.cells.size=size) (hsz:0<size)
  (v:Value) (n:Nat) (xs:List Value) (hs:a.eval s=v) (hown:w.ownsRow base e size v n xs)
  (p:Option Addr) (m c:Nat) (news:List Value) (hx:a.eval x=.slice p m c) (hl:news.length=m*size) (hp:p=none->m=0/\c=0) (hnews:∀a,p=some a->∀j u,news[j]?=some u->w.cell? (a.add j)=some u) (h1:∀u∈news,u.oneCell'=true)
  (h63:n+m<=maxLen) (hbytes:(n+m)*bytes<=140737488355328) (hbase:base<=w.heap.size)
  (h:∀v' w',w'.ownsRow base e size v' (n+m) (xs++news)->w.grownBy w' v.ownBlock->(v'.ownBlock=v.ownBlock∨v'.ownBlock=some w.heap.size)->K (a.put o.dst v') w'):o.wp P a w K Q:=by
 obtain⟨v',w',hrun,hown',hgrow,hwhere⟩:=lJ (P:=P) w base t o.type e i z size bytes ht hi hz hsize hby hzs hsz v n xs hown p m c news hl hp hnews h1 h63 hbytes hbase;unfold Oper.wp;simp[execOp,ho,resolve,invoke,builtin,hs,hx,hrun,Result.andThen];exact h v' w' hown' hgrow hwhere
variable{k n:Nat}{rest:List (Nat×Nat)}{a:Act}{w:World}{o:Oper}
theorem jfa(h:Q .normal a w):wpS P ops (NoPanic Q) S [] a w:=h
theorem nR(ho:ops[k]?=some o)(hw:Region.wanted o (yielded ops a.tmps)=true)(h:∃v,(∀w,(execOp a.eval o).run P w=.ok (.value v) w)/\wpS P ops Q S rest (a.put o.dst v) w):wpS P ops Q S ((k,3)::rest) a w :=
 let ⟨v,hr,h⟩:=h
 ⟨o,v,ho,.inl ⟨hw,fun w _=>hr w⟩,h⟩
theorem dW(ho:ops[k]?=some o)(hS:S w)(hw:Region.wanted o (yielded ops a.tmps)=true)(h:∃v,(∀w,S w->(execOp a.eval o).run P w=.ok (.value v) w)/\wpS P ops Q S rest (a.put o.dst v) w):wpS P ops Q S ((k,0)::rest) a w :=
 let ⟨v,hr,h⟩:=h
 ⟨o,v,ho,hS,.inl ⟨hw,hr⟩,h⟩
theorem dX(ho:ops[k]?=some o)(h:∀K:Act->World->Prop,(∀a' w',(S w'/\wpS P ops Q S rest a' w')->K a' w')->if Region.wanted o (yielded ops a.tmps)=true then o.wp P a w K Q else K (a.put o.dst undef) w):wpS P ops Q S ((k,1)::rest) a w :=
 wpOp_step ho h
theorem jdL(ho:ops[k]?=some o)(h:∀K:Act->World->Prop,(∀a' w',wpS P ops Q S rest a' w'->K a' w')->if Region.wanted o (yielded ops a.tmps)=true then o.wp P a w K Q else K (a.put o.dst undef) w):wpS P ops Q S ((k,2)::rest) a w :=
 wpOp_step ho h
end
end
end Go.Proofs.YtdnnmiemgmgffaaGreatDoor
namespace Go.Proofs.YtdnnmiemgmgffaaGreatDoor.Vm
open Go.RowKit
section
def fD:Value->Prop
 |.int k n=>k.min<=n/\n<=k.max
 |.string s=>s.size<=maxLen
 |.agg _=>False
 |.tuple _=>False
 |_=>True
inductive A where
 |dead
 |v (x:Value)
 |sl (k n:Nat) (cs:List A)
 |own (g:Nat)
 |orow (g off:Nat)
 |box (b off:Nat)
 |pp (cs:List A)
 |gp (g off:Nat)
 |adr (T:Nat)
 |err
 |num
 |clo (f:Nat) (caps:List A)
 |bm (f:Nat) (fs:List A)
 |mp (ks:List Value) (vs:List A)
 |agg (l:List A)
 |tup (l:List A)
def jix(k:Nat)(p:Prop):Prop:=match k with
 |0=>False
 |_+1=>p
theorem notZ_iff{k:Nat}{p:Prop}:jix k p↔k≠0/\p:=by cases k <;> simp[jix]
structure Env where
 C:Rd
 β:List Nat
 ρ:List Value
def Env.per(E:Env):Env:=⟨E.C,[],[]⟩
mutual
def A.rep:A->Env->Value->Prop
 |.dead,_,_=>True
 |.v x,_,y=>y=x/\fD x
 |.sl k n cs,E,y=>cs.length=n*k/\n<=maxLen/\∃p b off cap,y=.slice p n cap/\n<=cap/\(n=0∨p=some ⟨b,off,none⟩)/\(p=none->cap=0)/\A.repAt cs E.per b off
 |.own g,E,y=>E.ρ[g]?=some y
 |.orow g off,E,y=>∃b n cap,E.ρ[g]?=some (.slice (some ⟨b,0,none⟩) n cap)/\y=.pointer (some ⟨b,off,none⟩)
 |.box i off,E,y=>∃b,E.β[i]?=some b/\y=.pointer (some ⟨b,off,none⟩)
 |.pp cs,E,y=>∃b off,y=.pointer (some ⟨b,off,none⟩)/\A.repAt cs E.per b off
 |.gp g off,_,y=>y=.pointer (some ⟨g,off,none⟩)
 |.adr _,_,_=>False
 |.err,_,y=>∃t v,y=.iface t v
 |.num,_,y=>∃m:Int,y=.int .i64 m
 |.clo f caps,E,y=>∃us:Array Value,y=.func (.func f) #[] us/\A.repL caps E us.toList
 |.bm f fs,E,y=>∃us:Array Value,y=.func (.func f) us #[]/\A.repL fs E us.toList
 |.mp ks vs,E,y=>∃(r:Nat) (us:List Value),y=.map (some r)/\E.C ⟨r,0,some 0⟩=some (.tuple #[.tuple ks.toArray,.tuple us.toArray])/\vs.length=ks.length/\A.repL vs E.per us/\∀k∈ks,fD k
 |.agg l,E,y=>∃us:Array Value,y=.agg us/\A.repC l E us.toList
 |.tup l,E,y=>∃us:Array Value,y=.tuple us/\A.repL l E us.toList
def A.repAt:List A->Env->Nat->Nat->Prop
 |[],_,_,_=>True
 |a::as,E,b,off=>(∃u,E.C ⟨b,off,none⟩=some u/\u.oneCell'=true/\a.rep E u)/\A.repAt as E b (off+1)
def A.repL:List A->Env->List Value->Prop
 |[],_,us=>us=[]
 |a::as,E,us=>∃u us',us=u::us'/\a.rep E u/\A.repL as E us'
def A.repC:List A->Env->List Value->Prop
 |[],_,us=>us=[]
 |a::as,E,us=>∃u us',us=u::us'/\u.oneCell'=true/\a.rep E u/\A.repC as E us'
end
structure Env.le(E F:Env):Prop where
 C:Sub E.C F.C
 β:∀(i:Nat) (b:Nat),E.β[i]?=some b->F.β[i]?=some b
 ρ:∀(i:Nat) (b:Value),E.ρ[i]?=some b->F.ρ[i]?=some b
theorem Env.le.refl(E:Env):E.le E:=⟨Sub.refl _,fun _ _ h=>h,fun _ _ h=>h⟩
theorem Env.le.trans{E F G:Env}(h:E.le F)(k:F.le G):E.le G:=⟨h.C.trans k.C,fun i b e=>k.β i b (h.β i b e),fun i b e=>k.ρ i b (h.ρ i b e)⟩
theorem Env.le.per{E F:Env}(h:E.le F):E.per.le F.per:=⟨h.C,fun _ _ h=>h,fun _ _ h=>h⟩
theorem Env.per_le(E:Env):E.per.le E:=⟨Sub.refl _,fun _ _ h=>by simp[Env.per] at h,fun _ _ h=>by simp[Env.per] at h⟩
mutual
theorem A.rep.mono:∀(a:A) {E F:Env} {y:Value},E.le F->a.rep E y->a.rep F y
 |.dead,_,_,_,_,_=>by unfold A.rep;trivial
 |.v x,_,_,_,_,h=>by unfold A.rep at h ⊢;exact h
 |.sl k n cs,_,_,_,le,h=>by
  unfold A.rep at h ⊢;obtain⟨h1,h2,p,b,off,cap,h3,h4,h6,h7,h8⟩:=h;exact⟨h1,h2,p,b,off,cap,h3,h4,h6,h7,A.repAt.mono cs le.per h8⟩
 |.own g,_,_,_,le,h=>by unfold A.rep at h ⊢;exact le.ρ _ _ h
 |.orow g off,_,_,_,le,h=>by
  unfold A.rep at h ⊢;obtain⟨b,n,cap,h1,h2⟩:=h;exact⟨b,n,cap,le.ρ _ _ h1,h2⟩
 |.box i off,_,_,_,le,h=>by
  unfold A.rep at h ⊢;obtain⟨b,h1,h2⟩:=h;exact⟨b,le.β _ _ h1,h2⟩
 |.pp cs,_,_,_,le,h=>by
  unfold A.rep at h ⊢;obtain⟨b,off,h1,h2⟩:=h;exact⟨b,off,h1,A.repAt.mono cs le.per h2⟩
 |.gp _ _,_,_,_,_,h=>by unfold A.rep at h ⊢;exact h
 |.adr _,_,_,_,_,h=>by unfold A.rep at h;exact h.elim
 |.err,_,_,_,_,h=>by unfold A.rep at h ⊢;exact h
 |.num,_,_,_,_,h=>by unfold A.rep at h ⊢;exact h
 |.clo f caps,_,_,_,le,h=>by
  unfold A.rep at h ⊢;obtain⟨us,h1,h2⟩:=h;exact⟨us,h1,A.repL.mono caps le h2⟩
 |.bm f fs,_,_,_,le,h=>by
  unfold A.rep at h ⊢;obtain⟨us,h1,h2⟩:=h;exact⟨us,h1,A.repL.mono fs le h2⟩
 |.mp ks vs,_,_,_,le,h=>by
  unfold A.rep at h ⊢;obtain⟨r,us,h1,h2,h3,h4,h5⟩:=h;exact⟨r,us,h1,le.C _ _ h2,h3,A.repL.mono vs le.per h4,h5⟩
 |.agg l,_,_,_,le,h=>by
  unfold A.rep at h ⊢;obtain⟨us,h1,h2⟩:=h;exact⟨us,h1,A.repC.mono l le h2⟩
 |.tup l,_,_,_,le,h=>by
  unfold A.rep at h ⊢;obtain⟨us,h1,h2⟩:=h;exact⟨us,h1,A.repL.mono l le h2⟩
theorem A.repAt.mono:∀(l:List A) {E F:Env} {b off:Nat},E.le F->A.repAt l E b off->A.repAt l F b off
 |[],_,_,_,_,_,_=>by unfold A.repAt;trivial
 |a::as,_,_,_,_,le,h=>by
  unfold A.repAt at h ⊢;obtain⟨⟨u,h1,h2,h3⟩,h4⟩:=h;exact⟨⟨u,le.C _ _ h1,h2,A.rep.mono a le h3⟩,A.repAt.mono as le h4⟩
theorem A.repL.mono:∀(l:List A) {E F:Env} {us:List Value},E.le F->A.repL l E us->A.repL l F us
 |[],_,_,_,_,h=>by unfold A.repL at h ⊢;exact h
 |a::as,_,_,_,le,h=>by
  unfold A.repL at h ⊢;obtain⟨u,us',h1,h2,h3⟩:=h;exact⟨u,us',h1,A.rep.mono a le h2,A.repL.mono as le h3⟩
theorem A.repC.mono:∀(l:List A) {E F:Env} {us:List Value},E.le F->A.repC l E us->A.repC l F us
 |[],_,_,_,_,h=>by unfold A.repC at h ⊢;exact h
 |a::as,_,_,_,le,h=>by
  unfold A.repC at h ⊢;obtain⟨u,us',h1,h2,h3,h4⟩:=h;exact⟨u,us',h1,h2,A.rep.mono a le h3,A.repC.mono as le h4⟩
end
theorem A.rep_dead(E:Env)(y:Value):A.dead.rep E y:=by unfold A.rep;trivial
theorem A.rep_v{x:Value}{E:Env}(h:fD x):(A.v x).rep E x:=by unfold A.rep;exact⟨rfl,h⟩
theorem A.rep_v_iff{x y:Value}{E:Env}:(A.v x).rep E y↔y=x/\fD x:=by unfold A.rep;rfl
theorem pC{x:Value}(h:fD x):x.oneCell'=true:=by cases x <;> simp[fD,Value.oneCell'] at h ⊢
section
variable{E:Env}
theorem A.repL_len:∀{l:List A} {us:List Value},A.repL l E us->us.length=l.length
 |[],_,h=>by unfold A.repL at h;simp[h]
 |a::as,us,h=>by
  unfold A.repL at h;obtain⟨u,us',rfl,_,h3⟩:=h;simp[A.repL_len h3]
theorem A.repL_get:∀{l:List A} {us:List Value},A.repL l E us->∀{i:Nat} {a:A},l[i]?=some a->∃u,us[i]?=some u/\a.rep E u
 |[],_,_,i,a,ha=>by simp at ha
 |x::as,us,h,i,a,ha=>by
  unfold A.repL at h;obtain⟨u,us',rfl,h2,h3⟩:=h
  cases i with
  |zero=>simp at ha;subst ha;exact⟨u,rfl,h2⟩
  |succ i=>simpa using A.repL_get h3 (by simpa using ha)
theorem A.repL_getD{l:List A}{us:List Value}(h:A.repL l E us)(i:Nat)(d:Value):(l.getD i .dead).rep E (us.getD i d):=by
 cases hi:l[i]? with
 |none=>simp[List.getD_eq_getElem?_getD,hi];exact A.rep_dead _ _
 |some a =>
  obtain⟨u,hu,ha⟩:=A.repL_get h hi;simp[List.getD_eq_getElem?_getD,hi,hu,ha]
theorem A.repL_set:∀{l:List A} {us:List Value},A.repL l E us->∀(i:Nat) {a:A} {u:Value},a.rep E u->A.repL (l.set i a) E (us.set i u)
 |[],_,h,i,a,u,_=>by unfold A.repL at h;subst h;simp[A.repL]
 |x::as,us,h,i,a,u,ha=>by
  unfold A.repL at h;obtain⟨v,us',rfl,h2,h3⟩:=h
  cases i with
  |zero=>simp only[List.set_cons_zero];unfold A.repL;exact⟨_,_,rfl,ha,h3⟩
  |succ i=>simp only[List.set_cons_succ];unfold A.repL;exact⟨_,_,rfl,h2,A.repL_set h3 i ha⟩
theorem A.repL_append:∀{l m:List A} {us vs:List Value},A.repL l E us->A.repL m E vs->A.repL (l++m) E (us++vs)
 |[],m,us,vs,h,k=>by unfold A.repL at h;subst h;simpa using k
 |a::as,m,us,vs,h,k=>by
  unfold A.repL at h;obtain⟨u,us',rfl,h2,h3⟩:=h;simp only[List.cons_append,A.repL];exact⟨_,_,rfl,h2,A.repL_append h3 k⟩
theorem A.repL_map{α:Type}(x:List α)(f:α->A)(g:α->Value)(h:∀a∈x,(f a).rep E (g a)):A.repL (x.map f) E (x.map g):=by
 induction x with
 |nil=>simp[A.repL]
 |cons a as ih =>
  simp only[List.map_cons,A.repL];exact⟨_,_,rfl,h a (by simp),ih (fun b hb=>h b (by simp[hb]))⟩
theorem A.repC_L:∀{l:List A} {us:List Value},A.repC l E us->A.repL l E us
 |[],_,h=>by unfold A.repC at h;unfold A.repL;exact h
 |a::as,us,h=>by
  unfold A.repC at h;unfold A.repL;obtain⟨u,us',e,_,h2,h3⟩:=h;exact⟨u,us',e,h2,A.repC_L h3⟩
theorem A.repC_one:∀{l:List A} {us:List Value},A.repC l E us->∀u∈us,u.oneCell'=true
 |[],_,h,u,hu=>by unfold A.repC at h;subst h;cases hu
 |a::as,us,h,u,hu=>by
  unfold A.repC at h;obtain⟨v,us',rfl,h1,h2,h3⟩:=h;rcases List.mem_cons.1 hu with rfl|hu
  ·exact h1
  ·exact A.repC_one h3 u hu
theorem A.repC_mk:∀{l:List A} {us:List Value},A.repL l E us->(∀u∈us,u.oneCell'=true)->A.repC l E us
 |[],_,h,_=>by unfold A.repL at h;unfold A.repC;exact h
 |a::as,us,h,k=>by
  unfold A.repL at h;unfold A.repC;obtain⟨u,us',rfl,h2,h3⟩:=h;exact⟨u,us',rfl,k u (by simp),h2,A.repC_mk h3 (fun v hv=>k v (by simp[hv]))⟩
theorem A.repC_len{l:List A}{us:List Value}(h:A.repC l E us):us.length=l.length:=A.repL_len (A.repC_L h)
theorem A.repC_set{l:List A}{us:List Value}(h:A.repC l E us)(i:Nat){a:A}{u:Value}(ha:a.rep E u)(h1:u.oneCell'=true):A.repC (l.set i a) E (us.set i u) :=
 A.repC_mk (A.repL_set (A.repC_L h) i ha) (fun v hv=>by
  rcases List.mem_or_eq_of_mem_set hv with h2|rfl
  ·exact A.repC_one h v h2
  ·exact h1)
theorem A.repC_append{l m:List A}{us vs:List Value}(h:A.repC l E us)(k:A.repC m E vs):A.repC (l++m) E (us++vs) :=
 A.repC_mk (A.repL_append (A.repC_L h) (A.repC_L k)) (fun u hu=>by
  rcases List.mem_append.1 hu with h2|h2
  ·exact A.repC_one h u h2
  ·exact A.repC_one k u h2)
theorem A.repL_drop:∀{l:List A} {us:List Value} (n:Nat),A.repL l E us->A.repL (l.drop n) E (us.drop n)
 |_,_,0,h=>by simpa using h
 |[],us,n+1,h=>by unfold A.repL at h;subst h;simp[A.repL]
 |a::as,us,n+1,h=>by
  unfold A.repL at h;obtain⟨u,us',rfl,_,h3⟩:=h;simpa using A.repL_drop n h3
theorem A.repL_take:∀{l:List A} {us:List Value} (n:Nat),A.repL l E us->A.repL (l.take n) E (us.take n)
 |_,_,0,h=>by simp[A.repL]
 |[],us,n+1,h=>by unfold A.repL at h;subst h;simp[A.repL]
 |a::as,us,n+1,h=>by
  unfold A.repL at h;obtain⟨u,us',rfl,h2,h3⟩:=h;simp only[List.take_succ_cons,A.repL];exact⟨_,_,rfl,h2,A.repL_take n h3⟩
theorem A.repC_drop{l:List A}{us:List Value}(n:Nat)(h:A.repC l E us):A.repC (l.drop n) E (us.drop n) :=
 A.repC_mk (A.repL_drop n (A.repC_L h)) (fun u hu=>A.repC_one h u (List.mem_of_mem_drop hu))
theorem A.repC_take{l:List A}{us:List Value}(n:Nat)(h:A.repC l E us):A.repC (l.take n) E (us.take n) :=
 A.repC_mk (A.repL_take n (A.repC_L h)) (fun u hu=>A.repC_one h u (List.mem_of_mem_take hu))
theorem A.repAt_drop:∀{l:List A} {b off:Nat} (n:Nat),A.repAt l E b off->A.repAt (l.drop n) E b (off+n)
 |_,_,_,0,h=>by simpa using h
 |[],_,_,n+1,h=>by simp[A.repAt]
 |a::as,b,off,n+1,h=>by
  unfold A.repAt at h;have:=A.repAt_drop n h.2;rw[show off+(n+1)=off+1+n by omega];simpa using this
theorem A.repAt_take:∀{l:List A} {b off:Nat} (n:Nat),A.repAt l E b off->A.repAt (l.take n) E b off
 |_,_,_,0,h=>by simp[A.repAt]
 |[],_,_,n+1,h=>by simp[A.repAt]
 |a::as,b,off,n+1,h=>by
  simp only[List.take_succ_cons];unfold A.repAt at h ⊢;exact⟨h.1,A.repAt_take n h.2⟩
theorem A.repAt_vals:∀{l:List A} {b off:Nat},A.repAt l E b off->∃us:List Value,A.repC l E us/\∀j u,us[j]?=some u->E.C ⟨b,off+j,none⟩=some u
 |[],_,_,_=>⟨[],by simp[A.repC],by simp⟩
 |a::as,b,off,h=>by
  unfold A.repAt at h;obtain⟨⟨u,h1,h2,h3⟩,h4⟩:=h;obtain⟨us,k1,k2⟩:=A.repAt_vals h4;refine⟨u::us,by unfold A.repC;exact⟨u,us,rfl,h2,h3,k1⟩,fun j x hj=>?_⟩
  cases j with
  |zero=>simp at hj;subst hj;exact h1
  |succ j =>
   have:=k2 j x (by simpa using hj);rw[show off+(j+1)=off+1+j by omega];exact this
theorem A.repAt_mk:∀{l:List A} {us:List Value} {b off:Nat},A.repC l E us->(∀j u,us[j]?=some u->E.C ⟨b,off+j,none⟩=some u)->A.repAt l E b off
 |[],us,_,_,_,_=>by simp[A.repAt]
 |a::as,us,b,off,h,hc=>by
  unfold A.repC at h;obtain⟨u,us',rfl,h1,h2,h3⟩:=h;unfold A.repAt;refine⟨⟨u,by simpa using hc 0 u (by simp),h1,h2⟩,A.repAt_mk h3 fun j x hj=>?_⟩;have:=hc (j+1) x (by simpa using hj);rw[show off+1+j=off+(j+1) by omega];exact this
end
def jtf:List Nat:=[]
def globs:List (Nat×List A):=[(3,(List.range 20).map fun i=>.v (.int .u64 ((10 ^ i:Nat):Int))),(0,[.err]),(1,[.err]),(2,[.num])]
def sW:List (Nat×List A)->Nat->Option (List A)
 |[],_=>none
 |(i,cs)::r,g=>match Nat.beq i g with|true=>some cs|false=>sW r g
def Gsz(w:World):Prop:=∀x∈globs,∃cs T sp,w.heap[x.1]?=some (.cells cs T sp)/\cs.size=x.2.length
structure Gok(C:Rd)(w:World):Prop where
 cs:∀x∈globs,x.2≠[]/\A.repAt x.2 ⟨C,[],[]⟩ x.1 0
 sz:Gsz w
theorem Gok.mono{C D:Rd}{w:World}(h:Gok C w)(k:Sub C D):Gok D w:=⟨fun x hx=>⟨(h.cs x hx).1,A.repAt.mono x.2 (E:=⟨C,[],[]⟩) (F:=⟨D,[],[]⟩) ⟨k,fun _ _ h=>h,fun _ _ h=>h⟩ (h.cs x hx).2⟩,h.sz⟩
theorem jaS:∀{l:List (Nat×List A)} {g:Nat} {cs:List A},sW l g=some cs->(g,cs)∈l
 |[],_,_,h=>by simp[sW] at h
 |(i,ds)::r,g,cs,h=>by
  unfold sW at h;split at h
  ·rename_i hb;cases h;rw[Nat.eq_of_beq_eq_true hb];simp
  ·exact List.mem_cons_of_mem _ (jaS h)
theorem Gok.at{C:Rd}{w:World}(h:Gok C w){g:Nat}{cs:List A}(hg:sW globs g=some cs):A.repAt cs ⟨C,[],[]⟩ g 0:=(h.cs _ (jaS hg)).2
end
section
inductive Row where
 |live (e k n:Nat) (cs:List A)
 |pub (k n:Nat) (cs:List A)
 |gone
structure S where
 t:List A
 bx:List (List A)
 rw:List Row
def fQ(es:Array MapEntry)(c:Nat):Prop:=c=es.size/\∀(i:Nat) (e:MapEntry),es[i]?=some e->e.born=i
open Classical in
noncomputable def cM(w:World)(r:Nat):Option Value:=match w.heap[r]? with
 |some (.map es c)=>if fQ es c then some (.tuple #[.tuple (es.map (·.key)),.tuple (es.map (·.val))]) else none
 |_=>none
noncomputable def kQ(w:World)(a:Addr):Option Value:=match a.spot with
 |none=>w.cell? a
 |some _=>cM w a.block
theorem jbD{w:World}{a:Addr}{u:Value}(h:w.cell? a=some u):kQ w a=some u:=by
 unfold kQ;split
 ·exact h
 ·rename_i x hs;unfold World.cell? at h;split at h
  ·rw[hs] at h;simp at h
  ·cases h
theorem aP{w w':World}{a:Addr}(h:w'.heap[a.block]?=w.heap[a.block]?):kQ w' a=kQ w a:=by
 unfold kQ cM;rw[World.cell?_of_block h,h]
theorem qI(w:World)(a:Addr){u:Value}(h:kQ w a=some u):a.block<w.heap.size:=by
 unfold kQ at h;split at h
 ·exact World.block_lt_of_cell? w a h
 ·unfold cM at h;rcases Nat.lt_or_ge a.block w.heap.size with h'|h'
  ·exact h'
  ·simp[Array.getElem?_eq_none h'] at h
structure Keeps(X:List Nat)(w w':World):Prop where
 os:w'.os=w.os
 tape:w'.tape=w.tape
 output:w'.output=w.output
 size:w.heap.size<=w'.heap.size
 block:∀b,b<w.heap.size->b∉X->w'.heap[b]?=w.heap[b]?
theorem Keeps.refl(X:List Nat)(w:World):Keeps X w w:=⟨rfl,rfl,rfl,Nat.le_refl _,fun _ _ _=>rfl⟩
theorem Keeps.trans{X:List Nat}{a b c:World}(h:Keeps X a b)(k:Keeps X b c):Keeps X a c :=
 ⟨k.os.trans h.os,k.tape.trans h.tape,k.output.trans h.output,Nat.le_trans h.size k.size,fun i hi hn=>(k.block i (Nat.lt_of_lt_of_le hi h.size) hn).trans (h.block i hi hn)⟩
theorem Keeps.step{X Y:List Nat}{a b c:World}(h:Keeps X a b)(k:Keeps Y b c)(hY:∀y∈Y,y∈X∨a.heap.size<=y):Keeps X a c :=
 ⟨k.os.trans h.os,k.tape.trans h.tape,k.output.trans h.output,Nat.le_trans h.size k.size,fun i hi hn =>
  (k.block i (Nat.lt_of_lt_of_le hi h.size) (fun hy=>(hY i hy).elim hn (fun h2=>by omega))).trans (h.block i hi hn)⟩
theorem Keeps.ext{w w':World}(h:Keeps [] w w'):Ext w w':=⟨h.os,h.tape,h.output,h.size,fun b hb=>h.block b hb (by simp)⟩
theorem Keeps.of_ext{w w':World}(h:Ext w w'):Keeps [] w w':=⟨Below.os h,Below.tape h,Below.output h,Below.size h,fun b hb _=>Below.block h b hb⟩
theorem Keeps.of_grown{w w':World}{v:Value}(h:w.grownBy w' v.ownBlock):Keeps v.ownBlock.toList w w' :=
 ⟨h.os,h.tape,h.output,h.size,fun b hb hn=>h.block b hb (fun e=>hn (by rw[<- e];simp))⟩
theorem Keeps.alloc(w:World)(o:Obj):Keeps [] w (w.alloc o):=Keeps.of_ext ((Ext.refl w).alloc o)
theorem Keeps.set(w:World)(b o:Nat)(v:Value):Keeps [b] w (w.setCell ⟨b,o,none⟩ v) :=
 ⟨rfl,rfl,rfl,by simp[World.setCell],fun k _ hk=>Below.heap_setCell _ _ _ _ (by simpa using hk)⟩
theorem Keeps.cell{X:List Nat}{w w':World}(h:Keeps X w w'){a:Addr}{u:Value}(hc:(kQ w) a=some u)(hn:a.block∉X):(kQ w') a=some u :=
 (aP (h.block a.block (qI w a hc) hn)).trans hc
theorem jpT{w w':World}(h:Ext w w'):Sub (kQ w) (kQ w'):=fun _ _ hc=>(Keeps.of_ext h).cell hc (by simp)
theorem jeS{w w':World}{base:Nat}{e:TypeId}{size:Nat}{v:Value}{n:Nat}{xs:List Value}(h:w.ownsRow base e size v n xs)
  (k:∀b,v.ownBlock=some b->w'.heap[b]?=w.heap[b]?):w'.ownsRow base e size v n xs:=by
 refine⟨h.1,?_⟩;rcases h.2 with hn|⟨g,cap,cur,rfl,hb,hgg,rest⟩
 ·exact .inl hn
 ·exact .inr ⟨g,cap,cur,rfl,hb,(k g rfl).trans hgg,rest⟩
theorem x8{l:List Nat}(h:l.Nodup){i j:Nat}{hi:i<l.length}{hj:j<l.length}(e:l[i]=l[j]):i=j:=by
 rcases Nat.lt_trichotomy i j with h1|h1|h1
 ·exact absurd e (List.pairwise_iff_getElem.1 h i j hi hj h1)
 ·exact h1
 ·exact absurd e.symm (List.pairwise_iff_getElem.1 h j i hj hi h1)
theorem nS{ρ:List Value}{v:Value}(h:∀(g:Nat) (y:Value),ρ[g]?=some y->(∃p n c,y=.slice p n c)∨(∃r,y=.map (some r))∨∃a,y=.pointer (some a))(hv:(∃p n c,v=.slice p n c)∨(∃r,v=.map (some r))∨∃a,v=.pointer (some a))(g:Nat)(y:Value)(h1:(ρ++[v])[g]?=some y):(∃p n c,y=.slice p n c)∨(∃r,y=.map (some r))∨∃a,y=.pointer (some a):=by
 by_cases hg:g<ρ.length
 ·rw[List.getElem?_append_left hg] at h1;exact h g y h1
 ·rw[List.getElem?_append_right (by omega)] at h1;have:=(List.getElem?_eq_some_iff.1 h1).1
  have e:g-ρ.length=0:=by simp at this;omega
  rw[e] at h1;simp at h1;rw[<- h1];exact hv
def n9:List A->List A
 |[]=>[]
 |a::r=>match a with
  |.adr _=>.dead::r
  |a=>a::r
def jte(T b:Nat)(cs:List A)(arr:Array Value):Prop:=∀t r,cs=.adr t::r->t=T/\(arr[0]?=some (.pointer none)∨arr[0]?=some (.pointer (some ⟨b,0,none⟩)))
def boxC(T b:Nat)(cs:List A)(E:Env)(arr:Array Value):Prop:=A.repC (n9 cs) E arr.toList/\jte T b cs arr
theorem yI{cs:List A}(h:∀t r,cs≠.adr t::r):n9 cs=cs:=by
 cases cs with
 |nil=>rfl
 |cons a r=>cases a <;> first|rfl|exact absurd rfl (h _ _)
theorem jbb{cs:List A}{E:Env}{us:List Value}(h:A.repC cs E us)(t:Nat)(r:List A):cs≠.adr t::r:=by
 rintro rfl;unfold A.repC at h;obtain⟨u,us',_,_,h,_⟩:=h;unfold A.rep at h;exact h
theorem boxC.mk'{T b:Nat}{cs:List A}{E:Env}{arr:Array Value}(h:A.repC cs E arr.toList):boxC T b cs E arr:=⟨by rw[yI (jbb h)];exact h,fun t r e=>absurd e (jbb h t r)⟩
theorem boxC.plain{T b:Nat}{cs:List A}{E:Env}{arr:Array Value}(h:boxC T b cs E arr)(k:∀t r,cs≠.adr t::r):A.repC cs E arr.toList:=by have:=h.1;rwa [yI k] at this
theorem jkw(cs:List A):(n9 cs).length=cs.length:=by
 cases cs with
 |nil=>rfl
 |cons a r=>cases a <;> rfl
theorem boxC.len{T b:Nat}{cs:List A}{E:Env}{arr:Array Value}(h:boxC T b cs E arr):arr.toList.length=cs.length:=by rw[A.repC_len h.1,jkw]
theorem boxC.rel{T b:Nat}{cs cs':List A}{E F:Env}{arr:Array Value}(R:List A->List A->Prop)(h:boxC T b cs E arr)(hR:R cs cs')(hrep:∀l m us,R l m->A.repL l E us->A.repL m F us)(hu:∀l m,R l m->R (n9 l) (n9 m))(ha:∀l t r,R l (.adr t::r)->∃r',l=.adr t::r'):boxC T b cs' F arr :=
 ⟨A.repC_mk (hrep _ _ _ (hu _ _ hR) (A.repC_L h.1)) (A.repC_one h.1),fun t r e=>by
  subst e;obtain⟨r',e⟩:=ha _ _ _ hR
  exact h.2 t r' e⟩
theorem boxC.mono{T b:Nat}{cs:List A}{E F:Env}{arr:Array Value}(h:boxC T b cs E arr)(le:E.le F):boxC T b cs F arr:=⟨A.repC.mono _ le h.1,h.2⟩
theorem jq7{f:A->A}(h0:f .dead=.dead)(h1:∀t,f (.adr t)=.adr t)(h2:∀a t,f a=.adr t->a=.adr t)(l:List A):n9 (l.map f)=(n9 l).map f:=by
 cases l with
 |nil=>rfl
 |cons a r =>
  by_cases h:∃t,a=.adr t
  ·obtain⟨t,rfl⟩:=h;simp[n9,h1,h0]
  ·have e1:n9 (a::r)=a::r:=yI fun t r' e=>h ⟨t,by cases e;rfl⟩
   have e2:n9 (f a::r.map f)=f a::r.map f:=yI fun t r' e=>h ⟨t,h2 a t (by injection e)⟩
   rw[e1,List.map_cons,e2]
theorem boxC.map{T b:Nat}{cs:List A}{E F:Env}{arr:Array Value}(f:A->A)(h:boxC T b cs E arr)(hrep:∀l us,A.repL l E us->A.repL (l.map f) F us)(h0:f .dead=.dead)(h1:∀t,f (.adr t)=.adr t)(h2:∀a t,f a=.adr t->a=.adr t):boxC T b (cs.map f) F arr :=
 h.rel (fun l m=>m=l.map f) rfl (fun l m us e k=>by rw[e];exact hrep l us k) (fun l m e=>by rw[e,jq7 h0 h1 h2]) fun l t r e=>by
  cases l with
  |nil=>cases e
  |cons a l =>
   rw[List.map_cons] at e;injection e with e1 e2;exact⟨l,by rw[h2 a t e1.symm]⟩
theorem jq8{cs:List A}{a:A}(ha:∀t,a≠.adr t)(off:Nat):n9 (cs.set off a)=(n9 cs).set off a:=by
 cases cs with
 |nil=>rfl
 |cons x r =>
  cases off with
  |zero =>
   rw[List.set_cons_zero,yI fun t r' e=>ha t (by cases e;rfl)]
   cases x <;> rfl
  |succ o =>
   rw[List.set_cons_succ]
   cases x <;> rfl
theorem boxC.set{T b:Nat}{cs:List A}{E:Env}{arr:Array Value}(h:boxC T b cs E arr)(off:Nat){a:A}{u:Value}(ha:a.rep E u)(h1:u.oneCell'=true):boxC T b (cs.set off a) E (arr.setIfInBounds off u):=by
 have hn:∀t,a≠.adr t:=fun t e=>by subst e;unfold A.rep at ha;exact ha
 refine⟨?_,fun t r e=>?_⟩
 ·rw[jq8 hn,Array.toList_setIfInBounds];exact A.repC_set h.1 off ha h1
 ·cases cs with
  |nil=>cases e
  |cons x l =>
   cases off with
   |zero =>
    rw[List.set_cons_zero] at e;injection e with e1 e2;exact absurd e1 (hn t)
   |succ o =>
    rw[List.set_cons_succ] at e;injection e with e1 e2;obtain⟨k1,k2⟩:=h.2 t l (by rw[e1]);refine⟨k1,?_⟩;rw[Array.getElem?_setIfInBounds_ne (by omega)];exact k2
def boxAt(w:World)(E:Env)(b:Nat)(cs:List A):Prop:=∃T arr,w.heap[b]?=some (.cells arr T (0,0))/\boxC T b cs E arr
theorem boxAt.mono{w:World}{E F:Env}{b:Nat}{cs:List A}(h:boxAt w E b cs)(le:E.le F):boxAt w F b cs:=by
 obtain⟨T,arr,h1,h2⟩:=h;exact⟨T,arr,h1,h2.mono le⟩
theorem boxAt.same{w w':World}{E:Env}{b:Nat}{cs:List A}(h:boxAt w E b cs)(e:w'.heap[b]?=w.heap[b]?):boxAt w' E b cs:=by
 obtain⟨T,arr,h1,h2⟩:=h;exact⟨T,arr,e.trans h1,h2⟩
theorem boxAt.lt{w:World}{E:Env}{b:Nat}{cs:List A}(h:boxAt w E b cs):b<w.heap.size:=by
 obtain⟨T,arr,h1,h2⟩:=h;exact(Array.getElem?_eq_some_iff.1 h1).1
structure W0 where
 w:World
 X:List Nat
def W0.fr(w0:W0)(b:Nat):Prop:=w0.w.heap.size<=b∨b∈w0.X
def blk:Value->Option Nat
 |.slice (some a) _ _=>some a.block
 |.map (some r)=>some r
 |.pointer (some a)=>some a.block
 |_=>none
theorem eG{y:Value}{b:Nat}(h:y.ownBlock=some b):blk y=some b:=by
 unfold Value.ownBlock at h;split at h
 ·exact h
 ·cases h
def fnV(l:List Value):Value:=.func (.func 0) #[] l.toArray
def juL(w:World)(y:Value)(n:Nat)(xs:List Value):Prop :=
 ∃r es c,y=.map (some r)/\w.heap[r]?=some (.map es c)/\n=es.size/\fQ es c/\xs=[fnV (es.toList.map (·.key)),fnV (es.toList.map (·.val))]
def jtK(w:World)(y:Value)(n:Nat)(xs:List Value):Prop :=
 ∃r m seen since,y=.pointer (some ⟨r,0,none⟩)/\w.heap[r]?=some (.mapIter (some m) since seen since)/\n=seen.size/\xs=[.map (some m),fnV (seen.toList.reverse.map fun i:Nat=>Value.int .i64 (i:Int)),.int .i64 (since:Int)]
def juC(w:World)(e:Nat)(y:Value)(n:Nat)(xs:List Value):Prop :=
 ∃s:ByteArray,n=s.size/\xs=[.string s]/\w.ownsRowF 0 e 1 y n (Lib.strCells s)
def owR(w:World)(e k:Nat)(y:Value)(n:Nat)(xs:List Value):Prop :=
 (k≠0/\w.ownsRow 0 e k y n xs)∨(k=0/\(juL w y n xs∨(y=.slice none 0 0/\n=0/\xs=[])∨jtK w y n xs∨juC w e y n xs))
theorem owR.row{w:World}{e k:Nat}{y:Value}{n:Nat}{xs:List Value}(h:owR w e k y n xs)(hk:k≠0):w.ownsRow 0 e k y n xs:=h.elim (·.2) fun h=>absurd h.1 hk
theorem owR.kind{w:World}{e k:Nat}{y:Value}{n:Nat}{xs:List Value}(h:owR w e k y n xs):(∃p n c,y=.slice p n c)∨(∃r,y=.map (some r))∨∃a,y=.pointer (some a):=by
 rcases h with ⟨_,h⟩|⟨_,⟨r,es,c,h,_⟩|⟨h,_⟩|⟨r,m,seen,since,h,_⟩|⟨s,_,_,h⟩⟩
 ·rcases h.2 with ⟨h,_⟩|⟨g,cap,cur,h,_⟩
  ·exact .inl ⟨_,_,_,h⟩
  ·exact .inl ⟨_,_,_,h⟩
 ·exact .inr (.inl ⟨r,h⟩)
 ·exact .inl ⟨_,_,_,h⟩
 ·exact .inr (.inr ⟨_,h⟩)
 ·rcases h.2 with ⟨h,_⟩|⟨g,cap,cur,fz,h,_⟩
  ·exact .inl ⟨_,_,_,h⟩
  ·exact .inl ⟨_,_,_,h⟩
theorem jf5{w:World}{base e k n:Nat}{y:Value}{xs:List Value}(h:w.ownsRow base e k y n xs){b:Nat}(hb:blk y=some b):y.ownBlock=some b:=by
 rcases h.2 with ⟨h,_⟩|⟨g,cap,cur,h,_⟩
 ·rw[h] at hb;cases hb
 ·rw[h] at hb ⊢;exact hb
theorem jbx{w:World}{base e k n:Nat}{y:Value}{xs:List Value}(h:w.ownsRowF base e k y n xs){b:Nat}(hb:blk y=some b):y.ownBlock=some b:=by
 rcases h.2 with ⟨h,_⟩|⟨g,cap,cur,fz,h,_⟩
 ·rw[h] at hb;cases hb
 ·rw[h] at hb ⊢;exact hb
theorem owR.lt{w:World}{e k:Nat}{y:Value}{n:Nat}{xs:List Value}(h:owR w e k y n xs){b:Nat}(hb:blk y=some b):b<w.heap.size:=by
 rcases h with ⟨_,h⟩|⟨_,⟨r,es,c,h,h2,_⟩|⟨h,_⟩|⟨r,m,seen,since,h,h2,_⟩|⟨s,_,_,h⟩⟩
 ·exact(h.lt b (jf5 h hb)).2
 ·rw[h] at hb;cases hb;exact(Array.getElem?_eq_some_iff.1 h2).1
 ·rw[h] at hb;cases hb
 ·rw[h] at hb;cases hb;exact(Array.getElem?_eq_some_iff.1 h2).1
 ·exact(h.lt b (jbx h hb)).2
theorem jcj{w w':World}{base:Nat}{e:TypeId}{size:Nat}{v:Value}{n:Nat}{xs:List Value}(h:w.ownsRowF base e size v n xs)
  (k:∀b,v.ownBlock=some b->w'.heap[b]?=w.heap[b]?):w'.ownsRowF base e size v n xs:=by
 refine⟨h.1,?_⟩;rcases h.2 with hn|⟨g,cap,cur,fz,rfl,hb,hgg,rest⟩
 ·exact .inl hn
 ·exact .inr ⟨g,cap,cur,fz,rfl,hb,(k g rfl).trans hgg,rest⟩
theorem owR.same{w w':World}{e k:Nat}{y:Value}{n:Nat}{xs:List Value}(h:owR w e k y n xs)(g:∀b,blk y=some b->w'.heap[b]?=w.heap[b]?):owR w' e k y n xs:=by
 rcases h with ⟨h0,h⟩|⟨h0,⟨r,es,c,h,h2,h3⟩|h|⟨r,m,seen,since,h,h2,h3⟩|⟨s,h1,h2,h⟩⟩
 ·exact .inl ⟨h0,jeS h fun b hb=>g b (eG hb)⟩
 ·exact .inr ⟨h0,.inl ⟨r,es,c,h,(g r (by rw[h];rfl)).trans h2,h3⟩⟩
 ·exact .inr ⟨h0,.inr (.inl h)⟩
 ·exact .inr ⟨h0,.inr (.inr (.inl ⟨r,m,seen,since,h,(g r (by rw[h];rfl)).trans h2,h3⟩))⟩
 ·exact .inr ⟨h0,.inr (.inr (.inr ⟨s,h1,h2,jcj h fun b hb=>g b (eG hb)⟩))⟩
theorem owR.nil(w:World)(e k:Nat):owR w e k (.slice none 0 0) 0 []:=by
 by_cases hk:k=0
 ·exact .inr ⟨hk,.inr (.inl ⟨rfl,rfl,rfl⟩)⟩
 ·exact .inl ⟨hk,World.ownsRow_nil _ _ _ _⟩
def juA(w:World)(w0:W0)(e:TypeId)(k:Nat)(y:Value)(n:Nat)(xs:List Value):Prop:=owR w e k y n xs/\∀b,blk y=some b->w0.fr b
def rowRep(w:World)(w0:W0)(E:Env):Row->Value->Prop
 |.live e k n cs,y=>∃xs,juA w w0 e k y n xs/\A.repC cs E.per xs
 |.pub k n cs,y=>(A.sl k n cs).rep E y
 |.gone,_=>True
theorem rowRep.mono{w w':World}{w0:W0}{E F:Env}(le:E.le F):∀{r:Row} {y:Value},rowRep w w0 E r y->(∀e k n cs,r=.live e k n cs->∀b,blk y=some b->w'.heap[b]?=w.heap[b]?)->rowRep w' w0 F r y
 |.live e k n cs,y,h,hk=>by
  obtain⟨xs,h1,h2⟩:=h;exact⟨xs,⟨h1.1.same (hk e k n cs rfl),h1.2⟩,A.repC.mono cs le.per h2⟩
 |.pub k n cs,y,h,_=>A.rep.mono _ le h
 |.gone,_,_,_=>trivial
structure Hp(w0:W0)(C0:Rd)(β0:List Nat)(bx:List (List A))(rw:List Row)(w:World)(E:Env):Prop where
 sub:Sub E.C (kQ w)
 base:Sub C0 E.C
 fresh:∀ad u,E.C ad=some u->C0 ad=some u∨w0.fr ad.block
 bp:∃β',E.β=β0++β'/\∀b∈β',w0.w.heap.size<=b
 bnd:E.β.Nodup
 bC:∀b∈E.β,∀o sp,E.C ⟨b,o,sp⟩=none
 bl:bx.length=E.β.length
 bxs:∀(i b:Nat) (cs:List A),E.β[i]?=some b->bx[i]?=some cs->boxAt w E b cs
 rl:rw.length=E.ρ.length
 rws:∀(g:Nat) (r:Row) (y:Value),rw[g]?=some r->E.ρ[g]?=some y->rowRep w w0 E r y
 rC:∀(g e k n:Nat) (cs:List A) (y:Value) (b:Nat),rw[g]?=some (.live e k n cs)->E.ρ[g]?=some y->blk y=some b->b∉E.β/\∀o sp,E.C ⟨b,o,sp⟩=none
 rd:∀(g e k n:Nat) (cs:List A) (y:Value) (h e' k' n':Nat) (cs':List A) (z:Value) (b:Nat),g≠h->rw[g]?=some (.live e k n cs)->E.ρ[g]?=some y->rw[h]?=some (.live e' k' n' cs')->E.ρ[h]?=some z->blk y=some b->blk z≠some b
 rs:∀(g:Nat) (y:Value),E.ρ[g]?=some y->(∃p n c,y=.slice p n c)∨(∃r,y=.map (some r))∨∃a,y=.pointer (some a)
 keep:Keeps (β0++w0.X) w0.w w
 gk:Gok C0 w0.w/\∀b∈w0.X,∀o sp,C0 ⟨b,o,sp⟩=none
section
variable{w0:W0}{C0:Rd}{β0:List Nat}{bx:List (List A)}{rw:List Row}{w w':World}{E:Env}
abbrev W0.of(w:World):W0:=⟨w,[]⟩
theorem W0.fr_of{w:World}{b:Nat}:(W0.of w).fr b↔w.heap.size<=b:=⟨fun h=>h.elim id fun h=>by simp at h,.inl⟩
theorem Hp.keep0(h:Hp (.of w) C0 β0 bx rw w' E):Keeps β0 w w':=by have:=h.keep;simpa using this
theorem Hp.fresh0(h:Hp (.of w) C0 β0 bx rw w' E)(ad:Addr)(u:Value)(hc:E.C ad=some u):C0 ad=some u∨w.heap.size<=ad.block:=(h.fresh ad u hc).imp id W0.fr_of.1
theorem jg5{C:Rd}(h:Gok C w):Gok C (W0.of w).w/\∀b∈(W0.of w).X,∀o sp,C ⟨b,o,sp⟩=none:=⟨h,by simp⟩
theorem Hp.blt(h:Hp w0 C0 β0 bx rw w E){b:Nat}(hb:b∈E.β):b<w.heap.size:=by
 obtain⟨i,hi,rfl⟩:=List.mem_iff_getElem.1 hb;have hl:=h.bl;exact(h.bxs i E.β[i] (bx[i]'(by omega)) (by simp[hi]) (by simp[hl,hi])).lt
theorem Gok.keep{C:Rd}{X:List Nat}(h:Gok C w)(k:Keeps X w w')(hX:∀b∈X,∀o sp,C ⟨b,o,sp⟩=none):Gok C w':=⟨h.cs,fun x hx=>by
 obtain⟨cs,T,sp,h1,h2⟩:=h.sz x hx;refine⟨cs,T,sp,(k.block x.1 (Array.getElem?_eq_some_iff.1 h1).1 fun hm=>?_).trans h1,h2⟩;obtain⟨h3,h4⟩:=h.cs x hx
 cases hc:x.2 with
 |nil=>exact h3 hc
 |cons a r =>
  rw[hc] at h4;unfold A.repAt at h4;obtain⟨⟨u,h5,_⟩,_⟩:=h4;have:=hX _ hm 0 none;have h6:C ⟨x.1,0,none⟩=some u:=h5
  rw[this] at h6;cases h6⟩
theorem Gok.blocks{C:Rd}(h:Gok C w)(k:∀b cs T sp,w.heap[b]?=some (.cells cs T sp)->(∃u,C ⟨b,0,none⟩=some u)->w'.heap[b]?=some (.cells cs T sp)):Gok C w':=⟨h.cs,fun x hx=>by
 obtain⟨cs,T,sp,h1,h2⟩:=h.sz x hx;refine⟨cs,T,sp,k x.1 _ _ _ h1 ?_,h2⟩;obtain⟨h3,h4⟩:=h.cs x hx
 cases hc:x.2 with
 |nil=>exact absurd hc h3
 |cons a r =>
  rw[hc] at h4;unfold A.repAt at h4;obtain⟨⟨u,h5,_⟩,_⟩:=h4
  exact⟨u,h5⟩⟩
theorem Hp.gok(h:Hp w0 C0 β0 bx rw w E):Gok E.C w :=
 (h.gk.1.keep h.keep fun b hb' o sp=>by
  rcases List.mem_append.1 hb' with hb|hb
  case inr=>exact h.gk.2 b hb o sp
  obtain⟨β',h1,_⟩:=h.bp
  have hm:b∈E.β:=by rw[h1];exact List.mem_append_left _ hb
  have h2:=h.bC b hm o sp
  cases hc:C0 ⟨b,o,sp⟩ with
  |none=>rfl
  |some u=>have:=h.base _ _ hc;rw[h2] at this;cases this).mono h.base
theorem Hp.clt(h:Hp w0 C0 β0 bx rw w E){a:Addr}{u:Value}(hc:E.C a=some u):a.block<w.heap.size:=qI w a (h.sub a u hc)
theorem Hp.rlt(h:Hp w0 C0 β0 bx rw w E){g e k n:Nat}{cs:List A}{y:Value}{b:Nat}(h1:rw[g]?=some (.live e k n cs))(h2:E.ρ[g]?=some y)(hb:blk y=some b):w0.fr b/\b<w.heap.size:=by
 obtain⟨xs,h3,_⟩:=h.rws g _ y h1 h2;exact⟨h3.2 b hb,h3.1.lt hb⟩
theorem Hp.call(h:Hp w0 C0 β0 bx rw w E){Y:List Nat}(hY:∀b∈Y,b∈E.β)(k:Keeps Y w w'){C':Rd}(hC:Sub E.C C')(hC':Sub C' (kQ w'))
  (hnew:∀ad u,C' ad=some u->E.C ad=some u∨w.heap.size<=ad.block) {bx':List (List A)} (hbl:bx'.length=bx.length)
  (hbx:∀(i b:Nat) (cs:List A),E.β[i]?=some b->bx'[i]?=some cs->boxAt w' ⟨C',E.β,E.ρ⟩ b cs∨(b∉Y/\bx[i]?=some cs)):Hp w0 C0 β0 bx' rw w' ⟨C',E.β,E.ρ⟩/\E.le ⟨C',E.β,E.ρ⟩:=by
 have le:E.le ⟨C',E.β,E.ρ⟩:=⟨hC,fun _ _ h=>h,fun _ _ h=>h⟩
 have hnone:∀b,b<w.heap.size->(∀o sp,E.C ⟨b,o,sp⟩=none)->∀o sp,C' ⟨b,o,sp⟩=none:=fun b hb hn o sp=>by
  cases hc:C' ⟨b,o,sp⟩ with
  |none=>rfl
  |some u =>
   rcases hnew _ _ hc with h2|h2
   ·rw[hn] at h2;cases h2
   ·simp at h2;omega
 have hrow:∀(g e k n:Nat) (cs:List A) (y:Value) (b:Nat),rw[g]?=some (.live e k n cs)->E.ρ[g]?=some y->blk y=some b->w'.heap[b]?=w.heap[b]?:=fun g e k' n cs y b h1 h2 h3 =>
  k.block b (h.rlt h1 h2 h3).2 (fun hy=>(h.rC g e k' n cs y b h1 h2 h3).1 (hY b hy))
 refine⟨⟨hC',h.base.trans hC,fun ad u hc=>?_,h.bp,h.bnd,fun b hb=>hnone b (h.blt hb) (h.bC b hb),by rw[hbl];exact h.bl,fun i b cs h1 h2=>?_,h.rl,fun g r y h1 h2=>?_,fun g e k n cs y b h1 h2 h3=>?_,h.rd,h.rs,?_,h.gk⟩,le⟩
 ·rcases hnew ad u hc with h2|h2
  ·exact h.fresh ad u h2
  ·exact .inr (.inl (Nat.le_trans h.keep.size h2))
 ·rcases hbx i b cs h1 h2 with h3|⟨h3,h4⟩
  ·exact h3
  ·exact((h.bxs i b cs h1 h4).same (k.block b (h.blt (List.mem_iff_getElem?.2 ⟨i,h1⟩)) h3)).mono le
 ·exact(h.rws g r y h1 h2).mono le (fun e k n cs hr b hb=>by subst hr;exact hrow g e k n cs y b h1 h2 hb)
 ·exact⟨(h.rC g e k n cs y b h1 h2 h3).1,hnone b (h.rlt h1 h2 h3).2 (h.rC g e k n cs y b h1 h2 h3).2⟩
 ·refine h.keep.step k (fun y hy=>?_);obtain⟨β',hβ,hβ'⟩:=h.bp;have:=hY y hy;rw[hβ] at this;rcases List.mem_append.1 this with h1|h1
  ·exact .inl (List.mem_append_left _ h1)
  ·exact .inr (hβ' y h1)
theorem Hp.ext(h:Hp w0 C0 β0 bx rw w E)(k:Ext w w'):Hp w0 C0 β0 bx rw w' E :=
 (h.call (Y:=[]) (by simp) (Keeps.of_ext k) (Sub.refl _) (h.sub.trans (jpT k)) (fun _ _ hc=>.inl hc) rfl (fun i b cs h1 h2=>.inr ⟨by simp,h2⟩)).1
theorem Hp.cnone(h:Hp w0 C0 β0 bx rw w E)(o:Nat)(sp:Option Nat):E.C ⟨w.heap.size,o,sp⟩=none:=by
 cases hc:E.C ⟨w.heap.size,o,sp⟩ with
 |none=>rfl
 |some u=>have:=h.clt hc;simp at this
theorem Hp.bnew(h:Hp w0 C0 β0 bx rw w E):w.heap.size∉E.β:=fun hb=>by have:=h.blt hb;omega
theorem Hp.box(h:Hp w0 C0 β0 bx rw w E)(arr:Array Value)(T:TypeId){cs:List A}(hr:boxC T w.heap.size cs E arr) :
  Hp w0 C0 β0 (bx++[cs]) rw (w.alloc (.cells arr T)) ⟨E.C,E.β++[w.heap.size],E.ρ⟩/\E.le ⟨E.C,E.β++[w.heap.size],E.ρ⟩:=by
 have le:E.le ⟨E.C,E.β++[w.heap.size],E.ρ⟩:=⟨Sub.refl _,fun i b hb=>by
  have:=(List.getElem?_eq_some_iff.1 hb).1
  rw[List.getElem?_append_left this];exact hb,fun _ _ h=>h⟩
 have g:=h.ext ((Ext.refl w).alloc (.cells arr T));refine⟨⟨g.sub,g.base,g.fresh,?_,?_,fun b hb=>?_,by simp[g.bl],fun i b cs' h1 h2=>?_,g.rl,fun a r y h1 h2=>?_,fun a e k n cs y b h1 h2 h3=>?_,g.rd,g.rs,g.keep,g.gk⟩,le⟩
 ·obtain⟨β',hβ,hβ'⟩:=h.bp;refine⟨β'++[w.heap.size],by rw[hβ];simp,fun b hb=>?_⟩;rcases List.mem_append.1 hb with h1|h1
  ·exact hβ' b h1
  ·simp at h1;rw[h1];exact h.keep.size
 ·refine List.nodup_append.2 ⟨h.bnd,by simp,fun a ha b hb=>?_⟩;simp at hb;have:=h.blt ha;omega
 ·rcases List.mem_append.1 hb with h1|h1
  ·exact h.bC b h1
  ·simp at h1;subst h1;exact h.cnone
 ·by_cases hi:i<E.β.length
  ·rw[List.getElem?_append_left hi] at h1;rw[List.getElem?_append_left (by rw[h.bl];exact hi)] at h2;exact(g.bxs i b cs' h1 h2).mono le
  ·rw[List.getElem?_append_right (by omega)] at h1;rw[List.getElem?_append_right (by rw[h.bl];omega)] at h2
   have hi0:i-E.β.length=0:=by
    have:=(List.getElem?_eq_some_iff.1 h1).1;simp at this;omega
   rw[hi0] at h1;rw[h.bl,hi0] at h2;simp at h1 h2;subst h1;subst h2;exact⟨T,arr,heap_alloc_new w _,hr.mono le⟩
 ·exact(g.rws a r y h1 h2).mono le (fun _ _ _ _ _ _ _=>rfl)
 ·refine⟨fun hb=>?_,(h.rC a e k n cs y b h1 h2 h3).2⟩;rcases List.mem_append.1 hb with h4|h4
  ·exact(h.rC a e k n cs y b h1 h2 h3).1 h4
  ·have:=(h.rlt h1 h2 h3).2;simp at h4;omega
theorem Hp.store(h:Hp w0 C0 β0 bx rw w E){i b off:Nat}{cs:List A}(hb:E.β[i]?=some b)(hc:bx[i]?=some cs){a:A}{u:Value}(ha:a.rep E u)(h1:u.oneCell'=true) :
  Hp w0 C0 β0 (bx.set i (cs.set off a)) rw (w.setCell ⟨b,off,none⟩ u) E:=by
 have hi:=(List.getElem?_eq_some_iff.1 hc).1;have:=(h.call (Y:=[b]) (by simp;exact List.mem_iff_getElem?.2 ⟨i,hb⟩) (Keeps.set w b off u) (C':=E.C) (Sub.refl _) (fun ad v hv=>?_) (fun _ _ hc=>.inl hc) (bx':=bx.set i (cs.set off a)) (by simp) (fun j b' cs' h2 h3=>?_)).1
 ·exact this
 ·refine(Keeps.set w b off u).cell (h.sub ad v hv) (fun hm=>?_);simp at hm;have hn:=h.bC b (List.mem_iff_getElem?.2 ⟨i,hb⟩) ad.off ad.spot;rw[<- hm] at hn;have:E.C ad=none:=hn;rw[this] at hv;cases hv
 ·by_cases hij:i=j
  ·subst hij;left;rw[hb] at h2;cases h2;rw[List.getElem?_set_self hi] at h3;cases h3;obtain⟨T,arr,k1,k2⟩:=h.bxs i b cs hb hc;exact⟨T,arr.setIfInBounds off u,mS k1 off u,k2.set off ha h1⟩
  ·right;rw[List.getElem?_set_ne hij] at h3;refine⟨fun hm=>?_,h3⟩;simp at hm;subst hm;have e1:=List.getElem?_eq_some_iff.1 hb;have e2:=List.getElem?_eq_some_iff.1 h2;exact hij (x8 h.bnd (e1.2.trans e2.2.symm))
theorem Hp.nilRow(h:Hp w0 C0 β0 bx rw w E)(e k:Nat):Hp w0 C0 β0 bx (rw++[.live e k 0 []]) w ⟨E.C,E.β,E.ρ++[.slice none 0 0]⟩/\E.le ⟨E.C,E.β,E.ρ++[.slice none 0 0]⟩:=by
 have le:E.le ⟨E.C,E.β,E.ρ++[.slice none 0 0]⟩:=⟨Sub.refl _,fun _ _ h=>h,fun i b hb=>by
  have:=(List.getElem?_eq_some_iff.1 hb).1
  rw[List.getElem?_append_left this];exact hb⟩
 have part:∀(g:Nat) (r:Row) (y:Value),(rw++[Row.live e k 0 []])[g]?=some r->(E.ρ++[Value.slice none 0 0])[g]?=some y->(rw[g]?=some r/\E.ρ[g]?=some y)∨(r=.live e k 0 []/\y=.slice none 0 0/\g=rw.length):=fun g r y h1 h2=>by
  by_cases hg:g<rw.length
  ·rw[List.getElem?_append_left hg] at h1;rw[List.getElem?_append_left (by rw[<- h.rl];exact hg)] at h2;exact .inl ⟨h1,h2⟩
  ·rw[List.getElem?_append_right (by omega)] at h1;rw[List.getElem?_append_right (by rw[<- h.rl];omega)] at h2
   have hi0:g-rw.length=0:=by
    have:=(List.getElem?_eq_some_iff.1 h1).1;simp at this;omega
   rw[hi0] at h1;rw[<- h.rl,hi0] at h2;simp at h1 h2;exact .inr ⟨h1.symm,h2.symm,by omega⟩
 refine⟨⟨h.sub,h.base,h.fresh,h.bp,h.bnd,h.bC,h.bl,fun i b cs h1 h2=>(h.bxs i b cs h1 h2).mono le,by simp[h.rl],fun g r y h1 h2=>?_,fun g e' k' n cs y b h1 h2 h3=>?_,fun g e1 k1 n1 cs1 y g' e2 k2 n2 cs2 z b hne h1 h2 h3 h4 h5=>?_,fun g y h1=>nS h.rs (.inl ⟨_,_,_,rfl⟩) g y h1,h.keep,h.gk⟩,le⟩
 ·rcases part g r y h1 h2 with ⟨h3,h4⟩|⟨rfl,rfl,_⟩
  ·exact(h.rws g r y h3 h4).mono le (fun _ _ _ _ _ _ _=>rfl)
  ·exact⟨[],⟨owR.nil _ _ _,fun b hb=>by simp[blk] at hb⟩,by simp[A.repC]⟩
 ·rcases part g _ y h1 h2 with ⟨h4,h5⟩|⟨_,rfl,_⟩
  ·exact h.rC g e' k' n cs y b h4 h5 h3
  ·simp[blk] at h3
 ·rcases part g _ y h1 h2 with ⟨k3,k4⟩|⟨_,rfl,_⟩
  ·rcases part g' _ z h3 h4 with ⟨k5,k6⟩|⟨_,rfl,_⟩
   ·exact h.rd g e1 k1 n1 cs1 y g' e2 k2 n2 cs2 z b hne k3 k4 k5 k6 h5
   ·simp[blk]
  ·simp[blk] at h5
theorem Hp.pushG(h:Hp w0 C0 β0 bx rw w E){g e k n nn:Nat}{cs ds:List A}{y v':Value}{xs:List Value}(hg:rw[g]?=some (.live e k n cs))(hy:E.ρ[g]?=some y)
  (hown:w'.ownsRow 0 e k v' nn xs) (hk:k≠0) (hr:A.repC ds E.per xs) (hgrow:w.grownBy w' y.ownBlock) (hw:v'.ownBlock=y.ownBlock∨v'.ownBlock=some w.heap.size) :
  Hp w0 C0 β0 bx (rw.set g .gone++[.live e k nn ds]) w' ⟨E.C,E.β,E.ρ++[v']⟩/\E.le ⟨E.C,E.β,E.ρ++[v']⟩:=by
 have le:E.le ⟨E.C,E.β,E.ρ++[v']⟩:=⟨Sub.refl _,fun _ _ h=>h,fun i b hb=>by
  have:=(List.getElem?_eq_some_iff.1 hb).1
  rw[List.getElem?_append_left this];exact hb⟩
 have kp:=Keeps.of_grown hgrow
 have hyo:∀b,y.ownBlock=some b↔blk y=some b:=fun b=>by
  obtain⟨ys,⟨h1,_⟩,_⟩:=h.rws g _ y hg hy;exact⟨eG,jf5 (h1.row hk)⟩
 have hyb:∀b,b∈y.ownBlock.toList↔blk y=some b:=fun b=>by rw[<- hyo];cases y.ownBlock <;> simp[eq_comm]
 have hgl:=(List.getElem?_eq_some_iff.1 hg).1
 have part:∀(j:Nat) (r:Row) (z:Value),(rw.set g .gone++[Row.live e k nn ds])[j]?=some r->(E.ρ++[v'])[j]?=some z->(rw[j]?=some r/\E.ρ[j]?=some z/\j≠g)∨r=.gone∨(r=.live e k nn ds/\z=v'/\j=rw.length):=fun j r z h1 h2=>by
  by_cases hj:j<rw.length
  ·rw[List.getElem?_append_left (by simpa using hj)] at h1;rw[List.getElem?_append_left (by rw[<- h.rl];exact hj)] at h2;by_cases hjg:g=j
   ·subst hjg;rw[List.getElem?_set_self hgl] at h1;cases h1;exact .inr (.inl rfl)
   ·rw[List.getElem?_set_ne hjg] at h1;exact .inl ⟨h1,h2,fun e=>hjg e.symm⟩
  ·rw[List.getElem?_append_right (by simp;omega)] at h1;rw[List.getElem?_append_right (by rw[<- h.rl];omega)] at h2
   have hi0:j-rw.length=0:=by
    have:=(List.getElem?_eq_some_iff.1 h1).1;simp at this;omega
   rw[List.length_set,hi0] at h1;rw[<- h.rl,hi0] at h2;simp at h1 h2;exact .inr (.inr ⟨h1.symm,h2.symm,by omega⟩)
 have hv:∀b,blk v'=some b->blk y=some b∨b=w.heap.size:=fun b hb=>by
  rw[<- hyo];have hb:=jf5 hown hb;rcases hw with h1|h1
  ·exact .inl (h1.symm.trans hb)
  ·rw[h1] at hb;cases hb;exact .inr rfl
 refine⟨⟨fun ad u hc=>kp.cell (h.sub ad u hc) (fun hm=>?_),h.base,h.fresh,h.bp,h.bnd,h.bC,h.bl,fun i b cs' h1 h2=>?_,by simp[h.rl],fun j r z h1 h2=>?_,fun j e' k' n' cs' z b h1 h2 h3=>?_,fun j e1 k1 n1 cs1 z j' e2 k2 n2 cs2 z' b hne h1 h2 h3 h4 h5=>?_,fun g y h1=>nS h.rs (.inl (jdr hown)) g y h1,?_,h.gk⟩,le⟩
 ·rw[hyb] at hm;have hn:=(h.rC g e k n cs y _ hg hy hm).2 ad.off ad.spot;have:E.C ad=none:=hn;rw[this] at hc;cases hc
 ·refine((h.bxs i b cs' h1 h2).same (kp.block b (h.blt (List.mem_iff_getElem?.2 ⟨i,h1⟩)) (fun hm=>?_))).mono le;rw[hyb] at hm;exact(h.rC g e k n cs y b hg hy hm).1 (List.mem_iff_getElem?.2 ⟨i,h1⟩)
 ·rcases part j r z h1 h2 with ⟨h3,h4,h5⟩|rfl|⟨rfl,rfl,_⟩
  ·refine(h.rws j r z h3 h4).mono le (fun e' k' n' cs' hr' b hb=>?_);subst hr';refine kp.block b (h.rlt h3 h4 hb).2 (fun hm=>?_);rw[hyb] at hm;exact h.rd g e k n cs y j e' k' n' cs' z b (Ne.symm h5) hg hy h3 h4 hm hb
  ·exact trivial
  ·refine⟨xs,⟨.inl ⟨hk,hown⟩,fun b hb=>?_⟩,hr⟩;rcases hv b hb with h5|rfl
   ·exact(h.rlt hg hy h5).1
   ·exact .inl h.keep.size
 ·rcases part j _ z h1 h2 with ⟨h4,h5,h6⟩|h4|⟨h4,rfl,_⟩
  ·exact h.rC j e' k' n' cs' z b h4 h5 h3
  ·cases h4
  ·rcases hv b h3 with h5|rfl
   ·exact h.rC g e k n cs y b hg hy h5
   ·exact⟨h.bnew,h.cnone⟩
 ·rcases part j _ z h1 h2 with ⟨k3,k4,k5⟩|k3|⟨_,rfl,k3⟩
  ·rcases part j' _ z' h3 h4 with ⟨k6,k7,k8⟩|k6|⟨_,rfl,_⟩
   ·exact h.rd j e1 k1 n1 cs1 z j' e2 k2 n2 cs2 z' b hne k3 k4 k6 k7 h5
   ·cases k6
   ·intro hb;rcases hv b hb with h6|rfl
    ·exact h.rd g e k n cs y j e1 k1 n1 cs1 z b (Ne.symm k5) hg hy k3 k4 h6 h5
    ·have:=(h.rlt k3 k4 h5).2;omega
  ·cases k3
  ·rcases part j' _ z' h3 h4 with ⟨k6,k7,k8⟩|k6|⟨_,rfl,k6⟩
   ·intro hb;rcases hv b h5 with h6|rfl
    ·exact h.rd g e k n cs y j' e2 k2 n2 cs2 z' b (Ne.symm k8) hg hy k6 k7 h6 hb
    ·have:=(h.rlt k6 k7 hb).2;omega
   ·cases k6
   ·omega
 ·refine h.keep.step kp (fun b hb=>?_);rw[hyb] at hb
  exact(h.rlt hg hy hb).1.elim .inr fun hx=>.inl (List.mem_append_right _ hx)
theorem Hp.push(h:Hp w0 C0 β0 bx rw w E){g e k n m:Nat}{cs ds:List A}{y v':Value}{xs:List Value}(hg:rw[g]?=some (.live e k n cs))(hy:E.ρ[g]?=some y)
  (hown:w'.ownsRow 0 e k v' (n+m) xs) (hk:k≠0) (hr:A.repC (cs++ds) E.per xs) (hgrow:w.grownBy w' y.ownBlock) (hw:v'.ownBlock=y.ownBlock∨v'.ownBlock=some w.heap.size) :
  Hp w0 C0 β0 bx (rw.set g .gone++[.live e k (n+m) (cs++ds)]) w' ⟨E.C,E.β,E.ρ++[v']⟩/\E.le ⟨E.C,E.β,E.ρ++[v']⟩ :=
 h.pushG hg hy hown hk hr hgrow hw
theorem Hp.row(h:Hp w0 C0 β0 bx rw w E)(arr:Array Value)(e k n:Nat){cs:List A}(hk:k≠0)(hr:A.repC cs E.per arr.toList)(hs:arr.size=n*k)(hn:n<=maxLen) :
  Hp w0 C0 β0 bx (rw++[.live e k n cs]) (w.alloc (.cells arr e)) ⟨E.C,E.β,E.ρ++[.slice (some ⟨w.heap.size,0,none⟩) n n]⟩/\E.le ⟨E.C,E.β,E.ρ++[.slice (some ⟨w.heap.size,0,none⟩) n n]⟩:=by
 obtain⟨h1,le1⟩:=h.nilRow e k
 have hown:(w.alloc (.cells arr e)).ownsRow 0 e k (.slice (some ⟨w.heap.size,0,none⟩) n n) (0+n) arr.toList:=by
  rw[Nat.zero_add];refine⟨by simp[hs],.inr ⟨w.heap.size,n,arr,rfl,Nat.zero_le _,heap_alloc_new w _,Nat.le_refl _,hn,hs,?_⟩⟩;rw[<- hs,<- Array.length_toList,List.take_length]
 have le:E.le ⟨E.C,E.β,E.ρ++[.slice (some ⟨w.heap.size,0,none⟩) n n]⟩:=⟨Sub.refl _,fun _ _ h=>h,fun i b hb=>by
  have:=(List.getElem?_eq_some_iff.1 hb).1
  rw[List.getElem?_append_left this];exact hb⟩
 have g:=h.ext ((Ext.refl w).alloc (.cells arr e))
 have part:∀(j:Nat) (r:Row) (y:Value),(rw++[Row.live e k n cs])[j]?=some r->(E.ρ++[Value.slice (some ⟨w.heap.size,0,none⟩) n n])[j]?=some y->(rw[j]?=some r/\E.ρ[j]?=some y)∨(r=.live e k n cs/\y=.slice (some ⟨w.heap.size,0,none⟩) n n/\j=rw.length):=fun g r y h1 h2=>by
  by_cases hg:g<rw.length
  ·rw[List.getElem?_append_left hg] at h1;rw[List.getElem?_append_left (by rw[<- h.rl];exact hg)] at h2;exact .inl ⟨h1,h2⟩
  ·rw[List.getElem?_append_right (by omega)] at h1;rw[List.getElem?_append_right (by rw[<- h.rl];omega)] at h2
   have hi0:g-rw.length=0:=by
    have:=(List.getElem?_eq_some_iff.1 h1).1;simp at this;omega
   rw[hi0] at h1;rw[<- h.rl,hi0] at h2;simp at h1 h2;exact .inr ⟨h1.symm,h2.symm,by omega⟩
 refine⟨⟨g.sub,g.base,g.fresh,g.bp,g.bnd,g.bC,g.bl,fun i b cs' k1 k2=>(g.bxs i b cs' k1 k2).mono le,by simp[h.rl],fun j r y k1 k2=>?_,fun j e' k' n' cs' y b k1 k2 k3=>?_,fun j e1 k1 n1 cs1 y j' e2 k2 n2 cs2 z b hne q1 q2 q3 q4 q5=>?_,fun g y h1=>nS h.rs (.inl ⟨_,_,_,rfl⟩) g y h1,g.keep,g.gk⟩,le⟩
 ·rcases part j r y k1 k2 with ⟨h3,h4⟩|⟨rfl,rfl,_⟩
  ·exact(g.rws j r y h3 h4).mono le (fun _ _ _ _ _ _ _=>rfl)
  ·rw[Nat.zero_add] at hown;exact⟨arr.toList,⟨.inl ⟨hk,hown⟩,fun b hb=>by simp[blk] at hb;subst hb;exact .inl h.keep.size⟩,hr⟩
 ·rcases part j _ y k1 k2 with ⟨h4,h5⟩|⟨_,rfl,_⟩
  ·exact g.rC j e' k' n' cs' y b h4 h5 k3
  ·simp[blk] at k3;subst k3;exact⟨h.bnew,h.cnone⟩
 ·rcases part j _ y q1 q2 with ⟨r1,r2⟩|⟨_,rfl,r1⟩
  ·rcases part j' _ z q3 q4 with ⟨r3,r4⟩|⟨_,rfl,_⟩
   ·exact h.rd j e1 k1 n1 cs1 y j' e2 k2 n2 cs2 z b hne r1 r2 r3 r4 q5
   ·have:=(h.rlt r1 r2 q5).2;simp[blk];omega
  ·rcases part j' _ z q3 q4 with ⟨r3,r4⟩|⟨_,rfl,r3⟩
   ·simp[blk] at q5;intro hb;have:=(h.rlt r3 r4 hb).2;omega
   ·omega
theorem Hp.pub(h:Hp w0 C0 β0 bx rw w E){g e k n:Nat}{cs:List A}(hk:k≠0)(hg:rw[g]?=some (.live e k n cs)) :
  ∃C',Hp w0 C0 β0 bx (rw.set g (.pub k n cs)) w ⟨C',E.β,E.ρ⟩/\E.le ⟨C',E.β,E.ρ⟩:=by
 have hgl:=(List.getElem?_eq_some_iff.1 hg).1
 obtain⟨y,hy⟩:∃y,E.ρ[g]?=some y:=⟨_,List.getElem?_eq_getElem (by rw[<- h.rl];exact hgl)⟩
 refine⟨fun ad=>if blk y=some ad.block then(kQ w) ad else E.C ad,?_⟩
 have hC:Sub E.C (fun ad=>if blk y=some ad.block then(kQ w) ad else E.C ad):=fun ad u hc=>by
  simp only
  split
  ·exact h.sub ad u hc
  ·exact hc
 have le:E.le ⟨fun ad=>if blk y=some ad.block then(kQ w) ad else E.C ad,E.β,E.ρ⟩:=⟨hC,fun _ _ h=>h,fun _ _ h=>h⟩
 have part:∀(j:Nat) (r:Row),(rw.set g (.pub k n cs))[j]?=some r->(rw[j]?=some r/\j≠g)∨(r=.pub k n cs/\j=g):=fun j r h1=>by
  by_cases hjg:g=j
  ·subst hjg;rw[List.getElem?_set_self hgl] at h1;cases h1;exact .inr ⟨rfl,rfl⟩
  ·rw[List.getElem?_set_ne hjg] at h1;exact .inl ⟨h1,fun e=>hjg e.symm⟩
 refine⟨⟨fun ad u hc=>?_,h.base.trans hC,fun ad u hc=>?_,h.bp,h.bnd,fun b hb o sp=>?_,h.bl,fun i b cs' h1 h2=>(h.bxs i b cs' h1 h2).mono le,by simp[h.rl],fun j r z h1 h2=>?_,fun j e' k' n' cs' z b h1 h2 h3=>?_,fun j e1 k1 n1 cs1 z j' e2 k2 n2 cs2 z' b hne h1 h2 h3 h4 h5=>?_,h.rs,h.keep,h.gk⟩,le⟩
 ·simp only at hc
  split at hc
  ·exact hc
  ·exact h.sub ad u hc
 ·simp only at hc
  split at hc
  ·rename_i hb;exact .inr (h.rlt hg hy hb).1
  ·exact h.fresh ad u hc
 ·simp only
  rw[if_neg (fun hb'=>(h.rC g e k n cs y b hg hy hb').1 hb)];exact h.bC b hb o sp
 ·rcases part j r h1 with ⟨h3,h4⟩|⟨rfl,rfl⟩
  ·exact(h.rws j r z h3 h2).mono le (fun _ _ _ _ _ _ _=>rfl)
  ·have hz:z=y:=Option.some.inj (h2.symm.trans hy);subst hz;obtain⟨xs,⟨ho,_⟩,hr⟩:=h.rws j _ z hg hy;have ho:=ho.row hk;show(A.sl k n cs).rep _ z
   have hlen:cs.length=n*k:=by rw[<- A.repC_len hr,ho.1]
   rcases ho.2 with ⟨rfl,rfl⟩|⟨b,cap,cur,rfl,hb,hbb,hn,hcm,hcs,htake⟩
   ·unfold A.rep;have hcs:cs=[]:=List.eq_nil_of_length_eq_zero (by simpa using hlen);subst hcs;exact⟨by simp,by simp,none,0,0,0,rfl,Nat.le_refl _,.inl rfl,fun _=>rfl,by simp[A.repAt]⟩
   ·unfold A.rep;refine⟨hlen,Nat.le_trans hn hcm,_,b,0,cap,rfl,hn,.inr rfl,by simp,?_⟩;refine A.repAt_mk (A.repC.mono cs le.per hr) (fun j' u hu=>?_);have:=ho.cells (g:=b) rfl j' u hu;rw[je6] at this;simp only[Env.per,blk,Nat.zero_add,if_true] at this ⊢;exact this
 ·rcases part j _ h1 with ⟨h4,h5⟩|⟨h4,_⟩
  ·refine⟨(h.rC j e' k' n' cs' z b h4 h2 h3).1,fun o sp=>?_⟩
   simp only
   rw[if_neg (fun hb=>h.rd g e k n cs y j e' k' n' cs' z b (Ne.symm h5) hg hy h4 h2 hb h3)];exact(h.rC j e' k' n' cs' z b h4 h2 h3).2 o sp
  ·cases h4
 ·rcases part j _ h1 with ⟨k3,k4⟩|⟨k3,_⟩
  ·rcases part j' _ h3 with ⟨k5,k6⟩|⟨k5,_⟩
   ·exact h.rd j e1 k1 n1 cs1 z j' e2 k2 n2 cs2 z' b hne k3 h2 k5 h4 h5
   ·cases k5
  ·cases k3
end
end
end Go.Proofs.YtdnnmiemgmgffaaGreatDoor.Vm
